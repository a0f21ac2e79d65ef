/-
  What a row hands to the walks of package queue: acts.
-/
import Derived.Test.YtginbdgoijeeoaaQ19
import Derived.Test.YtginbdgoijeeoaaV4
namespace Go.V.Queue
open Go Go.V
structure ActV where
  kind : Int
  key : Int
  n : Int
instance : Inhabited ActV := ⟨⟨0, 0, 0⟩⟩
def ActV.cells (x : ActV) : List Value := [.int .i64 x.kind, .int .i64 x.key, .int .i64 x.n]
def ActOk (_ : World) (cs : List Value) (x : ActV) : Prop := cs = x.cells
end Go.V.Queue
namespace Go.Proofs.Ytginbdgoijeeoaa
open Go.ChangeShapes Go.WideShapes Go.ChangeAt Go.RowKit Go.V Go.V.Queue
theorem act_of {H : Type} {enc : TypeId × Value → H} {W : World} {fuel : Nat} {cs : List Value} {x : DataW H × List MemPlace} (h : DataW.trod enc Try.prog W 0 (fun _ => true) true fuel 31 cs = some x) : ∃ x : ActV, ActOk W cs x := by
  obtain ⟨xs, k, rfl, rfl, hl, hlen, hf⟩ := DataW.trod_struct Try.underlying31 h
  have hl : cs.length = 3 := hl
  match cs, hl with
  | [u0, u1, u2], _ =>
    have f0 := hf 0 _ rfl
    have f1 := hf 1 _ rfl
    have f2 := hf 2 _ rfl
    have hxl : xs.length = 3 := hlen
    rw [List.getElem?_eq_getElem (by omega)] at f0 f1 f2
    obtain ⟨a0, e0, _, b0⟩ := DataW.trod_int Try.underlying3 f0
    obtain ⟨a1, e1, _, b1⟩ := DataW.trod_int Try.underlying2 f1
    obtain ⟨a2, e2, _, b2⟩ := DataW.trod_int Try.underlying3 f2
    have e0 : [u0] = [.int .i64 a0] := e0
    have e1 : [u1] = [.int .i64 a1] := e1
    have e2 : [u2] = [.int .i64 a2] := e2
    cases e0; cases e1; cases e2
    exact ⟨⟨a0, a1, a2⟩, rfl⟩
theorem acts_of {H : Type} {enc : TypeId × Value → H} {W : World} {fuel : Nat} {v : Value} {x : DataW H × List MemPlace} (h : DataW.trod enc Try.prog W 0 (fun _ => true) true fuel 22 [v] = some x) : ∃ acts : List ActV, SliceOf 3 ActOk W v acts :=
  slice_of Try.underlying22 (s := 3) (by kernel_rfl) (by omega) (fun _ _ _ h => act_of h) h
/-- an act that lies in a block of its own -/
def XA (kd ky nn : Int) (xb : Nat) (w : World) : Prop := w.heap[xb]? = some (.cells #[.int .i64 kd, .int .i64 ky, .int .i64 nn] 31 (0, 0))
variable {kd ky nn : Int} {xb : Nat} {w w' : World}
theorem XA.keep {S : List Nat} (h : XA kd ky nn xb w) (hk : Keeps S w w') (hx : xb ∉ S) : XA kd ky nn xb w' := hk.get h hx
theorem XA.c0 (h : XA kd ky nn xb w) : w.cell? ⟨xb, 0, none⟩ = some (.int .i64 kd) := cell_of h rfl
theorem XA.c1 (h : XA kd ky nn xb w) : w.cell? ⟨xb, 1, none⟩ = some (.int .i64 ky) := cell_of h rfl
theorem XA.c2 (h : XA kd ky nn xb w) : w.cell? ⟨xb, 2, none⟩ = some (.int .i64 nn) := cell_of h rfl
end Go.Proofs.Ytginbdgoijeeoaa
