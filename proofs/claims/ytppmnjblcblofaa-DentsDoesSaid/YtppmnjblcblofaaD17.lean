/-
  What a row hands to the walks of package dents: acts.
-/
import Derived.Test.YtppmnjblcblofaaD10
namespace Go.Proofs.Ytppmnjblcblofaa
open Go.ChangeShapes Go.WideShapes Go.ChangeAt Go.RowKit Go.V Go.V.Path Go.V.Dents
instance : Inhabited DAct := ⟨⟨0, [], 0⟩⟩
def ActOk (_ : World) (cs : List Value) (x : DAct) : Prop := cs = FA.cs x
theorem act_of {H : Type} {enc : TypeId × Value → H} {W : World} {fuel : Nat} {cs : List Value} {x : DataW H × List MemPlace} (h : DataW.trod enc Try.prog W 0 (fun _ => true) true fuel 31 cs = some x) : ∃ x : DAct, ActOk W cs x := by
  obtain ⟨xs, k, rfl, rfl, hl, hlen, hf⟩ := DataW.trod_struct Try.underlying31 h
  have hl : cs.length = 3 := hl
  match cs, hl with
  | [u0, u1, u2], _ =>
    have f0 := hf 0 _ rfl
    have f1 := hf 1 _ rfl
    have f2 := hf 2 _ rfl
    have hxl : xs.length = 3 := hlen
    rw [List.getElem?_eq_getElem (by omega)] at f0 f1 f2
    obtain ⟨a0, e0, _, b0⟩ := DataW.trod_int Try.underlying3 f0
    obtain ⟨a1, e1, _, b1⟩ := DataW.trod_string Try.underlying9 f1
    obtain ⟨a2, e2, _, b2⟩ := DataW.trod_int Try.underlying3 f2
    have e0 : [u0] = [.int .i64 a0] := e0
    have e1 : [u1] = [.string a1] := e1
    have e2 : [u2] = [.int .i64 a2] := e2
    cases e0; cases e1; cases e2
    exact ⟨⟨a0, a1.data.toList, a2⟩, by
      show [Value.int .i64 a0, Value.string a1, Value.int .i64 a2] = [Value.int .i64 a0, Value.string (bs a1.data.toList), Value.int .i64 a2]
      rw [bs_data]⟩
theorem acts_of {H : Type} {enc : TypeId × Value → H} {W : World} {fuel : Nat} {v : Value} {x : DataW H × List MemPlace} (h : DataW.trod enc Try.prog W 0 (fun _ => true) true fuel 22 [v] = some x) : ∃ l : List DAct, SG FA W v l := by
  obtain ⟨l, hl⟩ := slice_of (R := ActOk) Try.underlying22 (s := 3) (by kernel_rfl) (by omega) (fun _ _ _ h => act_of h) h
  exact ⟨l, SG.of (F := FA) (fun _ _ _ h => h) (by decide) hl⟩
end Go.Proofs.Ytppmnjblcblofaa
