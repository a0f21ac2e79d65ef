/-
  What a row hands to the walks of package plan: wants, a call.
-/
import Derived.Test.YteekdgmfednmoaaP12
import Derived.Test.YteekdgmfednmoaaV4
namespace Go.Proofs.Yteekdgmfednmoaa
open Go.ChangeShapes Go.WideShapes Go.ChangeAt Go.RowKit Go.V Go.V.Queue
def WantOk (_ : World) (cs : List Value) (x : It) : Prop := cs = F3.cs x
theorem want_of {H : Type} {enc : TypeId × Value → H} {W : World} {fuel : Nat} {cs : List Value} {x : DataW H × List MemPlace} (h : DataW.trod enc Try.prog W 0 (fun _ => true) true fuel 39 cs = some x) : ∃ x : It, WantOk W cs x := by
  obtain ⟨xs, k, rfl, rfl, hl, hlen, hf⟩ := DataW.trod_struct Try.underlying39 h
  have hl : cs.length = 3 := hl
  match cs, hl with
  | [u0, u1, u2], _ =>
    have f0 := hf 0 _ rfl
    have f1 := hf 1 _ rfl
    have f2 := hf 2 _ rfl
    have hxl : xs.length = 3 := hlen
    rw [List.getElem?_eq_getElem (by omega)] at f0 f1 f2
    obtain ⟨a0, e0, _, b0⟩ := DataW.trod_int Try.underlying3 f0
    obtain ⟨a1, e1, _, b1⟩ := DataW.trod_int Try.underlying3 f1
    obtain ⟨a2, e2, _⟩ := DataW.trod_bool Try.underlying4 f2
    have e0 : [u0] = [.int .i64 a0] := e0
    have e1 : [u1] = [.int .i64 a1] := e1
    have e2 : [u2] = [.bool a2] := e2
    cases e0; cases e1; cases e2
    exact ⟨⟨a0, a1, a2⟩, rfl⟩
theorem wants_of {H : Type} {enc : TypeId × Value → H} {W : World} {fuel : Nat} {v : Value} {x : DataW H × List MemPlace} (h : DataW.trod enc Try.prog W 0 (fun _ => true) true fuel 22 [v] = some x) : ∃ l : List It, SG F3 W v l := by
  obtain ⟨l, hl⟩ := slice_of (R := WantOk) Try.underlying22 (s := 3) (by kernel_rfl) (by omega) (fun _ _ _ h => want_of h) h
  exact ⟨l, SG.of (F := F3) (fun _ _ _ h => h) (by decide) hl⟩
theorem call_of {H : Type} {enc : TypeId × Value → H} {W : World} {fuel : Nat} {cs : List Value} {x : DataW H × List MemPlace} (h : DataW.trod enc Try.prog W 0 (fun _ => true) true fuel 32 cs = some x) : ∃ c : CV, cs = c.cells.toList := by
  obtain ⟨xs, k, rfl, rfl, hl, hlen, hf⟩ := DataW.trod_struct Try.underlying32 h
  have hl : cs.length = 7 := hl
  match cs, hl with
  | [u0, u1, u2, u3, u4, u5, u6], _ =>
    have f0 := hf 0 _ rfl
    have f1 := hf 1 _ rfl
    have f2 := hf 2 _ rfl
    have f3 := hf 3 _ rfl
    have f4 := hf 4 _ rfl
    have f5 := hf 5 _ rfl
    have f6 := hf 6 _ rfl
    have hxl : xs.length = 7 := hlen
    rw [List.getElem?_eq_getElem (by omega)] at f0 f1 f2 f3 f4 f5 f6
    obtain ⟨a0, e0, _, b0⟩ := DataW.trod_int Try.underlying3 f0
    obtain ⟨a1, e1, _, b1⟩ := DataW.trod_int Try.underlying3 f1
    obtain ⟨a2, e2, _, b2⟩ := DataW.trod_int Try.underlying3 f2
    obtain ⟨a3, e3, _, b3⟩ := DataW.trod_int Try.underlying2 f3
    obtain ⟨a4, e4, _, b4⟩ := DataW.trod_int Try.underlying2 f4
    obtain ⟨a5, e5, _, b5⟩ := DataW.trod_string Try.underlying9 f5
    obtain ⟨a6, e6, _, b6⟩ := DataW.trod_string Try.underlying9 f6
    have e0 : [u0] = [.int .i64 a0] := e0
    have e1 : [u1] = [.int .i64 a1] := e1
    have e2 : [u2] = [.int .i64 a2] := e2
    have e3 : [u3] = [.int .i64 a3] := e3
    have e4 : [u4] = [.int .i64 a4] := e4
    have e5 : [u5] = [.string a5] := e5
    have e6 : [u6] = [.string a6] := e6
    cases e0; cases e1; cases e2; cases e3; cases e4; cases e5; cases e6
    exact ⟨⟨a0, a1, a2, a3, a4, a5, a6⟩, rfl⟩
end Go.Proofs.Yteekdgmfednmoaa
