/-
  What a row hands to the walks of package block: acts.
-/
import Derived.Test.YthkeahjcokbaaaaB11
import Derived.Test.YthkeahjcokbaaaaV4
namespace Go.Proofs.Ythkeahjcokbaaaa
open Go.ChangeShapes Go.WideShapes Go.ChangeAt Go.RowKit Go.V Go.V.Block

theorem i64_of {n : Int} (h : (Lit.int .i64 n).wf = true) : I64 n := by have := bounds_i64 h; unfold I64; omega
theorem bytes_of {H : Type} {enc : TypeId × Value → H} {W : World} {fuel : Nat} {v : Value} {x : DataW H × List MemPlace} (h : DataW.trod enc Try.prog W 0 (fun _ => true) true fuel 22 [v] = some x) :
    ∃ dat : List UInt8, Reads W v (dat.map bv) ∧ Fits v ∧ (0 < dat.length → ∀ g, v.ownBlock = some g → g < W.heap.size) := by
  rcases open_ints Try.underlying22 Try.underlying5 (by kernel_rfl) h with ⟨hcs, _⟩ | ⟨x, l, c, zs, hcs, _, hl, hm, hz, _, hcell, hwz⟩
  · cases hcs
    exact IsRow.bytes (cap := 0) (zs := []) (.inl ⟨rfl, rfl, rfl, rfl⟩)
  · cases hcs
    exact IsRow.bytes (.inr ⟨_, rfl, hl, hm, by simpa using hz, hcell, hwz⟩)
theorem act_of {H : Type} {enc : TypeId × Value → H} {W : World} {fuel : Nat} {cs : List Value} {x : DataW H × List MemPlace} (h : DataW.trod enc Try.prog W 0 (fun _ => true) true fuel 49 cs = some x) : ∃ x : ActV, ActOk W cs x := by
  obtain ⟨xs, k, rfl, rfl, hl, hlen, hf⟩ := DataW.trod_struct Try.underlying49 h
  have hl : cs.length = 5 := hl
  match cs, hl with
  | [u0, u1, u2, u3, u4], _ =>
    have f0 := hf 0 _ rfl
    have f1 := hf 1 _ rfl
    have f2 := hf 2 _ rfl
    have f3 := hf 3 _ rfl
    have f4 := hf 4 _ rfl
    have hxl : xs.length = 5 := hlen
    rw [List.getElem?_eq_getElem (by omega)] at f0 f1 f2 f3 f4
    obtain ⟨a0, e0, _, b0⟩ := DataW.trod_int Try.underlying3 f0
    obtain ⟨a1, e1, _, b1⟩ := DataW.trod_int Try.underlying3 f1
    obtain ⟨a2, e2, _, b2⟩ := DataW.trod_int Try.underlying2 f2
    obtain ⟨a3, e3, _, b3⟩ := DataW.trod_int Try.underlying3 f3
    have e0 : [u0] = [.int .i64 a0] := e0
    have e1 : [u1] = [.int .i64 a1] := e1
    have e2 : [u2] = [.int .i64 a2] := e2
    have e3 : [u3] = [.int .i64 a3] := e3
    cases e0; cases e1; cases e2; cases e3
    obtain ⟨dat, d1, d2, d3⟩ := bytes_of (v := u4) f4
    exact ⟨⟨a0, a1, a2, a3, u4, dat⟩, rfl, i64_of b0, i64_of b1, i64_of b2, i64_of b3, d1, d2, d3⟩
theorem acts_of {H : Type} {enc : TypeId × Value → H} {W : World} {fuel : Nat} {v : Value} {x : DataW H × List MemPlace} (h : DataW.trod enc Try.prog W 0 (fun _ => true) true fuel 39 [v] = some x) : ∃ acts : List ActV, SliceOf 5 ActOk W v acts :=
  slice_of Try.underlying39 (s := 5) (by kernel_rfl) (by omega) (fun _ _ _ h => act_of h) h
end Go.Proofs.Ythkeahjcokbaaaa
