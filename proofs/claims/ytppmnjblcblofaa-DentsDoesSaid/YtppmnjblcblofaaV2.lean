/-
  What a row hands to a walk: slices that came in.
-/
import Derived.Test.YtppmnjblcblofaaV1
import Derived.ProofKit
import Derived.OpenShut
import Derived.ShutString
import Derived.ChangeOld
namespace Go.V
open Go Go.RowKit

/-- a slice of integers that came in: nil, or a row of 'cap' cells -/
def IsRow (k : IntKind) (w : World) (a : Option Addr) (len cap : Nat) (zs : List Int) : Prop :=
  (a = none ∧ len = 0 ∧ cap = 0 ∧ zs = []) ∨
  ∃ x, a = some x ∧ len ≤ cap ∧ cap ≤ maxLen ∧ zs.length = cap ∧ (∀ i, i < zs.length → w.cell? (x.add i) = some (.int k (zs.getD i 0))) ∧ ∀ n ∈ zs, (Lit.int k n).wf = true

theorem IsRow.reads {k : IntKind} {w : World} {a : Option Addr} {len cap : Nat} {zs : List Int} (h : IsRow k w a len cap zs) :
    Reads w (.slice a len cap) ((zs.take len).map (.int k)) ∧ Fits (.slice a len cap) ∧ (∀ n ∈ zs.take len, (Lit.int k n).wf = true) := by
  rcases h with ⟨rfl, rfl, rfl, rfl⟩ | ⟨x, rfl, h1, h2, h3, h4, h5⟩
  · exact ⟨⟨none, 0, rfl, Nat.le_refl _, fun h => by simp at h⟩, (by intro p n c h; cases h; omega), by simp⟩
  · have hl : ((zs.take len).map (Value.int k)).length = len := by rw [List.length_map, List.length_take]; omega
    refine ⟨⟨some x, cap, by rw [hl], by rw [hl]; exact h1, fun h0 => ?_⟩, (by intro p n c h; cases h; unfold maxLen at h2; exact h2), fun n hn => h5 n (List.mem_of_mem_take hn)⟩
    rw [hl] at h0
    obtain ⟨b, o, sp⟩ := x
    have hc := h4 0 (by omega)
    have hsp : sp = none := by simpa [Addr.add] using World.cell?_spot hc
    subst hsp
    refine ⟨b, o, rfl, fun j u hu => ?_⟩
    have hj : j < len := by have := (List.getElem?_eq_some_iff.1 hu).1; omega
    have := h4 j (by omega)
    rw [add_none] at this
    rw [this]
    rw [List.getElem?_map, List.getElem?_take, if_pos hj] at hu
    rw [List.getD_eq_getElem?_getD]
    cases hz : zs[j]? with
    | none => rw [hz] at hu; cases hu
    | some z => rw [hz] at hu; simpa using hu

theorem IsRow.blk {k : IntKind} {w : World} {a : Option Addr} {len cap : Nat} {zs : List Int} (h : IsRow k w a len cap zs) (hpos : 0 < cap) : ∀ g, (Value.slice a len cap).ownBlock = some g → g < w.heap.size := by
  rcases h with ⟨rfl, rfl, rfl, rfl⟩ | ⟨x, rfl, h1, h2, h3, h4, h5⟩
  · omega
  · intro g hg
    cases hg
    have hc := h4 0 (by omega)
    have := Go.block_lt_of_cell hc
    simpa [Addr.add] using this
theorem IsRow.bytes {w : World} {a : Option Addr} {len cap : Nat} {zs : List Int} (h : IsRow .u8 w a len cap zs) : ∃ data : List UInt8, Reads w (.slice a len cap) (data.map bv) ∧ Fits (.slice a len cap) ∧ (0 < data.length → ∀ g, (Value.slice a len cap).ownBlock = some g → g < w.heap.size) := by
  obtain ⟨h1, h2, h3⟩ := h.reads
  refine ⟨(zs.take len).map fun z => UInt8.ofNat z.toNat, ?_, h2, fun h0 => h.blk ?_⟩
  rotate_left
  · rw [List.length_map, List.length_take] at h0
    rcases h with ⟨rfl, rfl, rfl, rfl⟩ | ⟨x, rfl, e1, e2, e3, e4, e5⟩ <;> omega
  have : (((zs.take len).map fun z => UInt8.ofNat z.toNat).map bv) = (zs.take len).map (.int .u8) := by
    rw [List.map_map]
    refine List.map_congr_left (fun z hz => ?_)
    have hb := bounds_u8 (h3 z hz)
    simp only [Function.comp_apply, bv, Value.int.injEq, true_and]
    rw [UInt8.toNat_ofNat']
    omega
  rw [this]; exact h1

end Go.V
