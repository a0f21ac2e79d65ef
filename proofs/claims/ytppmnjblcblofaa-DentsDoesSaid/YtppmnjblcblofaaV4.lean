/-
  Slices of structs that came in.
-/
import Derived.Test.YtppmnjblcblofaaV2
import Derived.Deep.MidRow
import Derived.Deep.Slices
import Derived.ChangeSame
namespace Go.V
open Go Go.RowKit

/-- v is a slice of elements of s cells each; R: what an element's cells read as -/
def SliceOf {α : Type} (s : Nat) (R : World → List Value → α → Prop) (w : World) (v : Value) (xs : List α) : Prop :=
  ∃ p cap, v = .slice p xs.length cap ∧ xs.length ≤ cap ∧ cap ≤ 9223372036854775807 ∧
    (0 < xs.length → ∃ b o, p = some ⟨b, o, none⟩ ∧ b < w.heap.size ∧ ∀ i x, xs[i]? = some x → ∃ cs, cs.length = s ∧ w.rangeAt b (o + i * s) cs ∧ R w cs x)

theorem _root_.Go.World.rangeAt.keep {S : List Nat} {w w' : World} {b o : Nat} {cs : List Value} (h : w.rangeAt b o cs) (hk : Keeps S w w') (hb : b ∉ S) : w'.rangeAt b o cs := fun j v hv => by
  have := h j v hv
  rw [World.cell?_of_block (w := w) (hk.block b (Go.block_lt_of_cell this) hb)]; exact this

theorem SliceOf.keep {α : Type} {s : Nat} {R : World → List Value → α → Prop} {S : List Nat} {w w' : World} {v : Value} {xs : List α} (h : SliceOf s R w v xs) (hk : Keeps S w w') (hb : ∀ x ∈ S, w.heap.size ≤ x)
    (hR : ∀ cs x, R w cs x → R w' cs x) : SliceOf s R w' v xs := by
  obtain ⟨p, cap, rfl, h1, h2, h3⟩ := h
  refine ⟨p, cap, rfl, h1, h2, fun h0 => ?_⟩
  obtain ⟨b, o, hp, hlt, he⟩ := h3 h0
  refine ⟨b, o, hp, Nat.lt_of_lt_of_le hlt hk.size, fun i x hx => ?_⟩
  obtain ⟨cs, c1, c2, c3⟩ := he i x hx
  exact ⟨cs, c1, c2.keep hk (fun hm => by have := hb b hm; omega), hR cs x c3⟩

section
variable {H : Type} {enc : TypeId × Value → H} {P : Program} {w : World} {spare : Nat → Bool} {held : Bool} {base : Nat}
theorem slice_of {α : Type} [Inhabited α] {t e : TypeId} {s : Nat} {R : World → List Value → α → Prop} {fuel : Nat} {v : Value} {x : DataW H × List MemPlace} (ht : P.underlying t = some (.slice e)) (hs : P.cellsOf e = s) (h0 : 0 < s)
    (hR : ∀ n cs y, DataW.trod enc P w base spare held n e cs = some y → ∃ x, R w cs x) (h : DataW.trod enc P w base spare held fuel t [v] = some x) : ∃ xs : List α, SliceOf s R w v xs := by
  rcases Go.Deep.open_slice ht h with ⟨hc, _⟩ | ⟨a, len, cap, m, n, D, Pl, hc, hb, hl, hm, hmm, _, hx⟩
  · cases hc; exact ⟨[], none, 0, rfl, Nat.le_refl _, by omega, fun h => by simp at h⟩
  · cases hc
    have hlm : len ≤ m := by rw [hmm]; split <;> omega
    have each : ∀ i, i < len → ∃ q : List Value × α, w.cells? base (a.add (i * s)) s = some q.1 ∧ R w q.1 q.2 := by
      intro i hi
      obtain ⟨cs, c1, c2⟩ := hx i (by omega)
      obtain ⟨x, hx⟩ := hR _ _ _ c2
      rw [hs] at c1
      exact ⟨(cs, x), c1, hx⟩
    obtain ⟨q, hq⟩ := Go.Deep.choose_lt each
    refine ⟨(List.range len).map fun i => (q i).2, some a, cap, by simp, by simpa using hl, by unfold maxLen at hm; exact hm, fun h0' => ?_⟩
    have h0' : 0 < len := by simpa using h0'
    obtain ⟨ab, ao, asp⟩ := a
    have hsp : asp = none ∧ ab < w.heap.size := by
      obtain ⟨_, _, hcell⟩ := World.cells?_some (hq 0 h0').1
      have := hcell 0 h0
      cases hcs : (q 0).1[0]? with
      | none => rename_i hlen; rw [List.getElem?_eq_none_iff] at hcs; omega
      | some v0 =>
        rw [hcs] at this
        have e1 := World.cell?_spot this
        have e2 := Go.block_lt_of_cell this
        simp [Addr.add] at e1 e2
        exact ⟨e1, e2⟩
    obtain ⟨rfl, hlt⟩ := hsp
    refine ⟨ab, ao, rfl, hlt, fun i x hx => ?_⟩
    rw [List.getElem?_map] at hx
    cases hr : (List.range len)[i]? with
    | none => rw [hr] at hx; cases hx
    | some j =>
      rw [hr] at hx
      have hi : i < len := by have := (List.getElem?_eq_some_iff.1 hr).1; simpa using this
      have hji : j = i := by have := (List.getElem?_eq_some_iff.1 hr).2; simpa using this.symm
      subst hji
      cases hx
      obtain ⟨c1, c2⟩ := hq j hi
      obtain ⟨_, hlen, hcell⟩ := World.cells?_some c1
      refine ⟨_, hlen, fun k u hu => ?_, c2⟩
      have hk : k < s := by have := (List.getElem?_eq_some_iff.1 hu).1; omega
      have := hcell k hk
      rw [hu, add_none, add_none] at this
      exact this
end
end Go.V
