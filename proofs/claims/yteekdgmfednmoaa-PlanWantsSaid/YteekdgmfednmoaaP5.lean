/-
  Heaps of wants, plainly.
-/
import Derived.Test.YteekdgmfednmoaaP4
namespace Go.V.Queue
open Go Go.V
/-- b doesn't come ahead of a -/
def le (a b : It) : Prop := aheadB b a = false
theorem le_iff {a b : It} : le a b ↔ (a.key < b.key ∨ (a.key = b.key ∧ a.push ≤ b.push)) := by
  unfold le aheadB
  by_cases h : b.key = a.key
  · rw [if_pos h, decide_eq_false_iff_not]; omega
  · rw [if_neg h, decide_eq_false_iff_not]; omega
theorem le_refl (a : It) : le a a := by rw [le_iff]; omega
theorem le_trans {a b c : It} (h1 : le a b) (h2 : le b c) : le a c := by rw [le_iff] at *; omega
theorem le_of_ahead {a b : It} (h : aheadB a b = true) : le a b := by
  rw [le_iff]; unfold aheadB at h
  by_cases c : a.key = b.key
  · rw [if_pos c, decide_eq_true_eq] at h; omega
  · rw [if_neg c, decide_eq_true_eq] at h; omega
theorem at_set {l : List It} {i j : Nat} {x : It} (h : i < l.length) : at_ (l.set i x) j = if j = i then x else at_ l j := by
  unfold at_
  simp only [List.getD_eq_getElem?_getD, List.getElem?_set]
  by_cases e : j = i
  · subst e; rw [if_pos rfl, if_pos rfl, if_pos h]; rfl
  · rw [if_neg e, if_neg (fun q => e q.symm)]
theorem at_swap {l : List It} {i j m : Nat} (hi : i < l.length) (hj : j < l.length) : at_ (swapL l i j) m = if m = j then at_ l i else if m = i then at_ l j else at_ l m := by
  unfold swapL
  rw [at_set (by rw [List.length_set]; exact hj), at_set hi]
theorem swap_perm {l : List It} {i j : Nat} (hi : i < l.length) (hj : j < l.length) : (swapL l i j).Perm l := by
  unfold swapL at_
  rw [List.getD_eq_getElem?_getD, List.getD_eq_getElem?_getD, List.getElem?_eq_getElem hi, List.getElem?_eq_getElem hj]
  exact List.set_set_perm hi hj
/-- below each parent from k on, but below i -/
def Hp (k n : Nat) (l : List It) (i : Nat) : Prop := ∀ c, 0 < c → c < n → k ≤ (c - 1) / 2 → (c - 1) / 2 ≠ i → le (at_ l ((c - 1) / 2)) (at_ l c)
def Heap (k n : Nat) (l : List It) : Prop := ∀ c, 0 < c → c < n → k ≤ (c - 1) / 2 → le (at_ l ((c - 1) / 2)) (at_ l c)
theorem kid_spec {n : Nat} {l : List It} {i : Nat} (h : 2 * i + 1 < n) : kid n l i < n ∧ (kid n l i - 1) / 2 = i ∧ 0 < kid n l i ∧ ∀ c, 0 < c → c < n → (c - 1) / 2 = i → le (at_ l (kid n l i)) (at_ l c) := by
  unfold kid
  by_cases c : 2 * i + 2 < n ∧ aheadB (at_ l (2 * i + 2)) (at_ l (2 * i + 1)) = true
  · rw [if_pos c]
    refine ⟨c.1, by omega, by omega, fun d h1 h2 h3 => ?_⟩
    have : d = 2 * i + 1 ∨ d = 2 * i + 2 := by omega
    rcases this with rfl | rfl
    · exact le_of_ahead c.2
    · exact le_refl _
  · rw [if_neg c]
    refine ⟨h, by omega, by omega, fun d h1 h2 h3 => ?_⟩
    have : d = 2 * i + 1 ∨ d = 2 * i + 2 := by omega
    rcases this with rfl | rfl
    · exact le_refl _
    · show aheadB _ _ = false
      cases hb : aheadB (at_ l (2 * i + 2)) (at_ l (2 * i + 1)) with
      | true => exact absurd ⟨h2, hb⟩ c
      | false => rfl
theorem down_heap {k n : Nat} : ∀ (f : Nat) (l : List It) (i : Nat), n ≤ l.length → k ≤ i → n - i ≤ f → Hp k n l i → (∀ c, 0 < c → c < n → (c - 1) / 2 = i → 0 < i → k ≤ (i - 1) / 2 → le (at_ l ((i - 1) / 2)) (at_ l c)) →
    Heap k n (downL n f l i).1 ∧ (downL n f l i).1.Perm l ∧ ∀ m, n ≤ m → at_ (downL n f l i).1 m = at_ l m := by
  intro f
  induction f with
  | zero =>
    intro l i hn hk hf hp hg
    refine ⟨fun c h1 h2 h3 => hp c h1 h2 h3 (by omega), List.Perm.refl _, fun _ _ => rfl⟩
  | succ f ih =>
    intro l i hn hk hf hp hg
    by_cases hs : n ≤ 2 * i + 1
    · rw [downL_stop hs]
      exact ⟨fun c h1 h2 h3 => hp c h1 h2 h3 (by omega), List.Perm.refl _, fun _ _ => rfl⟩
    · rw [downL_go hs]
      obtain ⟨k1, k2, k3, k4⟩ := kid_spec (n := n) (l := l) (i := i) (by omega)
      obtain ⟨J, hJ⟩ : ∃ J, J = kid n l i := ⟨_, rfl⟩
      rw [← hJ] at k1 k2 k3 k4 ⊢
      have hiJ : i < J := by omega
      by_cases ha : aheadB (at_ l J) (at_ l i) = true
      · rw [if_pos ha]
        have hil : i < l.length := by omega
        have hjl : J < l.length := by omega
        have hat : ∀ m, at_ (swapL l i J) m = if m = J then at_ l i else if m = i then at_ l J else at_ l m := fun m => at_swap hil hjl
        have hA : Hp k n (swapL l i J) J := by
          intro c h1 h2 h3 h4
          rw [hat, hat]
          by_cases e1 : (c - 1) / 2 = i
          · rw [if_neg h4, if_pos e1]
            by_cases e2 : c = J
            · rw [if_pos e2]; exact le_of_ahead ha
            · rw [if_neg e2, if_neg (by omega)]
              exact k4 c h1 h2 e1
          · rw [if_neg h4, if_neg e1, if_neg (by omega)]
            by_cases e2 : c = i
            · rw [if_pos e2, e2]
              exact hg J k3 k1 k2 (by omega) (by rw [← e2]; exact h3)
            · rw [if_neg e2]; exact hp c h1 h2 h3 e1
        have hB : ∀ c, 0 < c → c < n → (c - 1) / 2 = J → 0 < J → k ≤ (J - 1) / 2 → le (at_ (swapL l i J) ((J - 1) / 2)) (at_ (swapL l i J) c) := by
          intro c h1 h2 h3 h4 h5
          rw [hat, hat, k2, if_neg (by omega), if_pos rfl, if_neg (by omega), if_neg (by omega)]
          have := hp c h1 h2 (by omega) (by omega)
          rw [h3] at this
          exact this
        obtain ⟨r1, r2, r3⟩ := ih (swapL l i J) J (by rw [length_swapL]; exact hn) (by omega) (by omega) hA hB
        refine ⟨r1, r2.trans (swap_perm hil hjl), fun m hm => ?_⟩
        rw [r3 m hm, hat, if_neg (by omega), if_neg (by omega)]
      · rw [if_neg ha]
        refine ⟨fun c h1 h2 h3 => ?_, List.Perm.refl _, fun _ _ => rfl⟩
        by_cases e : (c - 1) / 2 = i
        · rw [e]
          have hle : le (at_ l i) (at_ l J) := by
            show aheadB _ _ = false
            cases hb : aheadB (at_ l J) (at_ l i) with
            | true => exact absurd hb ha
            | false => rfl
          exact le_trans hle (k4 c h1 h2 e)
        · exact hp c h1 h2 h3 e
theorem length_initL (n : Nat) : ∀ (k : Nat) (l : List It), (initL n k l).length = l.length
  | 0, _ => rfl
  | k + 1, l => by unfold initL; rw [length_initL n k, length_downL]
end Go.V.Queue
