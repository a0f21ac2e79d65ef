/-
  Sorted entries plainly.
-/
import Derived.Test.YtppmnjblcblofaaD2
namespace Go.V.Dents
open Go Go.V Go.V.Path
theorem bl_self : ∀ a : List UInt8, Op.bytesLess a a = false
  | [] => rfl
  | x :: a => by rw [less_cons, bl_self a]; simp
theorem bl_trans : ∀ a b c : List UInt8, Op.bytesLess a b = true → Op.bytesLess b c = true → Op.bytesLess a c = true
  | [], [], _, h, _ => by cases h
  | _ :: _, [], _, h, _ => by cases h
  | _, _ :: _, [], _, h => by cases h
  | [], _ :: _, _ :: _, _, _ => rfl
  | x :: a, y :: b, z :: c, h, k => by
    rw [less_cons] at h k ⊢
    simp only [Bool.or_eq_true, decide_eq_true_eq, Bool.and_eq_true, beq_iff_eq] at h k ⊢
    rcases h with h | ⟨rfl, h⟩
    · rcases k with k | ⟨rfl, _⟩
      · left; rw [UInt8.lt_iff_toNat_lt] at h k ⊢; omega
      · exact Or.inl h
    · rcases k with k | ⟨rfl, k⟩
      · exact Or.inl k
      · exact Or.inr ⟨rfl, bl_trans a b c h k⟩
theorem bl_total : ∀ a b : List UInt8, Op.bytesLess a b = true ∨ a = b ∨ Op.bytesLess b a = true
  | [], [] => Or.inr (Or.inl rfl)
  | [], _ :: _ => Or.inl rfl
  | _ :: _, [] => Or.inr (Or.inr rfl)
  | x :: a, y :: b => by
    rw [less_cons, less_cons]
    rcases Nat.lt_trichotomy x.toNat y.toNat with h | h | h
    · left; rw [decide_eq_true (UInt8.lt_iff_toNat_lt.2 h)]; rfl
    · obtain rfl := UInt8.toNat_inj.1 h
      rcases bl_total a b with h | rfl | h
      · left; rw [h]; simp
      · exact Or.inr (Or.inl rfl)
      · right; right; rw [h]; simp
    · right; right; rw [decide_eq_true (UInt8.lt_iff_toNat_lt.2 h)]; rfl
theorem bl_asym {a b : List UInt8} (h : Op.bytesLess a b = true) : Op.bytesLess b a = false := by
  cases k : Op.bytesLess b a with
  | false => rfl
  | true => have := bl_trans a b a h k; rw [bl_self] at this; cases this
theorem cmp_neg : ∀ a b : List UInt8, (Lib.compareBytes a b < 0) ↔ Op.bytesLess a b = true
  | [], [] => by simp [Lib.compareBytes, Op.bytesLess]
  | [], _ :: _ => by simp [Lib.compareBytes, Op.bytesLess]
  | _ :: _, [] => by simp [Lib.compareBytes, Op.bytesLess]
  | x :: a, y :: b => by
    have ih := cmp_neg a b
    rw [less_cons, Lib.compareBytes]
    by_cases h1 : x < y
    · rw [if_pos h1, decide_eq_true h1]; simp
    · rw [if_neg h1, decide_eq_false h1, Bool.false_or]
      by_cases h2 : y < x
      · have h3 : (x == y) = false := by
          rw [beq_eq_false_iff_ne]
          intro e; subst e
          rw [UInt8.lt_iff_toNat_lt] at h2; omega
        rw [if_pos h2, h3]; simp
      · have h3 : x = y := by
          apply UInt8.toNat_inj.1
          rw [UInt8.lt_iff_toNat_lt] at h1 h2; omega
        rw [if_neg h2, ih, h3]; simp
theorem cmp_zero : ∀ a b : List UInt8, Lib.compareBytes a b = 0 ↔ a = b
  | [], [] => by simp [Lib.compareBytes]
  | [], _ :: _ => by simp [Lib.compareBytes]
  | _ :: _, [] => by simp [Lib.compareBytes]
  | x :: a, y :: b => by
    have ih := cmp_zero a b
    rw [Lib.compareBytes]
    by_cases h1 : x < y
    · rw [if_pos h1]
      have h3 : x ≠ y := fun e => by subst e; rw [UInt8.lt_iff_toNat_lt] at h1; omega
      simp [h3]
    · rw [if_neg h1]
      by_cases h2 : y < x
      · rw [if_pos h2]
        have h3 : x ≠ y := fun e => by subst e; rw [UInt8.lt_iff_toNat_lt] at h2; omega
        simp [h3]
      · have h3 : x = y := by
          apply UInt8.toNat_inj.1
          rw [UInt8.lt_iff_toNat_lt] at h1 h2; omega
        rw [if_neg h2, ih, h3]; simp
/-- is an entry's name less? -/
def lt (t : List UInt8) (x : Ent) : Bool := Op.bytesLess x.name t
/-- the entries are in order -/
def Srt (l : List Ent) : Prop := l.Pairwise (fun a b => Op.bytesLess a.name b.name = true)
def pos (l : List Ent) (t : List UInt8) : Nat := l.countP (lt t)
def has (l : List Ent) (t : List UInt8) : Bool := l.any (fun x => x.name == t)
theorem pos_le (l : List Ent) (t : List UInt8) : pos l t ≤ l.length := List.countP_le_length
theorem Srt.get {l : List Ent} (h : Srt l) {i j : Nat} {a b : Ent} (hi : l[i]? = some a) (hj : l[j]? = some b) (hij : i < j) : Op.bytesLess a.name b.name = true := by
  obtain ⟨h1, rfl⟩ := List.getElem?_eq_some_iff.1 hi
  obtain ⟨h2, rfl⟩ := List.getElem?_eq_some_iff.1 hj
  exact List.pairwise_iff_getElem.1 h i j h1 h2 hij
/-- below the place all are less, from it on none is -/
theorem pos_of {l : List Ent} {t : List UInt8} {k : Nat} (hk : k ≤ l.length) (h1 : ∀ j x, j < k → l[j]? = some x → lt t x = true) (h2 : ∀ j x, k ≤ j → l[j]? = some x → lt t x = false) : pos l t = k := by
  unfold pos
  rw [← List.take_append_drop k l, List.countP_append]
  have e1 : (l.take k).countP (lt t) = k := by
    rw [List.countP_eq_length.2, List.length_take, Nat.min_eq_left hk]
    intro x hx
    obtain ⟨j, hj⟩ := List.mem_iff_getElem?.1 hx
    rw [List.getElem?_take] at hj
    split at hj
    · exact h1 j x (by assumption) hj
    · cases hj
  have e2 : (l.drop k).countP (lt t) = 0 := by
    rw [List.countP_eq_zero]
    intro x hx
    obtain ⟨j, hj⟩ := List.mem_iff_getElem?.1 hx
    rw [List.getElem?_drop] at hj
    rw [h2 (k + j) x (by omega) hj]; simp
  rw [e1, e2, Nat.add_zero]
theorem Srt.cut {l : List Ent} (h : Srt l) (t : List UInt8) : (∀ j x, j < pos l t → l[j]? = some x → lt t x = true) ∧ (∀ j x, pos l t ≤ j → l[j]? = some x → lt t x = false) := by
  induction l with
  | nil => exact ⟨fun j x _ hx => by simp at hx, fun j x _ hx => by simp at hx⟩
  | cons a l ih =>
    have hs : Srt l := (List.pairwise_cons.1 h).2
    obtain ⟨i1, i2⟩ := ih hs
    cases ha : lt t a with
    | true =>
      have hp : pos (a :: l) t = pos l t + 1 := by unfold pos; rw [List.countP_cons_of_pos ha]
      rw [hp]
      constructor
      · intro j x hj hx
        cases j with
        | zero => obtain rfl : a = x := by simpa using hx
                  exact ha
        | succ j => exact i1 j x (by omega) (by simpa using hx)
      · intro j x hj hx
        cases j with
        | zero => omega
        | succ j => exact i2 j x (by omega) (by simpa using hx)
    | false =>
      have hall : ∀ x ∈ l, lt t x = false := fun x hx => by
        have h1 := (List.pairwise_cons.1 h).1 x hx
        cases hx2 : lt t x with
        | false => rfl
        | true => unfold lt at hx2 ha; rw [bl_trans _ _ _ h1 hx2] at ha; cases ha
      have hp : pos (a :: l) t = 0 := by
        unfold pos
        rw [List.countP_eq_zero]
        intro x hx
        rcases List.mem_cons.1 hx with rfl | hx
        · rw [ha]; simp
        · rw [hall x hx]; simp
      rw [hp]
      refine ⟨fun j x hj => by omega, fun j x _ hx => ?_⟩
      cases j with
      | zero => obtain rfl : a = x := by simpa using hx
                exact ha
      | succ j => exact hall x (List.mem_of_getElem? (by simpa using hx))
/-- a name is there just where it stands at its place -/
theorem Srt.has_iff {l : List Ent} (h : Srt l) (t : List UInt8) : has l t = true ↔ ∃ x, l[pos l t]? = some x ∧ x.name = t := by
  constructor
  · intro hh
    unfold has at hh
    obtain ⟨x, hx, he⟩ := List.any_eq_true.1 hh
    have he : x.name = t := by simpa using he
    obtain ⟨j, hj⟩ := List.mem_iff_getElem?.1 hx
    have hnl : lt t x = false := by unfold lt; rw [he, bl_self]
    have hlt := (List.getElem?_eq_some_iff.1 hj).1
    have h1 : pos l t ≤ j := by
      rcases Nat.lt_or_ge j (pos l t) with q | q
      · have := (h.cut t).1 j x q hj; rw [hnl] at this; cases this
      · exact q
    rcases Nat.lt_or_ge (pos l t) j with q | q
    · obtain ⟨y, hy⟩ : ∃ y, l[pos l t]? = some y := ⟨_, List.getElem?_eq_getElem (by omega)⟩
      have h2 := h.get hy hj q
      rw [he] at h2
      have h3 := (h.cut t).2 _ y (Nat.le_refl _) hy
      unfold lt at h3
      rw [h2] at h3; cases h3
    · have : pos l t = j := by omega
      exact ⟨x, by rw [this]; exact hj, he⟩
  · rintro ⟨x, hx, he⟩
    unfold has
    exact List.any_eq_true.2 ⟨x, List.mem_of_getElem? hx, by simpa using he⟩
end Go.V.Dents
