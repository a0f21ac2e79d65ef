/-
  QueueRises' walk.
-/
import Derived.Test.YtginbdgoijeeoaaQ13
import Derived.Test.YtginbdgoijeeoaaQ11
import Derived.Test.YtginbdgoijeeoaaV3
namespace Go.V.Queue
open Go Go.V
def mk (keys : List Int) (i : Nat) : It := ⟨keys.getD i 0, i, i⟩
def mkL (keys : List Int) (i : Nat) : List It := (List.range i).map (mk keys)
theorem mkL_succ (keys : List Int) (i : Nat) : mkL keys (i + 1) = mkL keys i ++ [mk keys i] := by simp [mkL, List.range_succ]
theorem length_mkL (keys : List Int) (i : Nat) : (mkL keys i).length = i := by simp [mkL]
theorem nodup_mkL (keys : List Int) (i : Nat) : ((mkL keys i).map It.n).Nodup := by
  unfold mkL
  rw [List.map_map]
  have : (It.n ∘ mk keys) = fun i : Nat => (i : Int) := rfl
  rw [this]
  exact List.Pairwise.map _ (fun a b h => by intro e; exact h (by omega)) List.nodup_range
theorem mem_mkL {keys : List Int} {n : Nat} {x : It} (h : x ∈ mkL keys n) : ∃ m, m < n ∧ x = mk keys m := by
  unfold mkL at h
  obtain ⟨m, h1, rfl⟩ := List.mem_map.1 h
  exact ⟨m, List.mem_range.1 h1, rfl⟩
def keyI (z : Int) : Value := .int .i64 z
def boolV (b : Bool) : Value := .bool b
theorem mem_at {l : List It} {i : Nat} (h : i < l.length) : at_ l i ∈ l := by
  unfold at_; rw [List.getD_eq_getElem?_getD, List.getElem?_eq_getElem h]; exact List.getElem_mem h
theorem at_of_mem {l : List It} {x : It} (h : x ∈ l) : ∃ i, i < l.length ∧ at_ l i = x := by
  obtain ⟨i, hi, rfl⟩ := List.getElem_of_mem h
  exact ⟨i, hi, by unfold at_; rw [List.getD_eq_getElem?_getD, List.getElem?_eq_getElem hi]; rfl⟩
/-- while items are popped -/
def PopInv (keys : List Int) (n i : Nat) (l : List It) (seen : List (Int × Bool)) (was last : Int) : Prop :=
  Heap 0 l.length l ∧ l.length = n - i ∧ (∀ x ∈ l, x ∈ mkL keys n) ∧ (l.map It.n).Nodup ∧ (∀ x ∈ l, x.n ∉ V.keys seen) ∧ (0 < i → ∀ x ∈ l, was < x.key ∨ (was = x.key ∧ last ≤ x.n))
theorem pop_step {keys : List Int} {n i : Nat} {l : List It} {seen : List (Int × Bool)} {was last : Int} (h : PopInv keys n i l seen was last) (hi : i < n) :
    ∃ m, m < n ∧ at_ (popL l) (l.length - 1) = mk keys m ∧ (m : Int) ∉ V.keys seen ∧ (0 < i → was < keys.getD m 0 ∨ (was = keys.getD m 0 ∧ last ≤ (m : Int))) ∧ PopInv keys n (i + 1) ((popL l).take (l.length - 1)) (put seen (m : Int) true) (keys.getD m 0) m := by
  obtain ⟨h1, h2, h3, h4, h5, h6⟩ := h
  obtain ⟨N, hN⟩ : ∃ N, l.length = N + 1 := ⟨l.length - 1, by omega⟩
  obtain ⟨p1, p2, p3, p4⟩ := pop_heap hN h1
  rw [hN, Nat.add_sub_cancel]
  have hy : at_ l 0 ∈ l := mem_at (by omega)
  obtain ⟨m, hm, hym⟩ := mem_mkL (h3 _ hy)
  have hsub : ∀ x ∈ (popL l).take N, x ∈ l := fun x hx => p2.mem_iff.1 (List.mem_append.2 (Or.inl hx))
  have hnd : (((popL l).take N ++ [at_ l 0]).map It.n).Nodup := (p2.map It.n).nodup_iff.2 h4
  rw [List.map_append, List.nodup_append] at hnd
  have hne : ∀ x ∈ (popL l).take N, x.n ≠ (m : Int) := by
    intro x hx e
    have := hnd.2.2 x.n (List.mem_map.2 ⟨x, hx, rfl⟩) (at_ l 0).n (by simp)
    rw [hym] at this
    exact this e
  refine ⟨m, hm, by rw [p3, hym], ?_, fun h0 => ?_, by rw [p4]; exact p1, by rw [p4]; omega, fun x hx => h3 x (hsub x hx), hnd.1, fun x hx hk => ?_, fun _ x hx => ?_⟩
  · have := h5 _ hy; rw [hym] at this; exact this
  · have := h6 h0 _ hy; rw [hym] at this; exact this
  · rw [keys_put] at hk
    split at hk
    · exact h5 x (hsub x hx) hk
    · rcases List.mem_append.1 hk with q | q
      · exact h5 x (hsub x hx) q
      · exact hne x hx (by simpa using q)
  · obtain ⟨c, hc, rfl⟩ := at_of_mem (hsub x hx)
    have hle := heap_min h1 c hc
    rw [hym, le_iff] at hle
    obtain ⟨q, hq, hqe⟩ := mem_mkL (h3 _ (mem_at hc))
    rw [hqe] at hle ⊢
    rcases hle with a | ⟨a, b⟩
    · exact Or.inl a
    · exact Or.inr ⟨a, b⟩
end Go.V.Queue
namespace Go.Proofs.Ytginbdgoijeeoaa
open Go.RowKit Go.V Go.V.Queue
theorem kI : KeyOk Try.prog 3 keyI := ⟨⟨_, Try.underlying3, fun _ => rfl⟩, fun a b h => by simp only [keyI, Value.int.injEq, true_and] at h; exact h⟩
end Go.Proofs.Ytginbdgoijeeoaa
