/-
  QueueTurned, plainly.
-/
import Derived.Test.YtginbdgoijeeoaaQ17
namespace Go.V.Queue
open Go Go.V
def prs (keys : List Int) (n : Nat) : List Pr := (List.range n).map fun i => (keys.getD i 0, (i : Int))
theorem length_prs (keys : List Int) (n : Nat) : (prs keys n).length = n := by simp [prs]
theorem prs_get (keys : List Int) (n i : Nat) (h : i < n) : (prs keys n)[i]? = some (keys.getD i 0, (i : Int)) := by
  unfold prs
  rw [List.getElem?_map, List.getElem?_range h]; rfl
theorem prs_succ (keys : List Int) (i : Nat) : prs keys (i + 1) = prs keys i ++ [(keys.getD i 0, (i : Int))] := by simp [prs, List.range_succ]
theorem prs_drop (keys : List Int) (n i : Nat) (h : i < n) : (prs keys n).drop (n - 1 - i) = (keys.getD (n - 1 - i) 0, ((n - 1 - i : Nat) : Int)) :: (prs keys n).drop (n - i) := by
  have hlt : n - 1 - i < (prs keys n).length := by rw [length_prs]; omega
  rw [List.drop_eq_getElem_cons hlt]
  have := prs_get keys n (n - 1 - i) (by omega)
  rw [List.getElem?_eq_getElem hlt, Option.some.injEq] at this
  rw [this, show n - 1 - i + 1 = n - i by omega]
theorem mem_prs {keys : List Int} {n : Nat} {x : Pr} (h : x ∈ prs keys n) : ∃ i, i < n ∧ x = (keys.getD i 0, (i : Int)) := by
  unfold prs at h
  obtain ⟨i, h1, rfl⟩ := List.mem_map.1 h
  exact ⟨i, List.mem_range.1 h1, rfl⟩
theorem prs_inj {keys : List Int} {n : Nat} (hn : n ≤ keys.length) (hd : (keys.take n).Nodup) {a b : Pr} (ha : a ∈ prs keys n) (hb : b ∈ prs keys n) (h : a.1 = b.1) : a = b := by
  obtain ⟨i, hi, rfl⟩ := mem_prs ha
  obtain ⟨j, hj, rfl⟩ := mem_prs hb
  have e : ∀ k, k < n → (keys.take n)[k]? = some (keys.getD k 0) := by
    intro k hk
    rw [List.getElem?_take, if_pos hk, List.getD_eq_getElem?_getD, List.getElem?_eq_getElem (by omega)]; rfl
  have : i = j := (List.getElem?_inj (by rw [List.length_take]; omega) hd).1 (by rw [e i hi, e j hj]; exact congrArg some h)
  rw [this]
theorem turned_eq {keys : List Int} {n : Nat} (hn : n ≤ keys.length) (hd : (keys.take n).Nodup) {r1 r2 : List Pr} (h1 : r1.Pairwise (fun a b => a.1 ≤ b.1)) (h2 : r2.Pairwise (fun a b => a.1 ≤ b.1)) (p1 : r1.Perm (prs keys n)) (p2 : r2.Perm (prs keys n)) : r1 = r2 :=
  List.Perm.eq_of_pairwise (le := fun a b => a.1 ≤ b.1) (fun a b ha hb q1 q2 => prs_inj hn hd (p1.mem_iff.1 ha) (p2.mem_iff.1 hb) (by omega)) h1 h2 (p1.trans p2.symm)
theorem mem_put {k : Int} {v : Bool} {x : Int × Bool} : ∀ {l : List (Int × Bool)}, x ∈ put l k v → x = (k, v) ∨ x ∈ l
  | [], h => by simp only [put, List.mem_singleton] at h; exact Or.inl h
  | (a, b) :: l, h => by
    unfold put at h
    split at h
    · rename_i e
      rcases List.mem_cons.1 h with h | h
      · rw [e] at h; exact Or.inl h
      · exact Or.inr (List.mem_cons_of_mem _ h)
    · rcases List.mem_cons.1 h with h | h
      · exact Or.inr (by rw [h]; exact List.mem_cons_self ..)
      · rcases mem_put h with q | q
        · exact Or.inl q
        · exact Or.inr (List.mem_cons_of_mem _ q)
end Go.V.Queue
