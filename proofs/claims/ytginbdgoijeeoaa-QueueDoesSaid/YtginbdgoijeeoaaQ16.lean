/-
  A heap of items stands for a list in order.
-/
import Derived.Test.YtginbdgoijeeoaaQ14
namespace Go.V.Queue
open Go Go.V
abbrev Pr := Int × Int
def insP (x : Pr) : List Pr → List Pr
  | [] => [x]
  | y :: r => if x.1 < y.1 then x :: y :: r else y :: insP x r
def insI (x : It) : List It → List It
  | [] => [x]
  | y :: r => if x.key < y.key then x :: y :: r else y :: insI x r
theorem insP_cons (x y : Pr) (r : List Pr) : insP x (y :: r) = if x.1 < y.1 then x :: y :: r else y :: insP x r := rfl
def pr (x : It) : Pr := (x.key, x.n)
def lt (a b : It) : Prop := a.key < b.key ∨ (a.key = b.key ∧ a.push < b.push)
theorem map_insI (x : It) : ∀ s : List It, (insI x s).map pr = insP (pr x) (s.map pr)
  | [] => rfl
  | y :: s => by
    unfold insI
    show _ = if x.key < y.key then _ else _
    split
    · rfl
    · show pr y :: _ = _; rw [map_insI x s]
theorem insI_perm (x : It) : ∀ s : List It, (insI x s).Perm (x :: s)
  | [] => List.Perm.refl _
  | y :: s => by
    unfold insI
    split
    · exact List.Perm.refl _
    · exact ((insI_perm x s).cons y).trans (List.Perm.swap x y s)
theorem insP_perm (x : Pr) : ∀ s : List Pr, (insP x s).Perm (x :: s)
  | [] => List.Perm.refl _
  | y :: s => by
    unfold insP
    split
    · exact List.Perm.refl _
    · exact ((insP_perm x s).cons y).trans (List.Perm.swap x y s)
theorem length_insP (x : Pr) (s : List Pr) : (insP x s).length = s.length + 1 := (insP_perm x s).length_eq
theorem insI_sorted {x : It} : ∀ {s : List It}, s.Pairwise lt → (∀ y ∈ s, y.push < x.push) → (insI x s).Pairwise lt
  | [], _, _ => by simp [insI]
  | y :: s, h, hp => by
    unfold insI
    obtain ⟨h1, h2⟩ := List.pairwise_cons.1 h
    split
    · rename_i hlt
      refine List.pairwise_cons.2 ⟨fun z hz => ?_, h⟩
      rcases List.mem_cons.1 hz with rfl | hz
      · exact Or.inl hlt
      · rcases h1 z hz with q | q
        · exact Or.inl (by omega)
        · exact Or.inl (by omega)
    · rename_i hlt
      refine List.pairwise_cons.2 ⟨fun z hz => ?_, insI_sorted h2 (fun z hz => hp z (List.mem_cons_of_mem _ hz))⟩
      rcases List.mem_cons.1 ((insI_perm x s).mem_iff.1 hz) with rfl | hz
      · have := hp y (List.mem_cons_self ..)
        by_cases e : y.key = z.key
        · exact Or.inr ⟨e, this⟩
        · exact Or.inl (by omega)
      · exact h1 z hz
def Srt (l : List It) (p : Int) (r : List Pr) : Prop := ∃ s : List It, Heap 0 l.length l ∧ l.Perm s ∧ s.Pairwise lt ∧ (∀ x ∈ s, x.push < p) ∧ r = s.map pr
theorem Srt.nil (p : Int) : Srt [] p [] := ⟨[], heap_nil, List.Perm.refl _, List.Pairwise.nil, fun _ h => absurd h (by simp), rfl⟩
theorem Srt.len {l : List It} {p : Int} {r : List Pr} (h : Srt l p r) : l.length = r.length := by
  obtain ⟨s, _, h2, _, _, rfl⟩ := h
  rw [List.length_map, h2.length_eq]
theorem Srt.push {l : List It} {p : Int} {r : List Pr} (h : Srt l p r) (k n : Int) : Srt (pushL l ⟨k, n, p⟩) (p + 1) (insP (k, n) r) := by
  obtain ⟨s, h1, h2, h3, h4, rfl⟩ := h
  obtain ⟨a1, a2, a3⟩ := push_heap h1 ⟨k, n, p⟩
  refine ⟨insI ⟨k, n, p⟩ s, a1, a2.trans ((h2.cons _).trans (insI_perm _ _).symm), insI_sorted h3 (fun y hy => h4 y hy), fun x hx => ?_, (map_insI ⟨k, n, p⟩ s).symm⟩
  rcases List.mem_cons.1 ((insI_perm _ s).mem_iff.1 hx) with rfl | hx
  · show p < p + 1; omega
  · have := h4 x hx; omega
theorem Srt.head {l : List It} {p : Int} {x : Pr} {r : List Pr} (h : Srt l p (x :: r)) : ∃ (h0 : It) (s : List It), at_ l 0 = h0 ∧ pr h0 = x ∧ l.Perm (h0 :: s) ∧ (h0 :: s).Pairwise lt ∧ r = s.map pr := by
  obtain ⟨s, h1, h2, h3, h4, h5⟩ := h
  cases s with
  | nil => simp at h5
  | cons h0 s =>
    simp only [List.map_cons, List.cons.injEq] at h5
    refine ⟨h0, s, ?_, h5.1.symm, h2, h3, h5.2⟩
    have hl : 0 < l.length := by rw [h2.length_eq]; simp
    have hm : at_ l 0 ∈ h0 :: s := h2.mem_iff.1 (mem_at hl)
    rcases List.mem_cons.1 hm with e | hm
    · exact e
    · exfalso
      obtain ⟨c, hc, he⟩ := at_of_mem (h2.mem_iff.2 (List.mem_cons_self ..))
      have hle := heap_min h1 c hc
      rw [he, le_iff] at hle
      have hlt := (List.pairwise_cons.1 h3).1 _ hm
      unfold lt at hlt
      omega
theorem Srt.pop {l : List It} {p : Int} {x : Pr} {r : List Pr} (h : Srt l p (x :: r)) : (at_ (popL l) (l.length - 1)).key = x.1 ∧ (at_ (popL l) (l.length - 1)).n = x.2 ∧ Srt ((popL l).take (l.length - 1)) p r := by
  have hlen := h.len
  obtain ⟨h0, s, e0, e1, e2, e3, e4⟩ := h.head
  obtain ⟨s', h1, g2, _, h4, _⟩ := h
  have hN : l.length = r.length + 1 := by rw [hlen]; rfl
  obtain ⟨p1, p2, p3, p4⟩ := pop_heap hN h1
  rw [hN, Nat.add_sub_cancel]
  rw [p3, e0, ← e1]
  refine ⟨rfl, rfl, s, by rw [p4]; exact p1, ?_, (List.pairwise_cons.1 e3).2, fun y hy => h4 y (g2.mem_iff.1 (e2.mem_iff.2 (List.mem_cons_of_mem _ hy))), e4⟩
  rw [e0] at p2
  exact (((List.perm_append_singleton _ _).symm.trans p2).trans e2).cons_inv
theorem Srt.sorted {l : List It} {p : Int} {r : List Pr} (h : Srt l p r) : r.Pairwise (fun a b => a.1 ≤ b.1) := by
  obtain ⟨s, _, _, h3, _, rfl⟩ := h
  exact List.Pairwise.map _ (fun a b q => by rcases q with q | q <;> (show a.key ≤ b.key; omega)) h3
def keepP (n : Int) (r : List Pr) : List Pr := r.filter fun x => !(x.2 == n)
theorem Srt.drop {l : List It} {p : Int} {r : List Pr} (h : Srt l p r) (n : Int) : Srt (dropL n l) p (keepP n r) := by
  obtain ⟨s, _, h2, h3, h4, rfl⟩ := h
  obtain ⟨d1, d2⟩ := drop_heap n l
  refine ⟨keepL n s, d1, d2.trans (h2.filter _), h3.filter _, fun x hx => h4 x (List.mem_filter.1 hx).1, ?_⟩
  unfold keepP keepL
  rw [List.filter_map]
  rfl
theorem Srt.has {l : List It} {p : Int} {r : List Pr} (h : Srt l p r) (n : Int) : decide (0 ≤ idxV (idxL n l 0)) = r.any (fun x => x.2 == n) := by
  obtain ⟨s, _, h2, _, _, rfl⟩ := h
  rw [Bool.eq_iff_iff, decide_eq_true_eq, List.any_eq_true]
  cases e : idxL n l 0 with
  | none =>
    have := (idxL_none l 0).1 e
    refine ⟨fun q => by simp [idxV] at q, fun ⟨x, hx, hn⟩ => ?_⟩
    obtain ⟨y, hy, rfl⟩ := List.mem_map.1 hx
    exact absurd (beq_iff_eq.1 hn) (this y (h2.mem_iff.2 hy))
  | some k =>
    obtain ⟨j, rfl, hj, hn, _⟩ := idxL_some l 0 k e
    refine ⟨fun _ => ⟨pr (at_ l j), List.mem_map.2 ⟨_, h2.mem_iff.1 (mem_at hj), rfl⟩, beq_iff_eq.2 hn⟩, fun _ => by simp only [idxV]; omega⟩
theorem keepP_ins (n : Int) (x : Pr) : ∀ r : List Pr, r.Pairwise (fun a b => a.1 ≤ b.1) → keepP n (insP x r) = if x.2 = n then keepP n r else insP x (keepP n r)
  | [], _ => by by_cases e : x.2 = n <;> simp [keepP, insP, e]
  | y :: r, h => by
    obtain ⟨h1, h2⟩ := List.pairwise_cons.1 h
    have ih := keepP_ins n x r h2
    rw [insP_cons]
    by_cases hlt : x.1 < y.1
    · rw [if_pos hlt]
      have hall : ∀ z ∈ keepP n (y :: r), x.1 < z.1 := by
        intro z hz
        rcases List.mem_cons.1 (List.mem_filter.1 hz).1 with rfl | hz
        · exact hlt
        · have := h1 z hz; omega
      by_cases e : x.2 = n
      · rw [if_pos e]
        unfold keepP
        rw [List.filter_cons_of_neg (by simp [e])]
      · rw [if_neg e]
        have : keepP n (x :: y :: r) = x :: keepP n (y :: r) := by unfold keepP; rw [List.filter_cons_of_pos (by simp [e])]
        rw [this]
        cases hk : keepP n (y :: r) with
        | nil => rfl
        | cons z t =>
          rw [hk] at hall
          rw [insP_cons, if_pos (hall z (List.mem_cons_self ..))]
    · rw [if_neg hlt]
      by_cases ey : y.2 = n
      · have e1 : keepP n (y :: insP x r) = keepP n (insP x r) := by unfold keepP; rw [List.filter_cons_of_neg (by simp [ey])]
        have e2 : keepP n (y :: r) = keepP n r := by unfold keepP; rw [List.filter_cons_of_neg (by simp [ey])]
        rw [e1, e2, ih]
      · have e1 : keepP n (y :: insP x r) = y :: keepP n (insP x r) := by unfold keepP; rw [List.filter_cons_of_pos (by simp [ey])]
        have e2 : keepP n (y :: r) = y :: keepP n r := by unfold keepP; rw [List.filter_cons_of_pos (by simp [ey])]
        rw [e1, e2, ih]
        by_cases e : x.2 = n
        · rw [if_pos e, if_pos e]
        · rw [if_neg e, if_neg e]
          rw [insP_cons, if_neg hlt]
end Go.V.Queue
