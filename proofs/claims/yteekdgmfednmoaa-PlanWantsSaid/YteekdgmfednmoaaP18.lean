/-
  The reference's order of wants, plainly.
-/
import Derived.Test.YteekdgmfednmoaaP7
namespace Go.V.Queue
open Go Go.V
/-- each number once, as deep as it stands highest, to be written if any is -/
structure OneP (l one : List It) : Prop where
  dist : one.Pairwise (fun a b => a.push ≠ b.push)
  low : ∀ x ∈ one, (∃ y ∈ l, y.push = x.push ∧ y.key = x.key) ∧ ∀ y ∈ l, y.push = x.push → x.key ≤ y.key
  wr : ∀ x ∈ one, x.n = wrB l x.push
  all : ∀ y ∈ l, ∃ x ∈ one, x.push = y.push
theorem OneP.nil : OneP [] [] := ⟨List.Pairwise.nil, fun _ h => (by simp at h), fun _ h => (by simp at h), fun _ h => (by simp at h)⟩
theorem wrB_one (z : It) (k : Int) : wrB [z] k = (z.push == k && z.n) := by simp [wrB]
theorem OneP.new {l one : List It} {z : It} (h : OneP l one) (hz : ∀ x ∈ one, x.push ≠ z.push) : OneP (l ++ [z]) (one ++ [z]) := by
  have hno : ∀ y ∈ l, y.push ≠ z.push := by
    intro y hy e
    obtain ⟨x, hx, ex⟩ := h.all y hy
    exact hz x hx (ex.trans e)
  refine ⟨List.pairwise_append.2 ⟨h.dist, by simp, fun x hx y hy => ?_⟩, fun x hx => ?_, fun x hx => ?_, fun y hy => ?_⟩
  · obtain rfl := List.mem_singleton.1 hy
    exact hz x hx
  · rcases List.mem_append.1 hx with hxo | hxo
    · obtain ⟨⟨y, hy, e1, e2⟩, h2⟩ := h.low x hxo
      refine ⟨⟨y, List.mem_append_left _ hy, e1, e2⟩, fun u hu e => ?_⟩
      rcases List.mem_append.1 hu with hu | hu
      · exact h2 u hu e
      · obtain rfl := List.mem_singleton.1 hu
        exact absurd e.symm (hz x hxo)
    · obtain rfl := List.mem_singleton.1 hxo
      refine ⟨⟨x, by simp, rfl, rfl⟩, fun u hu e => ?_⟩
      rcases List.mem_append.1 hu with hu | hu
      · exact absurd e (hno u hu)
      · obtain rfl := List.mem_singleton.1 hu
        exact Int.le_refl _
  · rw [wrB_append, wrB_one]
    rcases List.mem_append.1 hx with hx | hx
    · have : (z.push == x.push) = false := beq_eq_false_iff_ne.2 (fun e => hz x hx e.symm)
      rw [this, ← h.wr x hx]; simp
    · obtain rfl := List.mem_singleton.1 hx
      have : wrB l x.push = false := by
        cases hw : wrB l x.push with
        | false => rfl
        | true =>
          obtain ⟨y, hy, e, _⟩ := wrB_iff.1 hw
          exact absurd e (hno y hy)
      rw [this]; simp
  · rcases List.mem_append.1 hy with hy | hy
    · obtain ⟨x, hx, e⟩ := h.all y hy
      exact ⟨x, List.mem_append_left _ hx, e⟩
    · exact ⟨y, List.mem_append_right _ hy, rfl⟩
theorem dist_map {o : List It} : o.Pairwise (fun a b => a.push ≠ b.push) ↔ (o.map It.push).Nodup := by
  unfold List.Nodup; rw [List.pairwise_map]
theorem dist_ix {o : List It} (h : o.Pairwise (fun a b => a.push ≠ b.push)) {i j : Nat} {x y : It} (hx : o[i]? = some x) (hy : o[j]? = some y) (e : x.push = y.push) : i = j := by
  obtain ⟨hi, rfl⟩ := List.getElem?_eq_some_iff.1 hx
  obtain ⟨hj, rfl⟩ := List.getElem?_eq_some_iff.1 hy
  have hp := List.pairwise_iff_getElem.1 h
  rcases Nat.lt_trichotomy i j with q | q | q
  · exact absurd e (hp i j hi hj q)
  · exact q
  · exact absurd e.symm (hp j i hj hi q)
def mrg (x z : It) : It := ⟨if z.key < x.key then z.key else x.key, x.push, x.n || z.n⟩
theorem OneP.upd {l one : List It} {z x : It} {a : Nat} (h : OneP l one) (hx : one[a]? = some x) (e : x.push = z.push) : OneP (l ++ [z]) (one.set a (mrg x z)) := by
  have ha : a < one.length := (List.getElem?_eq_some_iff.1 hx).1
  have hxm : x ∈ one := List.mem_of_getElem? hx
  have hmem : ∀ y ∈ one.set a (mrg x z), y = mrg x z ∨ (y ∈ one ∧ y.push ≠ x.push) := by
    intro y hy
    obtain ⟨j, hj, rfl⟩ := List.getElem_of_mem hy
    rw [List.length_set] at hj
    by_cases ej : a = j
    · subst ej
      exact Or.inl (List.getElem_set_self ..)
    · refine Or.inr ?_
      rw [List.getElem_set_ne ej]
      exact ⟨List.getElem_mem hj, fun e2 => ej (dist_ix h.dist hx (List.getElem?_eq_getElem hj) e2.symm)⟩
  refine ⟨?_, fun y hy => ?_, fun y hy => ?_, fun y hy => ?_⟩
  · rw [dist_map, List.map_set]
    have : (one.map It.push).set a (mrg x z).push = one.map It.push := by
      refine List.ext_getElem? (fun j => ?_)
      rw [List.getElem?_set]
      by_cases ej : a = j
      · subst ej
        rw [if_pos rfl, List.getElem?_map, hx]
        simp [mrg, ha]
      · rw [if_neg ej]
    rw [this]
    exact dist_map.1 h.dist
  · rcases hmem y hy with rfl | ⟨hy, hne⟩
    · obtain ⟨⟨u, hu, u1, u2⟩, h2⟩ := h.low x hxm
      refine ⟨?_, fun v hv ev => ?_⟩
      · unfold mrg
        by_cases q : z.key < x.key
        · exact ⟨z, by simp, e.symm, by rw [if_pos q]⟩
        · exact ⟨u, List.mem_append_left _ hu, u1, by rw [if_neg q]; exact u2⟩
      · have hk : (mrg x z).key ≤ x.key ∧ (mrg x z).key ≤ z.key := by
          unfold mrg
          by_cases q : z.key < x.key
          · simp only [if_pos q]; omega
          · simp only [if_neg q]; omega
        rcases List.mem_append.1 hv with hv | hv
        · have := h2 v hv ev; omega
        · obtain rfl := List.mem_singleton.1 hv
          exact hk.2
    · obtain ⟨⟨u, hu, u1, u2⟩, h2⟩ := h.low y hy
      refine ⟨⟨u, List.mem_append_left _ hu, u1, u2⟩, fun v hv ev => ?_⟩
      rcases List.mem_append.1 hv with hv | hv
      · exact h2 v hv ev
      · obtain rfl := List.mem_singleton.1 hv
        exact absurd (ev.symm.trans e.symm) hne
  · rw [wrB_append, wrB_one]
    rcases hmem y hy with rfl | ⟨hy, hne⟩
    · show (x.n || z.n) = (wrB l x.push || (z.push == x.push && z.n))
      rw [← h.wr x hxm, e]; simp
    · have : (z.push == y.push) = false := beq_eq_false_iff_ne.2 (fun q => hne (q.symm.trans e.symm))
      rw [this, ← h.wr y hy]; simp
  · have hself : mrg x z ∈ one.set a (mrg x z) := by
      have := List.getElem_mem (l := one.set a (mrg x z)) (n := a) (by rw [List.length_set]; exact ha)
      rwa [List.getElem_set_self] at this
    rcases List.mem_append.1 hy with hy | hy
    · obtain ⟨u, hu, eu⟩ := h.all y hy
      by_cases q : u.push = x.push
      · exact ⟨_, hself, by show x.push = _; rw [← q, eu]⟩
      · obtain ⟨j, hj, rfl⟩ := List.getElem_of_mem hu
        have hne : a ≠ j := by
          rintro rfl
          rw [List.getElem?_eq_getElem hj] at hx
          simp only [Option.some.injEq] at hx
          exact q (by rw [hx])
        refine ⟨one[j], ?_, eu⟩
        have := List.getElem_mem (l := one.set a (mrg x z)) (n := j) (by rw [List.length_set]; exact hj)
        rwa [List.getElem_set_ne hne] at this
    · obtain rfl := List.mem_singleton.1 hy
      exact ⟨_, hself, e⟩
/-- while the best are taken out -/
structure SelP (one0 one out : List It) : Prop where
  perm : (out ++ one).Perm one0
  srt : out.Pairwise ltW
  below : ∀ x ∈ out, ∀ y ∈ one, ltW x y
theorem SelP.start (one0 : List It) : SelP one0 one0 [] := ⟨List.Perm.refl _, List.Pairwise.nil, fun _ h => (by simp at h)⟩
theorem SelP.dist {one0 one out : List It} (h : SelP one0 one out) (hd : one0.Pairwise (fun a b => a.push ≠ b.push)) : one.Pairwise (fun a b => a.push ≠ b.push) := by
  have : (out ++ one).Pairwise (fun a b => a.push ≠ b.push) := (h.perm.pairwise_iff (fun q => Ne.symm q)).2 hd
  exact (List.pairwise_append.1 this).2.1
theorem SelP.step {one0 one out : List It} (h : SelP one0 one out) (hd : one0.Pairwise (fun a b => a.push ≠ b.push)) {b : Nat} {x : It} (hx : one[b]? = some x) (hmin : ∀ y ∈ one, le x y) :
    SelP one0 (one.take b ++ one.drop (b + 1)) (out ++ [x]) := by
  obtain ⟨hb, rfl⟩ := List.getElem?_eq_some_iff.1 hx
  have hsplit : one.take b ++ one[b] :: one.drop (b + 1) = one := by
    rw [← List.drop_eq_getElem_cons hb, List.take_append_drop]
  have hdo := h.dist hd
  have hp1 : (one[b] :: (one.take b ++ one.drop (b + 1))).Perm one := by
    have := (List.perm_middle (a := one[b]) (l₁ := one.take b) (l₂ := one.drop (b + 1))).symm
    rwa [hsplit] at this
  have hd2 := (hp1.pairwise_iff (R := fun a b : It => a.push ≠ b.push) (fun q => Ne.symm q)).2 hdo
  refine ⟨?_, List.pairwise_append.2 ⟨h.srt, by simp, fun y hy z hz => ?_⟩, fun y hy z hz => ?_⟩
  · rw [List.append_assoc]
    exact (hp1.append_left out).trans h.perm
  · obtain rfl := List.mem_singleton.1 hz
    exact h.below y hy _ (List.getElem_mem hb)
  · have hz2 : z ∈ one := hp1.mem_iff.1 (List.mem_cons_of_mem _ hz)
    rcases List.mem_append.1 hy with hy | hy
    · exact h.below y hy z hz2
    · obtain rfl := List.mem_singleton.1 hy
      have h1 := hmin z hz2
      have h2 := (List.pairwise_cons.1 hd2).1 z hz
      rw [le_iff] at h1
      unfold ltW
      omega
theorem SelP.done {l one0 out : List It} (h : SelP one0 [] out) (ho : OneP l one0) : OrdP l out := by
  have hp : out.Perm one0 := by simpa using h.perm
  exact ⟨h.srt, (hp.pairwise_iff (fun q => Ne.symm q)).2 ho.dist, fun x hx => ho.low x (hp.mem_iff.1 hx), fun x hx => ho.wr x (hp.mem_iff.1 hx), fun y hy => by
    obtain ⟨x, hx, e⟩ := ho.all y hy
    exact ⟨x, hp.mem_iff.2 hx, e⟩⟩
end Go.V.Queue
