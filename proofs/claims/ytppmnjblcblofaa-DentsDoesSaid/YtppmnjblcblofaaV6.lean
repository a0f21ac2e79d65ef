/-
  Appending to a slice of one-cell elements: the block of what comes out is the old one, or a new one.
-/
import Derived.Test.YtppmnjblcblofaaV0
import Derived.Deep.DeepAppendRoom
namespace Go.V
open Go
section
variable {P : Program} {ops : Array Oper} {rest : List Oper} {o : Oper} {a : Act} {Q : Exit → Act → World → Prop} {w : World}

theorem keeps_grown {S : List Nat} {w w' : World} {row : Option Nat} (hg : w.grownBy w' row) (hr : ∀ k, row = some k → k ∈ S) : Keeps S w w' :=
  (Keeps.refl S w).grown hg (fun k hk => Or.inl (hr k hk))

/-- 'append(s, x...)', s anybody's own -/
theorem vp_append_at (hgd : o.guard = none) (s x : Operand) (t : TypeId) (ho : o.op = .call { callee := .builtin .append, args := #[s, x], argTypes := #[t, t] })
    (e : TypeId) (z : Value) (bytes : Nat) (ht : P.underlying t = some (.slice e)) (hi : (P.info? e).map (fun i => (i.zero, i.size, i.bytes)) = some (some z, 1, bytes)) (hzs : z.cells.size = 1)
    (v : Value) (xs : List Value) (hs : a.eval s = v) (hown : Own w 0 e v xs)
    (ad : Addr) (m c : Nat) (news : List Value) (hx : a.eval x = .slice (some ad) m c) (hl : news.length = m) (hnews : ∀ j u, news[j]? = some u → w.cell? (ad.add j) = some u) (h1 : ∀ u ∈ news, u.oneCell' = true)
    (hbytes : (xs.length + m) * bytes ≤ 140737488355328) (h63 : xs.length + m ≤ 9223372036854775807)
    (h : ∀ v' w', Own w' 0 e v' (xs ++ news) → (∀ g, v'.ownBlock = some g → v.ownBlock = some g ∨ w.heap.size ≤ g) → w.grownBy w' v.ownBlock → wpList P ops Q rest (a.put o.dst v') w') : wpList P ops Q (o :: rest) a w := by
  obtain ⟨i0, g1, g2, g3, g4⟩ := info_parts hi
  have h63' : xs.length + m ≤ maxLen := by unfold maxLen; omega
  have fin : ∀ {v' : Value} {w' : World} {base : Nat}, w'.ownsRow base e 1 v' (xs.length + m) (xs ++ news) → Own w' 0 e v' (xs ++ news) := by
    intro v' w' base k1
    unfold Own
    rw [List.length_append, hl]
    obtain ⟨k2, k3⟩ := k1
    refine ⟨k2, ?_⟩
    rcases k3 with k3 | ⟨g, cap, cur, q1, _, q3⟩
    · exact Or.inl k3
    · exact Or.inr ⟨g, cap, cur, q1, Nat.zero_le _, q3⟩
  have hown2 := hown
  obtain ⟨hx1, hcase⟩ := hown2
  rcases hcase with ⟨rfl, hn⟩ | ⟨g, cap, cur, rfl, _, hg, hnc, hcm, hcs, htake⟩
  · have hxs : xs = [] := List.eq_nil_of_length_eq_zero hn
    subst hxs
    refine wpList_append_own w hgd s x t ho w.heap.size e i0 z 1 bytes ht g1 g2 g3 g4 hzs (by omega) _ 0 [] hs (World.ownsRow_nil w w.heap.size e 1) ad m c news hx (by omega) hnews h1 (by simpa using h63') (by simpa using hbytes) (Nat.le_refl _) ?_
    intro v' w' k1 k2 _
    refine h v' w' (fin (by simpa using k1)) (fun g hg => Or.inr ?_) k2
    exact (World.ownsRow.lt k1 g hg).1
  · by_cases hroom : xs.length + m ≤ cap
    · refine wpList_append_own_spare w hgd s x t ho 0 e i0 1 ht g1 g3 g xs.length cap xs hs hown ad m c news hx (by omega) hnews h1 hroom ?_
      intro w' k1 k2
      exact h _ w' (fin k1) (fun g' hg' => Or.inl hg') k2
    · obtain ⟨v', w', hr, k1, k2, _⟩ := run_append_own (P := P) (w := w) 0 t o.type e i0 z 1 bytes ht g1 g2 g3 g4 hzs (by omega) _ xs.length xs hown ad m c news (by omega) hnews h1 h63' hbytes (Nat.zero_le _)
      have holds : ∀ j u, xs[j]? = some u → w.cell? ((⟨g, 0, none⟩ : Addr).add j) = some u := World.ownsRow.cells (g := g) hown rfl
      have hr2 := run_append_grow (P := P) w t o.type e i0 z ht g1 g2 ⟨g, 0, none⟩ xs.length cap xs (by rw [g3]; omega) holds ad m c news (by rw [g3]; omega) hnews (by omega) (by omega) (growslice_fits (by omega) (by rw [g4]; exact hbytes))
      rw [hr] at hr2
      injection hr2 with hv hw
      refine wpList_plain hgd fun _ hK => ?_
      unfold Oper.wp execOp
      simp only [ho, resolve, invoke, builtin, Sem.run_bind, Sem.run_pure, Result.andThen_ok, List.map_toArray, List.map_cons, List.map_nil, hs, hx, hr]
      refine hK _ _ (h v' w' (fin k1) (fun g' hg' => Or.inr ?_) k2)
      rw [hv] at hg'
      simp only [Value.ownBlock, Option.some.injEq] at hg'
      omega
end
section own
variable {w w' : World} {e e' : TypeId} {v v' : Value} {xs ys : List Value}
/-- rows of unlike types lie apart -/
theorem own_ne {b b' : Nat} (h : Own w b e v xs) (h' : Own w b' e' v' ys) (hne : e ≠ e') {g : Nat} (hg : v.ownBlock = some g) : v'.ownBlock ≠ some g := by
  intro hg'
  rcases h.2 with ⟨rfl, _⟩ | ⟨g1, _, _, rfl, _, q1, _⟩
  · cases hg
  · cases hg
    rcases h'.2 with ⟨rfl, _⟩ | ⟨g2, _, _, rfl, _, q2, _⟩
    · cases hg'
    · cases hg'
      rw [q1] at q2
      simp only [Option.some.injEq, Obj.cells.injEq] at q2
      exact hne q2.2.1
theorem own_ne_row {b : Nat} (h : Own w b e v xs) {rb : Nat} {cs : Array Value} {t : TypeId} {fr : Nat × Nat} (hb : w.heap[rb]? = some (.cells cs t fr)) (hne : e ≠ t) : v.ownBlock ≠ some rb := by
  intro hg
  rcases h.2 with ⟨rfl, _⟩ | ⟨g1, _, _, rfl, _, q1, _⟩
  · cases hg
  · cases hg
    rw [q1] at hb
    simp only [Option.some.injEq, Obj.cells.injEq] at hb
    exact hne hb.2.1
theorem own_value {b : Nat} (h : Own w b e v xs) : ∃ p c, v = .slice p xs.length c ∧ xs.length ≤ c := by
  obtain ⟨p, c, hv, hc, _⟩ := h.reads
  exact ⟨p, c, hv, hc⟩
/-- an element is set -/
theorem Own.set {b : Nat} (h : Own w b e v xs) {i : Nat} (hi : i < xs.length) (u : Value) :
    ∃ g c, v = .slice (some ⟨g, 0, none⟩) xs.length c ∧ Own (w.setCell ⟨g, i, none⟩ u) b e v (xs.set i u) ∧ w.frozen? ⟨g, i, none⟩ = false ∧ (∃ x, w.cell? ⟨g, i, none⟩ = some x) ∧ Keeps [g] w (w.setCell ⟨g, i, none⟩ u) := by
  obtain ⟨h1, h2⟩ := h
  rcases h2 with ⟨rfl, h3⟩ | ⟨g, cap, cur, rfl, hg, hh, hc, hm, hs, ht⟩
  · omega
  · refine ⟨g, cap, rfl, ⟨by rw [List.length_set, Nat.mul_one], Or.inr ⟨g, cap, cur.setIfInBounds i u, ?_, hg, heap_setCell hh, ?_, hm, by simpa using hs, ?_⟩⟩, frozen_of i hh, ⟨cur[i]'(by omega), cell_of hh (Array.getElem?_eq_getElem _)⟩, (Keeps.refl _ _).setCell (Or.inl (by simp)) _⟩
    · rw [List.length_set]
    · rw [List.length_set]; exact hc
    · rw [List.length_set, Array.toList_setIfInBounds, List.take_set, ht]
end own
end Go.V
