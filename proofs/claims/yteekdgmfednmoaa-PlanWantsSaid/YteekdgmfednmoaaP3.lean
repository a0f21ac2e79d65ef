/-
  Package plan: items' own Pop.
-/
import Derived.Test.YteekdgmfednmoaaP2
namespace Go.V.Queue
open Go Go.V
/-- 's[:k]', s a row of one's own -/
theorem vp_head_at {P : Program} {ops : Array Oper} {rest : List Oper} {o : Oper} {a : Act} {Q : Exit → Act → World → Prop} {w : World} (hgd : o.guard = none) (x hi : Operand) (t : TypeId) (ho : o.op = .slice t x none (some hi) none) (e : TypeId) (ht : P.underlying t = some (.slice e)) (s : Nat) (hsz : (P.info? e).map (·.size) = some s)
    (g n c k : Nat) (hx : a.eval x = .slice (some ⟨g, 0, none⟩) n c) (hk : k ≤ n) (hn : n ≤ c) (_hc : c ≤ 9223372036854775807) (hhi : a.eval hi = .int .i64 k)
    (h : wpList P ops Q rest (a.put o.dst (.slice (some ⟨g, 0, none⟩) k c)) w) : wpList P ops Q (o :: rest) a w := by
  have hel : P.elem t = e := by simp [Program.elem, ht]
  have hsl : sliced (some ⟨g, 0, none⟩) 0 k c s = .slice (some ⟨g, 0, none⟩) k c := by
    simp [sliced, Addr.add]
  have hrun : (Instr.sliceAt t (.slice (some ⟨g, 0, none⟩) n c) none (some (.int .i64 k)) none).run P w = .ok (.slice (some ⟨g, 0, none⟩) k c) w := by
    rw [run_sliceAt_slice w t _ _ _ _ (by rw [hel]; exact ht), run_slice_h (P := P) w t (some ⟨g, 0, none⟩) n c (by rw [hel]; exact ht) .i64 (k : Int) (by omega) (by omega), hel]
    cases hq : P.info? e with
    | none => simp [hq] at hsz
    | some inf =>
      have h2 : inf.size = s := by simpa [hq] using hsz
      simp [sizeOf, typeInfo, hq, Sem.run_bind, Result.andThen, h2, hsl]
  refine wpList_plain hgd fun K' hK' => ?_
  unfold Oper.wp
  simp [execOp, ho, hx, hhi, hrun, Result.andThen]
  exact hK' _ _ h
/-- the last item goes -/
theorem Row.pop {w : World} {g n c : Nat} {l : List It} {y : It} (h : Row w (.slice (some ⟨g, 0, none⟩) n c) (l ++ [y])) : Row w (.slice (some ⟨g, 0, none⟩) l.length c) l := by
  obtain ⟨h1, h2⟩ := h
  refine ⟨length_cellsOf l, ?_⟩
  rcases h2 with ⟨h2, _⟩ | ⟨g', cap, cur, hv, hb, hh, hc, hm, hs, ht⟩
  · cases h2
  · simp only [Value.slice.injEq, Option.some.injEq, Addr.mk.injEq] at hv
    obtain ⟨⟨rfl, _, _⟩, _, rfl⟩ := hv
    rw [List.length_append] at hc ht
    refine Or.inr ⟨g, c, cur, rfl, hb, hh, by omega, hm, hs, ?_⟩
    rw [cellsOf_append] at ht
    have := congrArg (List.take (l.length * 3)) ht
    rw [List.take_take, List.take_append_of_le_length (by rw [length_cellsOf]; omega), List.take_of_length_le (l := cellsOf l) (by rw [length_cellsOf]; omega)] at this
    rwa [Nat.min_eq_left (by simp; omega)] at this
end Go.V.Queue
namespace Go.Proofs.Yteekdgmfednmoaa
open Go.RowKit Go.V Go.V.Queue
def PopPost (qb : Nat) (x : Value) (l : List It) (y : It) (v : Value) (w : World) (e : Ending) (w' : World) : Prop :=
  e = .returned (.iface 39 y.val) ∧ ∃ v', v'.ownBlock = v.ownBlock ∧ QL w' qb v' x l ∧ Keeps [qb] w w'
theorem ipop_ok (qb : Nat) (v x : Value) (l : List It) (y : It) (w : World) (h : QL w qb v x (l ++ [y])) : Calls Try.prog 45 #[.pointer (some ⟨qb, 0, none⟩)] w (PopPost qb x l y v w) := by
  obtain ⟨g, c, cur, rfl, _⟩ := h.2.shape (by simp)
  obtain ⟨p', c', hv', hlc, hc63⟩ := h.2.value
  obtain ⟨n, hn⟩ : ∃ n, n = (l ++ [y]).length := ⟨_, rfl⟩
  obtain ⟨m, hm⟩ : ∃ m, m = l.length := ⟨_, rfl⟩
  have hnm : n = m + 1 := by rw [hn, hm, List.length_append]; rfl
  rw [← hn] at h hv' hlc ⊢
  have hcc : c' = c := by simp only [Value.slice.injEq] at hv'; exact hv'.2.2.symm
  subst hcc
  have H := Lib.hid h
  have hit := h.2.item rfl (i := m) (x := y) (by rw [hm, List.getElem?_append_right (Nat.le_refl _), Nat.sub_self]; rfl)
  obtain ⟨d0, d1, d2⟩ := hit
  have c0 : w.cell? ⟨qb, 0, none⟩ = some (.slice (some ⟨g, 0, none⟩) n c') := cell_of h.1 rfl
  have HN := Lib.hid (And.intro hn (And.intro hm hv'))
  clear h hn hv'
  clear hm
  subst hnm
  have hgq : g ≠ qb := fun e => row_ne H.out.2 H.out.1 (by decide) (by rw [e]; rfl)
  have f0 : w.frozen? ⟨qb, 0, none⟩ = false := frozen_of 0 H.out.1
  go_enter Try.func45, Try.ntmps45
  go_upto_region 3 with fail
  obtain ⟨w1, hw1⟩ : ∃ w1, w1 = w.alloc (.cells #[.int .i64 y.key, .int .i64 y.push, .bool y.n] 39) := ⟨_, rfl⟩
  have hk1 : Keeps [] w w1 := by rw [hw1]; exact (Keeps.refl _ _).alloc _
  have hq1 := H.out.keep hk1 (by simp) (by simp)
  have hx1 : w1.heap[w.heap.size]? = some (.cells #[.int .i64 y.key, .int .i64 y.push, .bool y.n] 39 (0, 0)) := by rw [hw1]; exact heap_alloc w _
  have c1 : w1.cell? ⟨qb, 0, none⟩ = some (.slice (some ⟨g, 0, none⟩) (m + 1) c') := cell_of hq1.1 rfl
  have f1 : w1.frozen? ⟨qb, 0, none⟩ = false := frozen_of 0 hq1.1
  have hqlt := lt_of_heap H.out.1
  have hx2 : (w1.setCell ⟨qb, 0, none⟩ (.slice (some ⟨g, 0, none⟩) m c')).heap[w.heap.size]? = some (.cells #[.int .i64 y.key, .int .i64 y.push, .bool y.n] 39 (0, 0)) := heap_setCell_ne hx1 (by show w.heap.size ≠ qb; omega)
  obtain ⟨xb, hxb⟩ : ∃ xb, xb = w.heap.size := ⟨_, rfl⟩
  rw [← hw1, ← hxb]
  rw [← hxb] at hx2 hx1
  have e0 : (w1.setCell ⟨qb, 0, none⟩ (.slice (some ⟨g, 0, none⟩) m c')).cell? ⟨xb, 0, none⟩ = some (.int .i64 y.key) := cell_of hx2 rfl
  have e1 : (w1.setCell ⟨qb, 0, none⟩ (.slice (some ⟨g, 0, none⟩) m c')).cell? ⟨xb, 1, none⟩ = some (.int .i64 y.push) := cell_of hx2 rfl
  have e2 : (w1.setCell ⟨qb, 0, none⟩ (.slice (some ⟨g, 0, none⟩) m c')).cell? ⟨xb, 2, none⟩ = some (.bool y.n) := cell_of hx2 rfl
  have HQ1 := Lib.hid (And.intro hq1 hk1)
  clear hw1 hk1 hq1 hx1 hx2 hqlt hxb c0 d0 d1 d2 f0
  go_wp2_with (first | (refine vp_head_at rfl (.tmp 19) (.tmp 20) 43 rfl 39 Try.underlying43 3 info39 g (m + 1) c' m rfl (by omega) (by omega) hc63 rfl ?_) | fail)
  go_ret
  obtain ⟨hq1, hk1⟩ := HQ1.out
  have hks : Keeps [qb] w1 (w1.setCell ⟨qb, 0, none⟩ (.slice (some ⟨g, 0, none⟩) m c')) := (Keeps.refl _ _).setCell (Or.inl (by simp)) _
  have hpop := hq1.2.pop
  rw [← HN.out.2.1] at hpop
  refine ⟨rfl, .slice (some ⟨g, 0, none⟩) m c', rfl, ⟨heap_setCell hq1.1, hpop.keep hks ?_⟩, (hk1.mono (by simp)).trans hks⟩
  intro y hy
  obtain rfl := List.mem_singleton.1 hy
  exact fun e => hgq (by simpa [Value.ownBlock] using e)
end Go.Proofs.Yteekdgmfednmoaa
