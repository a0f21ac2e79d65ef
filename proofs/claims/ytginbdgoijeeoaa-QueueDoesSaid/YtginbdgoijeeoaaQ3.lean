/-
  Package queue: items' own Push and Pop.
-/
import Derived.Test.YtginbdgoijeeoaaQ2
namespace Go.V.Queue
open Go Go.V
section
variable {P : Program} {ops : Array Oper} {rest : List Oper} {o : Oper} {a : Act} {Q : Exit → Act → World → Prop} {w : World}
/-- an item appended -/
theorem vp_append_row (hgd : o.guard = none) (s x : Operand) (t : TypeId) (ho : o.op = .call { callee := .builtin .append, args := #[s, x], argTypes := #[t, t] })
    (z : Value) (bytes : Nat) (ht : P.underlying t = some (.slice 52)) (hi : (P.info? 52).map (fun i => (i.zero, i.size, i.bytes)) = some (some z, 3, bytes)) (hzs : z.cells.size = 3)
    (v : Value) (l : List It) (hs : a.eval s = v) (hown : Row w v l)
    (ad : Addr) (c : Nat) (y : It) (hx : a.eval x = .slice (some ad) 1 c) (hnews : ∀ j u, y.cells[j]? = some u → w.cell? (ad.add j) = some u)
    (hbytes : (l.length + 1) * bytes ≤ 140737488355328) (h63 : l.length + 1 ≤ 9223372036854775807)
    (h : ∀ v' w', Row w' v' (l ++ [y]) → (∀ g, v'.ownBlock = some g → v.ownBlock = some g ∨ w.heap.size ≤ g) → w.grownBy w' v.ownBlock → wpList P ops Q rest (a.put o.dst v') w') : wpList P ops Q (o :: rest) a w := by
  obtain ⟨i0, g1, g2, g3, g4⟩ : ∃ i0, P.info? 52 = some i0 ∧ i0.zero = some z ∧ i0.size = 3 ∧ i0.bytes = bytes := by
    cases hq : P.info? 52 with
    | none => rw [hq] at hi; cases hi
    | some i =>
      rw [hq] at hi
      simp only [Option.map_some, Option.some.injEq, Prod.mk.injEq] at hi
      exact ⟨i, rfl, hi.1, hi.2.1, hi.2.2⟩
  have h63' : l.length + 1 ≤ maxLen := by unfold maxLen; omega
  have hyc : y.cells.length = 1 * 3 := rfl
  have h1 : ∀ u ∈ y.cells, u.oneCell' = true := by
    intro u hu
    simp only [It.cells, List.mem_cons, List.not_mem_nil, or_false] at hu
    rcases hu with rfl | rfl | rfl <;> rfl
  have hca : cellsOf (l ++ [y]) = cellsOf l ++ y.cells := by rw [cellsOf_append]; simp [cellsOf]
  have fin : ∀ {v' : Value} {w' : World} {base : Nat}, w'.ownsRow base 52 3 v' (l.length + 1) (cellsOf l ++ y.cells) → Row w' v' (l ++ [y]) := by
    intro v' w' base k1
    unfold Row
    rw [List.length_append, hca]
    obtain ⟨k2, k3⟩ := k1
    refine ⟨k2, ?_⟩
    rcases k3 with k3 | ⟨g, cap, cur, q1, _, q3⟩
    · exact Or.inl k3
    · exact Or.inr ⟨g, cap, cur, q1, Nat.zero_le _, q3⟩
  have hown2 := hown
  obtain ⟨hx1, hcase⟩ := hown2
  rcases hcase with ⟨rfl, hn⟩ | ⟨g, cap, cur, rfl, _, hg, hnc, hcm, hcs, htake⟩
  · have hl0 : l = [] := List.eq_nil_of_length_eq_zero hn
    subst hl0
    refine wpList_append_own w hgd s x t ho w.heap.size 52 i0 z 3 bytes ht g1 g2 g3 g4 hzs (by omega) _ 0 [] hs (World.ownsRow_nil w w.heap.size 52 3) ad 1 c y.cells hx hyc hnews h1 (by simpa using h63') (by simpa using hbytes) (Nat.le_refl _) ?_
    intro v' w' k1 k2 _
    refine h v' w' (fin (by simpa [cellsOf] using k1)) (fun g hg => Or.inr ?_) k2
    exact (World.ownsRow.lt k1 g hg).1
  · by_cases hroom : l.length + 1 ≤ cap
    · refine wpList_append_own_spare w hgd s x t ho 0 52 i0 3 ht g1 g3 g l.length cap (cellsOf l) hs hown ad 1 c y.cells hx hyc hnews h1 hroom ?_
      intro w' k1 k2
      exact h _ w' (fin k1) (fun g' hg' => Or.inl hg') k2
    · obtain ⟨v', w', hr, k1, k2, _⟩ := run_append_own (P := P) (w := w) 0 t o.type 52 i0 z 3 bytes ht g1 g2 g3 g4 hzs (by omega) _ l.length (cellsOf l) hown ad 1 c y.cells hyc hnews h1 h63' hbytes (Nat.zero_le _)
      have holds : ∀ j u, (cellsOf l)[j]? = some u → w.cell? ((⟨g, 0, none⟩ : Addr).add j) = some u := World.ownsRow.cells (g := g) hown rfl
      have hr2 := run_append_grow (P := P) w t o.type 52 i0 z ht g1 g2 ⟨g, 0, none⟩ l.length cap (cellsOf l) (by rw [g3]; exact length_cellsOf l) holds ad 1 c y.cells (by rw [g3]; exact hyc) hnews (by omega) (by omega) (growslice_fits (by omega) (by rw [g4]; exact hbytes))
      rw [hr] at hr2
      injection hr2 with hv hw
      refine wpList_plain hgd fun _ hK => ?_
      unfold Oper.wp execOp
      simp only [ho, resolve, invoke, builtin, Sem.run_bind, Sem.run_pure, Result.andThen_ok, List.map_toArray, List.map_cons, List.map_nil, hs, hx, hr]
      refine hK _ _ (h v' w' (fin k1) (fun g' hg' => Or.inr ?_) k2)
      rw [hv] at hg'
      simp only [Value.ownBlock, Option.some.injEq] at hg'
      omega
end
/-- 's[:k]', s a row of one's own -/
theorem vp_head_at {P : Program} {ops : Array Oper} {rest : List Oper} {o : Oper} {a : Act} {Q : Exit → Act → World → Prop} {w : World} (hgd : o.guard = none) (x hi : Operand) (t : TypeId) (ho : o.op = .slice t x none (some hi) none) (e : TypeId) (ht : P.underlying t = some (.slice e)) (s : Nat) (hsz : (P.info? e).map (·.size) = some s)
    (g n c k : Nat) (hx : a.eval x = .slice (some ⟨g, 0, none⟩) n c) (hk : k ≤ n) (hn : n ≤ c) (_hc : c ≤ 9223372036854775807) (hhi : a.eval hi = .int .i64 k)
    (h : wpList P ops Q rest (a.put o.dst (.slice (some ⟨g, 0, none⟩) k c)) w) : wpList P ops Q (o :: rest) a w := by
  have hel : P.elem t = e := by simp [Program.elem, ht]
  have hsl : sliced (some ⟨g, 0, none⟩) 0 k c s = .slice (some ⟨g, 0, none⟩) k c := by
    simp [sliced, Addr.add]
  have hrun : (Instr.sliceAt t (.slice (some ⟨g, 0, none⟩) n c) none (some (.int .i64 k)) none).run P w = .ok (.slice (some ⟨g, 0, none⟩) k c) w := by
    rw [run_sliceAt_slice w t _ _ _ _ (by rw [hel]; exact ht), run_slice_h (P := P) w t (some ⟨g, 0, none⟩) n c (by rw [hel]; exact ht) .i64 (k : Int) (by omega) (by omega), hel]
    cases hq : P.info? e with
    | none => simp [hq] at hsz
    | some inf =>
      have h2 : inf.size = s := by simpa [hq] using hsz
      simp [sizeOf, typeInfo, hq, Sem.run_bind, Result.andThen, h2, hsl]
  refine wpList_plain hgd fun K' hK' => ?_
  unfold Oper.wp
  simp [execOp, ho, hx, hhi, hrun, Result.andThen]
  exact hK' _ _ h
/-- the last item goes -/
theorem Row.pop {w : World} {g n c : Nat} {l : List It} {y : It} (h : Row w (.slice (some ⟨g, 0, none⟩) n c) (l ++ [y])) : Row w (.slice (some ⟨g, 0, none⟩) l.length c) l := by
  obtain ⟨h1, h2⟩ := h
  refine ⟨length_cellsOf l, ?_⟩
  rcases h2 with ⟨h2, _⟩ | ⟨g', cap, cur, hv, hb, hh, hc, hm, hs, ht⟩
  · cases h2
  · simp only [Value.slice.injEq, Option.some.injEq, Addr.mk.injEq] at hv
    obtain ⟨⟨rfl, _, _⟩, _, rfl⟩ := hv
    rw [List.length_append] at hc ht
    refine Or.inr ⟨g, c, cur, rfl, hb, hh, by omega, hm, hs, ?_⟩
    rw [cellsOf_append] at ht
    have := congrArg (List.take (l.length * 3)) ht
    rw [List.take_take, List.take_append_of_le_length (by rw [length_cellsOf]; omega), List.take_of_length_le (l := cellsOf l) (by rw [length_cellsOf]; omega)] at this
    rwa [Nat.min_eq_left (by simp; omega)] at this
end Go.V.Queue
namespace Go.Proofs.Ytginbdgoijeeoaa
open Go.RowKit Go.V Go.V.Queue
theorem infoz52 : (Try.prog.info? 52).map (fun i => (i.zero, i.size, i.bytes)) = some (some (.agg #[.int .i64 0, .int .i64 0, .int .i64 0]), 3, 24) := by kernel_rfl
def PopPost (qb : Nat) (x : Value) (l : List It) (y : It) (v : Value) (w : World) (e : Ending) (w' : World) : Prop :=
  e = .returned (.iface 52 y.val) ∧ ∃ v', v'.ownBlock = v.ownBlock ∧ QL w' qb v' x l ∧ Keeps [qb] w w'
theorem ipop_ok (qb : Nat) (v x : Value) (l : List It) (y : It) (w : World) (h : QL w qb v x (l ++ [y])) : Calls Try.prog 52 #[.pointer (some ⟨qb, 0, none⟩)] w (PopPost qb x l y v w) := by
  obtain ⟨g, c, cur, rfl, _⟩ := h.2.shape (by simp)
  obtain ⟨p', c', hv', hlc, hc63⟩ := h.2.value
  obtain ⟨n, hn⟩ : ∃ n, n = (l ++ [y]).length := ⟨_, rfl⟩
  obtain ⟨m, hm⟩ : ∃ m, m = l.length := ⟨_, rfl⟩
  have hnm : n = m + 1 := by rw [hn, hm, List.length_append]; rfl
  rw [← hn] at h hv' hlc ⊢
  have hcc : c' = c := by simp only [Value.slice.injEq] at hv'; exact hv'.2.2.symm
  subst hcc
  have H := Lib.hid h
  have hit := h.2.item rfl (i := m) (x := y) (by rw [hm, List.getElem?_append_right (Nat.le_refl _), Nat.sub_self]; rfl)
  obtain ⟨d0, d1, d2⟩ := hit
  have c0 : w.cell? ⟨qb, 0, none⟩ = some (.slice (some ⟨g, 0, none⟩) n c') := cell_of h.1 rfl
  have HN := Lib.hid (And.intro hn (And.intro hm hv'))
  clear h hn hv'
  clear hm
  subst hnm
  have hgq : g ≠ qb := fun e => row_ne H.out.2 H.out.1 (by decide) (by rw [e]; rfl)
  have f0 : w.frozen? ⟨qb, 0, none⟩ = false := frozen_of 0 H.out.1
  go_enter Try.func52, Try.ntmps52
  go_upto_region 3 with fail
  obtain ⟨w1, hw1⟩ : ∃ w1, w1 = w.alloc (.cells #[.int .i64 y.key, .int .i64 y.n, .int .i64 y.push] 52) := ⟨_, rfl⟩
  have hk1 : Keeps [] w w1 := by rw [hw1]; exact (Keeps.refl _ _).alloc _
  have hq1 := H.out.keep hk1 (by simp) (by simp)
  have hx1 : w1.heap[w.heap.size]? = some (.cells #[.int .i64 y.key, .int .i64 y.n, .int .i64 y.push] 52 (0, 0)) := by rw [hw1]; exact heap_alloc w _
  have c1 : w1.cell? ⟨qb, 0, none⟩ = some (.slice (some ⟨g, 0, none⟩) (m + 1) c') := cell_of hq1.1 rfl
  have f1 : w1.frozen? ⟨qb, 0, none⟩ = false := frozen_of 0 hq1.1
  have hqlt := lt_of_heap H.out.1
  have hx2 : (w1.setCell ⟨qb, 0, none⟩ (.slice (some ⟨g, 0, none⟩) m c')).heap[w.heap.size]? = some (.cells #[.int .i64 y.key, .int .i64 y.n, .int .i64 y.push] 52 (0, 0)) := heap_setCell_ne hx1 (by show w.heap.size ≠ qb; omega)
  obtain ⟨xb, hxb⟩ : ∃ xb, xb = w.heap.size := ⟨_, rfl⟩
  rw [← hw1, ← hxb]
  rw [← hxb] at hx2 hx1
  have e0 : (w1.setCell ⟨qb, 0, none⟩ (.slice (some ⟨g, 0, none⟩) m c')).cell? ⟨xb, 0, none⟩ = some (.int .i64 y.key) := cell_of hx2 rfl
  have e1 : (w1.setCell ⟨qb, 0, none⟩ (.slice (some ⟨g, 0, none⟩) m c')).cell? ⟨xb, 1, none⟩ = some (.int .i64 y.n) := cell_of hx2 rfl
  have e2 : (w1.setCell ⟨qb, 0, none⟩ (.slice (some ⟨g, 0, none⟩) m c')).cell? ⟨xb, 2, none⟩ = some (.int .i64 y.push) := cell_of hx2 rfl
  have HQ1 := Lib.hid (And.intro hq1 hk1)
  clear hw1 hk1 hq1 hx1 hx2 hqlt hxb c0 d0 d1 d2 f0
  go_wp2_with (first | (refine vp_head_at rfl (.tmp 19) (.tmp 20) 46 rfl 52 Try.underlying46 3 info52 g (m + 1) c' m rfl (by omega) (by omega) hc63 rfl ?_) | fail)
  go_ret
  obtain ⟨hq1, hk1⟩ := HQ1.out
  have hks : Keeps [qb] w1 (w1.setCell ⟨qb, 0, none⟩ (.slice (some ⟨g, 0, none⟩) m c')) := (Keeps.refl _ _).setCell (Or.inl (by simp)) _
  have hpop := hq1.2.pop
  rw [← HN.out.2.1] at hpop
  refine ⟨rfl, .slice (some ⟨g, 0, none⟩) m c', rfl, ⟨heap_setCell hq1.1, hpop.keep hks ?_⟩, (hk1.mono (by simp)).trans hks⟩
  intro y hy
  obtain rfl := List.mem_singleton.1 hy
  exact fun e => hgq (by simpa [Value.ownBlock] using e)
def PushPost (qb : Nat) (x : Value) (l : List It) (v : Value) (w : World) (e : Ending) (w' : World) : Prop :=
  e = .returned (.tuple #[]) ∧ ∃ v', (∀ g, v'.ownBlock = some g → v.ownBlock = some g ∨ w.heap.size ≤ g) ∧ QL w' qb v' x l ∧ Keeps (qb :: v.ownBlock.toList) w w'
theorem ipush_ok (qb : Nat) (v x : Value) (l : List It) (y : It) (w : World) (h : QL w qb v x l) (hl : l.length ≤ 1000000) : Calls Try.prog 53 #[.pointer (some ⟨qb, 0, none⟩), .iface 52 y.val] w (PushPost qb x (l ++ [y]) v w) := by
  obtain ⟨p, c, rfl, hlc, hc63⟩ := h.2.value
  have H := Lib.hid h
  have c0 : w.drew.cell? ⟨qb, 0, none⟩ = some (.slice p l.length c) := cell_of h.1 rfl
  clear h
  unfold It.val
  go_enter Try.func53, Try.ntmps53
  go_upto_region 0 with fail
  refine vp_region_fork (fun _ => True) [0, 1, 2, 4, 5] 3 6 [(6, false), (7, false), (8, true), (9, false)] [(3, false), (7, false), (8, true), (9, false)] (by kernel_rfl) (by kernel_rfl) (by intro _ d _ _ _ h; cases d <;> exact h) trivial ?_
  intro w6 hw6
  simp only [pick, List.map_cons, List.map_nil, List.getD_cons_zero, List.getD_cons_succ]
  repeat
    refine pre_free rfl (v := ?_) ?_ ?_
    rotate_left
    · intro w' hw'
      go_simp
      with_reducible rfl
    simp only [Act.put, List.setIfInBounds_toArray, List.set_cons_zero, List.set_cons_succ]
  subst hw6
  refine pre_free rfl (v := .agg #[.int .i64 y.key, .int .i64 y.n, .int .i64 y.push]) ?_ ?_
  · intro w' _
    kernel_rfl
  simp only [Act.put, List.setIfInBounds_toArray, List.set_cons_zero, List.set_cons_succ]
  refine pre_nil ?_
  obtain ⟨wa, hwa⟩ : ∃ wa, wa = (w.alloc (.cells #[.int .i64 y.key, .int .i64 y.n, .int .i64 y.push] 52)).drew := ⟨_, rfl⟩
  have hka : Keeps [] w wa := by
    have := ((Keeps.refl [] w).alloc (.cells #[.int .i64 y.key, .int .i64 y.n, .int .i64 y.push] 52)).drew
    rw [hwa]; exact this
  have hqa := H.out.keep hka (by simp) (by simp)
  have hya : wa.heap[w.heap.size]? = some (.cells #[.int .i64 y.key, .int .i64 y.n, .int .i64 y.push] 52 (0, 0)) := by rw [hwa]; exact heap_alloc w _
  have c0' : (w.alloc (.cells #[.int .i64 y.key, .int .i64 y.n, .int .i64 y.push] 52)).drew.cell? ⟨qb, 0, none⟩ = some (.slice p l.length c) := by rw [← hwa]; exact cell_of hqa.1 rfl
  have HA := Lib.hid (And.intro hka (And.intro hqa hya))
  have HWA := Lib.hid hwa
  clear hka hqa hya hwa
  have hnews : ∀ j u, y.cells[j]? = some u → wa.cell? ((⟨w.heap.size, 0, none⟩ : Addr).add j) = some u := by
    intro j u hj
    rw [add_none, Nat.zero_add]
    exact cell_of HA.out.2.2 (by simpa [It.cells] using hj)
  have HNW := Lib.hid hnews
  clear hnews
  refine fork_mk ?_ ?_
  all_goals
    go_wp2_with fail
    refine ⟨trivial, ?_⟩
    refine ord_eff ?_
    go_wp2_with fail
    refine ⟨trivial, ?_⟩
    refine ord_eff ?_
    rw [← HWA.out]
    refine vp_append_row rfl (.tmp 7) (.tmp 10) 46 rfl (.agg #[.int .i64 0, .int .i64 0, .int .i64 0]) 24 Try.underlying46 infoz52 rfl (.slice p l.length c) l rfl HA.out.2.1.2 ⟨w.heap.size, 0, none⟩ 1 y rfl HNW.out (by omega) (by omega) ?_
    intro v' w2 k1 k2 k3
    refine ord_next trivial ?_
    have hk2 : Keeps (Value.ownBlock (.slice p l.length c)).toList wa w2 := keeps_grown k3 (fun k hk => by rw [hk]; simp)
    have hne : qb ∉ (Value.ownBlock (.slice p l.length c)).toList := fun q => row_ne HA.out.2.1.2 HA.out.2.1.1 (by decide) (by simpa using q)
    have hh2 := hk2.get HA.out.2.1.1 hne
    have f2 : w2.frozen? ⟨qb, 0, none⟩ = false := frozen_of 0 hh2
    have c2 : w2.cell? ⟨qb, 0, none⟩ = some (.slice p l.length c) := cell_of hh2 rfl
    obtain ⟨p', c', hv', _, _⟩ := k1.value
    have hlen : (l ++ [y]).length = l.length + 1 := by simp
    rw [hlen] at hv'
    subst hv'
    clear hlen
    have HP := Lib.hid (And.intro k1 (And.intro k2 (And.intro hk2 hh2)))
    clear k1 k2 k3 hk2 hne hh2
    simp only [Act.put, List.setIfInBounds_toArray, List.set_cons_zero, List.set_cons_succ]
    refine ord_free rfl (v := ?_) ?_ ?_
    rotate_left
    · intro w' hw'
      go_simp
      with_reducible rfl
    simp only [Act.put, List.setIfInBounds_toArray, List.set_cons_zero, List.set_cons_succ]
    refine ord_eff ?_
    go_wp2_with fail
    refine ⟨trivial, ?_⟩
    refine ord_nil ?_
    go_wp2
    go_end0
    obtain ⟨k1, k2, hk2, hh2⟩ := HP.out
    have hks : Keeps [qb] w2 (w2.setCell ⟨qb, 0, none⟩ (.slice p' (l.length + 1) c')) := (Keeps.refl _ _).setCell (Or.inl (by simp)) _
    refine ⟨rfl, .slice p' (l.length + 1) c', fun g hg => (k2 g hg).elim Or.inl (fun q => Or.inr (Nat.le_trans HA.out.1.size q)), ⟨heap_setCell hh2, k1.keep hks ?_⟩, ?_⟩
    · intro z hz
      obtain rfl := List.mem_singleton.1 hz
      exact row_ne k1 hh2 (by decide)
    · exact ((HA.out.1.mono (T := qb :: (Value.ownBlock (.slice p l.length c)).toList) (by simp)).trans (hk2.mono (by intro z hz; exact List.mem_cons_of_mem _ hz))).trans (hks.mono (by simp))
end Go.Proofs.Ytginbdgoijeeoaa
