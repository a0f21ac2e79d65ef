/-
  Package queue: slices.ContainsFunc, slices.DeleteFunc with the closures.
-/
import Derived.Test.YtginbdgoijeeoaaQ5
namespace Go.V.Queue
open Go Go.V
theorem zeros3 (n : Nat) : (Builtin.zeroCells (Value.agg #[.int .i64 0, .int .i64 0, .int .i64 0]).cells n).toList.length = n * 3 ∧ ∀ v ∈ (Builtin.zeroCells (Value.agg #[.int .i64 0, .int .i64 0, .int .i64 0]).cells n).toList, v.oneCell' = true := by
  refine ⟨by rw [Array.length_toList, size_zeroCells]; rfl, fun v hv => ?_⟩
  have hs : (Value.agg #[.int .i64 0, .int .i64 0, .int .i64 0]).cells = #[.int .i64 0, .int .i64 0, .int .i64 0] := rfl
  rw [hs] at hv
  simp only [Builtin.zeroCells, Array.toList_map, List.mem_map] at hv
  obtain ⟨i, _, rfl⟩ := hv
  have h3 : i % 3 = 0 ∨ i % 3 = 1 ∨ i % 3 = 2 := by omega
  show ((#[Value.int .i64 0, .int .i64 0, .int .i64 0] : Array Value)[i % 3]!).oneCell' = true
  rcases h3 with h | h | h <;> rw [h] <;> rfl
/-- 'clear(s[k:])': what lies ahead of k stays -/
theorem vp_clear_row {P : Program} {ops : Array Oper} {rest : List Oper} {o : Oper} {a : Act} {Q : Exit → Act → World → Prop} {w : World} (hgd : o.guard = none) (x : Operand) (t : TypeId) (ho : o.op = .call { callee := .builtin .clear, args := #[x], argTypes := #[t] }) (ht : P.underlying t = some (.slice 52))
    (hz : (zeroValue 52).run P w = .ok (.agg #[.int .i64 0, .int .i64 0, .int .i64 0]) w) {g k m c : Nat} {l : List It} (hrow : Row w (.slice (some ⟨g, 0, none⟩) m c) l) (hm : m = l.length) (hk : k < m) (c' : Nat) (hx : a.eval x = .slice (some ⟨g, k * 3, none⟩) (m - k) c')
    (h : ∀ w', Row w' (.slice (some ⟨g, 0, none⟩) k c) (l.take k) → Keeps [g] w w' → wpList P ops Q rest (a.put o.dst (.tuple #[])) w') : wpList P ops Q (o :: rest) a w := by
  obtain ⟨h1, h2⟩ := hrow
  rcases h2 with ⟨h2, _⟩ | ⟨g', cap, cur, hv, hb, hh, hc, hcm, hs, htk⟩
  · cases h2
  simp only [Value.slice.injEq, Option.some.injEq, Addr.mk.injEq] at hv
  obtain ⟨⟨rfl, _, _⟩, _, rfl⟩ := hv
  obtain ⟨z1, z2⟩ := zeros3 (m - k)
  obtain ⟨zs, hzs⟩ : ∃ zs, zs = (Builtin.zeroCells (Value.agg #[.int .i64 0, .int .i64 0, .int .i64 0]).cells (m - k)).toList := ⟨_, rfl⟩
  rw [← hzs] at z1 z2
  have hst := run_storeCells_at (P := P) g (k * 3) 52 zs 0 cur w hh (by omega) z2
  simp only [Nat.add_zero] at hst
  have hlen : (cur.toList.take (k * 3) ++ zs ++ cur.toList.drop (k * 3 + zs.length)).length = c * 3 := by
    simp only [List.length_append, List.length_take, List.length_drop, Array.length_toList]
    omega
  obtain ⟨W', hW'⟩ : ∃ W', W' = w.setRow g (cur.toList.take (k * 3) ++ zs ++ cur.toList.drop (k * 3 + zs.length)).toArray := ⟨_, rfl⟩
  rw [← hW'] at hst
  have hrun : (Builtin.clear_ #[t] o.type #[.slice (some ⟨g, k * 3, none⟩) (m - k) c']).run P w = .ok (.tuple #[]) W' := by
    obtain ⟨q, hq⟩ : ∃ q, m - k = q + 1 := ⟨m - k - 1, by omega⟩
    rw [hq] at hzs ⊢
    rw [hzs] at hst
    have hst2 : (storeCells ⟨g, k * 3, none⟩ (Builtin.zeroCells #[.int .i64 0, .int .i64 0, .int .i64 0] (q + 1)).toList).run P w = .ok () W' := hst
    simp [Builtin.clear_, run_underlying ht, Sem.run_bind, Result.andThen, hz, hst2, Value.cells]
  have hR : Row (w.setRow g (cur.toList.take (k * 3) ++ zs ++ cur.toList.drop (k * 3 + zs.length)).toArray) (.slice (some ⟨g, 0, none⟩) k c) (l.take k) := by
    have hlk : (l.take k).length = k := by rw [List.length_take]; omega
    refine ⟨length_cellsOf _, Or.inr ⟨g, c, _, by rw [hlk], hb, heap_setRow hh, by rw [hlk]; omega, hcm, by rw [List.size_toArray, hlen], ?_⟩⟩
    rw [hlk]
    have e1 : l = l.take k ++ l.drop k := (List.take_append_drop k l).symm
    have e2 : (cellsOf l).take (k * 3) = cellsOf (l.take k) := by
      conv => lhs; rw [e1, cellsOf_append]
      rw [List.take_append_of_le_length (by rw [length_cellsOf, hlk]; exact Nat.le_refl _), List.take_of_length_le (by rw [length_cellsOf, hlk]; exact Nat.le_refl _)]
    rw [← e2, ← htk, List.take_take, Nat.min_eq_left (by omega)]
    show List.take (k * 3) (List.take (k * 3) cur.toList ++ zs ++ List.drop (k * 3 + zs.length) cur.toList) = _
    rw [List.append_assoc, List.take_append_of_le_length (by rw [List.length_take, Array.length_toList]; omega), List.take_take, Nat.min_self]
  have h := h _ hR ((Keeps.refl _ _).setRow (Or.inl (by simp)) _)
  rw [← hW'] at h
  refine wpList_plain hgd fun K' hK' => ?_
  unfold Oper.wp
  simp [execOp, ho, resolve, invoke, builtin, hx, hrun, Result.andThen]
  exact hK' _ _ h
/-- 's[k:]', s a row of one's own of elements of three cells -/
theorem vp_tail_at {P : Program} {ops : Array Oper} {rest : List Oper} {o : Oper} {a : Act} {Q : Exit → Act → World → Prop} {w : World} (hgd : o.guard = none) (x lo : Operand) (t : TypeId) (ho : o.op = .slice t x (some lo) none none) (e : TypeId) (ht : P.underlying t = some (.slice e)) (hsz : (P.info? e).map (·.size) = some 3)
    (g n c k : Nat) (hx : a.eval x = .slice (some ⟨g, 0, none⟩) n c) (hk : k < n) (hn : n ≤ c) (_hc : c ≤ 9223372036854775807) (hlo : a.eval lo = .int .i64 k)
    (h : wpList P ops Q rest (a.put o.dst (.slice (some ⟨g, k * 3, none⟩) (n - k) (c - k))) w) : wpList P ops Q (o :: rest) a w := by
  have hel : P.elem t = e := by simp [Program.elem, ht]
  have hsl : sliced (some ⟨g, 0, none⟩) k n c 3 = .slice (some ⟨g, k * 3, none⟩) (n - k) (c - k) := by
    unfold sliced
    rw [if_neg (by omega)]
    simp only [Option.map_some, add_none, Nat.zero_add]
  have hrun : (Instr.sliceAt t (.slice (some ⟨g, 0, none⟩) n c) (some (.int .i64 k)) none none).run P w = .ok (.slice (some ⟨g, k * 3, none⟩) (n - k) (c - k)) w := by
    rw [run_sliceAt_slice w t _ _ _ _ (by rw [hel]; exact ht), run_slice_l (P := P) w t (some ⟨g, 0, none⟩) n c (by rw [hel]; exact ht) .i64 (k : Int) (by omega) (by omega), hel]
    cases hq : P.info? e with
    | none => simp [hq] at hsz
    | some inf =>
      have h2 : inf.size = 3 := by simpa [hq] using hsz
      simp [sizeOf, typeInfo, hq, Sem.run_bind, Result.andThen, h2, hsl]
  refine wpList_plain hgd fun K' hK' => ?_
  unfold Oper.wp
  simp [execOp, ho, hx, hlo, hrun, Result.andThen]
  exact hK' _ _ h
end Go.V.Queue
namespace Go.Proofs.Ytginbdgoijeeoaa
open Go.RowKit Go.V Go.V.Queue
theorem index29_ok (v : Value) (l : List It) (ca cb : Nat) (n : Int) (w : World) (h : Row w v l) (hc : Cap w ca cb n) : Calls Try.prog 32 #[v, .func (.func 29) #[] #[P ca, P cb]] w (IPost (idxL n l 0) w) := by
  obtain ⟨p, c, rfl, hlc, hc63⟩ := h.value
  obtain ⟨RES, hR⟩ : ∃ RES, RES = idxL n l 0 := ⟨_, rfl⟩
  obtain ⟨m, hm⟩ : ∃ m, m = l.length := ⟨_, rfl⟩
  rw [← hR]
  rw [← hm] at h hlc ⊢
  have H := Lib.hid (And.intro h hc)
  have HR := Lib.hid hR
  have HM := Lib.hid hm
  clear h hR hm hc
  go_enter Try.func32, Try.ntmps32
  go_wp2_with fail
  go_loopg [8] m (fun k vi wx => FI (.slice p m c) l n RES w k vi wx)
  case atStart => exact ⟨0, rfl, Nat.zero_le _, by rw [← HM.out]; omega, by rw [List.drop_zero]; exact HR.out.symm, Keeps.refl _ _⟩
  case round =>
    obtain ⟨i, rfl, hi, hik, hres, hk⟩ := hrel
    rw [← HM.out] at hi hik
    have HX := Lib.hid (And.intro hres hk)
    clear hres hk
    by_cases hlt : i < m
    · have hrow := H.out.1.keep HX.out.2 (by simp)
      obtain ⟨g, cap, cur, hv, _⟩ := hrow.shape (by rw [← HM.out]; omega)
      rw [← HM.out] at hv
      simp only [Value.slice.injEq] at hv
      obtain ⟨rfl, _, rfl⟩ := hv
      obtain ⟨d0, d1, d2⟩ := hrow.item rfl (at_get (l := l) (i := i) (by rw [← HM.out]; exact hlt))
      have HC := Lib.hid (clos29_ok (at_ l i) ca cb n wr (H.out.2.keep HX.out.2 (by simp) (by simp)))
      have hfr := HX.out.1
      rw [idxL_from l i (by rw [← HM.out]; exact hlt)] at hfr
      have HF := Lib.hid hfr
      clear hrow hfr
      go_wp2_with fail
      refine HC.out.mono ?_
      rintro e w2 ⟨rfl, hk2⟩
      have HK2 := Lib.hid (HX.out.2.trans hk2)
      clear hk2 d0 d1 d2
      by_cases hn : (at_ l i).n = n
      · have hb : ((at_ l i).n == n) = true := by simp [hn]
        rw [hb]
        go_wp2
        go_ret
        have hf := HF.out
        rw [if_pos hn] at hf
        rw [← hf]
        exact ⟨rfl, HK2.out⟩
      · have hb : ((at_ l i).n == n) = false := by simp [hn]
        rw [hb]
        go_wp2
        go_roundg (gk - 1)
        case measure => omega
        case rel =>
          have hf := HF.out
          rw [if_neg hn] at hf
          exact ⟨i + 1, by push_cast; rfl, by rw [← HM.out]; omega, by rw [← HM.out]; omega, hf, HK2.out⟩
    · go_wp2
      go_ret
      have hf := HX.out.1
      rw [List.drop_of_length_le (by rw [← HM.out]; omega)] at hf
      rw [← hf]
      exact ⟨rfl, HX.out.2⟩
theorem contains29_ok (v : Value) (l : List It) (ca cb : Nat) (n : Int) (w : World) (h : Row w v l) (hc : Cap w ca cb n) : Calls Try.prog 28 #[v, .func (.func 29) #[] #[P ca, P cb]] w (BPost (decide (0 ≤ idxV (idxL n l 0))) w) := by
  have HI := Lib.hid (index29_ok v l ca cb n w h hc)
  clear h hc
  obtain ⟨r, hr⟩ : ∃ r, r = idxV (idxL n l 0) := ⟨_, rfl⟩
  have HR := Lib.hid hr
  go_enter Try.func28, Try.ntmps28
  go_wp2_with fail
  refine HI.out.mono ?_
  rintro e w1 ⟨rfl, hk⟩
  rw [← hr]
  clear hr
  go_wp2
  go_ret
  rw [← HR.out]
  exact ⟨rfl, hk⟩
end Go.Proofs.Ytginbdgoijeeoaa
