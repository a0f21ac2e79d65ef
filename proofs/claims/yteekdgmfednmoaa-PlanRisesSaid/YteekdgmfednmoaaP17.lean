/-
  PlanRises' walk.
-/
import Derived.Test.YteekdgmfednmoaaP13
import Derived.Test.YteekdgmfednmoaaV9
namespace Go.V.Queue
open Go Go.V
theorem ordP_next {l o : List It} (h : OrdP l o) {i : Nat} {x y : It} (hx : o[i]? = some x) (hy : o[i + 1]? = some y) : ltW x y := by
  have := List.pairwise_iff_getElem.1 h.srt i (i + 1) (List.getElem?_eq_some_iff.1 hx).1 (List.getElem?_eq_some_iff.1 hy).1 (by omega)
  rw [(List.getElem?_eq_some_iff.1 hx).2, (List.getElem?_eq_some_iff.1 hy).2] at this
  exact this
theorem ordP_fresh {l o : List It} (h : OrdP l o) {i : Nat} {x : It} (hx : o[i]? = some x) : hasB (o.take i) x.push = false := by
  cases hb : hasB (o.take i) x.push with
  | false => rfl
  | true =>
    obtain ⟨y, hy, e⟩ := hasB_iff.1 hb
    obtain ⟨j, hj, rfl⟩ := List.getElem_of_mem hy
    rw [List.length_take] at hj
    rw [List.getElem_take] at e
    have := List.pairwise_iff_getElem.1 h.dist j i (by omega) (List.getElem?_eq_some_iff.1 hx).1 (by omega)
    rw [(List.getElem?_eq_some_iff.1 hx).2] at this
    exact absurd e this
end Go.V.Queue
namespace Go.Proofs.Yteekdgmfednmoaa
open Go.RowKit Go.V Go.V.Queue
def R1 (w : World) (l : List It) (m : Nat) (vb vi : Value) (wx : World) : Prop := ∃ i : Nat, vi = .int .i64 i ∧ i + m = l.length ∧ Made F3 39 w vb (l.take i).reverse wx
def R2 (w : World) (mb : Nat) (va : Value) (o : List It) (m : Nat) (vi : Value) (wx : World) : Prop := ∃ i : Nat, vi = .int .i64 i ∧ i + m = o.length ∧ RowG F3 39 wx va o ∧ FM wx mb (hasB (o.take i)) ∧ Keeps [] w wx ∧ w.heap.size ≤ mb
set_option maxRecDepth 100000 in
set_option maxHeartbeats 4000000 in
theorem rises_any (A : Value) (l : List It) (w : World) (hA : SG F3 w A l) : Calls Try.prog 5 #[A] w (BPost true w) := by
  have hA2 := hA
  obtain ⟨pa, ca, rfl, hca, hca2, _⟩ := hA2
  obtain ⟨N, hN⟩ : ∃ N, N = l.length := ⟨_, rfl⟩
  rw [← hN] at hca hA ⊢
  have HA := Lib.hid hA
  have HN := Lib.hid hN
  clear hA hN
  go_enter Try.func5, Try.ntmps5
  go_wp2_with fail
  refine (awake_ok _).mono ?_
  rintro e w1 ⟨rfl, hk1⟩
  by_cases h1 : N ≤ 100
  · have HK1 := Lib.hid hk1
    have HO := Lib.hid (order_ok _ l w1 (HA.out.keep hk1 (by simp)) (by rw [← HN.out]; omega))
    clear hk1
    go_wp2_with fail
    refine HO.out.mono ?_
    rintro e w2 ⟨va, o, rfl, a1, a2, a3⟩
    obtain ⟨po, co, hvo, _, _⟩ := a3.1.value
    obtain ⟨M, hM⟩ : ∃ M, M = o.length := ⟨_, rfl⟩
    rw [← hM] at hvo
    subst hvo
    have hMN : M ≤ N := by rw [hM, HN.out]; exact a2
    have HM := Lib.hid hM
    have HP := Lib.hid a1
    have H2 := Lib.hid (And.intro a3.1 (HK1.out.trans a3.2.2))
    have HE := Lib.hid (Made.empty F3 39 w2)
    clear a1 a2 a3 hM HO HK1
    go_upto_block 0 with fail
    go_cut [4] (fun vb wx => Made F3 39 w2 vb l.reverse wx)
    case first =>
      go_wp2_with fail
      go_loopg [4, 19] N (fun m vb vi wx => R1 w2 l m vb vi wx)
      case atStart => exact ⟨0, rfl, by rw [← HN.out, Nat.zero_add], HE.out⟩
      case round =>
        obtain ⟨i, rfl, hi, hm⟩ := hrel
        rw [← HN.out] at hi
        clear HE
        by_cases hlt : i < N
        · obtain ⟨x, hx⟩ : ∃ x, l[i]? = some x := ⟨_, List.getElem?_eq_getElem (by rw [← HN.out]; exact hlt)⟩
          obtain ⟨ab, ao, cap', hv⟩ := HA.out.shape (by rw [← HN.out]; omega)
          simp only [Value.slice.injEq] at hv
          obtain ⟨rfl, hv1, hv2⟩ := hv
          clear hv1 hv2
          obtain ⟨c0, c1, c2⟩ := SG.xs (HA.out.keep (H2.out.2.trans hm.2.2) (by simp)) hx
          obtain ⟨acc, hacc⟩ : ∃ acc, acc = (l.take i).reverse := ⟨_, rfl⟩
          have hal : acc.length ≤ i := by rw [hacc, List.length_reverse, List.length_take]; omega
          have htk : (l.take (i + 1)).reverse = x :: acc := by rw [List.take_add_one, hx, hacc]; simp
          rw [← hacc] at hm
          have HT := Lib.hid htk
          have HM1 := Lib.hid hm
          obtain ⟨pv, cv, hv, _, _⟩ := hm.1.value
          obtain ⟨nb, hnb⟩ : ∃ nb, nb = acc.length := ⟨_, rfl⟩
          rw [← hnb] at hv hal
          have HNB := Lib.hid hnb
          subst hv
          obtain ⟨xk, xp, xn⟩ := x
          have hii : (i : Int) < (N : Int) := by omega
          simp only at c0 c1 c2
          have hlit := RowG.lit F3 39 [(⟨xk, xp, xn⟩ : It)] wr (by simp)
          have HL := Lib.hid hlit
          clear hx hacc htk hm hnb hlit
          go_wp2_with (first | (refine vp_append_sg (F := F3) rfl (.tmp 26) (.tmp 27) 22 rfl (.agg #[.int .i64 0, .int .i64 0, .bool false]) 24 Try.underlying22 infoz39 rfl (by decide) _ [⟨xk, xp, xn⟩] rfl HL.out _ acc rfl (HM1.out.1.keep ((Keeps.refl [] wr).alloc (.cells (F3.all [(⟨xk, xp, xn⟩ : It)]).toArray 39)) (by simp)).sg (by rw [← HNB.out, List.length_singleton]; omega) (by rw [← HNB.out, List.length_singleton]; omega) ?_; intro v6 w6 k1 k2 k3; have HM6 := Lib.hid (And.intro k1 (And.intro k2 k3)); clear k1 k2 k3 c0 c1 c2) | fail)
          go_roundg (gk - 1)
          case measure => omega
          case rel =>
            obtain ⟨k1, k2, k3⟩ := HM6.out
            have hme : Made F3 39 w2 (.slice (some ⟨wr.heap.size, 0, none⟩) 1 1) [(⟨xk, xp, xn⟩ : It)] (wr.alloc (.cells (F3.all [(⟨xk, xp, xn⟩ : It)]).toArray 39)) :=
              ⟨HL.out, fun g hg => by simp only [Value.ownBlock, Option.some.injEq] at hg; have := HM1.out.2.2.size; omega, HM1.out.2.2.trans ((Keeps.refl [] wr).alloc _)⟩
            refine ⟨i + 1, by push_cast; rfl, by rw [← HN.out]; omega, ?_⟩
            rw [HT.out]
            exact hme.app k1 k2 k3
        · have hiN : l.take i = l := List.take_of_length_le (by rw [← HN.out]; omega)
          rw [hiN] at hm
          have HM1 := Lib.hid hm
          clear hm hiN
          go_wp2
          go_meet
          case rel => exact HM1.out
    case rest =>
      have hm := hcut
      obtain ⟨pv, cv, hv, _, _⟩ := hm.1.value
      rw [List.length_reverse] at hv
      subst hv
      have hkc : Keeps [] w wc := H2.out.2.trans hm.2.2
      have HOO := Lib.hid (H2.out.1.keep hm.2.2 (by simp))
      have HKC := Lib.hid hkc
      have HO1 := Lib.hid (order_ok _ l.reverse wc hm.1.sg (by rw [List.length_reverse, ← HN.out]; omega))
      clear hcut hm hkc HE H2
      rw [List.length_reverse] at *
      go_wp2_with fail
      refine HO1.out.mono ?_
      rintro e w3 ⟨vb, o3, rfl, a1, a2, a3⟩
      have ho3 : o3 = o := (a1.congr (fun x => by rw [List.mem_reverse])).eq HP.out
      rw [ho3] at a2 a3
      obtain ⟨p3, c3, hv3, _, _⟩ := a3.1.value
      rw [← HM.out] at hv3
      subst hv3
      have hoo3 := HOO.out.keep a3.2.2 (by simp)
      have HO3 := Lib.hid (And.intro hoo3 (And.intro a3.1 (HKC.out.trans a3.2.2)))
      have HW := Lib.hid (own_ok _ o w3 hoo3.sg (by rw [← HM.out]; omega))
      clear a1 a2 a3 ho3 hoo3 HO1 HOO HKC
      go_wp2_with fail
      refine HW.out.mono ?_
      rintro e w4 ⟨vq, rfl, b1, b2, b3⟩
      obtain ⟨p4, c4, hv4, _, _⟩ := b1.value
      rw [← HM.out] at hv4
      subst hv4
      have HO4 := Lib.hid (And.intro (HO3.out.1.keep b3 (by simp)) (HO3.out.2.2.trans b3))
      have HS := Lib.hid (same_ok _ _ o w4 (HO3.out.2.1.keep b3 (by simp)).sg b1.sg (by rw [← HM.out]; omega))
      clear b1 b2 b3 HW HO3
      go_wp2_with fail
      refine HS.out.mono ?_
      rintro e w5 ⟨rfl, hk5⟩
      have hoo5 := HO4.out.1.keep hk5 (by simp)
      have HO5 := Lib.hid (And.intro hoo5 (HO4.out.2.trans hk5))
      have HO1 := Lib.hid (order_ok _ o w5 hoo5.sg (by rw [← HM.out]; omega))
      clear hk5 hoo5 HS HO4
      go_wp2_with fail
      refine HO1.out.mono ?_
      rintro e w6 ⟨vb2, o3, rfl, a1, a2, a3⟩
      have ho3 : o3 = o := a1.eq HP.out.self
      rw [ho3] at a2 a3
      obtain ⟨p6, c6, hv6, _, _⟩ := a3.1.value
      rw [← HM.out] at hv6
      subst hv6
      have hoo6 := HO5.out.1.keep a3.2.2 (by simp)
      have HO6 := Lib.hid (And.intro hoo6 (And.intro a3.1 (HO5.out.2.trans a3.2.2)))
      have HW := Lib.hid (own_ok _ o w6 hoo6.sg (by rw [← HM.out]; omega))
      clear a1 a2 a3 ho3 hoo6 HO1 HO5
      go_wp2_with fail
      refine HW.out.mono ?_
      rintro e w7 ⟨vq2, rfl, b1, b2, b3⟩
      obtain ⟨p7, c7, hv7, _, _⟩ := b1.value
      rw [← HM.out] at hv7
      subst hv7
      have HO7 := Lib.hid (And.intro (HO6.out.1.keep b3 (by simp)) (HO6.out.2.2.trans b3))
      have HS := Lib.hid (same_ok _ _ o w7 (HO6.out.2.1.keep b3 (by simp)).sg b1.sg (by rw [← HM.out]; omega))
      clear b1 b2 b3 HW HO6
      go_wp2_with fail
      refine HS.out.mono ?_
      rintro e w8 ⟨rfl, hk8⟩
      have HO8 := Lib.hid (And.intro (HO7.out.1.keep hk8 (by simp)) (HO7.out.2.trans hk8))
      clear hk8 HS HO7
      have hmm := @run_makeMap Try.prog
      go_upto_region 15 with fail
      obtain ⟨w9, hw9⟩ : ∃ w9, w9 = w8.alloc (.map #[] 0) := ⟨_, rfl⟩
      obtain ⟨mb, hmb⟩ : ∃ mb, mb = w8.heap.size := ⟨_, rfl⟩
      have hk9 : Keeps [] w8 w9 := by rw [hw9]; exact (Keeps.refl _ _).alloc _
      have hfm : FM w9 mb (fun _ => false) := by rw [hw9, hmb]; exact FM.made w8
      have HR := Lib.hid (show R2 w mb (.slice po M co) o M (.int .i64 0) w9 from ⟨0, rfl, by rw [Nat.zero_add, HM.out], HO8.out.1.keep hk9 (by simp), hfm, HO8.out.2.trans hk9, by rw [hmb]; exact HO8.out.2.size⟩)
      rw [← hw9, ← hmb]
      clear hw9 hmb hk9 hfm hmm HO8
      go_upto_block 2 with fail
      go_cut [] (fun wx => FM wx mb (hasB o) ∧ Keeps [] w wx)
      case first =>
        go_wp2_with fail
        go_loopg [47] M (fun m vi wx => R2 w mb (.slice po M co) o m vi wx)
        case atStart => exact HR.out
        case round =>
          obtain ⟨i, rfl, hi, hr, hf, hk, hg⟩ := hrel
          rw [← HM.out] at hi
          clear HR
          by_cases hlt : i < M
          · obtain ⟨x, hx⟩ : ∃ x, o[i]? = some x := ⟨_, List.getElem?_eq_getElem (by rw [← HM.out]; exact hlt)⟩
            obtain ⟨ob, oo, cap', hv⟩ := hr.sg.shape (by rw [← HM.out]; omega)
            simp only [Value.slice.injEq] at hv
            obtain ⟨rfl, hv1, hv2⟩ := hv
            clear hv1 hv2
            obtain ⟨c0, c1, _⟩ := SG.xs hr.sg hx
            have hfr := ordP_fresh HP.out hx
            have hlk := hf.lk x.push
            rw [hfr] at hlk
            have htk : o.take (i + 1) = o.take i ++ [x] := by rw [List.take_add_one, hx]; rfl
            have hfun : (fun j => if x.push = j then true else hasB (o.take i) j) = hasB (o.take (i + 1)) := by
              funext j
              rw [htk, hasB_append, show hasB [x] j = (x.push == j) by simp [hasB]]
              by_cases e : x.push = j
              · rw [if_pos e, e]; simp
              · rw [if_neg e]; simp [e]
            have HF := Lib.hid hfun
            have HFR := Lib.hid hfr
            have HR := Lib.hid (And.intro hr (And.intro hf (And.intro hk hg)))
            have HX := Lib.hid hx
            obtain ⟨xk, xp, xn⟩ := x
            simp only at c0 c1 hlk
            have hii : (i : Int) < (M : Int) := by omega
            clear hfr htk hfun hr hf hk hg hx
            go_upto_region 18 with fail
            go_cut [102] (fun v wx => v = .bool false ∧ Keeps [] wr wx)
            case first =>
              by_cases h0 : i = 0
              · have e0 : decide (0 < i) = false := decide_eq_false (by omega)
                clear h0
                refine vp_region (fun w' => Keeps [] wr w') [(0, true), (1, true), (2, true), (3, true), (4, true), (5, true), (6, true), (7, true), (8, true), (9, true), (10, true), (11, true), (12, true), (13, true), (14, true), (15, true), (16, true), (17, true), (18, true), (19, true), (20, true), (21, true), (22, true), (23, true), (24, true), (25, true), (26, true), (27, true), (28, true), (29, true), (30, true), (31, true), (32, true), (33, true), (34, true), (35, true), (36, true), (37, true), (38, true), (39, true), (40, true), (41, true), (42, true), (43, true), (44, true), (45, true), (46, true), (47, true), (48, true), (49, true), (50, true), (51, true), (52, true)] (by kernel_rfl) (by kernel_rfl) (by intro _ d _ _ _ h; cases d <;> exact h) ((Keeps.refl [] wr).drew) ?_
                intro w10 hw10
                simp only [pick, List.map_cons, List.map_nil, List.getD_cons_zero, List.getD_cons_succ]
                clear c0 c1 hlk
                repeat
                  first
                    | (refine ord_free rfl (v := ?_) ?_ ?_
                       rotate_left
                       · intro w' hw'
                         obtain ⟨c0, c1, _⟩ := SG.xs (HR.out.1.keep hw' (by simp)).sg HX.out
                         skip
                         have hlk := (HR.out.2.1.keep hw' (by simp)).lk xp
                         rw [HFR.out] at hlk
                         simp only at c0 c1
                         go_simp
                         with_reducible rfl
                       simp only [Act.put, List.setIfInBounds_toArray, List.set_cons_zero, List.set_cons_succ])
                    | (refine ord_free_g (by first | rfl | decide) (v := ?_) ?_ ?_
                       rotate_left
                       · intro w' hw'
                         obtain ⟨c0, c1, _⟩ := SG.xs (HR.out.1.keep hw' (by simp)).sg HX.out
                         skip
                         have hlk := (HR.out.2.1.keep hw' (by simp)).lk xp
                         rw [HFR.out] at hlk
                         simp only at c0 c1
                         go_simp
                         with_reducible rfl
                       simp only [Act.put, List.setIfInBounds_toArray, List.set_cons_zero, List.set_cons_succ])
                    | (refine ord_skip (by first | rfl | decide) ?_
                       simp only [Act.put, List.setIfInBounds_toArray, List.set_cons_zero, List.set_cons_succ])
                subst hw10
                refine ord_nil ?_
                go_wp2
                go_meet
                case rel => exact ⟨rfl, (Keeps.refl _ _).drew⟩
              · obtain ⟨j, hj⟩ : ∃ j, i = j + 1 := ⟨i - 1, by omega⟩
                obtain ⟨y, hy⟩ : ∃ y, o[j]? = some y := ⟨_, List.getElem?_eq_getElem (by rw [← HM.out]; omega)⟩
                obtain ⟨d0, d1, _⟩ := SG.xs HR.out.1.sg hy
                have hlw := ordP_next HP.out hy (by rw [← hj]; exact HX.out)
                unfold ltW at hlw
                obtain ⟨yk, yp, yn⟩ := y
                simp only at d0 d1 hlw
                have e1 : (i : Int) - 1 = (j : Int) := by omega
                have e1w : IntKind.i64.wrap (j : Int) = (j : Int) := by rw [IntKind.wrap_i64]; omega
                have hjj : (j : Int) < (M : Int) := by omega
                have hj1 : decide (0 < i) = true := decide_eq_true (by omega)
                have HY := Lib.hid hy
                clear hy hj
                by_cases hke : xk = yk
                · subst hke
                  have e2 : ¬ xk < xk := by omega
                  have e3 : ¬ xp ≤ yp := by omega
                  clear hlw
                  refine vp_region (fun w' => Keeps [] wr w') [(0, true), (1, true), (2, true), (3, true), (4, true), (5, true), (6, true), (7, true), (8, true), (9, true), (10, true), (11, true), (12, true), (13, true), (14, true), (15, true), (16, true), (17, true), (18, true), (19, true), (20, true), (21, true), (22, true), (23, true), (24, true), (25, true), (26, true), (27, true), (28, true), (29, true), (30, true), (31, true), (32, true), (33, true), (34, true), (35, true), (36, true), (37, true), (38, true), (39, true), (40, true), (41, true), (42, true), (43, true), (44, true), (45, true), (46, true), (47, true), (48, true), (49, true), (50, true), (51, true), (52, true)] (by kernel_rfl) (by kernel_rfl) (by intro _ d _ _ _ h; cases d <;> exact h) ((Keeps.refl [] wr).drew) ?_
                  intro w10 hw10
                  simp only [pick, List.map_cons, List.map_nil, List.getD_cons_zero, List.getD_cons_succ]
                  clear c0 c1 hlk d0 d1
                  repeat
                    first
                      | (refine ord_free rfl (v := ?_) ?_ ?_
                         rotate_left
                         · intro w' hw'
                           obtain ⟨c0, c1, _⟩ := SG.xs (HR.out.1.keep hw' (by simp)).sg HX.out
                           obtain ⟨d0, d1, _⟩ := SG.xs (HR.out.1.keep hw' (by simp)).sg HY.out; simp only at d0 d1
                           have hlk := (HR.out.2.1.keep hw' (by simp)).lk xp
                           rw [HFR.out] at hlk
                           simp only at c0 c1
                           go_simp
                           with_reducible rfl
                         simp only [Act.put, List.setIfInBounds_toArray, List.set_cons_zero, List.set_cons_succ])
                      | (refine ord_free_g (by first | rfl | decide) (v := ?_) ?_ ?_
                         rotate_left
                         · intro w' hw'
                           obtain ⟨c0, c1, _⟩ := SG.xs (HR.out.1.keep hw' (by simp)).sg HX.out
                           obtain ⟨d0, d1, _⟩ := SG.xs (HR.out.1.keep hw' (by simp)).sg HY.out; simp only at d0 d1
                           have hlk := (HR.out.2.1.keep hw' (by simp)).lk xp
                           rw [HFR.out] at hlk
                           simp only at c0 c1
                           go_simp
                           with_reducible rfl
                         simp only [Act.put, List.setIfInBounds_toArray, List.set_cons_zero, List.set_cons_succ])
                      | (refine ord_skip (by first | rfl | decide) ?_
                         simp only [Act.put, List.setIfInBounds_toArray, List.set_cons_zero, List.set_cons_succ])
                  subst hw10
                  refine ord_nil ?_
                  go_wp2
                  go_meet
                  case rel => exact ⟨rfl, (Keeps.refl _ _).drew⟩
                · have e2 : ¬ xk < yk := by omega
                  have e3 : (xk == yk) = false := by simp [hke]
                  clear hlw
                  refine vp_region (fun w' => Keeps [] wr w') [(0, true), (1, true), (2, true), (3, true), (4, true), (5, true), (6, true), (7, true), (8, true), (9, true), (10, true), (11, true), (12, true), (13, true), (14, true), (15, true), (16, true), (17, true), (18, true), (19, true), (20, true), (21, true), (22, true), (23, true), (24, true), (25, true), (26, true), (27, true), (28, true), (29, true), (30, true), (31, true), (32, true), (33, true), (34, true), (35, true), (36, true), (37, true), (38, true), (39, true), (40, true), (41, true), (42, true), (43, true), (44, true), (45, true), (46, true), (47, true), (48, true), (49, true), (50, true), (51, true), (52, true)] (by kernel_rfl) (by kernel_rfl) (by intro _ d _ _ _ h; cases d <;> exact h) ((Keeps.refl [] wr).drew) ?_
                  intro w10 hw10
                  simp only [pick, List.map_cons, List.map_nil, List.getD_cons_zero, List.getD_cons_succ]
                  clear c0 c1 hlk d0 d1
                  repeat
                    first
                      | (refine ord_free rfl (v := ?_) ?_ ?_
                         rotate_left
                         · intro w' hw'
                           obtain ⟨c0, c1, _⟩ := SG.xs (HR.out.1.keep hw' (by simp)).sg HX.out
                           obtain ⟨d0, d1, _⟩ := SG.xs (HR.out.1.keep hw' (by simp)).sg HY.out; simp only at d0 d1
                           have hlk := (HR.out.2.1.keep hw' (by simp)).lk xp
                           rw [HFR.out] at hlk
                           simp only at c0 c1
                           go_simp
                           with_reducible rfl
                         simp only [Act.put, List.setIfInBounds_toArray, List.set_cons_zero, List.set_cons_succ])
                      | (refine ord_free_g (by first | rfl | decide) (v := ?_) ?_ ?_
                         rotate_left
                         · intro w' hw'
                           obtain ⟨c0, c1, _⟩ := SG.xs (HR.out.1.keep hw' (by simp)).sg HX.out
                           obtain ⟨d0, d1, _⟩ := SG.xs (HR.out.1.keep hw' (by simp)).sg HY.out; simp only at d0 d1
                           have hlk := (HR.out.2.1.keep hw' (by simp)).lk xp
                           rw [HFR.out] at hlk
                           simp only at c0 c1
                           go_simp
                           with_reducible rfl
                         simp only [Act.put, List.setIfInBounds_toArray, List.set_cons_zero, List.set_cons_succ])
                      | (refine ord_skip (by first | rfl | decide) ?_
                         simp only [Act.put, List.setIfInBounds_toArray, List.set_cons_zero, List.set_cons_succ])
                  subst hw10
                  refine ord_nil ?_
                  go_wp2
                  go_meet
                  case rel => exact ⟨rfl, (Keeps.refl _ _).drew⟩
            case rest =>
              obtain ⟨rfl, hkc⟩ := hcut
              have hr2 := HR.out.1.keep hkc (by simp)
              have hf2 := HR.out.2.1.keep hkc (by simp)
              have c1' := (SG.xs hr2.sg HX.out).2.1
              simp only at c1'
              have HR2 := Lib.hid (And.intro hr2 (And.intro hf2 (HR.out.2.2.1.trans hkc)))
              clear c0 c1 hlk hkc hr2 hf2
              go_wp2_with (first | (refine vp_fm rfl (.tmp 103) (.tmp 108) (.const (.bool true)) rfl rfl xp rfl true rfl HR2.out.2.1 ?_; intro w10 hm10 hk10; have HM10 := Lib.hid (And.intro hm10 hk10); clear hm10 hk10 c1') | fail)
              go_roundg (gk - 1)
              case measure => omega
              case rel =>
                obtain ⟨hm10, hk10⟩ := HM10.out
                have hff := HF.out
                rw [hff] at hm10
                exact ⟨i + 1, by push_cast; rfl, by rw [← HM.out]; omega, HR2.out.1.keep hk10 (fun z hz => by obtain rfl := List.mem_singleton.1 hz; exact HR2.out.2.1.apart HR2.out.1), hm10, HR2.out.2.2.trans' hk10 (fun z hz => Or.inr (by obtain rfl := List.mem_singleton.1 hz; exact HR.out.2.2.2)), HR.out.2.2.2⟩
          · have hiM : o.take i = o := List.take_of_length_le (by rw [← HM.out]; omega)
            rw [hiM] at hf
            have HF := Lib.hid (And.intro hf hk)
            clear hf hk hiM hr hg
            go_wp2
            go_meet
            case rel => exact HF.out
      case rest =>
        obtain ⟨hf, hk⟩ := hcut
        have HF := Lib.hid (And.intro hf hk)
        clear hf hk HR
        go_wp2_with fail
        go_loopg [112] N (fun m vi wx => ∃ i : Nat, vi = .int .i64 i ∧ i + m = l.length ∧ wx = wc)
        case atStart => exact ⟨0, rfl, by rw [← HN.out, Nat.zero_add], rfl⟩
        case round =>
          obtain ⟨i, rfl, hi, rfl⟩ := hrel
          rw [← HN.out] at hi
          by_cases hlt : i < N
          · obtain ⟨x, hx⟩ : ∃ x, l[i]? = some x := ⟨_, List.getElem?_eq_getElem (by rw [← HN.out]; exact hlt)⟩
            obtain ⟨ab, ao, cap', hv⟩ := HA.out.shape (by rw [← HN.out]; omega)
            simp only [Value.slice.injEq] at hv
            obtain ⟨rfl, hv1, hv2⟩ := hv
            clear hv1 hv2
            obtain ⟨_, c1, _⟩ := SG.xs (HA.out.keep HF.out.2 (by simp)) hx
            have hh : hasB o x.push = true := by
              obtain ⟨y, hy, e⟩ := HP.out.all x (List.mem_of_getElem? hx)
              exact hasB_iff.2 ⟨y, hy, e⟩
            have hlk := HF.out.1.lk x.push
            rw [hh] at hlk
            obtain ⟨xk, xp, xn⟩ := x
            simp only at c1 hlk
            have hii : (i : Int) < (N : Int) := by omega
            clear hx hh
            go_wp2
            go_roundg (gk - 1)
            case measure => omega
            case rel => exact ⟨i + 1, by push_cast; rfl, by rw [← HN.out]; omega, rfl⟩
          · go_wp2
            go_ret
            exact ⟨rfl, HF.out.2⟩
  · have h1' : 100 < N := by omega
    clear h1
    go_wp2
    go_ret
    exact ⟨rfl, hk1⟩
end Go.Proofs.Yteekdgmfednmoaa
