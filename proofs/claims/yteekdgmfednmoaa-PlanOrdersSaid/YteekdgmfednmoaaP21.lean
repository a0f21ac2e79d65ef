/-
  PlanOrders' walk.
-/
import Derived.Test.YteekdgmfednmoaaP13
import Derived.Test.YteekdgmfednmoaaP19
import Derived.Test.YteekdgmfednmoaaP20
namespace Go.Proofs.Yteekdgmfednmoaa
open Go.RowKit Go.V Go.V.Queue
set_option maxRecDepth 100000 in
set_option maxHeartbeats 4000000 in
theorem orders_any (A B : Value) (a b : List It) (w : World) (hA : SG F3 w A a) (hB : SG F3 w B b) : Calls Try.prog 3 #[A, B] w (BPost true w) := by
  have hA2 := hA
  obtain ⟨pa, ca, rfl, hca, hca2, _⟩ := hA2
  have hB2 := hB
  obtain ⟨pb, cb, rfl, hcb, hcb2, _⟩ := hB2
  obtain ⟨N, hN⟩ : ∃ N, N = a.length := ⟨_, rfl⟩
  obtain ⟨M, hM⟩ : ∃ M, M = b.length := ⟨_, rfl⟩
  rw [← hN] at hca hA ⊢
  rw [← hM] at hcb hB ⊢
  have HA := Lib.hid hA
  have HB := Lib.hid hB
  have HN := Lib.hid hN
  have HM := Lib.hid hM
  clear hA hB hN hM
  go_enter Try.func3, Try.ntmps3
  go_wp2_with fail
  refine (awake_ok _).mono ?_
  rintro e w1 ⟨rfl, hk1⟩
  by_cases h1 : N ≤ 100
  · by_cases h2 : M ≤ 100
    · have HK1 := Lib.hid hk1
      have HE := Lib.hid (Made.empty F3 39 w1)
      have HA1 := Lib.hid (HA.out.keep (hk1.trans (show Keeps [] w1 (w1.alloc (.cells #[] 39)) from (Keeps.refl [] w1).alloc _)) (by simp))
      clear hk1
      go_wp2_with (first | (refine vp_append_sg (F := F3) rfl (.tmp 17) (.tmp 18) 22 rfl (.agg #[.int .i64 0, .int .i64 0, .bool false]) 24 Try.underlying22 infoz39 rfl (by decide) _ [] rfl HE.out.1 _ a rfl HA1.out (by rw [← HN.out, List.length_nil]; omega) (by rw [← HN.out, List.length_nil]; omega) ?_; intro v2 w2 k1 k2 k3; rw [List.nil_append] at k1; have hme := HE.out.app k1 k2 k3; have HX := Lib.hid hme; obtain ⟨px, cx, hvx, _, _⟩ := k1.value; rw [← HN.out] at hvx; subst hvx; have HO := Lib.hid (order_ok _ a w2 hme.1.sg (by rw [← HN.out]; omega)); clear k1 k2 k3 hme) | fail)
      refine HO.out.mono ?_
      rintro e w3 ⟨va, o, rfl, a1, a2, a3⟩
      have hk3 := (HK1.out.trans HX.out.2.2).trans a3.2.2
      have hx3 := HX.out.1.keep a3.2.2 (by simp)
      obtain ⟨po, co, hvo, _, _⟩ := a3.1.value
      obtain ⟨L, hL⟩ : ∃ L, L = o.length := ⟨_, rfl⟩
      rw [← hL] at hvo
      subst hvo
      have hLN : L ≤ N := by rw [hL, HN.out]; exact a2
      have HL := Lib.hid hL
      have HP := Lib.hid a1
      have H3 := Lib.hid (And.intro a3.1 (And.intro hx3 hk3))
      have HW := Lib.hid (own_ok _ a w3 (HA.out.keep hk3 (by simp)) (by rw [← HN.out]; omega))
      clear a1 a2 a3 hk3 hx3 hL HO HX HE HA1 HK1
      go_wp2_with fail
      refine HW.out.mono ?_
      rintro e w4 ⟨vq, rfl, b1, b2, b3⟩
      obtain ⟨p4, c4, hv4, _, _⟩ := b1.value
      rw [← HN.out] at hv4
      subst hv4
      have H4 := Lib.hid (And.intro (H3.out.1.keep b3 (by simp)) (And.intro (H3.out.2.1.keep b3 (by simp)) (H3.out.2.2.trans b3)))
      have HRO := Lib.hid (rorder_ok _ a w4 b1.sg (by rw [← HN.out]; omega))
      clear b1 b2 b3 HW H3
      go_wp2_with fail
      refine HRO.out.mono ?_
      rintro e w5 ⟨vr, o5, rfl, a1, a3⟩
      have ho5 : o5 = o := a1.eq HP.out
      rw [ho5] at a3
      obtain ⟨p5, c5, hv5, _, _⟩ := a3.1.value
      rw [← HL.out] at hv5
      subst hv5
      have ho4 := H4.out.1.keep a3.2.2 (by simp)
      have H5 := Lib.hid (And.intro (H4.out.2.1.keep a3.2.2 (by simp)) (H4.out.2.2.trans a3.2.2))
      have HS := Lib.hid (same_ok _ _ o w5 ho4.sg a3.1.sg (by rw [← HL.out]; omega))
      clear a1 a3 ho5 ho4 HRO H4
      go_wp2_with fail
      refine HS.out.mono ?_
      rintro e w6 ⟨rfl, hk6⟩
      have H6 := Lib.hid (And.intro (H5.out.1.keep hk6 (by simp)) (H5.out.2.trans hk6))
      obtain ⟨c, hc⟩ : ∃ c, c = clashB a b := ⟨_, rfl⟩
      have hcl := clash_ok _ _ a b w6 (HA.out.keep H6.out.2 (by simp)) (HB.out.keep H6.out.2 (by simp)) (by rw [← HN.out]; omega) (by rw [← HM.out]; omega)
      rw [← hc] at hcl
      have HC := Lib.hid hcl
      have HCC := Lib.hid hc
      clear hk6 hcl hc HS H5
      go_wp2_with fail
      refine HC.out.mono ?_
      rintro e w7 ⟨rfl, hk7⟩
      have H7 := Lib.hid (And.intro (H6.out.1.keep hk7 (by simp)) (H6.out.2.trans hk7))
      have HW := Lib.hid (own_ok _ a w7 (HA.out.keep H7.out.2 (by simp)) (by rw [← HN.out]; omega))
      clear hk7 HC H6
      go_wp2_with fail
      refine HW.out.mono ?_
      rintro e w8 ⟨vq, rfl, b1, b2, b3⟩
      obtain ⟨p8, c8, hv8, _, _⟩ := b1.value
      rw [← HN.out] at hv8
      subst hv8
      have H8 := Lib.hid (And.intro (H7.out.1.keep b3 (by simp)) (And.intro (H7.out.2.trans b3) b1))
      have HW2 := Lib.hid (own_ok _ b w8 (HB.out.keep (H7.out.2.trans b3) (by simp)) (by rw [← HM.out]; omega))
      clear b1 b2 b3 HW H7
      go_wp2_with fail
      refine HW2.out.mono ?_
      rintro e w9 ⟨vq2, rfl, b1, b2, b3⟩
      obtain ⟨p9, c9, hv9, _, _⟩ := b1.value
      rw [← HM.out] at hv9
      subst hv9
      have H9 := Lib.hid (And.intro (H8.out.1.keep b3 (by simp)) (H8.out.2.1.trans b3))
      have hrc := rclash_ok _ _ a b w9 (H8.out.2.2.keep b3 (by simp)).sg b1.sg (by rw [← HN.out]; omega) (by rw [← HM.out]; omega)
      rw [← HCC.out] at hrc
      have HRC := Lib.hid hrc
      have hcc : (c == c) = true := by simp
      clear b1 b2 b3 hrc HW2 H8
      go_wp2_with fail
      refine HRC.out.mono ?_
      rintro e w10 ⟨rfl, hk10⟩
      have H10 := Lib.hid (And.intro (H9.out.1.keep hk10 (by simp)) (H9.out.2.trans hk10))
      have HW := Lib.hid (own_ok _ a w10 (HA.out.keep H10.out.2 (by simp)) (by rw [← HN.out]; omega))
      clear hk10 HRC H9
      go_wp2_with fail
      refine HW.out.mono ?_
      rintro e w11 ⟨vq3, rfl, b1, b2, b3⟩
      obtain ⟨p11, c11, hv11, _, _⟩ := b1.value
      rw [← HN.out] at hv11
      subst hv11
      have H11 := Lib.hid (H10.out.2.trans b3)
      have HS := Lib.hid (same_ok _ _ a w11 (H10.out.1.keep b3 (by simp)).sg b1.sg (by rw [← HN.out]; omega))
      clear b1 b2 b3 HW H10
      go_wp2_with fail
      refine HS.out.mono ?_
      rintro e w12 ⟨rfl, hk12⟩
      go_wp2
      go_ret
      exact ⟨rfl, H11.out.trans hk12⟩
    · have h2' : 100 < M := by omega
      clear h2
      go_wp2
      go_ret
      exact ⟨rfl, hk1⟩
  · have h1' : 100 < N := by omega
    clear h1
    go_wp2
    go_ret
    exact ⟨rfl, hk1⟩
end Go.Proofs.Yteekdgmfednmoaa
