/-
  PlanWants' walk.
-/
import Derived.Test.YteekdgmfednmoaaP13
import Derived.Test.YteekdgmfednmoaaP23
import Derived.Test.YteekdgmfednmoaaV9
namespace Go.Proofs.Yteekdgmfednmoaa
open Go.RowKit Go.V Go.V.Queue
set_option maxRecDepth 100000 in
set_option maxHeartbeats 4000000 in
theorem wants_any (c : CV) (A : Value) (at' : List Int) (file : Int) (w : World) (hA : SG FN w A at') : Calls Try.prog 4 #[c.val, A, .int .i64 file] w (BPost true w) := by
  have hA2 := hA
  obtain ⟨pa, ca, rfl, hca, hca2, _⟩ := hA2
  obtain ⟨N, hN⟩ : ∃ N, N = at'.length := ⟨_, rfl⟩
  rw [← hN] at hca hA ⊢
  have HA := Lib.hid hA
  have HN := Lib.hid hN
  clear hA hN
  unfold CV.val
  go_enter Try.func4, Try.ntmps4
  go_upto_region 1 with fail
  obtain ⟨w1, hw1⟩ : ∃ w1, w1 = w.alloc (.cells c.cells 32) := ⟨_, rfl⟩
  obtain ⟨cb, hcb⟩ : ∃ cb, cb = w.heap.size := ⟨_, rfl⟩
  have hk1 : Keeps [] w w1 := by rw [hw1]; exact (Keeps.refl _ _).alloc _
  have hcbb : CB c cb w1 := by rw [hw1, hcb]; exact heap_alloc w _
  have H1 := Lib.hid (And.intro hk1 hcbb)
  rw [← hw1, ← hcb]
  clear hw1 hcb hk1 hcbb
  go_wp2_with fail
  refine (awake_ok _).mono ?_
  rintro e w2 ⟨rfl, hk2⟩
  by_cases h1 : N ≤ 100
  · have HCB := Lib.hid (H1.out.2.keep hk2 (by simp))
    have HK2 := Lib.hid (H1.out.1.trans hk2)
    obtain ⟨k, hk⟩ : ∃ k, k = kindF c.op c.flag := ⟨_, rfl⟩
    have hkc := kind_ok c w2.drew
    rw [← hk] at hkc
    have HKC := Lib.hid hkc
    have HKK := Lib.hid hk
    have ekk : (k == k) = true := by simp
    clear hk2 hk hkc H1
    go_upto_region 5 with fail
    refine vp_region (fun w' => Keeps [] w2 w') [(0, true), (2, true), (1, false), (3, false), (4, true), (5, true), (6, true), (7, true), (8, true), (10, true), (11, true), (12, true), (9, false), (13, false), (14, false), (15, true), (16, true)] (by kernel_rfl) (by kernel_rfl) (by intro _ d _ _ _ h; cases d <;> exact h) ((Keeps.refl [] w2).drew) ?_
    intro w10 hw10
    simp only [pick, List.map_cons, List.map_nil, List.getD_cons_zero, List.getD_cons_succ]
    repeat
      first
        | (refine ord_free rfl (v := ?_) ?_ ?_
           rotate_left
           · intro w' hw'
             have hcw := HCB.out.keep hw' (by simp)
             have f0 := hcw.c0
             have f1 := hcw.c1
             have f2 := hcw.c2
             have f3 := hcw.c3
             have f4 := hcw.c4
             have f5 := hcw.c5
             have f6 := hcw.c6
             go_simp
             with_reducible rfl
           simp only [Act.put, List.setIfInBounds_toArray, List.set_cons_zero, List.set_cons_succ])
        | (refine ord_free_g (by first | rfl | decide) (v := ?_) ?_ ?_
           rotate_left
           · intro w' hw'
             have hcw := HCB.out.keep hw' (by simp)
             have f0 := hcw.c0
             have f1 := hcw.c1
             have f2 := hcw.c2
             have f3 := hcw.c3
             have f4 := hcw.c4
             have f5 := hcw.c5
             have f6 := hcw.c6
             go_simp
             with_reducible rfl
           simp only [Act.put, List.setIfInBounds_toArray, List.set_cons_zero, List.set_cons_succ])
    subst hw10
    refine ord_eff ?_
    go_wp2_with fail
    rename_i KK hKK
    refine HKC.out.mono ?_
    rintro e w3 ⟨rfl, hk3⟩
    refine hKK _ _ ?_
    have hk3' : Keeps [] w2 w3 := ((Keeps.refl [] w2).drew).trans hk3
    refine ord_next hk3' ?_
    have hrk := rkind_ok c w3
    rw [← HKK.out] at hrk
    have HRK := Lib.hid hrk
    have HK3 := Lib.hid hk3'
    clear hKK KK hk3 hk3' hrk HKC
    try simp only [Act.put, List.setIfInBounds_toArray, List.set_cons_zero, List.set_cons_succ]
    refine ord_eff ?_
    go_wp2_with fail
    rename_i KK hKK
    refine HRK.out.mono ?_
    rintro e w4 ⟨rfl, hk4⟩
    refine hKK _ _ ?_
    have hk4' : Keeps [] w2 w4 := HK3.out.trans hk4
    refine ord_next hk4' ?_
    have HK4 := Lib.hid hk4'
    clear hKK KK hk4 hk4' HRK HK3
    try simp only [Act.put, List.setIfInBounds_toArray, List.set_cons_zero, List.set_cons_succ]
    repeat
      first
        | (refine ord_free rfl (v := ?_) ?_ ?_
           rotate_left
           · intro w' hw'
             have hcw := HCB.out.keep hw' (by simp)
             have f0 := hcw.c0
             have f1 := hcw.c1
             have f2 := hcw.c2
             have f3 := hcw.c3
             have f4 := hcw.c4
             have f5 := hcw.c5
             have f6 := hcw.c6
             go_simp
             with_reducible rfl
           simp only [Act.put, List.setIfInBounds_toArray, List.set_cons_zero, List.set_cons_succ])
        | (refine ord_free_g (by first | rfl | decide) (v := ?_) ?_ ?_
           rotate_left
           · intro w' hw'
             have hcw := HCB.out.keep hw' (by simp)
             have f0 := hcw.c0
             have f1 := hcw.c1
             have f2 := hcw.c2
             have f3 := hcw.c3
             have f4 := hcw.c4
             have f5 := hcw.c5
             have f6 := hcw.c6
             go_simp
             with_reducible rfl
           simp only [Act.put, List.setIfInBounds_toArray, List.set_cons_zero, List.set_cons_succ])
    have HW := Lib.hid (wants_ok c _ at' file w4 (HA.out.keep (HK2.out.trans HK4.out) (by simp)) (by rw [← HN.out]; omega))
    unfold CV.val at HW
    refine ord_eff ?_
    go_wp2_with fail
    rename_i KK hKK
    refine HW.out.mono ?_
    rintro e w5 ⟨va, o, rfl, a1, a2, a3⟩
    refine hKK _ _ ?_
    have hk5' : Keeps [] w2 w5 := HK4.out.trans a3.2.2
    refine ord_next hk5' ?_
    have HP := Lib.hid (And.intro a1 a2)
    have H5 := Lib.hid (And.intro a3.1 hk5')
    have HRW := Lib.hid (rwants_ok c _ at' file w5 (HA.out.keep (HK2.out.trans hk5') (by simp)) (by rw [← HN.out]; omega))
    unfold CV.val at HRW
    clear hKK KK a1 a2 a3 hk5' HW HK4
    try simp only [Act.put, List.setIfInBounds_toArray, List.set_cons_zero, List.set_cons_succ]
    refine ord_eff ?_
    go_wp2_with fail
    rename_i KK hKK
    refine HRW.out.mono ?_
    rintro e w6 ⟨vb, o6, rfl, a1, a3⟩
    refine hKK _ _ ?_
    have ho6 : o6 = o := a1.eq HP.out.1
    rw [ho6] at a3
    have hk6' : Keeps [] w2 w6 := H5.out.2.trans a3.2.2
    refine ord_next hk6' ?_
    have hlen : (wantsL c at' file).length ≤ 1000 := by
      unfold wantsL
      rw [List.length_append, length_wantsI, ← HN.out]
      split <;> simp <;> omega
    have HS := Lib.hid (same_ok _ _ o w6 (H5.out.1.keep a3.2.2 (by simp)).sg a3.1.sg (by have := HP.out.2; omega))
    have HK6 := Lib.hid hk6'
    clear hKK KK a1 a3 ho6 hk6' hlen HRW H5
    try simp only [Act.put, List.setIfInBounds_toArray, List.set_cons_zero, List.set_cons_succ]
    refine ord_eff ?_
    go_wp2_with fail
    rename_i KK hKK
    refine HS.out.mono ?_
    rintro e w7 ⟨rfl, hk7⟩
    refine hKK _ _ ?_
    have hk7' : Keeps [] w2 w7 := HK6.out.trans hk7
    refine ord_next hk7' ?_
    have HK7 := Lib.hid hk7'
    clear hKK KK hk7 hk7' HS HK6
    try simp only [Act.put, List.setIfInBounds_toArray, List.set_cons_zero, List.set_cons_succ]
    repeat
      first
        | (refine ord_free rfl (v := ?_) ?_ ?_
           rotate_left
           · intro w' hw'
             have hcw := HCB.out.keep hw' (by simp)
             have f0 := hcw.c0
             have f1 := hcw.c1
             have f2 := hcw.c2
             have f3 := hcw.c3
             have f4 := hcw.c4
             have f5 := hcw.c5
             have f6 := hcw.c6
             go_simp
             with_reducible rfl
           simp only [Act.put, List.setIfInBounds_toArray, List.set_cons_zero, List.set_cons_succ])
        | (refine ord_free_g (by first | rfl | decide) (v := ?_) ?_ ?_
           rotate_left
           · intro w' hw'
             have hcw := HCB.out.keep hw' (by simp)
             have f0 := hcw.c0
             have f1 := hcw.c1
             have f2 := hcw.c2
             have f3 := hcw.c3
             have f4 := hcw.c4
             have f5 := hcw.c5
             have f6 := hcw.c6
             go_simp
             with_reducible rfl
           simp only [Act.put, List.setIfInBounds_toArray, List.set_cons_zero, List.set_cons_succ])
    refine ord_nil ?_
    go_wp2
    go_ret
    exact ⟨rfl, HK2.out.trans HK7.out⟩
  · have h1' : 100 < N := by omega
    have HK := Lib.hid (H1.out.1.trans hk2)
    clear h1 hk2
    go_wp2
    go_ret
    exact ⟨rfl, HK.out⟩
end Go.Proofs.Yteekdgmfednmoaa
