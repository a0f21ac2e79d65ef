/-
  The reference's Clash, walked.
-/
import Derived.Test.YteekdgmfednmoaaP10
namespace Go.Proofs.Yteekdgmfednmoaa
open Go.RowKit Go.V Go.V.Queue
def C3 (w : World) (x : It) (b : List It) (m : Nat) (vi : Value) (wx : World) : Prop := ∃ j : Nat, vi = .int .i64 j ∧ j + m = b.length ∧ barB x (b.take j) = false ∧ Keeps [] w wx
set_option maxHeartbeats 4000000 in
theorem rclash_ok (A B : Value) (a b : List It) (w : World) (hA : SG F3 w A a) (hB : SG F3 w B b) (hla : a.length ≤ 1000000) (hlb : b.length ≤ 1000000) : Calls Try.prog 14 #[A, B] w (BPost (clashB a b) w) := by
  have hA2 := hA
  obtain ⟨pa, ca, rfl, hca, hca2, _⟩ := hA2
  have hB2 := hB
  obtain ⟨pb, cb, rfl, hcb, hcb2, _⟩ := hB2
  obtain ⟨N, hN⟩ : ∃ N, N = a.length := ⟨_, rfl⟩
  obtain ⟨M, hM⟩ : ∃ M, M = b.length := ⟨_, rfl⟩
  rw [← hN] at hca hA hla ⊢
  rw [← hM] at hcb hB hlb ⊢
  have HA := Lib.hid hA
  have HB := Lib.hid hB
  have HN := Lib.hid hN
  have HM := Lib.hid hM
  clear hA hB hN hM
  go_enter Try.func14, Try.ntmps14
  go_wp2_with fail
  go_loopg [5] N (fun m vi wx => C1 w a b m vi wx)
  case atStart => exact ⟨0, rfl, by rw [← HN.out, Nat.zero_add], rfl, Keeps.refl _ _⟩
  case round =>
    obtain ⟨i, rfl, hi, hcl, hk⟩ := hrel
    rw [← HN.out] at hi
    have HC := Lib.hid (And.intro hcl hk)
    clear hcl
    by_cases hlt : i < N
    · obtain ⟨x, hx⟩ : ∃ x, a[i]? = some x := ⟨_, List.getElem?_eq_getElem (by rw [← HN.out]; exact hlt)⟩
      obtain ⟨ab, ao, cap', hv⟩ := HA.out.shape (by rw [← HN.out]; omega)
      simp only [Value.slice.injEq] at hv
      obtain ⟨rfl, hv1, hv2⟩ := hv
      clear hv1 hv2
      obtain ⟨xk, xp, xn⟩ := x
      have htk : a.take (i + 1) = a.take i ++ [⟨xk, xp, xn⟩] := by rw [List.take_add_one, hx]; rfl
      have HT := Lib.hid htk
      have HX := Lib.hid hx
      have hii : (i : Int) < (N : Int) := by omega
      clear hx htk hk
      obtain ⟨g1, hg1⟩ : ∃ g1, g1 = gk := ⟨_, rfl⟩
      rw [← hg1] at hi
      have HG := Lib.hid hg1
      clear hg1
      go_wp2_with fail
      go_loopg [6] M (fun m vj wx => C3 w ⟨xk, xp, xn⟩ b m vj wx)
      case atStart => exact ⟨0, rfl, by rw [← HM.out, Nat.zero_add], rfl, HC.out.2⟩
      case round =>
        obtain ⟨j, rfl, hj, hbl, hk⟩ := hrel
        rw [← HM.out] at hj
        have HD := Lib.hid (And.intro hbl hk)
        clear hbl
        by_cases hlt2 : j < M
        · obtain ⟨y, hy⟩ : ∃ y, b[j]? = some y := ⟨_, List.getElem?_eq_getElem (by rw [← HM.out]; exact hlt2)⟩
          obtain ⟨bb, bo, cap2', hv⟩ := HB.out.shape (by rw [← HM.out]; omega)
          simp only [Value.slice.injEq] at hv
          obtain ⟨rfl, hv1, hv2⟩ := hv
          clear hv1 hv2
          obtain ⟨yk, yp, yn⟩ := y
          obtain ⟨_, c1, c2⟩ := SG.xs (HA.out.keep hk (by simp)) HX.out
          obtain ⟨_, d1, d2⟩ := SG.xs (HB.out.keep hk (by simp)) hy
          simp only at c1 c2 d1 d2
          have htk : b.take (j + 1) = b.take j ++ [⟨yk, yp, yn⟩] := by rw [List.take_add_one, hy]; rfl
          have hjj : (j : Int) < (M : Int) := by omega
          have HT2 := Lib.hid htk
          have HY := Lib.hid hy
          have HK := Lib.hid hk
          clear hy htk hk
          obtain ⟨B, hB⟩ : ∃ B, B = barB ⟨xk, xp, xn⟩ [⟨yk, yp, yn⟩] := ⟨_, rfl⟩
          rw [barB_one] at hB
          simp only at hB
          go_upto_region 7 with fail
          go_cut [43] (fun v wx => v = .bool B ∧ Keeps [] w wx)
          case first =>
            by_cases he : xp = yp
            · have q1 : (xp == yp) = true := by simp [he]
              rw [q1, Bool.true_and] at hB
              cases xn with
              | true =>
                rw [Bool.true_or] at hB
                subst hB
                clear he
                go_wp2
                go_quiet (fail)
                go_wp2
                go_meet
                case rel => exact ⟨rfl, HK.out.drewN _⟩
              | false =>
                rw [Bool.false_or] at hB
                subst hB
                clear he
                cases B with
                | true =>
                  go_wp2
                  go_quiet (fail)
                  go_wp2
                  go_meet
                  case rel => exact ⟨rfl, HK.out.drewN _⟩
                | false =>
                  go_wp2
                  go_quiet (fail)
                  go_wp2
                  go_meet
                  case rel => exact ⟨rfl, HK.out.drewN _⟩
            · have q1 : (xp == yp) = false := by simp [he]
              rw [q1, Bool.false_and] at hB
              subst hB
              clear he
              go_wp2
              go_quiet (fail)
              go_wp2
              go_meet
              case rel => exact ⟨rfl, HK.out.drewN _⟩
          case rest =>
            obtain ⟨rfl, hkc⟩ := hcut
            have HBB := Lib.hid hB
            have HKC := Lib.hid hkc
            clear hB c1 c2 d1 d2 hkc
            cases B with
            | true =>
              go_wp2
              go_ret
              refine ⟨?_, HKC.out⟩
              have hb := HBB.out
              rw [eq_comm, Bool.and_eq_true, beq_iff_eq, Bool.or_eq_true] at hb
              have : clashB a b = true := clashB_iff.2 ⟨_, List.mem_of_getElem? HX.out, _, List.mem_of_getElem? HY.out, hb⟩
              rw [this]
              rfl
            | false =>
              go_wp2
              go_roundg (gk - 1)
              case measure => omega
              case rel =>
                refine ⟨j + 1, by push_cast; rfl, by rw [← HM.out]; omega, ?_, HKC.out⟩
                rw [HT2.out, barB_append, HD.out.1, barB_one]
                exact HBB.out.symm
        · have hjM : j = M := by omega
          have hbt : barB ⟨xk, xp, xn⟩ b = false := by
            have := HD.out.1
            rwa [hjM, HM.out, List.take_length] at this
          have HBT := Lib.hid hbt
          have HK := Lib.hid hk
          clear hbt hjM hk
          go_wp2
          go_roundg (g1 - 1)
          case measure => have := HG.out; omega
          case rel =>
            refine ⟨i + 1, by push_cast; rfl, by rw [← HN.out]; omega, ?_, HK.out⟩
            rw [HT.out, clashB_append, HC.out.1, clashB_one, HBT.out]
            rfl
    · have hiN : i = N := by omega
      have hbt : clashB a b = false := by
        have := HC.out.1
        rwa [hiN, HN.out, List.take_length] at this
      have HBT := Lib.hid hbt
      clear hbt hiN hk
      go_wp2
      go_ret
      refine ⟨?_, HC.out.2⟩
      rw [HBT.out]
      rfl
end Go.Proofs.Yteekdgmfednmoaa
