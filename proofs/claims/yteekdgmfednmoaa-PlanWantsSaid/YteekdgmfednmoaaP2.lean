/-
  container/heap's down over wants.
-/
import Derived.Test.YteekdgmfednmoaaP1
namespace Go.V.Queue
open Go Go.V
/-- the child that is ahead -/
def kid (n : Nat) (l : List It) (i : Nat) : Nat := if 2 * i + 2 < n ∧ aheadB (at_ l (2 * i + 2)) (at_ l (2 * i + 1)) = true then 2 * i + 2 else 2 * i + 1
theorem downL_stop {n : Nat} {l : List It} {i : Nat} (h : n ≤ 2 * i + 1) : ∀ k, downL n k l i = (l, i)
  | 0 => rfl
  | k + 1 => by rw [downL, if_pos h]
theorem downL_go {n k : Nat} {l : List It} {i : Nat} (h : ¬ n ≤ 2 * i + 1) : downL n (k + 1) l i = if aheadB (at_ l (kid n l i)) (at_ l i) = true then downL n k (swapL l i (kid n l i)) (kid n l i) else (l, i) := by
  rw [downL, if_neg h]
  unfold kid
  by_cases c : 2 * i + 2 < n ∧ aheadB (at_ l (2 * i + 2)) (at_ l (2 * i + 1)) = true
  · rw [if_pos c, if_pos c]
  · rw [if_neg c, if_neg c]
end Go.V.Queue
namespace Go.Proofs.Yteekdgmfednmoaa
open Go.RowKit Go.V Go.V.Queue
def DI (qb : Nat) (vs x : Value) (m n : Nat) (RES : List It × Nat) (w : World) (k : Nat) (v : Value) (wx : World) : Prop :=
  ∃ (i : Nat) (l : List It), v = .int .i64 i ∧ i ≤ n ∧ l.length = m ∧ n - i ≤ k ∧ downL n k l i = RES ∧ QL wx qb vs x l ∧ Keeps vs.ownBlock.toList w wx
def DPost (qb : Nat) (vs x : Value) (i0 : Nat) (RES : List It × Nat) (w : World) (e : Ending) (w' : World) : Prop := e = .returned (.bool (decide (i0 < RES.2))) ∧ QL w' qb vs x RES.1 ∧ Keeps vs.ownBlock.toList w w'
set_option maxHeartbeats 1000000 in
theorem down_ok (qb : Nat) (vs x : Value) (l : List It) (i0 n : Nat) (w : World) (h : QL w qb vs x l) (hi : i0 ≤ n) (hn : n ≤ l.length) (hn2 : n ≤ 1000000) : Calls Try.prog 25 #[IF qb, .int .i64 i0, .int .i64 n] w (DPost qb vs x i0 (downL n n l i0) w) := by
  obtain ⟨RES, hR⟩ : ∃ RES, RES = downL n n l i0 := ⟨_, rfl⟩
  obtain ⟨p, c, rfl, hmc, hc63⟩ := h.2.value
  obtain ⟨m, hm⟩ : ∃ m, m = l.length := ⟨_, rfl⟩
  rw [← hR]
  rw [← hm] at hn hmc h ⊢
  have H := Lib.hid h
  have HR := Lib.hid hR
  have HM := Lib.hid hm
  clear h hR hm
  obtain ⟨nI, hnI⟩ : ∃ nI : Int, nI = n := ⟨_, rfl⟩
  have HN := Lib.hid hnI
  have hn3 : nI ≤ 1000000 := by omega
  have hn4 : 0 ≤ nI := by omega
  rw [← hnI]
  clear hnI
  unfold IF
  go_enter Try.func25, Try.ntmps25
  go_wp2_with fail
  go_loopg [7] n (fun k v wx => DI qb (.slice p m c) x m n RES w k v wx)
  case atStart => exact ⟨i0, l, rfl, hi, HM.out.symm, by omega, HR.out.symm, H.out, Keeps.refl _ _⟩
  case round =>
    obtain ⟨i, l, rfl, hi2, hl, hik, hres, hq, hk⟩ := hrel
    have c0 : wr.cell? ⟨qb, 0, none⟩ = some (.slice p m c) := cell_of hq.1 rfl
    have HQ := Lib.hid hq
    have HRS := Lib.hid (And.intro hres (And.intro hl hk))
    clear hq hres hk hl
    obtain ⟨I, hI⟩ : ∃ I : Int, I = i := ⟨_, rfl⟩
    have HI := Lib.hid hI
    have hI0 : 0 ≤ I := by omega
    have hI1 : I ≤ nI := by have := HN.out; omega
    rw [← hI]
    clear hI
    by_cases hs : nI ≤ 2 * I + 1
    · go_wp2
      go_ret
      have h := HRS.out.1
      rw [downL_stop (by have := HN.out; have := HI.out; omega)] at h
      rw [← h]
      refine ⟨?_, HQ.out, HRS.out.2.2⟩
      rw [HI.out]
      simp
    · have hs' : ¬ n ≤ 2 * i + 1 := by have := HN.out; have := HI.out; omega
      obtain ⟨J, hJ⟩ : ∃ J, J = kid n l i := ⟨_, rfl⟩
      have hJn : J < n := by
        rw [hJ]; unfold kid; split <;> omega
      have hJi : i < J := by
        rw [hJ]; unfold kid; split <;> omega
      have HJ := Lib.hid hJ
      obtain ⟨J1, hJ1⟩ : ∃ J1 : Nat, J1 = 2 * i + 1 := ⟨_, rfl⟩
      obtain ⟨J2, hJ2⟩ : ∃ J2 : Nat, J2 = 2 * i + 2 := ⟨_, rfl⟩
      have e1 : 2 * I + 1 = (J1 : Int) := by have := HI.out; omega
      have e2 : (J1 : Int) + 1 = (J2 : Int) := by omega
      have hs1 : ¬ nI ≤ (J1 : Int) := by omega
      have hs0 : ¬ (J1 : Int) < 0 := by omega
      have HJJ := Lib.hid (And.intro hJ1 hJ2)
      clear hs hJ hJ1 hJ2
      obtain ⟨B, hB⟩ : ∃ B : Bool, B = decide (2 * i + 2 < n ∧ aheadB (at_ l (2 * i + 2)) (at_ l (2 * i + 1)) = true) := ⟨_, rfl⟩
      have HBB := Lib.hid hB
      clear hB
      go_upto_region 6 with fail
      go_cut [33] (fun v wx => v = .bool B ∧ QL wx qb (.slice p m c) x l ∧ Keeps [] wr wx)
      case first =>
        by_cases hs2 : (J2 : Int) < nI
        · have hJ2n : J2 < n := by have := HN.out; omega
          have hm1 := method_of m_less 175 qb wr p m c c0
          have hl1 := less_ok (.slice p m c) l J2 J1 (at_ l J2) (at_ l J1) wr HQ.out.2 (at_get (by rw [HRS.out.2.1]; omega)) (at_get (by rw [HRS.out.2.1]; omega))
          obtain ⟨b, hb⟩ : ∃ b, b = aheadB (at_ l J2) (at_ l J1) := ⟨_, rfl⟩
          rw [← hb] at hl1
          have HL := Lib.hid hl1
          have HB := Lib.hid hb
          clear hl1 hb
          go_wp2_with fail
          refine HL.out.mono ?_
          rintro e w1 ⟨rfl, hk1⟩
          have HK1 := Lib.hid hk1
          clear hk1 hm1
          go_wp2
          go_meet
          case rel =>
            have hb := HB.out
            rw [HJJ.out.1, HJJ.out.2] at hb
            refine ⟨?_, HQ.out.keep HK1.out (by simp) (by simp), HK1.out⟩
            have : B = b := by
              rw [HBB.out, hb]
              have h2 : 2 * i + 2 < n := by have := HJJ.out.2; omega
              cases aheadB (at_ l (2 * i + 2)) (at_ l (2 * i + 1)) <;> simp [h2]
            rw [this]
        · go_wp2
          go_meet
          case rel =>
            refine ⟨?_, HQ.out, Keeps.refl _ _⟩
            have : B = false := by
              rw [HBB.out]
              exact decide_eq_false (fun h => by have := h.1; have := HJJ.out.2; have := HN.out; omega)
            rw [this]
      case rest =>
      obtain ⟨rfl, hq2, hk2⟩ := hcut
      go_upto_if 33 with fail
      go_cut [9] (fun v wx => v = .int .i64 J ∧ wc = wx)
      case first =>
        have hB := HBB.out
        have hJ := HJ.out
        unfold kid at hJ
        cases B with
        | true =>
          have hd := of_decide_eq_true hB.symm
          rw [if_pos hd, ← HJJ.out.2] at hJ
          have HJ3 := Lib.hid hJ
          clear hJ hd hB
          go_wp2
          go_meet
          case rel => exact ⟨by rw [HJ3.out], rfl⟩
        | false =>
          have hd := of_decide_eq_false hB.symm
          rw [if_neg hd, ← HJJ.out.1] at hJ
          have HJ3 := Lib.hid hJ
          clear hJ hd hB
          go_wp2
          go_meet
          case rel => exact ⟨by rw [HJ3.out], rfl⟩
      case rest =>
        obtain ⟨rfl, rfl⟩ := hcut
        have c1 : wc.cell? ⟨qb, 0, none⟩ = some (.slice p m c) := cell_of hq2.1 rfl
        have hm1 := method_of m_less 175 qb wc p m c c1
        have hl1 := less_ok (.slice p m c) l J i (at_ l J) (at_ l i) wc hq2.2 (at_get (by rw [HRS.out.2.1]; omega)) (at_get (by rw [HRS.out.2.1]; omega))
        rw [← HI.out] at hl1
        obtain ⟨b, hb⟩ : ∃ b, b = aheadB (at_ l J) (at_ l i) := ⟨_, rfl⟩
        rw [← hb] at hl1
        have HL := Lib.hid hl1
        have HB := Lib.hid hb
        have HQ2 := Lib.hid hq2
        have HK2 := Lib.hid (HRS.out.2.2.trans' hk2 (by simp))
        clear hl1 hb hq2 hk2 e1 e2 hs1 hs0
        go_wp2_with fail
        refine HL.out.mono ?_
        rintro e w1 ⟨rfl, hk1⟩
        have hq1 := HQ2.out.keep hk1 (by simp) (by simp)
        have c2 : w1.cell? ⟨qb, 0, none⟩ = some (.slice p m c) := cell_of hq1.1 rfl
        have hm2 := method_of m_swap 175 qb w1 p m c c2
        have hsw := swap_ok (.slice p m c) l i J (at_ l i) (at_ l J) w1 hq1.2 (at_get (by rw [HRS.out.2.1]; omega)) (at_get (by rw [HRS.out.2.1]; omega))
        rw [← HI.out] at hsw
        have HSW := Lib.hid hsw
        have HQ1 := Lib.hid hq1
        have HK1 := Lib.hid (HK2.out.trans' hk1 (by simp))
        clear hk1 hq1 hsw hm1 c1
        obtain ⟨k', hk'⟩ : ∃ k', gk = k' + 1 := ⟨gk - 1, by omega⟩
        cases b with
        | false =>
          go_wp2
          go_ret
          have h := HRS.out.1
          rw [hk', downL_go hs', ← HJ.out, ← HB.out, if_neg (by simp)] at h
          rw [← h]
          refine ⟨?_, HQ1.out, HK1.out⟩
          rw [HI.out]
          simp
        | true =>
          go_wp2_with fail
          refine HSW.out.mono ?_
          rintro e w2 ⟨rfl, r1, r2⟩
          have HR2 := Lib.hid (And.intro r1 r2)
          clear r1 r2 hm2 c2
          go_wp2
          go_roundg (gk - 1)
          case measure => omega
          case rel =>
            have h := HRS.out.1
            rw [hk', downL_go hs', ← HJ.out, ← HB.out, if_pos rfl] at h
            exact ⟨J, swapL l i J, rfl, by omega, by rw [length_swapL]; exact HRS.out.2.1, by omega, by rw [hk']; exact h, HQ1.out.swap HR2.out.1 HR2.out.2, HK1.out.trans HR2.out.2⟩
end Go.Proofs.Yteekdgmfednmoaa
