/-
  PlanClashes' walk.
-/
import Derived.Test.YteekdgmfednmoaaP13
namespace Go.V.Queue
open Go Go.V
def readsB (l : List It) : Bool := l.all (fun x => !x.n)
theorem clash_reads {a b : List It} (h : clashB a b = true) : (readsB a && readsB b) = false := by
  cases hr : readsB a && readsB b with
  | false => rfl
  | true =>
    rw [Bool.and_eq_true] at hr
    unfold readsB at hr
    rw [List.all_eq_true, List.all_eq_true] at hr
    obtain ⟨x, hx, y, hy, _, q⟩ := clashB_iff.1 h
    have h1 := hr.1 x hx
    have h2 := hr.2 y hy
    rcases q with q | q
    · rw [q] at h1; cases h1
    · rw [q] at h2; cases h2
theorem clash_nil (a : List It) : clashB a [] = false := by
  cases h : clashB a [] with
  | false => rfl
  | true =>
    obtain ⟨x, _, y, hy, _⟩ := clashB_iff.1 h
    simp at hy
end Go.V.Queue
namespace Go.Proofs.Yteekdgmfednmoaa
open Go.RowKit Go.V Go.V.Queue
set_option maxHeartbeats 4000000 in
theorem reads_ok (A : Value) (l : List It) (w : World) (hA : SG F3 w A l) (hl : l.length ≤ 1000000) : Calls Try.prog 19 #[A] w (BPost (readsB l) w) := by
  have hA2 := hA
  obtain ⟨pa, ca, rfl, hca, hca2, _⟩ := hA2
  obtain ⟨N, hN⟩ : ∃ N, N = l.length := ⟨_, rfl⟩
  rw [← hN] at hca hA hl ⊢
  have HA := Lib.hid hA
  have HN := Lib.hid hN
  clear hA hN
  go_enter Try.func19, Try.ntmps19
  go_wp2_with fail
  go_loopg [6] N (fun m vi wx => ∃ i : Nat, vi = .int .i64 i ∧ i + m = l.length ∧ readsB (l.take i) = true ∧ wx = w)
  case atStart => exact ⟨0, rfl, by rw [← HN.out, Nat.zero_add], rfl, rfl⟩
  case round =>
    obtain ⟨i, rfl, hi, hr, rfl⟩ := hrel
    rw [← HN.out] at hi
    have HR := Lib.hid hr
    clear hr
    by_cases hlt : i < N
    · obtain ⟨x, hx⟩ : ∃ x, l[i]? = some x := ⟨_, List.getElem?_eq_getElem (by rw [← HN.out]; exact hlt)⟩
      obtain ⟨ab, ao, cap', hv⟩ := HA.out.shape (by rw [← HN.out]; omega)
      simp only [Value.slice.injEq] at hv
      obtain ⟨rfl, hv1, hv2⟩ := hv
      clear hv1 hv2
      obtain ⟨_, _, c2⟩ := SG.xs HA.out hx
      have htk : l.take (i + 1) = l.take i ++ [x] := by rw [List.take_add_one, hx]; rfl
      have HT := Lib.hid htk
      have HX := Lib.hid hx
      obtain ⟨xk, xp, xn⟩ := x
      simp only at c2
      have hii : (i : Int) < (N : Int) := by omega
      clear hx htk
      cases xn with
      | true =>
        go_wp2
        go_ret
        refine ⟨?_, Keeps.refl _ _⟩
        have : readsB l = false := by
          cases h : readsB l with
          | false => rfl
          | true =>
            unfold readsB at h
            rw [List.all_eq_true] at h
            have := h _ (List.mem_of_getElem? HX.out)
            cases this
        rw [this]
        rfl
      | false =>
        go_wp2
        go_roundg (gk - 1)
        case measure => omega
        case rel =>
          refine ⟨i + 1, by push_cast; rfl, by rw [← HN.out]; omega, ?_, rfl⟩
          have := HR.out
          unfold readsB at this ⊢
          rw [HT.out, List.all_append, this]
          rfl
    · have hiN : l.take i = l := List.take_of_length_le (by rw [← HN.out]; omega)
      have hr := HR.out
      rw [hiN] at hr
      have HR2 := Lib.hid hr
      clear hiN hr
      go_wp2
      go_ret
      refine ⟨?_, Keeps.refl _ _⟩
      rw [HR2.out]
      rfl
set_option maxRecDepth 100000 in
set_option maxHeartbeats 4000000 in
theorem clashes_any (A B : Value) (a b : List It) (w : World) (hA : SG F3 w A a) (hB : SG F3 w B b) : Calls Try.prog 6 #[A, B] w (BPost true w) := by
  have hA2 := hA
  obtain ⟨pa, ca, rfl, hca, hca2, _⟩ := hA2
  have hB2 := hB
  obtain ⟨pb, cb, rfl, hcb, hcb2, _⟩ := hB2
  obtain ⟨N, hN⟩ : ∃ N, N = a.length := ⟨_, rfl⟩
  obtain ⟨M, hM⟩ : ∃ M, M = b.length := ⟨_, rfl⟩
  rw [← hN] at hca hA ⊢
  rw [← hM] at hcb hB ⊢
  have HA := Lib.hid hA
  have HB := Lib.hid hB
  have HN := Lib.hid hN
  have HM := Lib.hid hM
  clear hA hB hN hM
  go_enter Try.func6, Try.ntmps6
  go_wp2_with fail
  refine (awake_ok _).mono ?_
  rintro e w1 ⟨rfl, hk1⟩
  by_cases h1 : N ≤ 100
  · by_cases h2 : M ≤ 100
    · obtain ⟨c, hc⟩ : ∃ c, c = clashB a b := ⟨_, rfl⟩
      have hcl := clash_ok _ _ a b w1 (HA.out.keep hk1 (by simp)) (HB.out.keep hk1 (by simp)) (by rw [← HN.out]; omega) (by rw [← HM.out]; omega)
      rw [← hc] at hcl
      have HC := Lib.hid hcl
      have HCC := Lib.hid hc
      have HK1 := Lib.hid hk1
      have hcc : (c != c) = false := by simp
      clear hcl hc hk1
      go_wp2_with fail
      refine HC.out.mono ?_
      rintro e w2 ⟨rfl, hk2⟩
      have hk2 := HK1.out.trans hk2
      have hcl := clash_ok _ _ b a w2 (HB.out.keep hk2 (by simp)) (HA.out.keep hk2 (by simp)) (by rw [← HM.out]; omega) (by rw [← HN.out]; omega)
      rw [clashB_comm, ← HCC.out] at hcl
      have HC2 := Lib.hid hcl
      have HK2 := Lib.hid hk2
      clear hcl hk2 HC HK1
      go_wp2_with fail
      refine HC2.out.mono ?_
      rintro e w3 ⟨rfl, hk3⟩
      have hk3 := HK2.out.trans hk3
      have hra := reads_ok _ a w3 (HA.out.keep hk3 (by simp)) (by rw [← HN.out]; omega)
      obtain ⟨ra, hra0⟩ : ∃ ra, ra = readsB a := ⟨_, rfl⟩
      rw [← hra0] at hra
      have HRA := Lib.hid hra
      have HRA0 := Lib.hid hra0
      have HK3 := Lib.hid hk3
      clear hk3 HC2 HK2 hra hra0
      cases c with
      | true =>
        go_wp2_with fail
        refine HRA.out.mono ?_
        rintro e w4 ⟨rfl, hk4⟩
        have hk4 := HK3.out.trans hk4
        have hrb := reads_ok _ b w4 (HB.out.keep hk4 (by simp)) (by rw [← HM.out]; omega)
        cases ra with
        | true =>
          have hf : readsB b = false := by
            have := clash_reads HCC.out.symm
            rwa [← HRA0.out, Bool.true_and] at this
          rw [hf] at hrb
          have HRB := Lib.hid hrb
          have HK4 := Lib.hid hk4
          clear hk4 hrb hf HRA HK3
          go_wp2_with fail
          refine HRB.out.mono ?_
          rintro e w5 ⟨rfl, hk5⟩
          have HK := Lib.hid (HK4.out.trans hk5)
          clear hk5 HRB HK4
          have HO := Lib.hid (order_ok _ a w5 (HA.out.keep HK.out (by simp)) (by rw [← HN.out]; omega))
          go_wp2_with fail
          refine HO.out.mono ?_
          rintro e w6 ⟨va, oa, rfl, a1, a2, a3⟩
          obtain ⟨po, co, hvo, _, _⟩ := a3.1.value
          subst hvo
          have HOA := Lib.hid (And.intro a1 (And.intro a2 a3))
          have hk6 := HK.out.trans a3.2.2
          have HK6 := Lib.hid hk6
          have HO2 := Lib.hid (order_ok _ b w6 (HB.out.keep hk6 (by simp)) (by rw [← HM.out]; omega))
          clear a1 a2 a3 hk6 HO
          go_wp2_with fail
          refine HO2.out.mono ?_
          rintro e w7 ⟨vb, ob, rfl, a1, a2, a3⟩
          obtain ⟨po2, co2, hvo, _, _⟩ := a3.1.value
          subst hvo
          have hk7 := HK6.out.trans a3.2.2
          have hcl := clash_ok _ _ oa ob w7 (HOA.out.2.2.1.keep a3.2.2 (by simp)).sg a3.1.sg (Nat.le_trans HOA.out.2.1 (by rw [← HN.out]; omega)) (Nat.le_trans a2 (by rw [← HM.out]; omega))
          rw [← HOA.out.1.clash a1, ← HCC.out] at hcl
          have HC3 := Lib.hid hcl
          have HK7 := Lib.hid hk7
          clear a1 a2 a3 hcl hk7 HO2
          go_wp2_with fail
          refine HC3.out.mono ?_
          rintro e w8 ⟨rfl, hk8⟩
          have hk8 := HK7.out.trans hk8
          have hcl := clash_ok _ (.slice none 0 0) a [] w8 (HA.out.keep hk8 (by simp)) (RowG.nil F3 39 w8).sg (by rw [← HN.out]; omega) (by simp)
          rw [clash_nil] at hcl
          have HC4 := Lib.hid hcl
          have HK8 := Lib.hid hk8
          clear hcl hk8 HC3
          go_wp2_with fail
          refine HC4.out.mono ?_
          rintro e w9 ⟨rfl, hk9⟩
          go_wp2
          go_ret
          exact ⟨rfl, HK8.out.trans hk9⟩
        | false =>
          have HK := Lib.hid hk4
          clear hk4 HRA HK3 hrb
          have HO := Lib.hid (order_ok _ a w4 (HA.out.keep HK.out (by simp)) (by rw [← HN.out]; omega))
          go_wp2_with fail
          refine HO.out.mono ?_
          rintro e w6 ⟨va, oa, rfl, a1, a2, a3⟩
          obtain ⟨po, co, hvo, _, _⟩ := a3.1.value
          subst hvo
          have HOA := Lib.hid (And.intro a1 (And.intro a2 a3))
          have hk6 := HK.out.trans a3.2.2
          have HK6 := Lib.hid hk6
          have HO2 := Lib.hid (order_ok _ b w6 (HB.out.keep hk6 (by simp)) (by rw [← HM.out]; omega))
          clear a1 a2 a3 hk6 HO
          go_wp2_with fail
          refine HO2.out.mono ?_
          rintro e w7 ⟨vb, ob, rfl, a1, a2, a3⟩
          obtain ⟨po2, co2, hvo, _, _⟩ := a3.1.value
          subst hvo
          have hk7 := HK6.out.trans a3.2.2
          have hcl := clash_ok _ _ oa ob w7 (HOA.out.2.2.1.keep a3.2.2 (by simp)).sg a3.1.sg (Nat.le_trans HOA.out.2.1 (by rw [← HN.out]; omega)) (Nat.le_trans a2 (by rw [← HM.out]; omega))
          rw [← HOA.out.1.clash a1, ← HCC.out] at hcl
          have HC3 := Lib.hid hcl
          have HK7 := Lib.hid hk7
          clear a1 a2 a3 hcl hk7 HO2
          go_wp2_with fail
          refine HC3.out.mono ?_
          rintro e w8 ⟨rfl, hk8⟩
          have hk8 := HK7.out.trans hk8
          have hcl := clash_ok _ (.slice none 0 0) a [] w8 (HA.out.keep hk8 (by simp)) (RowG.nil F3 39 w8).sg (by rw [← HN.out]; omega) (by simp)
          rw [clash_nil] at hcl
          have HC4 := Lib.hid hcl
          have HK8 := Lib.hid hk8
          clear hcl hk8 HC3
          go_wp2_with fail
          refine HC4.out.mono ?_
          rintro e w9 ⟨rfl, hk9⟩
          go_wp2
          go_ret
          exact ⟨rfl, HK8.out.trans hk9⟩
      | false =>
        have HK := HK3
        clear HRA HK3
        have HO := Lib.hid (order_ok _ a w3 (HA.out.keep HK.out (by simp)) (by rw [← HN.out]; omega))
        go_wp2_with fail
        refine HO.out.mono ?_
        rintro e w6 ⟨va, oa, rfl, a1, a2, a3⟩
        obtain ⟨po, co, hvo, _, _⟩ := a3.1.value
        subst hvo
        have HOA := Lib.hid (And.intro a1 (And.intro a2 a3))
        have hk6 := HK.out.trans a3.2.2
        have HK6 := Lib.hid hk6
        have HO2 := Lib.hid (order_ok _ b w6 (HB.out.keep hk6 (by simp)) (by rw [← HM.out]; omega))
        clear a1 a2 a3 hk6 HO
        go_wp2_with fail
        refine HO2.out.mono ?_
        rintro e w7 ⟨vb, ob, rfl, a1, a2, a3⟩
        obtain ⟨po2, co2, hvo, _, _⟩ := a3.1.value
        subst hvo
        have hk7 := HK6.out.trans a3.2.2
        have hcl := clash_ok _ _ oa ob w7 (HOA.out.2.2.1.keep a3.2.2 (by simp)).sg a3.1.sg (Nat.le_trans HOA.out.2.1 (by rw [← HN.out]; omega)) (Nat.le_trans a2 (by rw [← HM.out]; omega))
        rw [← HOA.out.1.clash a1, ← HCC.out] at hcl
        have HC3 := Lib.hid hcl
        have HK7 := Lib.hid hk7
        clear a1 a2 a3 hcl hk7 HO2
        go_wp2_with fail
        refine HC3.out.mono ?_
        rintro e w8 ⟨rfl, hk8⟩
        have hk8 := HK7.out.trans hk8
        have hcl := clash_ok _ (.slice none 0 0) a [] w8 (HA.out.keep hk8 (by simp)) (RowG.nil F3 39 w8).sg (by rw [← HN.out]; omega) (by simp)
        rw [clash_nil] at hcl
        have HC4 := Lib.hid hcl
        have HK8 := Lib.hid hk8
        clear hcl hk8 HC3
        go_wp2_with fail
        refine HC4.out.mono ?_
        rintro e w9 ⟨rfl, hk9⟩
        go_wp2
        go_ret
        exact ⟨rfl, HK8.out.trans hk9⟩
    · have h2' : 100 < M := by omega
      clear h2
      go_wp2
      go_ret
      exact ⟨rfl, hk1⟩
  · have h1' : 100 < N := by omega
    clear h1
    go_wp2
    go_ret
    exact ⟨rfl, hk1⟩
end Go.Proofs.Yteekdgmfednmoaa
