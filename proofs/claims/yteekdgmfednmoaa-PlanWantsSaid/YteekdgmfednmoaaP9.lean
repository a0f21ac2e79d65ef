/-
  plan.Clash, walked.
-/
import Derived.Test.YteekdgmfednmoaaP8
namespace Go.Proofs.Yteekdgmfednmoaa
open Go.RowKit Go.V Go.V.Queue
def barB (x : It) (b : List It) : Bool := b.any (fun y => x.push == y.push && (x.n || y.n))
theorem clashB_append (a a' b : List It) : clashB (a ++ a') b = (clashB a b || clashB a' b) := by unfold clashB; rw [List.any_append]
theorem clashB_one (x : It) (b : List It) : clashB [x] b = barB x b := by unfold clashB barB; simp
theorem barB_append (x : It) (b b' : List It) : barB x (b ++ b') = (barB x b || barB x b') := by unfold barB; rw [List.any_append]
theorem barB_one (x y : It) : barB x [y] = (x.push == y.push && (x.n || y.n)) := by unfold barB; simp
def C1 (w : World) (a b : List It) (m : Nat) (vi : Value) (wx : World) : Prop := ∃ i : Nat, vi = .int .i64 i ∧ i + m = a.length ∧ clashB (a.take i) b = false ∧ Keeps [] w wx
def C2 (w : World) (x : It) (xb : Nat) (b : List It) (m : Nat) (vi : Value) (wx : World) : Prop := ∃ j : Nat, vi = .int .i64 j ∧ j + m = b.length ∧ barB x (b.take j) = false ∧ Keeps [] w wx ∧ XW x xb wx
theorem XW.keep {x : It} {xb : Nat} {w w' : World} {S : List Nat} (h : XW x xb w) (hk : Keeps S w w') (hx : xb ∉ S) : XW x xb w' := hk.get h hx
set_option maxHeartbeats 4000000 in
theorem clash_ok (A B : Value) (a b : List It) (w : World) (hA : SG F3 w A a) (hB : SG F3 w B b) (hla : a.length ≤ 1000000) (hlb : b.length ≤ 1000000) : Calls Try.prog 13 #[A, B] w (BPost (clashB a b) w) := by
  have hA2 := hA
  obtain ⟨pa, ca, rfl, hca, hca2, _⟩ := hA2
  have hB2 := hB
  obtain ⟨pb, cb, rfl, hcb, hcb2, _⟩ := hB2
  obtain ⟨N, hN⟩ : ∃ N, N = a.length := ⟨_, rfl⟩
  obtain ⟨M, hM⟩ : ∃ M, M = b.length := ⟨_, rfl⟩
  rw [← hN] at hca hA hla ⊢
  rw [← hM] at hcb hB hlb ⊢
  have HA := Lib.hid hA
  have HB := Lib.hid hB
  have HN := Lib.hid hN
  have HM := Lib.hid hM
  clear hA hB hN hM
  go_enter Try.func13, Try.ntmps13
  go_wp2_with fail
  go_loopg [11] N (fun m vi wx => C1 w a b m vi wx)
  case atStart => exact ⟨0, rfl, by rw [← HN.out, Nat.zero_add], rfl, Keeps.refl _ _⟩
  case round =>
    obtain ⟨i, rfl, hi, hcl, hk⟩ := hrel
    rw [← HN.out] at hi
    have HC := Lib.hid (And.intro hcl hk)
    clear hcl
    by_cases hlt : i < N
    · obtain ⟨x, hx⟩ : ∃ x, a[i]? = some x := ⟨_, List.getElem?_eq_getElem (by rw [← HN.out]; exact hlt)⟩
      obtain ⟨ab, ao, cap', hv⟩ := HA.out.shape (by rw [← HN.out]; omega)
      simp only [Value.slice.injEq] at hv
      obtain ⟨rfl, hv1, hv2⟩ := hv
      clear hv1 hv2
      obtain ⟨xk, xp, xn⟩ := x
      have ha := HA.out.keep hk (by simp)
      have d0 : wr.cell? ⟨ab, ao + i * 3, none⟩ = some (.int .i64 xk) := ha.item rfl hx (j := 0) rfl
      have d1 : wr.cell? ⟨ab, ao + i * 3 + 1, none⟩ = some (.int .i64 xp) := ha.item rfl hx (j := 1) rfl
      have d2 : wr.cell? ⟨ab, ao + i * 3 + 2, none⟩ = some (.bool xn) := ha.item rfl hx (j := 2) rfl
      have htk : a.take (i + 1) = a.take i ++ [⟨xk, xp, xn⟩] := by rw [List.take_add_one, hx]; rfl
      have HT := Lib.hid htk
      have HX := Lib.hid hx
      clear ha hx htk hk
      go_upto_region 4 with fail
      obtain ⟨w4, hw4⟩ : ∃ w4, w4 = wr.alloc (.cells #[.int .i64 xk, .int .i64 xp, .bool xn] 39) := ⟨_, rfl⟩
      obtain ⟨xb, hxb⟩ : ∃ xb, xb = wr.heap.size := ⟨_, rfl⟩
      have hxa : XW ⟨xk, xp, xn⟩ xb w4 := by rw [hw4, hxb]; exact heap_alloc wr _
      have hk4 : Keeps [] w w4 := HC.out.2.trans (by rw [hw4]; exact (Keeps.refl _ _).alloc _)
      have HX4 := Lib.hid (And.intro hxa hk4)
      rw [← hw4, ← hxb]
      clear hw4 hxb hxa hk4 d0 d1 d2
      obtain ⟨g1, hg1⟩ : ∃ g1, g1 = gk := ⟨_, rfl⟩
      rw [← hg1] at hi
      have HG := Lib.hid hg1
      clear hg1
      go_wp2_with fail
      go_loopg [17] M (fun m vj wx => C2 w ⟨xk, xp, xn⟩ xb b m vj wx)
      case atStart => exact ⟨0, rfl, by rw [← HM.out, Nat.zero_add], rfl, HX4.out.2, HX4.out.1⟩
      case round =>
        obtain ⟨j, rfl, hj, hbl, hk, hxa⟩ := hrel
        rw [← HM.out] at hj
        clear HX4
        have HD := Lib.hid (And.intro hbl hk)
        clear hbl
        by_cases hlt2 : j < M
        · obtain ⟨y, hy⟩ : ∃ y, b[j]? = some y := ⟨_, List.getElem?_eq_getElem (by rw [← HM.out]; exact hlt2)⟩
          obtain ⟨bb, bo, cap2', hv⟩ := HB.out.shape (by rw [← HM.out]; omega)
          simp only [Value.slice.injEq] at hv
          obtain ⟨rfl, hv1, hv2⟩ := hv
          clear hv1 hv2
          obtain ⟨yk, yp, yn⟩ := y
          have hb := HB.out.keep hk (by simp)
          have d0 : wr.cell? ⟨bb, bo + j * 3, none⟩ = some (.int .i64 yk) := hb.item rfl hy (j := 0) rfl
          have d1 : wr.cell? ⟨bb, bo + j * 3 + 1, none⟩ = some (.int .i64 yp) := hb.item rfl hy (j := 1) rfl
          have d2 : wr.cell? ⟨bb, bo + j * 3 + 2, none⟩ = some (.bool yn) := hb.item rfl hy (j := 2) rfl
          have htk : b.take (j + 1) = b.take j ++ [⟨yk, yp, yn⟩] := by rw [List.take_add_one, hy]; rfl
          have HT2 := Lib.hid htk
          have HY := Lib.hid hy
          clear hb hy htk
          go_upto_region 7 with fail
          obtain ⟨w5, hw5⟩ : ∃ w5, w5 = wr.alloc (.cells #[.int .i64 yk, .int .i64 yp, .bool yn] 39) := ⟨_, rfl⟩
          obtain ⟨yb, hyb⟩ : ∃ yb, yb = wr.heap.size := ⟨_, rfl⟩
          have hya : XW ⟨yk, yp, yn⟩ yb w5 := by rw [hw5, hyb]; exact heap_alloc wr _
          have hk5 : Keeps [] wr w5 := by rw [hw5]; exact (Keeps.refl _ _).alloc _
          have hxa5 := hxa.keep hk5 (by simp)
          have c1 : w5.cell? ⟨xb, 1, none⟩ = some (.int .i64 xp) := cell_of hxa5 rfl
          have c2 : w5.cell? ⟨xb, 2, none⟩ = some (.bool xn) := cell_of hxa5 rfl
          have e1 : w5.cell? ⟨yb, 1, none⟩ = some (.int .i64 yp) := cell_of hya rfl
          have e2 : w5.cell? ⟨yb, 2, none⟩ = some (.bool yn) := cell_of hya rfl
          have HK5 := Lib.hid (And.intro (hk.trans hk5) hxa5)
          rw [← hw5, ← hyb]
          clear hw5 hyb hya hk5 hxa5 hk hxa d0 d1 d2
          obtain ⟨B, hB⟩ : ∃ B, B = barB ⟨xk, xp, xn⟩ [⟨yk, yp, yn⟩] := ⟨_, rfl⟩
          rw [barB_one] at hB
          simp only at hB
          go_cut [33] (fun v wx => v = .bool B ∧ wx = w5)
          case first =>
            by_cases he : xp = yp
            · have q1 : (xp == yp) = true := by simp [he]
              rw [q1, Bool.true_and] at hB
              cases xn with
              | true =>
                have HBB := Lib.hid hB
                clear hB he
                go_wp2
                go_meet
                case rel => exact ⟨by rw [HBB.out]; rfl, rfl⟩
              | false =>
                have HBB := Lib.hid hB
                clear hB he
                go_wp2
                go_meet
                case rel => exact ⟨by rw [HBB.out]; rfl, rfl⟩
            · have q1 : (xp == yp) = false := by simp [he]
              rw [q1, Bool.false_and] at hB
              have HBB := Lib.hid hB
              clear hB he
              go_wp2
              go_meet
              case rel => exact ⟨by rw [HBB.out], rfl⟩
          case rest =>
            obtain ⟨rfl, rfl⟩ := hcut
            have HBB := Lib.hid hB
            clear hB c1 c2 e1 e2
            cases B with
            | true =>
              go_wp2
              go_ret
              refine ⟨?_, HK5.out.1⟩
              have hb := HBB.out
              rw [eq_comm, Bool.and_eq_true, beq_iff_eq, Bool.or_eq_true] at hb
              have : clashB a b = true := clashB_iff.2 ⟨_, List.mem_of_getElem? HX.out, _, List.mem_of_getElem? HY.out, hb⟩
              rw [this]
              rfl
            | false =>
              go_wp2
              go_roundg (gk - 1)
              case measure => omega
              case rel =>
                refine ⟨j + 1, by push_cast; rfl, by rw [← HM.out]; omega, ?_, HK5.out.1, HK5.out.2⟩
                rw [HT2.out, barB_append, HD.out.1, barB_one]
                exact HBB.out.symm
        · have hjM : j = M := by omega
          have hbt : barB ⟨xk, xp, xn⟩ b = false := by
            have := HD.out.1
            rwa [hjM, HM.out, List.take_length] at this
          have HBT := Lib.hid hbt
          have HK := Lib.hid hk
          clear hbt hjM hxa hk
          go_wp2
          go_roundg (g1 - 1)
          case measure => have := HG.out; omega
          case rel =>
            refine ⟨i + 1, by push_cast; rfl, by rw [← HN.out]; omega, ?_, HK.out⟩
            rw [HT.out, clashB_append, HC.out.1, clashB_one, HBT.out]
            rfl
    · have hiN : i = N := by omega
      have hbt : clashB a b = false := by
        have := HC.out.1
        rwa [hiN, HN.out, List.take_length] at this
      have HBT := Lib.hid hbt
      clear hbt hiN hk
      go_wp2
      go_ret
      refine ⟨?_, HC.out.2⟩
      rw [HBT.out]
      rfl
end Go.Proofs.Yteekdgmfednmoaa
