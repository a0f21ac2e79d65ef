/-
  The reference's Order, walked.
-/
import Derived.Test.YteekdgmfednmoaaP18
import Derived.Test.YteekdgmfednmoaaP10
import Derived.Test.YteekdgmfednmoaaV10
namespace Go.Proofs.Yteekdgmfednmoaa
open Go.RowKit Go.V Go.V.Queue
def Q1 (w : World) (l : List It) (m : Nat) (va vi : Value) (wx : World) : Prop :=
  ∃ (i : Nat) (one : List It), vi = .int .i64 i ∧ i + m = l.length ∧ Made F3 48 w va one wx ∧ OneP (l.take i) one ∧ one.length ≤ i
/-- the two rows of the second loop -/
structure QB (w : World) (va vo : Value) (one out : List It) (wx : World) : Prop where
  a : Made F3 48 w va one wx
  o : Made F3 48 w vo out wx
  ap : ∀ x, vo.ownBlock = some x → va.ownBlock ≠ some x
theorem QB.keep {w wx w' : World} {va vo : Value} {one out : List It} (h : QB w va vo one out wx) (hk : Keeps [] wx w') : QB w va vo one out w' := ⟨h.a.keep hk, h.o.keep hk, h.ap⟩
theorem QB.appo {w wx w' : World} {va vo vo' : Value} {one out out' : List It} (h : QB w va vo one out wx) (k1 : RowG F3 48 w' vo' out') (k2 : ∀ x, vo'.ownBlock = some x → vo.ownBlock = some x ∨ wx.heap.size ≤ x) (k3 : wx.grownBy w' vo.ownBlock) : QB w va vo' one out' w' := by
  have hk : Keeps vo.ownBlock.toList wx w' := keeps_grown (S := vo.ownBlock.toList) k3 (fun k hk => by rw [hk]; simp)
  refine ⟨⟨h.a.1.keep hk (fun x hx e => h.ap x (by simpa using hx) e), h.a.2.1, h.a.2.2.trans' hk (fun x hx => Or.inr (h.o.2.1 x (by simpa using hx)))⟩, h.o.app k1 k2 k3, fun x hx e => ?_⟩
  rcases k2 x hx with q | q
  · exact h.ap x q e
  · have := h.a.1.lt e; omega
/-- 'one' is made anew -/
theorem QB.new {w wb w' : World} {va vo va' : Value} {one out one' : List It} (h : QB w va vo one out wb) (hm : Made F3 48 wb va' one' w') : QB w va' vo one' out w' :=
  ⟨hm.from h.a.2.2, h.o.keep hm.2.2, fun x hx e => by have := h.o.1.lt hx; have := hm.2.1 x e; omega⟩
def Q3 (w : World) (one0 : List It) (m : Nat) (va vo : Value) (wx : World) : Prop := ∃ one out, one.length ≤ m ∧ out.length + m ≤ one0.length ∧ SelP one0 one out ∧ QB w va vo one out wx
def ROrdPost (l : List It) (w : World) (e : Ending) (w' : World) : Prop := ∃ va o, e = .returned va ∧ OrdP l o ∧ Made F3 48 w va o w'
set_option maxRecDepth 100000 in
set_option maxHeartbeats 4000000 in
theorem rorder_ok (A : Value) (l : List It) (w : World) (hA : SG F3 w A l) (hl : l.length ≤ 100000) : Calls Try.prog 11 #[A] w (ROrdPost l w) := by
  have hA2 := hA
  obtain ⟨pa, ca, rfl, hca, hca2, _⟩ := hA2
  obtain ⟨N, hN⟩ : ∃ N, N = l.length := ⟨_, rfl⟩
  rw [← hN] at hca hA hl ⊢
  have HA := Lib.hid hA
  have HN := Lib.hid hN
  have HE := Lib.hid (Made.empty F3 48 w)
  clear hA hN
  go_enter Try.func11, Try.ntmps11
  go_upto_block 0 with fail
  go_cut [3] (fun va wx => ∃ one, OneP l one ∧ one.length ≤ l.length ∧ Made F3 48 w va one wx)
  case first =>
    go_wp2_with fail
    go_loopg [3, 4] N (fun m va vi wx => Q1 w l m va vi wx)
    case atStart => exact ⟨0, [], rfl, by rw [← HN.out, Nat.zero_add], HE.out, OneP.nil, Nat.le_refl _⟩
    case round =>
      obtain ⟨i, one, rfl, hi, hm, ho, hol⟩ := hrel
      rw [← HN.out] at hi
      clear HE
      obtain ⟨pv, cv, hv, hcv, hcv2⟩ := hm.1.value
      obtain ⟨M, hM⟩ : ∃ M, M = one.length := ⟨_, rfl⟩
      rw [← hM] at hv hol hcv
      subst hv
      have HM := Lib.hid hm
      have HP := Lib.hid ho
      have HL := Lib.hid hM
      clear hm ho hM
      by_cases hlt : i < N
      · obtain ⟨z, hz⟩ : ∃ z, l[i]? = some z := ⟨_, List.getElem?_eq_getElem (by rw [← HN.out]; exact hlt)⟩
        obtain ⟨ab, ao, cap', hv⟩ := HA.out.shape (by rw [← HN.out]; omega)
        simp only [Value.slice.injEq] at hv
        obtain ⟨rfl, hv1, hv2⟩ := hv
        clear hv1 hv2
        obtain ⟨zk, zp, zn⟩ := z
        have htk : l.take (i + 1) = l.take i ++ [⟨zk, zp, zn⟩] := by rw [List.take_add_one, hz]; rfl
        have hii : (i : Int) < (N : Int) := by omega
        have HZ := Lib.hid hz
        have HT := Lib.hid htk
        clear hz htk
        go_upto_block 2 with fail
        go_cut [5] (fun v wx => ∃ A1 : Int, v = .int .i64 A1 ∧ Keeps [] wr wx ∧ ((A1 = -1 ∧ ∀ y ∈ one, y.push ≠ zp) ∨ ∃ a x, A1 = (a : Nat) ∧ one[a]? = some x ∧ x.push = zp))
        case first =>
          obtain ⟨g1, hg1⟩ : ∃ g1, g1 = gk := ⟨_, rfl⟩
          go_wp2_with fail
          go_loopg [5, 6] M (fun m va vk wx => ∃ (k : Nat) (A1 : Int), vk = .int .i64 k ∧ va = .int .i64 A1 ∧ k + m = M ∧ Keeps [] wr wx ∧ ((A1 = -1 ∧ ∀ y ∈ one.take k, y.push ≠ zp) ∨ ∃ a x, A1 = (a : Nat) ∧ one[a]? = some x ∧ x.push = zp))
          case atStart => exact ⟨0, -1, rfl, rfl, Nat.zero_add _, Keeps.refl _ _, Or.inl ⟨rfl, fun y hy => by simp at hy⟩⟩
          case round =>
            obtain ⟨k, A1, rfl, rfl, hk, hkp, hat⟩ := hrel
            have HAT := Lib.hid hat
            clear hat
            by_cases hlt2 : k < M
            · obtain ⟨y, hy⟩ : ∃ y, one[k]? = some y := ⟨_, List.getElem?_eq_getElem (by rw [← HL.out]; exact hlt2)⟩
              obtain ⟨ob, oc, _, hv, _⟩ := HM.out.1.shape (by rw [← HL.out]; omega)
              simp only [Value.slice.injEq] at hv
              obtain ⟨rfl, hv1, hv2⟩ := hv
              clear hv1 hv2
              obtain ⟨yk, yp, yn⟩ := y
              obtain ⟨_, c1, _⟩ := SG.xs (HM.out.1.keep hkp (by simp)).sg hy
              obtain ⟨_, d1, _⟩ := SG.xs (HA.out.keep (HM.out.2.2.trans hkp) (by simp)) HZ.out
              simp only at c1 d1
              rw [Nat.zero_add] at c1
              have hkk : (k : Int) < (M : Int) := by omega
              have htk : one.take (k + 1) = one.take k ++ [⟨yk, yp, yn⟩] := by rw [List.take_add_one, hy]; rfl
              have HT2 := Lib.hid htk
              have HY := Lib.hid hy
              have HKP := Lib.hid hkp
              clear htk hy hkp
              by_cases he : yp = zp
              · have e1 : (yp == zp) = true := by simp [he]
                have HEQ := Lib.hid he
                clear he
                go_wp2
                go_quiet (fail)
                go_wp2
                go_roundg (gk - 1)
                case measure => omega
                case rel => exact ⟨k + 1, (k : Int), by push_cast; rfl, rfl, by omega, HKP.out.drewN _, Or.inr ⟨k, _, rfl, HY.out, HEQ.out⟩⟩
              · have e1 : (yp == zp) = false := by simp [he]
                have HEQ := Lib.hid he
                clear he
                go_wp2
                go_quiet (fail)
                go_wp2
                go_roundg (gk - 1)
                case measure => omega
                case rel =>
                  refine ⟨k + 1, A1, by push_cast; rfl, rfl, by omega, HKP.out.drewN _, ?_⟩
                  rcases HAT.out with ⟨h1, h2⟩ | h
                  · refine Or.inl ⟨h1, fun u hu => ?_⟩
                    rw [HT2.out] at hu
                    rcases List.mem_append.1 hu with hu | hu
                    · exact h2 u hu
                    · obtain rfl := List.mem_singleton.1 hu
                      exact HEQ.out
                  · exact Or.inr h
            · have hkM : one.take k = one := List.take_of_length_le (by rw [← HL.out]; omega)
              have hat := HAT.out
              rw [hkM] at hat
              have HAT2 := Lib.hid (And.intro hkp hat)
              clear hkM hat hkp
              go_wp2
              go_meet
              case rel => exact ⟨A1, rfl, HAT2.out⟩
        case rest =>
          obtain ⟨A1, rfl, hkp, hat⟩ := hcut
          rcases hat with ⟨rfl, hno⟩ | ⟨a, x, rfl, hx, he⟩
          · have hp1 := HP.out.new (z := ⟨zk, zp, zn⟩) hno
            rw [← HT.out] at hp1
            have HP1 := Lib.hid hp1
            obtain ⟨d0, d1, d2⟩ := SG.xs (HA.out.keep (HM.out.2.2.trans hkp) (by simp)) HZ.out
            have HM1 := Lib.hid (HM.out.keep hkp)
            simp only at d0 d1 d2
            clear hno hp1 hkp
            go_wp2_with (first | (refine vp_append_g (F := F3) rfl (.tmp 37) (.tmp 42) 26 rfl (.agg #[.int .i64 0, .int .i64 0, .bool false]) 24 Try.underlying26 infoz48 rfl (by decide) _ one rfl (HM1.out.1.keep ((Keeps.refl [] wc).alloc _) (by simp)) ⟨wc.heap.size, 0, none⟩ 1 1 [⟨zk, zp, zn⟩] rfl rfl (by intro j u hj; rw [add_none, Nat.zero_add]; exact cell_of (heap_alloc wc _) (by simpa [F3, It.cells, Form.all] using hj)) (by rw [← HL.out]; omega) (by rw [← HL.out]; omega) ?_; intro v6 w6 k1 k2 k3; have HM6 := Lib.hid ((HM1.out.keep ((Keeps.refl [] wc).alloc _)).app k1 k2 k3); clear k1 k2 k3 d0 d1 d2) | fail)
            go_roundg (gk - 1)
            case measure => omega
            case rel => exact ⟨i + 1, _, by push_cast; rfl, by rw [← HN.out]; omega, HM6.out, HP1.out, by rw [List.length_append, ← HL.out]; simp; omega⟩
          · have hp1 := HP.out.upd (z := ⟨zk, zp, zn⟩) hx he
            rw [← HT.out] at hp1
            have HP1 := Lib.hid hp1
            have haM : a < M := by rw [HL.out]; exact (List.getElem?_eq_some_iff.1 hx).1
            obtain ⟨ob, oc, _, hv, _⟩ := HM.out.1.shape (by rw [← HL.out]; omega)
            simp only [Value.slice.injEq] at hv
            obtain ⟨rfl, hv1, hv2⟩ := hv
            clear hv1 hv2
            have hm1 := HM.out.keep hkp
            obtain ⟨c0, _, _⟩ := SG.xs hm1.1.sg hx
            obtain ⟨d0, _, _⟩ := SG.xs (HA.out.keep hm1.2.2 (by simp)) HZ.out
            obtain ⟨xk, xp, xn⟩ := x
            simp only at c0 d0 he
            rw [Nat.zero_add] at c0
            have haa : (a : Int) < (M : Int) := by omega
            have hneg : ¬ (a : Int) < 0 := by omega
            have HM1 := Lib.hid hm1
            have HX := Lib.hid hx
            clear hp1 hkp hm1 hx he
            go_upto_region 13 with fail
            go_cut [54] (fun v wx => v = .bool (decide (zk < xk)) ∧ Made F3 48 w (.slice (some ⟨ob, 0, none⟩) M cv) one wx)
            case first =>
              go_wp2
              go_quiet (fail)
              go_wp2
              go_meet
              case rel => exact ⟨rfl, HM1.out.keep ((Keeps.refl [] wc).drewN _)⟩
            case rest =>
            obtain ⟨rfl, hm1⟩ := hcut
            clear c0 d0 HM1
            obtain ⟨hm0, f0⟩ := hm1.setc (x' := (⟨zk, xp, xn⟩ : It)) (u := .int .i64 zk) (j := 0) HX.out (by decide) rfl
            have f0 : wc.frozen? ⟨ob, a * 3, none⟩ = false := f0
            have hm0 : Made F3 48 w (.slice (some ⟨ob, 0, none⟩) M cv) (one.set a (⟨zk, xp, xn⟩ : It)) (wc.setCell ⟨ob, a * 3, none⟩ (.int .i64 zk)) := hm0
            obtain ⟨c0, _, _⟩ := SG.xs hm1.1.sg HX.out
            obtain ⟨d0, _, _⟩ := SG.xs (HA.out.keep hm1.2.2 (by simp)) HZ.out
            simp only at c0 d0
            rw [Nat.zero_add] at c0
            have HM1 := Lib.hid hm1
            have HM0 := Lib.hid hm0
            clear hm1 hm0
            go_upto_if 54 with fail
            go_cut [] (fun wx => Made F3 48 w (.slice (some ⟨ob, 0, none⟩) M cv) (one.set a ⟨if zk < xk then zk else xk, xp, xn⟩) wx)
            case first =>
              by_cases hlt3 : zk < xk
              · have HLT := Lib.hid hlt3
                rw [decide_eq_true hlt3]
                clear hlt3
                go_wp2
                go_meet
                case rel =>
                  rw [if_pos HLT.out]
                  exact HM0.out
              · have HLT := Lib.hid hlt3
                rw [decide_eq_false hlt3]
                clear hlt3
                go_wp2
                go_meet
                case rel =>
                  rw [if_neg (show ¬ zk < xk by have := HLT.out; omega)]
                  have hss : one.set a ⟨xk, xp, xn⟩ = one := by
                    obtain ⟨ha, hax⟩ := List.getElem?_eq_some_iff.1 HX.out
                    rw [← hax]; exact List.set_getElem_self ha
                  rw [hss]
                  exact HM1.out
            case rest =>
              have hm2 := hcut
              have hsx : (one.set a (⟨if zk < xk then zk else xk, xp, xn⟩ : It))[a]? = some ⟨if zk < xk then zk else xk, xp, xn⟩ := by rw [List.getElem?_set_self (by rw [← HL.out]; exact haM)]
              obtain ⟨_, _, c2⟩ := SG.xs hm2.1.sg hsx
              obtain ⟨_, _, d2⟩ := SG.xs (HA.out.keep hm2.2.2 (by simp)) HZ.out
              simp only at c2 d2
              rw [Nat.zero_add] at c2
              obtain ⟨b, hb⟩ : ∃ b, b = (xn || zn) := ⟨_, rfl⟩
              obtain ⟨hm3, f2⟩ := hm2.setc (x' := (⟨if zk < xk then zk else xk, xp, b⟩ : It)) (u := .bool b) (j := 2) hsx (by decide) rfl
              have f2 : wc.frozen? ⟨ob, a * 3 + 2, none⟩ = false := f2
              have hm3 : Made F3 48 w (.slice (some ⟨ob, 0, none⟩) M cv) ((one.set a (⟨if zk < xk then zk else xk, xp, xn⟩ : It)).set a ⟨if zk < xk then zk else xk, xp, b⟩) (wc.setCell ⟨ob, a * 3 + 2, none⟩ (.bool b)) := hm3
              rw [List.set_set] at hm3
              have hmrg : mrg ⟨xk, xp, xn⟩ ⟨zk, zp, zn⟩ = ⟨if zk < xk then zk else xk, xp, b⟩ := by rw [hb]; rfl
              rw [← hmrg] at hm3
              have HM3 := Lib.hid hm3
              have hol2 : (one.set a (mrg ⟨xk, xp, xn⟩ ⟨zk, zp, zn⟩)).length ≤ i + 1 := by rw [List.length_set, ← HL.out]; omega
              have HOL2 := Lib.hid hol2
              clear hcut hm2 hsx hm3 hmrg hol2 c0 d0 f0 HM1 HM0
              cases xn with
              | true =>
                rw [Bool.true_or] at hb
                subst hb
                go_wp2
                go_roundg (gk - 1)
                case measure => omega
                case rel => exact ⟨i + 1, _, by push_cast; rfl, by rw [← HN.out]; omega, HM3.out, HP1.out, HOL2.out⟩
              | false =>
                rw [Bool.false_or] at hb
                subst hb
                go_wp2
                go_roundg (gk - 1)
                case measure => omega
                case rel => exact ⟨i + 1, _, by push_cast; rfl, by rw [← HN.out]; omega, HM3.out, HP1.out, HOL2.out⟩
      · have hiN : l.take i = l := List.take_of_length_le (by rw [← HN.out]; omega)
        have ho := HP.out
        rw [hiN] at ho
        have HPE := Lib.hid ho
        clear ho hiN
        go_wp2
        go_meet
        case rel => exact ⟨one, HPE.out, by rw [← HL.out, ← HN.out]; omega, HM.out⟩
  case rest =>
    obtain ⟨one0, hp0, hl0, hm0⟩ := hcut
    have HP0 := Lib.hid hp0
    have hl0N : one0.length ≤ N := by rw [HN.out]; exact hl0
    obtain ⟨M0, hM0⟩ : ∃ M0, M0 = one0.length := ⟨_, rfl⟩
    rw [← hM0] at hl0N
    have HM0 := Lib.hid (And.intro hm0 hM0)
    clear hp0 hl0 hm0 hM0 HE
    go_upto_block 4 with fail
    go_cut [7] (fun vo wx => ∃ out, OrdP l out ∧ Made F3 48 w vo out wx)
    case first =>
      obtain ⟨wq, hwq⟩ : ∃ wq, wq = wc.alloc (.cells #[] 48) := ⟨_, rfl⟩
      have hes := Made.empty F3 48 wc
      rw [← hwq] at hes
      have hqb : QB w u3 (.slice (some ⟨wc.heap.size, 0, none⟩) 0 0) one0 [] wq := by
        refine ⟨HM0.out.1.keep hes.2.2, hes.from HM0.out.1.2.2, fun x hx e => ?_⟩
        simp only [Value.ownBlock, Option.some.injEq] at hx
        have := HM0.out.1.1.lt e
        omega
      have HQB := Lib.hid hqb
      rw [← hwq]
      clear hwq hes hqb
      go_wp2_with fail
      go_loopg [3, 7] M0 (fun m va vo wx => Q3 w one0 m va vo wx)
      case atStart => exact ⟨one0, [], by rw [HM0.out.2]; exact Nat.le_refl _, by rw [HM0.out.2]; simp, SelP.start one0, HQB.out⟩
      case round =>
        obtain ⟨one, out, hl1, hl2, hs, hq⟩ := hrel
        rw [← HM0.out.2] at hl2
        clear HQB
        obtain ⟨pv, cv, hv, hcv, hcv2⟩ := hq.a.1.value
        obtain ⟨M, hM⟩ : ∃ M, M = one.length := ⟨_, rfl⟩
        rw [← hM] at hv hl1 hcv
        subst hv
        obtain ⟨po, co, hv, _, _⟩ := hq.o.1.value
        subst hv
        have HQ := Lib.hid hq
        have HS := Lib.hid hs
        have HL := Lib.hid hM
        clear hq hs hM
        by_cases h0 : M = 0
        · have HZ := Lib.hid (List.eq_nil_of_length_eq_zero (show one.length = 0 by rw [← HL.out]; exact h0))
          have e0 : decide (0 < M) = false := decide_eq_false (by omega)
          subst h0
          go_wp2
          go_meet
          case rel =>
            have hs := HS.out
            rw [HZ.out] at hs
            exact ⟨out, hs.done HP0.out, HQ.out.o⟩
        · have e0 : decide (0 < M) = true := decide_eq_true (by omega)
          have hMpos : 0 < M := by omega
          obtain ⟨ob, oc, _, hv, _⟩ := HQ.out.a.1.shape (by rw [← HL.out]; omega)
          simp only [Value.slice.injEq] at hv
          obtain ⟨rfl, hv1, hv2⟩ := hv
          clear hv1 hv2 h0
          obtain ⟨g1, hg1⟩ : ∃ g1, g1 = gk := ⟨_, rfl⟩
          have HG := Lib.hid hg1
          rw [← hg1] at hl1 hl2
          clear hg1
          go_upto_block 6 with fail
          go_cut [8] (fun vb wx => ∃ (b : Nat) (x : It), vb = .int .i64 b ∧ one[b]? = some x ∧ (∀ y ∈ one, le x y) ∧ Keeps [] wr wx)
          case first =>
            go_wp2_with fail
            go_loopg [8, 9] M (fun m vb vk wx => ∃ (b k : Nat) (x : It), vb = .int .i64 b ∧ vk = .int .i64 k ∧ 0 < k ∧ k ≤ M ∧ M - k ≤ m ∧ one[b]? = some x ∧ (∀ y ∈ one.take k, le x y) ∧ Keeps [] wr wx)
            case atStart =>
              obtain ⟨x, hx⟩ : ∃ x, one[0]? = some x := ⟨_, List.getElem?_eq_getElem (by rw [← HL.out]; exact hMpos)⟩
              refine ⟨0, 1, x, rfl, rfl, by omega, by omega, by omega, hx, fun y hy => ?_, Keeps.refl _ _⟩
              rw [List.take_add_one, hx] at hy
              have : y = x := by simpa using hy
              rw [this]; exact le_refl x
            case round =>
              obtain ⟨b, k, x, rfl, rfl, hk0, hkM, hkm, hx, hmin, hkp⟩ := hrel
              have hbM : b < M := by rw [HL.out]; exact (List.getElem?_eq_some_iff.1 hx).1
              have HMIN := Lib.hid (And.intro hx (And.intro hmin hkp))
              by_cases hlt : k < M
              · obtain ⟨y, hy⟩ : ∃ y, one[k]? = some y := ⟨_, List.getElem?_eq_getElem (by rw [← HL.out]; exact hlt)⟩
                obtain ⟨c0, c1, _⟩ := SG.xs (HQ.out.a.1.keep hkp (by simp)).sg hx
                obtain ⟨d0, d1, _⟩ := SG.xs (HQ.out.a.1.keep hkp (by simp)).sg hy
                obtain ⟨xk, xp, xn⟩ := x
                obtain ⟨yk, yp, yn⟩ := y
                simp only at c0 c1 d0 d1
                rw [Nat.zero_add] at c0 c1 d0 d1
                have hkk : (k : Int) < (M : Int) := by omega
                have hbb : (b : Int) < (M : Int) := by omega
                have htk : one.take (k + 1) = one.take k ++ [⟨yk, yp, yn⟩] := by rw [List.take_add_one, hy]; rfl
                have HT := Lib.hid htk
                have HY := Lib.hid hy
                clear htk hy hx hmin hkp
                obtain ⟨B, hB⟩ : ∃ B, B = aheadB ⟨yk, yp, yn⟩ ⟨xk, xp, xn⟩ := ⟨_, rfl⟩
                have HB := Lib.hid hB
                go_upto_region 22 with fail
                go_cut [126] (fun v wx => v = .bool B ∧ Keeps [] wr wx)
                case first =>
                  unfold aheadB at hB
                  simp only at hB
                  by_cases hlt1 : yk < xk
                  · rw [if_neg (by omega), decide_eq_true hlt1] at hB
                    subst hB
                    have q1 : decide (yk < xk) = true := decide_eq_true hlt1
                    go_wp2
                    go_quiet (fail)
                    go_wp2
                    go_meet
                    case rel => exact ⟨rfl, (Keeps.refl _ _).drewN _⟩
                  · by_cases heq : yk = xk
                    · subst heq
                      rw [if_pos rfl] at hB
                      by_cases hlt2 : yp < xp
                      · rw [decide_eq_true hlt2] at hB
                        subst hB
                        go_wp2
                        go_quiet (fail)
                        go_wp2
                        go_meet
                        case rel => exact ⟨rfl, (Keeps.refl _ _).drewN _⟩
                      · rw [decide_eq_false hlt2] at hB
                        subst hB
                        have q3 : decide (yp < xp) = false := decide_eq_false hlt2
                        clear hlt2
                        go_wp2
                        go_quiet (fail)
                        go_wp2
                        go_meet
                        case rel => exact ⟨rfl, (Keeps.refl _ _).drewN _⟩
                    · rw [if_neg heq, decide_eq_false hlt1] at hB
                      subst hB
                      have q2 : (yk == xk) = false := by simp [heq]
                      have q1 : decide (yk < xk) = false := decide_eq_false hlt1
                      clear heq hlt1
                      go_wp2
                      go_quiet (fail)
                      go_wp2
                      go_meet
                      case rel => exact ⟨rfl, (Keeps.refl _ _).drewN _⟩
                case rest =>
                  obtain ⟨rfl, hkc⟩ := hcut
                  have HKC := Lib.hid (HMIN.out.2.2.trans hkc)
                  clear hkc hB c0 c1 d0 d1
                  cases B with
                  | true =>
                    go_wp2
                    go_roundg (gk - 1)
                    case measure => omega
                    case rel =>
                      refine ⟨k, k + 1, _, rfl, by push_cast; rfl, by omega, by omega, by omega, HY.out, fun u hu => ?_, HKC.out⟩
                      have hle := le_of_ahead HB.out.symm
                      rw [HT.out] at hu
                      rcases List.mem_append.1 hu with hu | hu
                      · exact le_trans hle (HMIN.out.2.1 u hu)
                      · obtain rfl := List.mem_singleton.1 hu
                        exact le_refl _
                  | false =>
                    go_wp2
                    go_roundg (gk - 1)
                    case measure => omega
                    case rel =>
                      refine ⟨b, k + 1, _, rfl, by push_cast; rfl, by omega, by omega, by omega, HMIN.out.1, fun u hu => ?_, HKC.out⟩
                      rw [HT.out] at hu
                      rcases List.mem_append.1 hu with hu | hu
                      · exact HMIN.out.2.1 u hu
                      · obtain rfl := List.mem_singleton.1 hu
                        exact HB.out.symm
              · have hkM2 : one.take k = one := List.take_of_length_le (by rw [← HL.out]; omega)
                rw [hkM2] at hmin
                have HE2 := Lib.hid (And.intro hx (And.intro hmin hkp))
                clear hx hmin hkp hkM2
                go_wp2
                go_meet
                case rel => exact ⟨b, x, rfl, HE2.out⟩
          case rest =>
            obtain ⟨b, x, rfl, hx, hmin, hkp⟩ := hcut
            have hbM : b < M := by rw [HL.out]; exact (List.getElem?_eq_some_iff.1 hx).1
            have hst := HS.out.step HP0.out.dist hx hmin
            have hq := HQ.out.keep hkp
            obtain ⟨c0, c1, c2⟩ := SG.xs hq.a.1.sg hx
            obtain ⟨xk, xp, xn⟩ := x
            simp only at c0 c1 c2
            rw [Nat.zero_add] at c0 c1 c2
            have HQ2 := Lib.hid hq
            have HST := Lib.hid hst
            have hbb : (b : Int) < (M : Int) := by omega
            obtain ⟨no, hno⟩ : ∃ no, no = out.length := ⟨_, rfl⟩
            rw [← hno] at hl2
            have HNO := Lib.hid hno
            have hgM : 1 ≤ g1 := by omega
            clear hx hmin hkp hst hq hno
            go_upto_region 25 with (first | (refine vp_append_g (F := F3) rfl (.tmp 128) (.tmp 133) 26 rfl (.agg #[.int .i64 0, .int .i64 0, .bool false]) 24 Try.underlying26 infoz48 rfl (by decide) _ out rfl (HQ2.out.o.1.keep ((Keeps.refl [] wc).alloc _) (by simp)) ⟨wc.heap.size, 0, none⟩ 1 1 [⟨xk, xp, xn⟩] rfl rfl (by intro j u hj; rw [add_none, Nat.zero_add]; exact cell_of (heap_alloc wc _) (by simpa [F3, It.cells, Form.all] using hj)) (by rw [← HNO.out]; omega) (by rw [← HNO.out]; omega) ?_; intro v6 w6 k1 k2 k3; have HQ6 := Lib.hid ((HQ2.out.keep ((Keeps.refl [] wc).alloc _)).appo k1 k2 k3); clear k1 k2 k3 c0 c1 c2) | fail)
            have hsg := HQ6.out.a.1.sg
            obtain ⟨vh, hh1, hh2, hh3⟩ := slice_head_g (P := Try.prog) (t := 26) Try.underlying26 (by kernel_rfl) hsg b (by rw [← HL.out]; omega)
            obtain ⟨vt, ht1, ht2, ht3⟩ := slice_tail_g (P := Try.prog) (t := 26) Try.underlying26 (by kernel_rfl) hsg (b + 1) (by rw [← HL.out]; omega)
            have ht1 : ∀ w', (Instr.sliceAt 26 (.slice (some ⟨ob, 0, none⟩) M cv) (some (.int .i64 ((b : Int) + 1))) none none).run Try.prog w' = .ok vt w' := by
              intro w'
              have := ht1 w'
              push_cast at this
              exact this
            have ew : IntKind.i64.wrap ((b : Int) + 1) = (b : Int) + 1 := by rw [IntKind.wrap_i64]; omega
            have HH := Lib.hid (And.intro hh1 (And.intro hh2 hh3))
            have HTT := Lib.hid (And.intro ht1 (And.intro ht2 ht3))
            have HSG := Lib.hid hsg
            have hme := (Made.empty F3 48 w6.drew).from ((Keeps.refl [] w6).drew)
            have HME := Lib.hid hme
            obtain ⟨pw, cw, hvw, _, _⟩ := HQ6.out.o.1.value
            subst hvw
            clear hsg hh1 hh2 hh3 ht1 ht2 ht3 hme
            refine vp_region (fun _ => True) [(1, true), (2, true), (3, true), (5, true), (6, true), (7, true), (8, true), (0, false), (4, false), (9, false), (10, true)] (by kernel_rfl) (by kernel_rfl) (by intro _ d _ _ _ h; cases d <;> exact h) trivial ?_
            intro w7 hw7
            simp only [pick, List.map_cons, List.map_nil, List.getD_cons_zero, List.getD_cons_succ]
            repeat
              refine ord_free rfl (v := ?_) ?_ ?_
              rotate_left
              · intro w' hw'
                go_simp
                with_reducible rfl
              simp only [Act.put, List.setIfInBounds_toArray, List.set_cons_zero, List.set_cons_succ]
            refine ord_head rfl (.tmp 136) (.tmp 137) 26 rfl rfl rfl HH.out.1 ?_
            simp only [Act.put, List.setIfInBounds_toArray, List.set_cons_zero, List.set_cons_succ]
            repeat
              refine ord_free rfl (v := ?_) ?_ ?_
              rotate_left
              · intro w' hw'
                go_simp
                with_reducible rfl
              simp only [Act.put, List.setIfInBounds_toArray, List.set_cons_zero, List.set_cons_succ]
            refine ord_tail rfl (.tmp 140) (.tmp 142) 26 rfl rfl rfl HTT.out.1 ?_
            simp only [Act.put, List.setIfInBounds_toArray, List.set_cons_zero, List.set_cons_succ]
            subst hw7
            refine ord_eff ?_
            go_wp2_with fail
            refine ⟨trivial, ?_⟩
            refine ord_eff ?_
            refine vp_append_sg (F := F3) rfl (.tmp 135) (.tmp 138) 26 rfl (.agg #[.int .i64 0, .int .i64 0, .bool false]) 24 Try.underlying26 infoz48 rfl (by decide) _ [] rfl HME.out.1 _ (one.take b) rfl (HH.out.2.1 _ (HSG.out.keep HME.out.2.2 (by simp))) (by rw [List.length_take, ← HL.out, List.length_nil]; omega) (by rw [List.length_take, ← HL.out, List.length_nil]; omega) ?_
            intro v8 w8 k1 k2 k3
            rw [List.nil_append] at k1
            have HM8 := Lib.hid (HME.out.app k1 k2 k3)
            refine ord_next trivial ?_
            simp only [Act.put, List.setIfInBounds_toArray, List.set_cons_zero, List.set_cons_succ]
            clear k1 k2 k3
            refine ord_eff ?_
            refine vp_append_sg (F := F3) rfl (.tmp 139) (.tmp 143) 26 rfl (.agg #[.int .i64 0, .int .i64 0, .bool false]) 24 Try.underlying26 infoz48 rfl (by decide) _ (one.take b) rfl HM8.out.1 _ (one.drop (b + 1)) rfl (HTT.out.2.1 _ (HSG.out.keep HM8.out.2.2 (by simp))) (by rw [List.length_take, List.length_drop, ← HL.out]; omega) (by rw [List.length_take, List.length_drop, ← HL.out]; omega) ?_
            intro v9 w9 k1 k2 k3
            have HM9 := Lib.hid (HM8.out.app k1 k2 k3)
            refine ord_next trivial ?_
            simp only [Act.put, List.setIfInBounds_toArray, List.set_cons_zero, List.set_cons_succ]
            obtain ⟨p9, c9, hv9, _, _⟩ := k1.value
            subst hv9
            clear k1 k2 k3
            refine ord_free rfl (v := ?_) ?_ ?_
            rotate_left
            · intro w' hw'
              go_simp
              with_reducible rfl
            simp only [Act.put, List.setIfInBounds_toArray, List.set_cons_zero, List.set_cons_succ]
            refine ord_nil ?_
            go_wp2
            go_roundg (g1 - 1)
            case measure => have := HG.out; omega
            case rel =>
              have hm9 := HM9.out
              refine ⟨_, _, ?_, ?_, HST.out, HQ6.out.new ?_⟩
              · rw [List.length_append, List.length_take, List.length_drop, ← HL.out]; omega
              · rw [List.length_append, ← HNO.out, ← HM0.out.2]; simp; omega
              · first | exact hm9 | (simp only [List.length_append, List.length_take, List.length_drop] at hm9 ⊢; exact hm9)
    case rest =>
      obtain ⟨out, ho, hm⟩ := hcut
      have HO := Lib.hid (And.intro ho hm)
      obtain ⟨pv, cv, hv, _, _⟩ := hm.1.value
      subst hv
      clear ho hm
      go_wp2
      go_ret
      exact ⟨_, out, rfl, HO.out.1, HO.out.2⟩
end Go.Proofs.Yteekdgmfednmoaa
