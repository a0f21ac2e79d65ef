/-
  The reference's Wants, walked.
-/
import Derived.Test.YteekdgmfednmoaaP12
import Derived.Test.YteekdgmfednmoaaP19
import Derived.Test.YteekdgmfednmoaaP22
namespace Go.Proofs.Yteekdgmfednmoaa
open Go.RowKit Go.V Go.V.Queue
def XR (x : It) (xb : Nat) (w : World) : Prop := w.heap[xb]? = some (.cells #[.int .i64 x.key, .int .i64 x.push, .bool x.n] 48 (0, 0))
def K2 (w : World) (c : CV) (at' : List Int) (m : Nat) (va vi : Value) (wx : World) : Prop := ∃ i : Nat, vi = .int .i64 i ∧ i + m = at'.length ∧ Made F3 48 w va (wantsI c at' i) wx
theorem Made.touch {w wx w' : World} {v : Value} {l : List It} {x : Nat} (h : Made F3 48 w v l wx) (hk : Keeps [x] wx w') (h1 : v.ownBlock ≠ some x) (h2 : w.heap.size ≤ x) : Made F3 48 w v l w' :=
  ⟨h.1.keep hk (fun z hz => by obtain rfl := List.mem_singleton.1 hz; exact h1), h.2.1, h.2.2.trans' hk (fun z hz => Or.inr (by obtain rfl := List.mem_singleton.1 hz; exact h2))⟩
set_option maxRecDepth 100000 in
set_option maxHeartbeats 4000000 in
theorem rwants_ok (c : CV) (A : Value) (at' : List Int) (file : Int) (w : World) (hA : SG FN w A at') (hl : at'.length ≤ 10000) : Calls Try.prog 18 #[c.val, A, .int .i64 file] w (ROrdPost (wantsL c at' file) w) := by
  have hA2 := hA
  obtain ⟨pa, ca, rfl, hca, hca2, _⟩ := hA2
  obtain ⟨N, hN⟩ : ∃ N, N = at'.length := ⟨_, rfl⟩
  rw [← hN] at hca hA hl ⊢
  have HA := Lib.hid hA
  have HN := Lib.hid hN
  clear hA hN
  unfold CV.val
  go_enter Try.func18, Try.ntmps18
  go_upto_region 1 with fail
  obtain ⟨w1, hw1⟩ : ∃ w1, w1 = w.alloc (.cells c.cells 32) := ⟨_, rfl⟩
  obtain ⟨cb, hcb⟩ : ∃ cb, cb = w.heap.size := ⟨_, rfl⟩
  have hk1 : Keeps [] w w1 := by rw [hw1]; exact (Keeps.refl _ _).alloc _
  have hcbb : CB c cb w1 := by rw [hw1, hcb]; exact heap_alloc w _
  have H1 := Lib.hid (And.intro hk1 hcbb)
  have HE := Lib.hid (Made.empty F3 48 w1)
  rw [← hw1, ← hcb]
  clear hw1 hcb hk1 hcbb
  go_upto_block 0 with fail
  go_cut [7] (fun va wx => Made F3 48 w1 va (wantsI c at' at'.length) wx)
  case first =>
    go_wp2_with fail
    go_loopg [7, 8] N (fun m va vi wx => K2 w1 c at' m va vi wx)
    case atStart => exact ⟨0, rfl, by rw [← HN.out, Nat.zero_add], HE.out⟩
    case round =>
      obtain ⟨i, rfl, hi, hm⟩ := hrel
      rw [← HN.out] at hi
      clear HE
      by_cases hlt : i < N
      · obtain ⟨x, hx⟩ : ∃ x, at'[i]? = some x := ⟨_, List.getElem?_eq_getElem (by rw [← HN.out]; exact hlt)⟩
        obtain ⟨ab, ao, cap', hv⟩ := HA.out.shape (by rw [← HN.out]; omega)
        simp only [Value.slice.injEq] at hv
        obtain ⟨rfl, hv1, hv2⟩ := hv
        clear hv1 hv2
        have d0 : wr.cell? ⟨ab, ao + i * 1, none⟩ = some (.int .i64 x) := (HA.out.keep (H1.out.1.trans hm.2.2) (by simp)).item rfl hx (j := 0) rfl
        rw [Nat.mul_one] at d0
        obtain ⟨B, hB⟩ : ∃ B, B = ((decide (i + 1 = N) && decide (kindF c.op c.flag = 2)) || decide (c.op = 17)) := ⟨_, rfl⟩
        have hwant : wantAt c at' i = ⟨i, x, B⟩ := by
          unfold wantAt
          rw [← HN.out, List.getD_eq_getElem?_getD, hx, hB]; rfl
        have hsucc := wantsI_succ c at' i
        rw [hwant] at hsucc
        obtain ⟨acc, hacc⟩ : ∃ acc, acc = wantsI c at' i := ⟨_, rfl⟩
        have hal : acc.length = i := by rw [hacc, length_wantsI]
        rw [← hacc] at hm hsucc
        obtain ⟨pv, cv, hv, _, _⟩ := hm.1.value
        rw [hal] at hv
        subst hv
        have HM := Lib.hid hm
        have HT := Lib.hid hsucc
        clear hm hx hsucc hacc hwant
        have hii : (i : Int) < (N : Int) := by omega
        go_upto_region 6 with fail
        obtain ⟨w4, hw4⟩ : ∃ w4, w4 = wr.alloc (.cells #[.int .i64 i, .int .i64 x, .bool false] 48) := ⟨_, rfl⟩
        obtain ⟨xb, hxb⟩ : ∃ xb, xb = wr.heap.size := ⟨_, rfl⟩
        have hxa : XR ⟨i, x, false⟩ xb w4 := by rw [hw4, hxb]; exact heap_alloc wr _
        have hm4 := HM.out.keep (show Keeps [] wr w4 by rw [hw4]; exact (Keeps.refl _ _).alloc _)
        have hap : (Value.slice pv i cv).ownBlock ≠ some xb := fun h => by have := HM.out.1.lt h; omega
        have hge : w1.heap.size ≤ xb := by rw [hxb]; exact HM.out.2.2.size
        have H4 := Lib.hid (And.intro hxa (And.intro hm4 (And.intro hap hge)))
        have hcw := H1.out.2.keep hm4.2.2 (by simp)
        have HCW := Lib.hid hcw
        rw [← hw4, ← hxb]
        clear hw4 hxb hxa hm4 hap hge d0
        have f0 := hcw.c0
        have f1 := hcw.c1
        have f2 := hcw.c2
        have f3 := hcw.c3
        have f4 := hcw.c4
        have f5 := hcw.c5
        have f6 := hcw.c6
        clear hcw
        go_cut [38] (fun v wx => v = .bool B ∧ Keeps [] w4 wx)
        case first =>
          by_cases hlast : i + 1 = N
          · have hc := rkind_ok c w4
            unfold CV.val at hc
            obtain ⟨k, hk⟩ : ∃ k, k = kindF c.op c.flag := ⟨_, rfl⟩
            unfold IPost at hc
            rw [← hk] at hc hB
            rw [decide_eq_true hlast, Bool.true_and] at hB
            have HC := Lib.hid hc
            have HB := Lib.hid hB
            have HKK := Lib.hid hk
            have e1 : (i : Int) = (N : Int) - 1 := by omega
            have e2 : ((i : Int) == (N : Int) - 1) = true := by rw [beq_iff_eq]; exact e1
            clear hc hB e1 hk
            go_wp2_with fail
            refine HC.out.mono ?_
            rintro e w5 ⟨rfl, hk5⟩
            have HK := Lib.hid hk5
            have c0' := (HCW.out.keep hk5 (by simp)).c0
            clear hk5 HC f0 f1 f2 f3 f4 f5 f6
            by_cases hk2 : k = 2
            · have e3 : (k == 2) = true := by simp [hk2]
              have hLt : B = true := by rw [HB.out, decide_eq_true hk2]; rfl
              subst hLt
              clear HB hk2
              go_wp2
              go_meet
              case rel => exact ⟨rfl, HK.out⟩
            · have e3 : (k == 2) = false := by simp [hk2]
              have h17 : c.op ≠ 17 := by
                intro e
                have := HKK.out
                rw [e, show kindF 17 c.flag = 2 by unfold kindF; rw [if_pos (by omega)]] at this
                exact hk2 this
              have e4 : (c.op == 17) = false := by simp [h17]
              have hLt : B = false := by rw [HB.out, decide_eq_false hk2, decide_eq_false h17]; rfl
              subst hLt
              clear HB hk2 h17
              go_wp2
              go_meet
              case rel => exact ⟨rfl, HK.out⟩
          · have e2 : ((i : Int) == (N : Int) - 1) = false := by rw [beq_eq_false_iff_ne]; omega
            rw [decide_eq_false hlast, Bool.false_and, Bool.false_or] at hB
            clear f1 f2 f3 f4 f5 f6
            by_cases h17 : c.op = 17
            · have e4 : (c.op == 17) = true := by simp [h17]
              rw [decide_eq_true h17] at hB
              subst hB
              clear h17
              go_wp2
              go_meet
              case rel => exact ⟨rfl, Keeps.refl _ _⟩
            · have e4 : (c.op == 17) = false := by simp [h17]
              rw [decide_eq_false h17] at hB
              subst hB
              clear h17
              go_wp2
              go_meet
              case rel => exact ⟨rfl, Keeps.refl _ _⟩
        case rest =>
          obtain ⟨rfl, hkc⟩ := hcut
          have hxa := H4.out.1
          have hxa : XR ⟨i, x, false⟩ xb wc := hkc.get hxa (by simp)
          have hmc := H4.out.2.1.keep hkc
          have H5 := Lib.hid (And.intro hxa (And.intro hmc (And.intro H4.out.2.2.1 H4.out.2.2.2)))
          have f2' : wc.frozen? ⟨xb, 2, none⟩ = false := frozen_of 2 hxa
          have c2' : wc.cell? ⟨xb, 2, none⟩ = some (.bool false) := cell_of hxa rfl
          clear hB hxa hmc hkc H4 f0 f1 f2 f3 f4 f5 f6 HCW
          go_upto_if 38 with fail
          go_cut [] (fun wx => XR ⟨i, x, B⟩ xb wx ∧ Made F3 48 w1 (.slice pv i cv) acc wx)
          case first =>
            obtain ⟨hxa, hmc, hap, hge⟩ := H5.out
            cases B with
            | true =>
              have hks : Keeps [xb] wc (wc.setCell ⟨xb, 2, none⟩ (.bool true)) := (Keeps.refl _ _).setCell (Or.inl (by simp)) _
              have HR := Lib.hid (And.intro (show XR ⟨i, x, true⟩ xb (wc.setCell ⟨xb, 2, none⟩ (.bool true)) from heap_setCell hxa) (Made.touch hmc hks hap hge))
              clear hxa hmc hap hge hks
              go_wp2
              go_meet
              case rel => exact HR.out
            | false =>
              have HR := Lib.hid (And.intro hxa hmc)
              clear hxa hmc hap hge
              go_wp2
              go_meet
              case rel => exact HR.out
          case rest =>
            obtain ⟨hxa, hmc⟩ := hcut
            have HM6 := Lib.hid hmc
            have c0 : wc.cell? ⟨xb, 0, none⟩ = some (.int .i64 i) := cell_of hxa rfl
            have c1 : wc.cell? ⟨xb, 1, none⟩ = some (.int .i64 x) := cell_of hxa rfl
            have c2 : wc.cell? ⟨xb, 2, none⟩ = some (.bool B) := cell_of hxa rfl
            clear hxa hmc H5 f2' c2'
            go_wp2_with (first | (refine vp_append_g (F := F3) rfl (.tmp 40) (.tmp 42) 26 rfl (.agg #[.int .i64 0, .int .i64 0, .bool false]) 24 Try.underlying26 infoz48 rfl (by decide) _ acc rfl (HM6.out.1.keep ((Keeps.refl [] wc).alloc _) (by simp)) ⟨wc.heap.size, 0, none⟩ 1 1 [⟨i, x, B⟩] rfl rfl (by intro j u hj; rw [add_none, Nat.zero_add]; exact cell_of (heap_alloc wc _) (by simpa [F3, It.cells, Form.all] using hj)) (by omega) (by omega) ?_; intro v6 w6 k1 k2 k3; have HM7 := Lib.hid ((HM6.out.keep ((Keeps.refl [] wc).alloc _)).app k1 k2 k3); clear k1 k2 k3 c0 c1 c2) | fail)
            go_roundg (gk - 1)
            case measure => omega
            case rel => exact ⟨i + 1, by push_cast; rfl, by rw [← HN.out]; omega, by rw [HT.out]; exact HM7.out⟩
      · have hiN : i = at'.length := by rw [← HN.out]; omega
        have HM := Lib.hid hm
        obtain ⟨pv, cv, hv, _, _⟩ := hm.1.value
        subst hv
        have HI := Lib.hid hiN
        clear hm hiN
        go_wp2
        go_meet
        case rel =>
          have h := HI.out
          rw [← h]
          exact HM.out
  case rest =>
    have hm := hcut
    have hcw : CB c cb wc := H1.out.2.keep hm.2.2 (by simp)
    obtain ⟨acc, hacc⟩ : ∃ acc, acc = wantsI c at' at'.length := ⟨_, rfl⟩
    have hal : acc.length = N := by rw [hacc, length_wantsI, HN.out]
    rw [← hacc] at hm
    obtain ⟨pv, cv, hv, _, _⟩ := hm.1.value
    rw [hal] at hv
    subst hv
    have HM := Lib.hid hm
    have HC := Lib.hid (And.intro hcw hacc)
    have HAL := Lib.hid hal
    clear hcut hm hcw hacc HE
    by_cases hf : file = 0
    · have hw : wantsL c at' file = acc := by unfold wantsL; rw [if_pos hf, List.append_nil, HC.out.2]
      have HW0 := Lib.hid hw
      subst hf
      have HO := Lib.hid (rorder_ok _ acc wc HM.out.1.sg (by rw [HAL.out]; omega))
      clear hw
      go_wp2_with fail
      refine HO.out.mono ?_
      rintro e w6 ⟨va, o, rfl, h1, h3⟩
      obtain ⟨po, co, hvo, _, _⟩ := h3.1.value
      subst hvo
      have HR := Lib.hid (And.intro h1 h3)
      clear h1 h3 HO
      go_wp2
      go_ret
      exact ⟨_, o, rfl, HW0.out ▸ HR.out.1, HR.out.2.from (H1.out.1.trans HM.out.2.2)⟩
    · have hfz : (file != 0) = true := by simp [hf]
      obtain ⟨wf, hwf⟩ : ∃ wf, wf = writesF c.op c.flag := ⟨_, rfl⟩
      have hw : wantsL c at' file = acc ++ [⟨N, file, wf⟩] := by unfold wantsL; rw [if_neg hf, HC.out.2, HN.out, hwf]
      have HW0 := Lib.hid hw
      have HWF := Lib.hid hwf
      clear hw hwf hf
      go_upto_region 11 with fail
      obtain ⟨w2, hw2⟩ : ∃ w2, w2 = wc.alloc (.cells #[.int .i64 N, .int .i64 file, .bool false] 48) := ⟨_, rfl⟩
      obtain ⟨xb, hxb⟩ : ∃ xb, xb = wc.heap.size := ⟨_, rfl⟩
      have hk2 : Keeps [] wc w2 := by rw [hw2]; exact (Keeps.refl _ _).alloc _
      have hxa : XR ⟨N, file, false⟩ xb w2 := by rw [hw2, hxb]; exact heap_alloc wc _
      have hm2 := HM.out.keep hk2
      have hap : (Value.slice pv N cv).ownBlock ≠ some xb := fun h => by have := HM.out.1.lt h; omega
      have hge : w1.heap.size ≤ xb := by rw [hxb]; exact HM.out.2.2.size
      have hcw := HC.out.1.keep hk2 (by simp)
      obtain ⟨o, hop⟩ : ∃ o, o = c.op := ⟨_, rfl⟩
      obtain ⟨fl, hfl⟩ : ∃ fl, fl = c.flag := ⟨_, rfl⟩
      have f0 := hcw.c0
      have f2 := hcw.c2
      rw [← hop] at f0
      rw [← hfl] at f2
      have hwf2 : wf = writesF o fl := by rw [HWF.out, hop, hfl]
      have HW2 := Lib.hid (And.intro hxa (And.intro hm2 (And.intro hap hge)))
      have g2 : w2.cell? ⟨xb, 2, none⟩ = some (.bool false) := cell_of hxa rfl
      have z2 : w2.frozen? ⟨xb, 2, none⟩ = false := frozen_of 2 hxa
      rw [← hw2, ← hxb]
      clear hw2 hxb hk2 hxa hm2 hap hge hcw hop hfl
      go_upto_block 2 with fail
      go_cut [] (fun wx => XR ⟨N, file, wf⟩ xb wx ∧ Made F3 48 w1 (.slice pv N cv) acc wx)
      case first =>
        obtain ⟨hxa, hm2, hap, hge⟩ := HW2.out
        have hks : Keeps [xb] w2 (w2.setCell ⟨xb, 2, none⟩ (.bool true)) := (Keeps.refl _ _).setCell (Or.inl (by simp)) _
        have HTR := Lib.hid (And.intro (show XR ⟨N, file, true⟩ xb (w2.setCell ⟨xb, 2, none⟩ (.bool true)) from heap_setCell hxa) (Made.touch hm2 hks hap hge))
        have HFA := Lib.hid (And.intro hxa hm2)
        clear hks
        by_cases h4 : o = 4
        · have hwt : wf = true := by rw [hwf2]; unfold writesF; rw [if_pos (by omega)]
          subst hwt
          subst h4
          clear hwf2 hxa hm2 hap hge
          go_wp2
          go_meet
          case rel => exact HTR.out
        by_cases h6 : o = 6
        · have hwt : wf = true := by rw [hwf2]; unfold writesF; rw [if_pos (by omega)]
          subst hwt
          subst h6
          clear hwf2 hxa hm2 hap hge
          go_wp2
          go_meet
          case rel => exact HTR.out
        by_cases h8 : o = 8
        · have hwt : wf = true := by rw [hwf2]; unfold writesF; rw [if_pos (by omega)]
          subst hwt
          subst h8
          clear hwf2 hxa hm2 hap hge
          go_wp2
          go_meet
          case rel => exact HTR.out
        by_cases h13 : o = 13
        · have hwt : wf = true := by rw [hwf2]; unfold writesF; rw [if_pos (by omega)]
          subst hwt
          subst h13
          clear hwf2 hxa hm2 hap hge
          go_wp2
          go_meet
          case rel => exact HTR.out
        by_cases h14 : o = 14
        · have hwt : wf = true := by rw [hwf2]; unfold writesF; rw [if_pos (by omega)]
          subst hwt
          subst h14
          clear hwf2 hxa hm2 hap hge
          go_wp2
          go_meet
          case rel => exact HTR.out
        by_cases h17 : o = 17
        · have hwt : wf = true := by rw [hwf2]; unfold writesF; rw [if_pos (by omega)]
          subst hwt
          subst h17
          clear hwf2 hxa hm2 hap hge
          go_wp2
          go_meet
          case rel => exact HTR.out
        by_cases h1 : o = 1
        · have hwt : wf = bitB fl 1 := by rw [hwf2]; unfold writesF; rw [if_neg (by omega), if_pos h1, and_bit1]
          have hbk := bit_ok fl 1 (by omega) w2
          rw [← hwt] at hbk
          have HBK := Lib.hid hbk
          have HHH := Lib.hid (And.intro hap hge)
          subst h1
          clear hwf2 hwt hbk hxa hm2 hap hge h4 h6 h8 h13 h14 h17
          go_wp2_with fail
          refine HBK.out.mono ?_
          rintro e w3 ⟨rfl, hk3⟩
          have hx3 : XR ⟨N, file, false⟩ xb w3 := hk3.get HFA.out.1 (by simp)
          have hm3 := HFA.out.2.keep hk3
          have g3 : w3.cell? ⟨xb, 2, none⟩ = some (.bool false) := cell_of hx3 rfl
          have z3 : w3.frozen? ⟨xb, 2, none⟩ = false := frozen_of 2 hx3
          have hks : Keeps [xb] w3 (w3.setCell ⟨xb, 2, none⟩ (.bool wf)) := (Keeps.refl _ _).setCell (Or.inl (by simp)) _
          have HR := Lib.hid (And.intro (show XR ⟨N, file, wf⟩ xb (w3.setCell ⟨xb, 2, none⟩ (.bool wf)) from heap_setCell hx3) (Made.touch hm3 hks HHH.out.1 HHH.out.2))
          clear hk3 hx3 hm3 hks HBK f0 f2 g2 z2
          go_wp2
          go_meet
          case rel => exact HR.out
        · have hwt : wf = false := by rw [hwf2]; unfold writesF; rw [if_neg (by omega), if_neg h1]
          subst hwt
          clear hwf2 hxa hm2 hap hge
          go_wp2
          go_meet
          case rel => exact HFA.out
      case rest =>
        obtain ⟨hxa, hm2⟩ := hcut
        have HM5 := Lib.hid hm2
        have c0 : wc.cell? ⟨xb, 0, none⟩ = some (.int .i64 N) := cell_of hxa rfl
        have c1 : wc.cell? ⟨xb, 1, none⟩ = some (.int .i64 file) := cell_of hxa rfl
        have c2 : wc.cell? ⟨xb, 2, none⟩ = some (.bool wf) := cell_of hxa rfl
        obtain ⟨acc2, hacc2⟩ : ∃ acc2, acc2 = acc ++ [(⟨N, file, wf⟩ : It)] := ⟨_, rfl⟩
        have HA2 := Lib.hid hacc2
        have hll : acc2.length = N + 1 := by rw [hacc2, List.length_append, hal]; rfl
        clear hxa hm2 hacc2 HW2 hwf2 f0 f2 g2 z2
        go_wp2_with (first | (refine vp_append_g (F := F3) rfl (.tmp 66) (.tmp 68) 26 rfl (.agg #[.int .i64 0, .int .i64 0, .bool false]) 24 Try.underlying26 infoz48 rfl (by decide) _ acc rfl (HM5.out.1.keep ((Keeps.refl [] wc).alloc _) (by simp)) ⟨wc.heap.size, 0, none⟩ 1 1 [⟨N, file, wf⟩] rfl rfl (by intro j u hj; rw [add_none, Nat.zero_add]; exact cell_of (heap_alloc wc _) (by simpa [F3, It.cells, Form.all] using hj)) (by omega) (by omega) ?_; intro v6 w6 k1 k2 k3; have hm6 := (HM5.out.keep ((Keeps.refl [] wc).alloc _)).app k1 k2 k3; rw [← HA2.out] at hm6; have HM6 := Lib.hid hm6; have HO := Lib.hid (rorder_ok _ acc2 w6 hm6.1.sg (by omega)); clear k1 k2 k3 hm6 c0 c1 c2) | fail)
        refine HO.out.mono ?_
        rintro e w7 ⟨va, o7, rfl, a1, a3⟩
        obtain ⟨po, co, hvo, _, _⟩ := a3.1.value
        subst hvo
        have HR := Lib.hid (And.intro a1 a3)
        clear a1 a3 HO
        go_wp2
        go_ret
        exact ⟨_, o7, rfl, (by rw [HW0.out, ← HA2.out]; exact HR.out.1), HR.out.2.from (H1.out.1.trans HM6.out.2.2)⟩
end Go.Proofs.Yteekdgmfednmoaa
