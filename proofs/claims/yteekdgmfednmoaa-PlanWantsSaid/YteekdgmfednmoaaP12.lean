/-
  plan.Wants, walked.
-/
import Derived.Test.YteekdgmfednmoaaP11
namespace Go.V.Queue
open Go Go.V
def FN : Form Int := ⟨1, fun x => [.int .i64 x], fun _ => rfl, fun _ u hu => by
  simp only [List.mem_cons, List.not_mem_nil, or_false] at hu
  subst hu; rfl⟩
def wantAt (c : CV) (at' : List Int) (i : Nat) : It := ⟨i, at'.getD i 0, (decide (i + 1 = at'.length) && decide (kindF c.op c.flag = 2)) || decide (c.op = 17)⟩
def wantsI (c : CV) (at' : List Int) (i : Nat) : List It := (List.range i).map (wantAt c at')
def wantsL (c : CV) (at' : List Int) (file : Int) : List It := wantsI c at' at'.length ++ (if file = 0 then [] else [⟨at'.length, file, writesF c.op c.flag⟩])
theorem wantsI_succ (c : CV) (at' : List Int) (i : Nat) : wantsI c at' (i + 1) = wantsI c at' i ++ [wantAt c at' i] := by unfold wantsI; rw [List.range_succ, List.map_append]; rfl
theorem length_wantsI (c : CV) (at' : List Int) (i : Nat) : (wantsI c at' i).length = i := by simp [wantsI]
def CB (c : CV) (cb : Nat) (w : World) : Prop := w.heap[cb]? = some (.cells c.cells 32 (0, 0))
theorem CB.keep {c : CV} {cb : Nat} {S : List Nat} {w w' : World} (h : CB c cb w) (hk : Keeps S w w') (hx : cb ∉ S) : CB c cb w' := hk.get h hx
theorem CB.c0 {c : CV} {cb : Nat} {w : World} (h : CB c cb w) : w.cell? ⟨cb, 0, none⟩ = some (.int .i64 c.op) := cell_of h rfl
theorem CB.c1 {c : CV} {cb : Nat} {w : World} (h : CB c cb w) : w.cell? ⟨cb, 1, none⟩ = some (.int .i64 c.fd) := cell_of h rfl
theorem CB.c2 {c : CV} {cb : Nat} {w : World} (h : CB c cb w) : w.cell? ⟨cb, 2, none⟩ = some (.int .i64 c.flag) := cell_of h rfl
theorem CB.c3 {c : CV} {cb : Nat} {w : World} (h : CB c cb w) : w.cell? ⟨cb, 3, none⟩ = some (.int .i64 c.n) := cell_of h rfl
theorem CB.c4 {c : CV} {cb : Nat} {w : World} (h : CB c cb w) : w.cell? ⟨cb, 4, none⟩ = some (.int .i64 c.off) := cell_of h rfl
theorem CB.c5 {c : CV} {cb : Nat} {w : World} (h : CB c cb w) : w.cell? ⟨cb, 5, none⟩ = some (.string c.a) := cell_of h rfl
theorem CB.c6 {c : CV} {cb : Nat} {w : World} (h : CB c cb w) : w.cell? ⟨cb, 6, none⟩ = some (.string c.b) := cell_of h rfl
end Go.V.Queue
namespace Go.Proofs.Yteekdgmfednmoaa
open Go.RowKit Go.V Go.V.Queue
def K1 (w : World) (c : CV) (at' : List Int) (m : Nat) (va vi : Value) (wx : World) : Prop := ∃ i : Nat, vi = .int .i64 i ∧ i + m = at'.length ∧ Made F3 39 w va (wantsI c at' i) wx
set_option maxRecDepth 100000 in
set_option maxHeartbeats 4000000 in
theorem wants_ok (c : CV) (A : Value) (at' : List Int) (file : Int) (w : World) (hA : SG FN w A at') (hl : at'.length ≤ 100000) : Calls Try.prog 17 #[c.val, A, .int .i64 file] w (OrdPost (wantsL c at' file) w) := by
  have hA2 := hA
  obtain ⟨pa, ca, rfl, hca, hca2, _⟩ := hA2
  obtain ⟨N, hN⟩ : ∃ N, N = at'.length := ⟨_, rfl⟩
  rw [← hN] at hca hA hl ⊢
  have HA := Lib.hid hA
  have HN := Lib.hid hN
  clear hA hN
  unfold CV.val
  go_enter Try.func17, Try.ntmps17
  go_upto_region 2 with fail
  obtain ⟨w1, hw1⟩ : ∃ w1, w1 = w.alloc (.cells c.cells 32) := ⟨_, rfl⟩
  obtain ⟨cb, hcb⟩ : ∃ cb, cb = w.heap.size := ⟨_, rfl⟩
  have hk1 : Keeps [] w w1 := by rw [hw1]; exact (Keeps.refl _ _).alloc _
  have hcbb : CB c cb w1 := by rw [hw1, hcb]; exact heap_alloc w _
  have H1 := Lib.hid (And.intro hk1 hcbb)
  rw [← hw1, ← hcb]
  clear hw1 hcb hk1 hcbb
  go_upto_block 0 with fail
  go_cut [7] (fun va wx => Made F3 39 w1 va (wantsI c at' at'.length) wx)
  case first =>
    go_wp2_with fail
    go_loopg [7, 13] N (fun m va vi wx => K1 w1 c at' m va vi wx)
    case atStart => exact ⟨0, rfl, by rw [← HN.out, Nat.zero_add], Made.nil F3 39 w1⟩
    case round =>
      obtain ⟨i, rfl, hi, hm⟩ := hrel
      rw [← HN.out] at hi
      by_cases hlt : i < N
      · obtain ⟨x, hx⟩ : ∃ x, at'[i]? = some x := ⟨_, List.getElem?_eq_getElem (by rw [← HN.out]; exact hlt)⟩
        obtain ⟨ab, ao, cap', hv⟩ := HA.out.shape (by rw [← HN.out]; omega)
        simp only [Value.slice.injEq] at hv
        obtain ⟨rfl, hv1, hv2⟩ := hv
        clear hv1 hv2
        have d0 : wr.cell? ⟨ab, ao + i * 1, none⟩ = some (.int .i64 x) := (HA.out.keep (H1.out.1.trans hm.2.2) (by simp)).item rfl hx (j := 0) rfl
        rw [Nat.mul_one] at d0
        have hcw : CB c cb wr := H1.out.2.keep hm.2.2 (by simp)
        have hwant : wantAt c at' i = ⟨i, x, (decide (i + 1 = N) && decide (kindF c.op c.flag = 2)) || decide (c.op = 17)⟩ := by
          unfold wantAt
          rw [← HN.out, List.getD_eq_getElem?_getD, hx]; rfl
        have hsucc := wantsI_succ c at' i
        rw [hwant] at hsucc
        obtain ⟨acc, hacc⟩ : ∃ acc, acc = wantsI c at' i := ⟨_, rfl⟩
        have hal : acc.length = i := by rw [hacc, length_wantsI]
        rw [← hacc] at hm hsucc
        obtain ⟨pv, cv, hv, _, _⟩ := hm.1.value
        rw [hal] at hv
        subst hv
        have HM := Lib.hid hm
        have HT := Lib.hid hsucc
        have HCW := Lib.hid hcw
        clear hm hx hsucc hacc hwant hcw
        have hii : (i : Int) < (N : Int) := by omega
        go_upto_region 5 with fail
        obtain ⟨L, hL⟩ : ∃ L, L = (decide (i + 1 = N) && decide (kindF c.op c.flag = 2)) := ⟨_, rfl⟩
        rw [← hL] at HT
        go_cut [10] (fun v wx => v = .bool L ∧ Keeps [] wr wx)
        case first =>
          by_cases hlast : i + 1 = N
          · have hc := kind_ok c wr
            unfold CV.val at hc
            obtain ⟨k, hk⟩ : ∃ k, k = kindF c.op c.flag := ⟨_, rfl⟩
            unfold IPost at hc
            rw [← hk] at hc hL
            rw [decide_eq_true hlast, Bool.true_and] at hL
            have HC := Lib.hid hc
            have HL := Lib.hid hL
            have e1 : (i : Int) = (N : Int) - 1 := by omega
            have e2 : ((i : Int) == (N : Int) - 1) = true := by rw [beq_iff_eq]; exact e1
            clear hc hk hL d0 e1
            have f0 := HCW.out.c0
            have f1 := HCW.out.c1
            have f2 := HCW.out.c2
            have f3 := HCW.out.c3
            have f4 := HCW.out.c4
            have f5 := HCW.out.c5
            have f6 := HCW.out.c6
            go_wp2_with fail
            refine HC.out.mono ?_
            rintro e w5 ⟨rfl, hk5⟩
            have HK := Lib.hid hk5
            clear hk5 HC f0 f1 f2 f3 f4 f5 f6
            by_cases hk2 : k = 2
            · have e3 : (k == 2) = true := by simp [hk2]
              have hLt : L = true := by rw [HL.out]; exact decide_eq_true hk2
              subst hLt
              clear HL hk2
              go_wp2
              go_meet
              case rel => exact ⟨rfl, HK.out⟩
            · have e3 : (k == 2) = false := by simp [hk2]
              have hLt : L = false := by rw [HL.out]; exact decide_eq_false hk2
              subst hLt
              clear HL hk2
              go_wp2
              go_meet
              case rel => exact ⟨rfl, HK.out⟩
          · have e2 : ((i : Int) == (N : Int) - 1) = false := by rw [beq_eq_false_iff_ne]; omega
            rw [decide_eq_false hlast, Bool.false_and] at hL
            subst hL
            clear d0
            go_wp2
            go_meet
            case rel => exact ⟨rfl, Keeps.refl _ _⟩
        case rest =>
          obtain ⟨rfl, hkc⟩ := hcut
          have hcc := HCW.out.keep hkc (by simp)
          have hmc := HM.out.keep hkc
          have c0 : wc.cell? ⟨cb, 0, none⟩ = some (.int .i64 c.op) := cell_of hcc rfl
          clear HM
          have HM := Lib.hid hmc
          clear hcc hmc hkc d0 hL HCW
          cases L with
          | true =>
            go_wp2_with (first | (refine vp_append_g (F := F3) rfl (.tmp 28) (.tmp 38) 22 rfl (.agg #[.int .i64 0, .int .i64 0, .bool false]) 24 Try.underlying22 infoz39 rfl (by decide) _ acc rfl (HM.out.1.keep ((Keeps.refl [] wc).alloc _) (by simp)) ⟨wc.heap.size, 0, none⟩ 1 1 [⟨i, x, true⟩] rfl rfl (by intro j u hj; rw [add_none, Nat.zero_add]; exact cell_of (heap_alloc wc _) (by simpa [F3, It.cells, Form.all] using hj)) (by omega) (by omega) ?_; intro v6 w6 k1 k2 k3; have HM6 := Lib.hid ((HM.out.keep ((Keeps.refl [] wc).alloc _)).app k1 k2 k3); clear k1 k2 k3 c0) | fail)
            go_roundg (gk - 1)
            case measure => omega
            case rel =>
              refine ⟨i + 1, by push_cast; rfl, by rw [← HN.out]; omega, ?_⟩
              rw [HT.out, Bool.true_or]
              exact HM6.out
          | false =>
            by_cases h17 : c.op = 17
            · have e1 : (c.op == 17) = true := by simp [h17]
              rw [Bool.false_or, decide_eq_true h17] at HT
              clear h17
              go_wp2_with (first | (refine vp_append_g (F := F3) rfl (.tmp 28) (.tmp 38) 22 rfl (.agg #[.int .i64 0, .int .i64 0, .bool false]) 24 Try.underlying22 infoz39 rfl (by decide) _ acc rfl (HM.out.1.keep ((Keeps.refl [] wc).alloc _) (by simp)) ⟨wc.heap.size, 0, none⟩ 1 1 [⟨i, x, true⟩] rfl rfl (by intro j u hj; rw [add_none, Nat.zero_add]; exact cell_of (heap_alloc wc _) (by simpa [F3, It.cells, Form.all] using hj)) (by omega) (by omega) ?_; intro v6 w6 k1 k2 k3; have HM6 := Lib.hid ((HM.out.keep ((Keeps.refl [] wc).alloc _)).app k1 k2 k3); clear k1 k2 k3 c0) | fail)
              go_roundg (gk - 1)
              case measure => omega
              case rel =>
                refine ⟨i + 1, by push_cast; rfl, by rw [← HN.out]; omega, ?_⟩
                rw [HT.out]
                exact HM6.out
            · have e1 : (c.op == 17) = false := by simp [h17]
              rw [Bool.false_or, decide_eq_false h17] at HT
              clear h17
              go_wp2_with (first | (refine vp_append_g (F := F3) rfl (.tmp 28) (.tmp 38) 22 rfl (.agg #[.int .i64 0, .int .i64 0, .bool false]) 24 Try.underlying22 infoz39 rfl (by decide) _ acc rfl (HM.out.1.keep ((Keeps.refl [] wc).alloc _) (by simp)) ⟨wc.heap.size, 0, none⟩ 1 1 [⟨i, x, false⟩] rfl rfl (by intro j u hj; rw [add_none, Nat.zero_add]; exact cell_of (heap_alloc wc _) (by simpa [F3, It.cells, Form.all] using hj)) (by omega) (by omega) ?_; intro v6 w6 k1 k2 k3; have HM6 := Lib.hid ((HM.out.keep ((Keeps.refl [] wc).alloc _)).app k1 k2 k3); clear k1 k2 k3 c0) | fail)
              go_roundg (gk - 1)
              case measure => omega
              case rel =>
                refine ⟨i + 1, by push_cast; rfl, by rw [← HN.out]; omega, ?_⟩
                rw [HT.out]
                exact HM6.out
      · have hiN : i = at'.length := by rw [← HN.out]; omega
        have HM := Lib.hid hm
        obtain ⟨pv, cv, hv, _, _⟩ := hm.1.value
        subst hv
        have HI := Lib.hid hiN
        clear hm hiN
        go_wp2
        go_meet
        case rel =>
          have h := HI.out
          rw [← h]
          exact HM.out
  case rest =>
    have hm := hcut
    have hcw : CB c cb wc := H1.out.2.keep hm.2.2 (by simp)
    obtain ⟨acc, hacc⟩ : ∃ acc, acc = wantsI c at' at'.length := ⟨_, rfl⟩
    have hal : acc.length = N := by rw [hacc, length_wantsI, HN.out]
    rw [← hacc] at hm
    obtain ⟨pv, cv, hv, _, _⟩ := hm.1.value
    rw [hal] at hv
    subst hv
    have HM := Lib.hid hm
    have HC := Lib.hid (And.intro hcw hacc)
    have HAL := Lib.hid hal
    clear hcut hm hcw hacc
    by_cases hf : file = 0
    · have hw : wantsL c at' file = acc := by unfold wantsL; rw [if_pos hf, List.append_nil, HC.out.2]
      have HW0 := Lib.hid hw
      subst hf
      have ho := order_ok _ acc wc HM.out.1.sg (by rw [HAL.out]; omega)
      have HO := Lib.hid ho
      clear ho hw
      go_wp2_with fail
      refine HO.out.mono ?_
      rintro e w6 ⟨va, o, rfl, h1, h2, h3⟩
      obtain ⟨po, co, hvo, _, _⟩ := h3.1.value
      subst hvo
      have HR := Lib.hid (And.intro h1 (And.intro h2 h3))
      clear h1 h2 h3 HO
      go_wp2
      go_ret
      exact ⟨_, o, rfl, HW0.out ▸ HR.out.1, HW0.out ▸ HR.out.2.1, HR.out.2.2.from (H1.out.1.trans HM.out.2.2)⟩
    · have hw : wantsL c at' file = acc ++ [⟨N, file, writesF c.op c.flag⟩] := by unfold wantsL; rw [if_neg hf, HC.out.2, HN.out]
      have hfz : (file != 0) = true := by simp [hf]
      obtain ⟨wf, hwf⟩ : ∃ wf, wf = writesF c.op c.flag := ⟨_, rfl⟩
      have hc := writes_ok c wc
      unfold CV.val BPost at hc
      rw [← hwf] at hc hw
      have HW := Lib.hid hc
      have f0 := HC.out.1.c0
      have f1 := HC.out.1.c1
      have f2 := HC.out.1.c2
      have f3 := HC.out.1.c3
      have f4 := HC.out.1.c4
      have f5 := HC.out.1.c5
      have f6 := HC.out.1.c6
      clear hc hwf hf
      go_wp2_with fail
      refine HW.out.mono ?_
      rintro e w5 ⟨rfl, hk5⟩
      have hm5 := HM.out.keep hk5
      have HM5 := Lib.hid hm5
      clear f0 f1 f2 f3 f4 f5 f6 hm5 HW
      have hll : (acc ++ [(⟨N, file, wf⟩ : It)]).length = N + 1 := by rw [List.length_append, hal]; rfl
      have HLL := Lib.hid hll
      obtain ⟨acc2, hacc2⟩ : ∃ acc2, acc2 = acc ++ [(⟨N, file, wf⟩ : It)] := ⟨_, rfl⟩
      have HA2 := Lib.hid hacc2
      rw [← hacc2] at hll
      rw [← hacc2] at hw
      have HW0 := Lib.hid hw
      clear hacc2 hk5 hw
      go_wp2_with (first | (refine vp_append_g (F := F3) rfl (.tmp 43) (.tmp 50) 22 rfl (.agg #[.int .i64 0, .int .i64 0, .bool false]) 24 Try.underlying22 infoz39 rfl (by decide) _ acc rfl (HM5.out.1.keep ((Keeps.refl [] w5).alloc _) (by simp)) ⟨w5.heap.size, 0, none⟩ 1 1 [⟨N, file, wf⟩] rfl rfl (by intro j u hj; rw [add_none, Nat.zero_add]; exact cell_of (heap_alloc w5 _) (by simpa [F3, It.cells, Form.all] using hj)) (by omega) (by omega) ?_; intro v6 w6 k1 k2 k3; have hm6 := (HM5.out.keep ((Keeps.refl [] w5).alloc _)).app k1 k2 k3; rw [← HA2.out] at hm6; have HM6 := Lib.hid hm6; have ho := order_ok _ acc2 w6 hm6.1.sg (by omega); have HO := Lib.hid ho; clear k1 k2 k3 hm6 ho) | fail)
      refine HO.out.mono ?_
      rintro e w7 ⟨va, o, rfl, h1, h2, h3⟩
      obtain ⟨po, co, hvo, _, _⟩ := h3.1.value
      subst hvo
      have HR := Lib.hid (And.intro h1 (And.intro h2 h3))
      clear h1 h2 h3 HO
      go_wp2
      go_ret
      exact ⟨_, o, rfl, HW0.out ▸ HR.out.1, HW0.out ▸ HR.out.2.1, HR.out.2.2.from (H1.out.1.trans HM6.out.2.2)⟩
end Go.Proofs.Yteekdgmfednmoaa
