/-
  PlanFile, plainly.
-/
import Derived.Test.YteekdgmfednmoaaP13
import Derived.Test.YteekdgmfednmoaaV9
namespace Go.V.Queue
open Go Go.V
def atL (m : Nat) : List Int := (List.range m).map (fun i : Nat => (i : Int) * 3 + 1)
theorem length_atL (m : Nat) : (atL m).length = m := by simp [atL]
theorem atL_succ (m : Nat) : atL (m + 1) = atL m ++ [(m : Int) * 3 + 1] := by unfold atL; rw [List.range_succ, List.map_append]; rfl
theorem atL_get {m i : Nat} (h : i < m) : (atL m)[i]? = some ((i : Int) * 3 + 1) := by
  unfold atL
  rw [List.getElem?_map, List.getElem?_range h]; rfl
def wB (c : CV) (m i : Nat) : Bool := (decide (i + 1 = m) && decide (kindF c.op c.flag = 2)) || decide (c.op = 17)
theorem wantAt_atL {c : CV} {m i : Nat} (h : i < m) : wantAt c (atL m) i = ⟨i, (i : Int) * 3 + 1, wB c m i⟩ := by
  unfold wantAt wB
  rw [length_atL, List.getD_eq_getElem?_getD, atL_get h]; rfl
theorem wantsI_get {c : CV} {at' : List Int} {n i : Nat} (h : i < n) : (wantsI c at' n)[i]? = some (wantAt c at' i) := by
  unfold wantsI
  rw [List.getElem?_map, List.getElem?_range h]; rfl
theorem mem_wantsI {c : CV} {m : Nat} {x : It} (h : x ∈ wantsI c (atL m) m) : ∃ i, i < m ∧ x = ⟨i, (i : Int) * 3 + 1, wB c m i⟩ := by
  unfold wantsI at h
  obtain ⟨i, hi, rfl⟩ := List.mem_map.1 h
  have hi := List.mem_range.1 hi
  exact ⟨i, hi, wantAt_atL hi⟩
theorem wantsI_pair {c : CV} {m : Nat} : (wantsI c (atL m) m).Pairwise (fun a b => a.key < b.key ∧ a.push < b.push) := by
  unfold wantsI
  rw [List.pairwise_map]
  refine List.pairwise_lt_range.imp_of_mem (fun {a b} ha hb hab => ?_)
  rw [wantAt_atL (List.mem_range.1 ha), wantAt_atL (List.mem_range.1 hb)]
  simp only
  omega
theorem OrdP.of_pair {l : List It} (h : l.Pairwise (fun a b => a.key < b.key ∧ a.push < b.push)) : OrdP l l := by
  have hd : l.Pairwise (fun a b => a.push ≠ b.push) := h.imp (fun q => by omega)
  refine ⟨h.imp (fun q => Or.inl q.1), hd, fun x hx => ⟨⟨x, hx, rfl, rfl⟩, fun y hy e => ?_⟩, fun x hx => ?_, fun y hy => ⟨y, hy, rfl⟩⟩
  · rw [dist_eq hd y hy x hx e]; exact Int.le_refl _
  · rw [Bool.eq_iff_iff, wrB_iff]
    exact ⟨fun e => ⟨x, hx, rfl, e⟩, fun ⟨y, hy, e1, e2⟩ => by rw [← dist_eq hd y hy x hx e1]; exact e2⟩
theorem wantsL_file {c : CV} {m : Nat} {F : Int} (_h1 : (m : Int) * 3 < F) (h0 : F ≠ 0) : wantsL c (atL m) F = wantsI c (atL m) m ++ [⟨m, F, writesF c.op c.flag⟩] := by
  unfold wantsL
  rw [if_neg h0, length_atL]
theorem ord_file {c : CV} {m : Nat} {F : Int} (h1 : (m : Int) * 3 < F) (h0 : F ≠ 0) : OrdP (wantsL c (atL m) F) (wantsI c (atL m) m ++ [⟨m, F, writesF c.op c.flag⟩]) := by
  rw [wantsL_file h1 h0]
  refine OrdP.of_pair (List.pairwise_append.2 ⟨wantsI_pair, by simp, fun x hx y hy => ?_⟩)
  obtain rfl := List.mem_singleton.1 hy
  obtain ⟨i, hi, rfl⟩ := mem_wantsI hx
  simp only
  omega
theorem ord_none {c : CV} {m : Nat} : OrdP (wantsL c (atL m) 0) (wantsI c (atL m) m) := by
  unfold wantsL
  rw [if_pos rfl, length_atL, List.append_nil]
  exact OrdP.of_pair wantsI_pair
theorem kind17 (flag : Int) : kindF 17 flag = 2 := by unfold kindF; rw [if_pos (by omega)]
theorem wB_kind {c : CV} {m i : Nat} (h : wB c m i = true) : kindF c.op c.flag = 2 := by
  unfold wB at h
  rw [Bool.or_eq_true, Bool.and_eq_true, decide_eq_true_eq, decide_eq_true_eq, decide_eq_true_eq] at h
  rcases h with ⟨_, h⟩ | h
  · exact h
  · rw [h]; exact kind17 _
theorem wB_last {c : CV} {m : Nat} (h : kindF c.op c.flag = 2) (hm : 0 < m) : wB c m (m - 1) = true := by
  unfold wB
  rw [Bool.or_eq_true, Bool.and_eq_true, decide_eq_true_eq, decide_eq_true_eq]
  exact Or.inl ⟨by omega, h⟩
end Go.V.Queue
namespace Go.Proofs.Yteekdgmfednmoaa
open Go.RowKit Go.V Go.V.Queue
theorem infoz3 : (Try.prog.info? 3).map (fun i => (i.zero, i.size, i.bytes)) = some (some (.int .i64 0), FN.s, 8) := by kernel_rfl
def G1 (w : World) (M m : Nat) (va vi : Value) (wx : World) : Prop := ∃ i : Nat, vi = .int .i64 i ∧ i + m = M ∧ Made FN 3 w va (atL i) wx
set_option maxRecDepth 100000 in
set_option maxHeartbeats 4000000 in
theorem file_any (c : CV) (n f : Int) (w : World) (hn : 0 ≤ n) (hn2 : n ≤ 255) (hf : 0 ≤ f) (hf2 : f ≤ 255) : Calls Try.prog 7 #[c.val, .int .u8 n, .int .u8 f] w (BPost true w) := by
  unfold CV.val
  go_enter Try.func7, Try.ntmps7
  go_upto_region 1 with fail
  obtain ⟨w1, hw1⟩ : ∃ w1, w1 = w.alloc (.cells c.cells 32) := ⟨_, rfl⟩
  obtain ⟨cb, hcb⟩ : ∃ cb, cb = w.heap.size := ⟨_, rfl⟩
  have hk1 : Keeps [] w w1 := by rw [hw1]; exact (Keeps.refl _ _).alloc _
  have hcbb : CB c cb w1 := by rw [hw1, hcb]; exact heap_alloc w _
  have H1 := Lib.hid (And.intro hk1 hcbb)
  rw [← hw1, ← hcb]
  clear hw1 hcb hk1 hcbb
  go_wp2_with fail
  refine (awake_ok _).mono ?_
  rintro e w2 ⟨rfl, hk2⟩
  have H2 := Lib.hid (And.intro (H1.out.1.trans hk2) (H1.out.2.keep hk2 (by simp)))
  have HE := Lib.hid (Made.empty FN 3 w2)
  obtain ⟨M, hM⟩ : ∃ M : Nat, (M : Int) = n % 20 := ⟨(n % 20).toNat, by omega⟩
  have hM20 : M < 20 := by omega
  clear hk2 H1
  go_upto_block 0 with fail
  go_cut [7] (fun va wx => Made FN 3 w2 va (atL M) wx)
  case first =>
    go_wp2_with fail
    go_loopg [7, 8] M (fun m va vi wx => G1 w2 M m va vi wx)
    case atStart => exact ⟨0, rfl, Nat.zero_add _, HE.out⟩
    case round =>
      obtain ⟨i, rfl, hi, hm⟩ := hrel
      clear HE
      have HM := Lib.hid hm
      obtain ⟨pv, cv, hv, _, _⟩ := hm.1.value
      rw [length_atL] at hv
      subst hv
      clear hm
      by_cases hlt : i < M
      · have hii : (i : Int) < n % 20 := by omega
        have hil : (atL i).length = i := length_atL i
        have HIL := Lib.hid hil
        clear hil
        go_wp2_with (first | (refine vp_append_g (F := FN) rfl (.tmp 22) (.tmp 26) 33 rfl (.int .i64 0) 8 Try.underlying33 infoz3 rfl (by decide) _ (atL i) rfl (HM.out.1.keep ((Keeps.refl [] wr).alloc _) (by simp)) ⟨wr.heap.size, 0, none⟩ 1 1 [(i : Int) * 3 + 1] rfl rfl (by intro j u hj; rw [add_none, Nat.zero_add]; exact cell_of (heap_alloc wr _) (by simpa [FN, Form.all] using hj)) (by rw [HIL.out]; omega) (by rw [HIL.out]; omega) ?_; intro v6 w6 k1 k2 k3; have HM6 := Lib.hid ((HM.out.keep ((Keeps.refl [] wr).alloc _)).app k1 k2 k3); clear k1 k2 k3) | fail)
        go_roundg (gk - 1)
        case measure => omega
        case rel =>
          refine ⟨i + 1, by push_cast; rfl, by omega, ?_⟩
          rw [atL_succ]
          exact HM6.out
      · have hii : ¬ (i : Int) < n % 20 := by omega
        have hiM : i = M := by omega
        subst hiM
        go_wp2
        go_meet
        case rel => exact HM.out
  case rest =>
    have hm := hcut
    clear hM
    obtain ⟨pv, cv, hv, _, _⟩ := hm.1.value
    rw [length_atL] at hv
    subst hv
    obtain ⟨F, hF⟩ : ∃ F, F = f + 100 := ⟨_, rfl⟩
    have hF1 : (M : Int) * 3 < F := by omega
    have hF0 : F ≠ 0 := by omega
    have hwa := wants_ok c _ (atL M) F wc hm.1.sg (by rw [length_atL]; omega)
    rw [hF] at hwa
    have HW := Lib.hid hwa
    have HM := Lib.hid hm
    have HCC := Lib.hid (H2.out.2.keep hm.2.2 (by simp))
    have f0 := HCC.out.c0
    have f1 := HCC.out.c1
    have f2 := HCC.out.c2
    have f3 := HCC.out.c3
    have f4 := HCC.out.c4
    have f5 := HCC.out.c5
    have f6 := HCC.out.c6
    clear hcut hm hwa hF hF1 hF0 HE F
    go_wp2_with fail
    refine HW.out.mono ?_
    rintro e w5 ⟨va, o, rfl, a1, a2, a3⟩
    obtain ⟨F, hF⟩ : ∃ F, F = f + 100 := ⟨_, rfl⟩
    have hF1 : (M : Int) * 3 < F := by omega
    have hF0 : F ≠ 0 := by omega
    rw [← hF] at a1
    have ho := a1.eq (ord_file hF1 hF0)
    obtain ⟨wf, hwf⟩ : ∃ wf, wf = writesF c.op c.flag := ⟨_, rfl⟩
    rw [← hwf] at ho
    obtain ⟨L, hL⟩ : ∃ L, L = wantsI c (atL M) M ++ [(⟨M, F, wf⟩ : It)] := ⟨_, rfl⟩
    rw [← hL] at ho
    rw [ho] at a3
    have hLl : L.length = M + 1 := by rw [hL, List.length_append, length_wantsI]; rfl
    have hLM : L[M]? = some ⟨M, F, wf⟩ := by rw [hL, List.getElem?_append_right (by rw [length_wantsI]; exact Nat.le_refl _), length_wantsI, Nat.sub_self]; rfl
    have hLi : ∀ i, i < M → L[i]? = some ⟨i, (i : Int) * 3 + 1, wB c M i⟩ := by
      intro i hi
      rw [hL, List.getElem?_append_left (by rw [length_wantsI]; exact hi), wantsI_get hi, wantAt_atL hi]
    obtain ⟨g, co, _, hvo, _⟩ := a3.1.shape (by rw [hLl]; omega)
    rw [hLl] at hvo
    subst hvo
    have HL := Lib.hid (And.intro a3.1 (And.intro hLl (And.intro hLM hLi)))
    have HCB := Lib.hid (HCC.out.keep a3.2.2 (by simp))
    have HAT := Lib.hid (HM.out.1.keep a3.2.2 (by simp))
    have HK5 := Lib.hid ((H2.out.1.trans HM.out.2.2).trans a3.2.2)
    obtain ⟨c0, c1, c2⟩ := SG.xs a3.1.sg hLM
    simp only at c0 c1 c2
    rw [Nat.zero_add] at c0 c1 c2
    have eF : (F != F) = false := by simp
    have eM : ((M : Int) != (M : Int)) = false := by simp
    clear f0 f1 f2 f3 f4 f5 f6 a1 a2 a3 ho hwf hL hLl hLM hLi HW HM HCC hF1 hF0
    rw [← hF]
    clear hF
    go_upto_block 2 with fail
    go_cut [] (fun wx => Keeps [] w5 wx)
    case first =>
      go_wp2_with fail
      go_loopg [64] M (fun m vi wx => ∃ i : Nat, vi = .int .i64 i ∧ i + m = M ∧ Keeps [] w5 wx)
      case atStart => exact ⟨0, rfl, Nat.zero_add _, Keeps.refl _ _⟩
      case round =>
        obtain ⟨i, rfl, hi, hk⟩ := hrel
        clear c0 c1 c2 eF eM
        by_cases hlt : i < M
        · have HX := Lib.hid (HL.out.2.2.2 i hlt)
          obtain ⟨ab, cap', _, hv, _⟩ := HAT.out.shape (by rw [length_atL]; omega)
          simp only [Value.slice.injEq] at hv
          obtain ⟨rfl, hv1, hv2⟩ := hv
          clear hv1 hv2
          have hii : (i : Int) < (M : Int) := by omega
          have hii2 : (i : Int) < (M : Int) + 1 := by omega
          have e1 : (((i : Int) * 3 + 1) != ((i : Int) * 3 + 1)) = false := by simp
          have e2 : ((i : Int) != (i : Int)) = false := by simp
          have HK := Lib.hid hk
          clear hk
          go_upto_region 15 with fail
          go_cut [97] (fun v wx => v = .bool false ∧ Keeps [] w5 wx)
          case first =>
            cases hwb : wB c M i with
            | false =>
              have HWB := Lib.hid hwb
              clear hwb
              refine vp_region (fun w' => Keeps [] w5 w') [(0, true), (1, true), (2, true), (3, true), (4, true), (5, true), (6, true), (7, true), (8, true), (9, true), (10, true), (11, true), (12, true), (13, true), (14, true), (15, true), (16, true), (17, true), (18, true), (19, true), (20, true), (21, true), (22, true), (23, true), (24, true), (25, true), (26, true), (27, false), (28, true), (29, true), (30, true)] (by kernel_rfl) (by kernel_rfl) (by intro _ d _ _ _ h; cases d <;> exact h) (HK.out.drew) ?_
              intro w10 hw10
              simp only [pick, List.map_cons, List.map_nil, List.getD_cons_zero, List.getD_cons_succ]
              repeat
                first
                  | (refine ord_free rfl (v := ?_) ?_ ?_
                     rotate_left
                     · intro w' hw'
                       obtain ⟨c0, c1, c2⟩ := SG.xs (HL.out.1.keep hw' (by simp)).sg HX.out
                       have d0 : w'.cell? ⟨ab, i * 1, none⟩ = some (.int .i64 ((i : Int) * 3 + 1)) := (HAT.out.keep hw' (by simp)).item rfl (atL_get hlt) (j := 0) rfl
                       rw [Nat.mul_one] at d0
                       have hcw := HCB.out.keep hw' (by simp)
                       have f0 := hcw.c0
                       have f1 := hcw.c1
                       have f2 := hcw.c2
                       have f3 := hcw.c3
                       have f4 := hcw.c4
                       have f5 := hcw.c5
                       have f6 := hcw.c6
                       simp only at c0 c1 c2
                       rw [Nat.zero_add] at c0 c1 c2
                       rw [HWB.out] at c2
                       go_simp
                       with_reducible rfl
                     simp only [Act.put, List.setIfInBounds_toArray, List.set_cons_zero, List.set_cons_succ])
                  | (refine ord_free_g (by first | rfl | decide) (v := ?_) ?_ ?_
                     rotate_left
                     · intro w' hw'
                       obtain ⟨c0, c1, c2⟩ := SG.xs (HL.out.1.keep hw' (by simp)).sg HX.out
                       have d0 : w'.cell? ⟨ab, i * 1, none⟩ = some (.int .i64 ((i : Int) * 3 + 1)) := (HAT.out.keep hw' (by simp)).item rfl (atL_get hlt) (j := 0) rfl
                       rw [Nat.mul_one] at d0
                       have hcw := HCB.out.keep hw' (by simp)
                       have f0 := hcw.c0
                       have f1 := hcw.c1
                       have f2 := hcw.c2
                       have f3 := hcw.c3
                       have f4 := hcw.c4
                       have f5 := hcw.c5
                       have f6 := hcw.c6
                       simp only at c0 c1 c2
                       rw [Nat.zero_add] at c0 c1 c2
                       rw [HWB.out] at c2
                       go_simp
                       with_reducible rfl
                     simp only [Act.put, List.setIfInBounds_toArray, List.set_cons_zero, List.set_cons_succ])
                  | (refine ord_skip (by first | rfl | decide) ?_
                     simp only [Act.put, List.setIfInBounds_toArray, List.set_cons_zero, List.set_cons_succ])
              refine ord_skip_eff (by first | rfl | decide) (by rw [hw10]; exact HK.out.drew) ?_
              simp only [Act.put, List.setIfInBounds_toArray, List.set_cons_zero, List.set_cons_succ]
              repeat
                first
                  | (refine ord_free rfl (v := ?_) ?_ ?_
                     rotate_left
                     · intro w' hw'
                       obtain ⟨c0, c1, c2⟩ := SG.xs (HL.out.1.keep hw' (by simp)).sg HX.out
                       have d0 : w'.cell? ⟨ab, i * 1, none⟩ = some (.int .i64 ((i : Int) * 3 + 1)) := (HAT.out.keep hw' (by simp)).item rfl (atL_get hlt) (j := 0) rfl
                       rw [Nat.mul_one] at d0
                       have hcw := HCB.out.keep hw' (by simp)
                       have f0 := hcw.c0
                       have f1 := hcw.c1
                       have f2 := hcw.c2
                       have f3 := hcw.c3
                       have f4 := hcw.c4
                       have f5 := hcw.c5
                       have f6 := hcw.c6
                       simp only at c0 c1 c2
                       rw [Nat.zero_add] at c0 c1 c2
                       rw [HWB.out] at c2
                       go_simp
                       with_reducible rfl
                     simp only [Act.put, List.setIfInBounds_toArray, List.set_cons_zero, List.set_cons_succ])
                  | (refine ord_free_g (by first | rfl | decide) (v := ?_) ?_ ?_
                     rotate_left
                     · intro w' hw'
                       obtain ⟨c0, c1, c2⟩ := SG.xs (HL.out.1.keep hw' (by simp)).sg HX.out
                       have d0 : w'.cell? ⟨ab, i * 1, none⟩ = some (.int .i64 ((i : Int) * 3 + 1)) := (HAT.out.keep hw' (by simp)).item rfl (atL_get hlt) (j := 0) rfl
                       rw [Nat.mul_one] at d0
                       have hcw := HCB.out.keep hw' (by simp)
                       have f0 := hcw.c0
                       have f1 := hcw.c1
                       have f2 := hcw.c2
                       have f3 := hcw.c3
                       have f4 := hcw.c4
                       have f5 := hcw.c5
                       have f6 := hcw.c6
                       simp only at c0 c1 c2
                       rw [Nat.zero_add] at c0 c1 c2
                       rw [HWB.out] at c2
                       go_simp
                       with_reducible rfl
                     simp only [Act.put, List.setIfInBounds_toArray, List.set_cons_zero, List.set_cons_succ])
                  | (refine ord_skip (by first | rfl | decide) ?_
                     simp only [Act.put, List.setIfInBounds_toArray, List.set_cons_zero, List.set_cons_succ])
              subst hw10
              refine ord_nil ?_
              go_wp2
              go_meet
              case rel => exact ⟨rfl, HK.out.drew⟩
            | true =>
              have hkd := wB_kind hwb
              have hkc := kind_ok c wr.drew
              rw [hkd] at hkc
              have HKC := Lib.hid hkc
              have HWB := Lib.hid hwb
              clear hwb hkd hkc
              refine vp_region (fun w' => Keeps [] w5 w') [(0, true), (1, true), (2, true), (3, true), (4, true), (5, true), (6, true), (7, true), (8, true), (9, true), (10, true), (11, true), (12, true), (13, true), (14, true), (15, true), (16, true), (17, true), (18, true), (19, true), (20, true), (21, true), (22, true), (23, true), (24, true), (25, true), (26, true), (27, false), (28, true), (29, true), (30, true)] (by kernel_rfl) (by kernel_rfl) (by intro _ d _ _ _ h; cases d <;> exact h) (HK.out.drew) ?_
              intro w10 hw10
              simp only [pick, List.map_cons, List.map_nil, List.getD_cons_zero, List.getD_cons_succ]
              repeat
                first
                  | (refine ord_free rfl (v := ?_) ?_ ?_
                     rotate_left
                     · intro w' hw'
                       obtain ⟨c0, c1, c2⟩ := SG.xs (HL.out.1.keep hw' (by simp)).sg HX.out
                       have d0 : w'.cell? ⟨ab, i * 1, none⟩ = some (.int .i64 ((i : Int) * 3 + 1)) := (HAT.out.keep hw' (by simp)).item rfl (atL_get hlt) (j := 0) rfl
                       rw [Nat.mul_one] at d0
                       have hcw := HCB.out.keep hw' (by simp)
                       have f0 := hcw.c0
                       have f1 := hcw.c1
                       have f2 := hcw.c2
                       have f3 := hcw.c3
                       have f4 := hcw.c4
                       have f5 := hcw.c5
                       have f6 := hcw.c6
                       simp only at c0 c1 c2
                       rw [Nat.zero_add] at c0 c1 c2
                       rw [HWB.out] at c2
                       go_simp
                       with_reducible rfl
                     simp only [Act.put, List.setIfInBounds_toArray, List.set_cons_zero, List.set_cons_succ])
                  | (refine ord_free_g (by first | rfl | decide) (v := ?_) ?_ ?_
                     rotate_left
                     · intro w' hw'
                       obtain ⟨c0, c1, c2⟩ := SG.xs (HL.out.1.keep hw' (by simp)).sg HX.out
                       have d0 : w'.cell? ⟨ab, i * 1, none⟩ = some (.int .i64 ((i : Int) * 3 + 1)) := (HAT.out.keep hw' (by simp)).item rfl (atL_get hlt) (j := 0) rfl
                       rw [Nat.mul_one] at d0
                       have hcw := HCB.out.keep hw' (by simp)
                       have f0 := hcw.c0
                       have f1 := hcw.c1
                       have f2 := hcw.c2
                       have f3 := hcw.c3
                       have f4 := hcw.c4
                       have f5 := hcw.c5
                       have f6 := hcw.c6
                       simp only at c0 c1 c2
                       rw [Nat.zero_add] at c0 c1 c2
                       rw [HWB.out] at c2
                       go_simp
                       with_reducible rfl
                     simp only [Act.put, List.setIfInBounds_toArray, List.set_cons_zero, List.set_cons_succ])
                  | (refine ord_skip (by first | rfl | decide) ?_
                     simp only [Act.put, List.setIfInBounds_toArray, List.set_cons_zero, List.set_cons_succ])
              subst hw10
              refine ord_eff ?_
              go_wp2_with fail
              rename_i KK hKK
              refine HKC.out.mono ?_
              rintro e w6 ⟨rfl, hk6⟩
              refine hKK _ _ ?_
              have hk6' : Keeps [] w5 w6 := (HK.out.drew).trans hk6
              refine ord_next hk6' ?_
              have HK6 := Lib.hid hk6'
              clear hKK KK hk6 hk6' HKC
              try simp only [Act.put, List.setIfInBounds_toArray, List.set_cons_zero, List.set_cons_succ]
              repeat
                first
                  | (refine ord_free rfl (v := ?_) ?_ ?_
                     rotate_left
                     · intro w' hw'
                       obtain ⟨c0, c1, c2⟩ := SG.xs (HL.out.1.keep hw' (by simp)).sg HX.out
                       have d0 : w'.cell? ⟨ab, i * 1, none⟩ = some (.int .i64 ((i : Int) * 3 + 1)) := (HAT.out.keep hw' (by simp)).item rfl (atL_get hlt) (j := 0) rfl
                       rw [Nat.mul_one] at d0
                       have hcw := HCB.out.keep hw' (by simp)
                       have f0 := hcw.c0
                       have f1 := hcw.c1
                       have f2 := hcw.c2
                       have f3 := hcw.c3
                       have f4 := hcw.c4
                       have f5 := hcw.c5
                       have f6 := hcw.c6
                       simp only at c0 c1 c2
                       rw [Nat.zero_add] at c0 c1 c2
                       rw [HWB.out] at c2
                       go_simp
                       with_reducible rfl
                     simp only [Act.put, List.setIfInBounds_toArray, List.set_cons_zero, List.set_cons_succ])
                  | (refine ord_free_g (by first | rfl | decide) (v := ?_) ?_ ?_
                     rotate_left
                     · intro w' hw'
                       obtain ⟨c0, c1, c2⟩ := SG.xs (HL.out.1.keep hw' (by simp)).sg HX.out
                       have d0 : w'.cell? ⟨ab, i * 1, none⟩ = some (.int .i64 ((i : Int) * 3 + 1)) := (HAT.out.keep hw' (by simp)).item rfl (atL_get hlt) (j := 0) rfl
                       rw [Nat.mul_one] at d0
                       have hcw := HCB.out.keep hw' (by simp)
                       have f0 := hcw.c0
                       have f1 := hcw.c1
                       have f2 := hcw.c2
                       have f3 := hcw.c3
                       have f4 := hcw.c4
                       have f5 := hcw.c5
                       have f6 := hcw.c6
                       simp only at c0 c1 c2
                       rw [Nat.zero_add] at c0 c1 c2
                       rw [HWB.out] at c2
                       go_simp
                       with_reducible rfl
                     simp only [Act.put, List.setIfInBounds_toArray, List.set_cons_zero, List.set_cons_succ])
                  | (refine ord_skip (by first | rfl | decide) ?_
                     simp only [Act.put, List.setIfInBounds_toArray, List.set_cons_zero, List.set_cons_succ])
              refine ord_nil ?_
              go_wp2
              go_meet
              case rel => exact ⟨rfl, HK6.out⟩
          case rest =>
            obtain ⟨rfl, hkc⟩ := hcut
            have HK6 := Lib.hid hkc
            clear hkc HK
            go_wp2
            go_roundg (gk - 1)
            case measure => omega
            case rel => exact ⟨i + 1, by push_cast; rfl, by omega, HK6.out⟩
        · have hiM : i = M := by omega
          have HK := Lib.hid hk
          clear hk
          go_wp2
          go_meet
          case rel => exact HK.out
    case rest =>
      have HK := Lib.hid hcut
      have HCW := Lib.hid (HCB.out.keep hcut (by simp))
      clear hcut c0 c1 c2 eF eM
      go_upto_region 18 with fail
      go_cut [116] (fun v wx => v = .bool false ∧ Keeps [] w5 wx)
      case first =>
        by_cases h0 : M = 0
        · have e0 : decide (0 < M) = false := decide_eq_false (by omega)
          clear h0
          go_wp2
          go_meet
          case rel => exact ⟨rfl, HK.out⟩
        · have e0 : decide (0 < M) = true := decide_eq_true (by omega)
          obtain ⟨j, hj⟩ : ∃ j, M = j + 1 := ⟨M - 1, by omega⟩
          have f0 := HCW.out.c0
          have f1 := HCW.out.c1
          have f2 := HCW.out.c2
          have f3 := HCW.out.c3
          have f4 := HCW.out.c4
          have f5 := HCW.out.c5
          have f6 := HCW.out.c6
          obtain ⟨k, hkk⟩ : ∃ k, k = kindF c.op c.flag := ⟨_, rfl⟩
          have hkc := kind_ok c wc
          rw [← hkk] at hkc
          have HKC := Lib.hid hkc
          have HKK := Lib.hid hkk
          have HJ := Lib.hid hj
          clear h0 hkc hkk hj
          go_wp2_with fail
          refine HKC.out.mono ?_
          rintro e w6 ⟨rfl, hk6⟩
          have HK6 := Lib.hid (HK.out.trans hk6)
          clear f0 f1 f2 f3 f4 f5 f6 hk6 HKC
          by_cases hk2 : k = 2
          · have e1 : (k == 2) = true := by simp [hk2]
            have hwl : wB c M (M - 1) = true := wB_last (by rw [← HKK.out]; exact hk2) (by rw [HJ.out]; omega)
            have hx := HL.out.2.2.2 (M - 1) (by have := HJ.out; omega)
            rw [hwl, show M - 1 = j by have := HJ.out; omega] at hx
            obtain ⟨_, _, c2⟩ := SG.xs (HL.out.1.keep HK6.out (by simp)).sg hx
            simp only at c2
            rw [Nat.zero_add] at c2
            have e2 : (M : Int) - 1 = (j : Int) := by have := HJ.out; omega
            have e3 : (j : Int) < (M : Int) + 1 := by omega
            clear hk2 hwl hx
            go_wp2
            go_meet
            case rel => exact ⟨rfl, HK6.out⟩
          · have e1 : (k == 2) = false := by simp [hk2]
            clear hk2
            go_wp2
            go_meet
            case rel => exact ⟨rfl, HK6.out⟩
      case rest =>
        obtain ⟨rfl, hkc⟩ := hcut
        have hcw := HCB.out.keep hkc (by simp)
        have f0 := hcw.c0
        have f1 := hcw.c1
        have f2 := hcw.c2
        have f3 := hcw.c3
        have f4 := hcw.c4
        have f5 := hcw.c5
        have f6 := hcw.c6
        have hwa := wants_ok c _ (atL M) 0 wc (HAT.out.keep hkc (by simp)).sg (by rw [length_atL]; omega)
        have HW := Lib.hid hwa
        have HKC := Lib.hid (HK5.out.trans hkc)
        clear hkc hcw hwa HCW HK
        go_wp2_with fail
        refine HW.out.mono ?_
        rintro e w8 ⟨vz, oz, rfl, a1, a2, a3⟩
        have ho := a1.eq ord_none
        obtain ⟨pz, cz, hvz, _, _⟩ := a3.1.value
        rw [ho, length_wantsI] at hvz
        subst hvz
        have HE := Lib.hid (HKC.out.trans a3.2.2)
        clear f0 f1 f2 f3 f4 f5 f6 a1 a2 a3 ho
        have eMM : ((M : Int) == (M : Int)) = true := by simp
        go_wp2
        go_ret
        exact ⟨rfl, HE.out⟩
end Go.Proofs.Yteekdgmfednmoaa
