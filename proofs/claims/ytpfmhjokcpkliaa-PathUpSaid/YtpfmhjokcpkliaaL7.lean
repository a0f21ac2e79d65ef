/-
  path.Join, walked.
-/
import Derived.Test.YtpfmhjokcpkliaaL6
import Derived.Test.YtpfmhjokcpkliaaV11
namespace Go.Proofs.Ytpfmhjokcpkliaa
open Go.RowKit Go.V Go.V.Path
def joinE (p q : List (List UInt8)) : Int := if 40 < p.length + q.length then 36 else 0
def joinN (p q : List (List UInt8)) : List (List UInt8) := if 40 < p.length + q.length then [] else p ++ q
def joinD (p : List (List UInt8)) (d : Bool) (q : List (List UInt8)) (d' : Bool) : Bool := if 40 < p.length + q.length then false else if q.length = 0 then d else d'
def JoinPost (p : List (List UInt8)) (d : Bool) (q : List (List UInt8)) (d' : Bool) (w : World) (e : Ending) (w' : World) : Prop :=
  ∃ va, e = .returned (.tuple #[pathV va (joinD p d q d'), .int .i64 (joinE p q)]) ∧ Made FB 9 w va (joinN p q) w'
set_option maxRecDepth 100000 in
set_option maxHeartbeats 4000000 in
theorem join_ok (v1 v2 : Value) (n1 n2 : List (List UInt8)) (d1 d2 : Bool) (w : World) (h1 : SG FB w v1 n1) (h2 : SG FB w v2 n2) (hl1 : n1.length ≤ 1000) (hl2 : n2.length ≤ 1000) :
    Calls Try.prog 21 #[pathV v1 d1, pathV v2 d2] w (JoinPost n1 d1 n2 d2 w) := by
  obtain ⟨p1, c1, rfl, hc1, hd1, _⟩ := id h1
  obtain ⟨p2, c2, rfl, hc2, hd2, _⟩ := id h2
  obtain ⟨A, hA⟩ : ∃ A, A = n1.length := ⟨_, rfl⟩
  obtain ⟨B, hB⟩ : ∃ B, B = n2.length := ⟨_, rfl⟩
  rw [← hA] at hl1 h1 hc1 ⊢
  rw [← hB] at hl2 h2 hc2 ⊢
  have H := Lib.hid (And.intro hA (And.intro hB (And.intro h1 h2)))
  clear hA hB h1 h2
  unfold pathV
  go_enter Try.func21, Try.ntmps21
  go_upto_region 1 with fail
  obtain ⟨w3, hw3⟩ : ∃ w3, w3 = ((w.alloc (.cells #[.slice p1 A c1, .bool d1] 25)).alloc (.cells #[.slice p2 B c2, .bool d2] 25)).alloc (.cells #[.slice none 0 0, .bool false] 25) := ⟨_, rfl⟩
  obtain ⟨ab, hab⟩ : ∃ ab, ab = w.heap.size := ⟨_, rfl⟩
  obtain ⟨bb, hbb⟩ : ∃ bb, bb = w.heap.size + 1 := ⟨_, rfl⟩
  obtain ⟨rb, hrb⟩ : ∃ rb, rb = w.heap.size + 1 + 1 := ⟨_, rfl⟩
  have q1 : w3.heap[ab]? = some (.cells #[.slice p1 A c1, .bool d1] 25 (0, 0)) := by
    rw [hw3, hab]; exact heap_alloc_ne _ _ (heap_alloc_ne _ _ (heap_alloc w _))
  have q2 : w3.heap[bb]? = some (.cells #[.slice p2 B c2, .bool d2] 25 (0, 0)) := by
    rw [hw3, hbb]
    refine heap_alloc_ne _ _ ?_
    have := heap_alloc (w.alloc (.cells #[.slice p1 A c1, .bool d1] 25)) (.cells #[.slice p2 B c2, .bool d2] 25)
    rwa [show (w.alloc (.cells #[.slice p1 A c1, .bool d1] 25)).heap.size = w.heap.size + 1 from by show (w.heap.push _).size = _; simp] at this
  have q3 : w3.heap[rb]? = some (.cells #[.slice none 0 0, .bool false] 25 (0, 0)) := by
    rw [hw3, hrb]
    have := heap_alloc ((w.alloc (.cells #[.slice p1 A c1, .bool d1] 25)).alloc (.cells #[.slice p2 B c2, .bool d2] 25)) (.cells #[.slice none 0 0, .bool false] 25)
    rwa [show ((w.alloc (.cells #[.slice p1 A c1, .bool d1] 25)).alloc (.cells #[.slice p2 B c2, .bool d2] 25)).heap.size = w.heap.size + 1 + 1 from by show ((w.heap.push _).push _).size = _; simp] at this
  have hk3 : Keeps [] w w3 := by rw [hw3]; exact (((Keeps.refl _ _).alloc _).alloc _).alloc _
  have H3 := Lib.hid (And.intro q1 (And.intro q2 (And.intro q3 (And.intro hk3 (And.intro (show ab ≠ rb by omega) (And.intro (show bb ≠ rb by omega) (show w.heap.size ≤ rb by omega)))))))
  rw [← hw3, ← hrb, ← hbb, ← hab]
  clear hw3 hab hbb hrb q1 q2 q3 hk3
  have a0 : w3.cell? ⟨ab, 0, none⟩ = some (.slice p1 A c1) := cell_of H3.out.1 rfl
  have b0 : w3.cell? ⟨bb, 0, none⟩ = some (.slice p2 B c2) := cell_of H3.out.2.1 rfl
  by_cases hlong : 40 < A + B
  · have hE : joinE n1 n2 = 36 := by unfold joinE; rw [← H.out.1, ← H.out.2.1, if_pos hlong]
    have hN : joinN n1 n2 = [] := by unfold joinN; rw [← H.out.1, ← H.out.2.1, if_pos hlong]
    have hD : joinD n1 d1 n2 d2 = false := by unfold joinD; rw [← H.out.1, ← H.out.2.1, if_pos hlong]
    have HE := Lib.hid (And.intro hE (And.intro hN hD))
    clear hE hN hD
    have c0 : w3.cell? ⟨rb, 0, none⟩ = some (.slice none 0 0) := cell_of H3.out.2.2.1 rfl
    have c1 : w3.cell? ⟨rb, 1, none⟩ = some (.bool false) := cell_of H3.out.2.2.1 rfl
    have z0 : w3.frozen? ⟨rb, 0, none⟩ = false := frozen_of 0 H3.out.2.2.1
    have z1 : w3.frozen? ⟨rb, 1, none⟩ = false := frozen_of 1 H3.out.2.2.1
    have hc : (40 : Int) < (A : Int) + (B : Int) := by omega
    have hfin : ((w3.setCell ⟨rb, 0, none⟩ (.slice none 0 0)).setCell ⟨rb, 1, none⟩ (.bool false)).heap[rb]? = some (.cells #[.slice none 0 0, .bool false] 25 (0, 0)) := heap_setCell (heap_setCell H3.out.2.2.1)
    have hkk : Keeps [rb] w3 ((w3.setCell ⟨rb, 0, none⟩ (.slice none 0 0)).setCell ⟨rb, 1, none⟩ (.bool false)) := ((Keeps.refl [rb] w3).setCell (Or.inl (by simp)) _).setCell (Or.inl (by simp)) _
    have HF := Lib.hid (And.intro hfin hkk)
    clear hfin hkk
    go_wp2
    (try simp only [Exit.inBlock, Exit.then])
    refine bodyPost_ret (results_ct rfl rfl (load25 HF.out.1)) rfl ?_
    obtain ⟨hE, hN, hD⟩ := HE.out
    refine ⟨.slice none 0 0, by rw [hE, hD]; rfl, ?_⟩
    rw [hN]
    exact ⟨RowG.nil FB 9 _, fun x hx => (by cases hx), H3.out.2.2.2.1.trans' HF.out.2 (fun z hz => Or.inr (by obtain rfl := List.mem_singleton.1 hz; exact H3.out.2.2.2.2.2.2))⟩
  · have hc : ¬ (40 : Int) < (A : Int) + (B : Int) := by omega
    go_upto_region 3 with fail
    clear a0 b0
    go_cut [6] (fun v wx => ∃ ob va, v = .pointer (some ⟨ob, 0, none⟩) ∧ wx.heap[ob]? = some (.cells #[va, .bool d2] 25 (0, 0)) ∧ Made FB 9 w3 va (n1 ++ n2) wx ∧ w3.heap.size ≤ ob)
    case first =>
      rename_i J1 K1 hJ1 hK1
      refine vp_region_tree (fun w' => Keeps [] w3 w') (.take 0 (.take 1 (.take 2 (.take 3 (.take 6 (.take 7 (.two 4 (.two 5 (.take 8 (.one 9 (.one 10 .nil))) 9 (.one 5 (.take 8 (.one 10 .nil)))) 9 (.one 4 (.one 5 (.take 8 (.one 10 .nil))))))))))) (by kernel_rfl) (by kernel_rfl) (by intro _ d _ _ _ h; cases d <;> exact h) ((Keeps.refl _ _).drew) ?_
      intro w4 hw4
      simp only [Tr.pick, List.getD_cons_zero, List.getD_cons_succ]
      repeat
        refine tr_free rfl (v := ?_) ?_ ?_
        rotate_left
        · intro w' hw'
          have a0 : w'.cell? ⟨ab, 0, none⟩ = some (.slice p1 A c1) := cell_of (hw'.get H3.out.1 (by simp)) rfl
          have b0 : w'.cell? ⟨bb, 0, none⟩ = some (.slice p2 B c2) := cell_of (hw'.get H3.out.2.1 (by simp)) rfl
          have b1 : w'.cell? ⟨bb, 1, none⟩ = some (.bool d2) := cell_of (hw'.get H3.out.2.1 (by simp)) rfl
          go_simp
          with_reducible rfl
        simp only [Act.put, List.setIfInBounds_toArray, List.set_cons_zero, List.set_cons_succ]
      have hk4 : Keeps [] w3 w4 := by rw [hw4]; exact (Keeps.refl _ _).drew
      have K4 := Lib.hid hk4
      clear hw4 hk4
      refine tr_two ?_ ?_
      · go_wp2_with fail
        obtain ⟨w5, hwj⟩ : ∃ x, x = w4.alloc (.cells #[.slice p1 A c1, .slice p2 B c2] 23) := ⟨_, rfl⟩
        obtain ⟨sb, hsb⟩ : ∃ sb, sb = w4.heap.size := ⟨_, rfl⟩
        have hS : w5.heap[sb]? = some (.cells #[.slice p1 A c1, .slice p2 B c2] 23 (0, 0)) := by rw [hwj, hsb]; exact heap_alloc _ _
        have hij : Keeps [] w4 w5 := by rw [hwj]; exact (Keeps.refl _ _).alloc _
        rw [← hwj, ← hsb]
        have K5 := Lib.hid (K4.out.trans hij)
        have SB5 := Lib.hid hS
        clear hwj hsb hS hij
        refine ⟨K5.out, ?_⟩
        refine tr_two ?_ ?_
        · go_wp2_with fail
          rename_i KK hKK
          refine (concat_ok _ _ n1 n2 sb 23 w5 (H.out.2.2.1.keep (H3.out.2.2.2.1.trans K5.out) (by simp)) (H.out.2.2.2.keep (H3.out.2.2.2.1.trans K5.out) (by simp)) SB5.out (by rw [← H.out.1]; omega) (by rw [← H.out.2.1]; omega)).mono ?_
          rintro e w6 ⟨va, rfl, hva⟩
          refine hKK _ _ ?_
          obtain ⟨pv, cv, hvv, _, _⟩ := hva.1.value
          obtain ⟨M, hM⟩ : ∃ M, M = (n1 ++ n2).length := ⟨_, rfl⟩
          rw [← hM] at hvv
          clear hM
          subst hvv
          have K6 := Lib.hid (K5.out.trans hva.2.2)
          have M6 := Lib.hid (hva.from K5.out)
          clear hKK hva
          refine tr_next K6.out ?_
          refine tr_free rfl (v := ?_) ?_ ?_
          rotate_left
          · intro w' hw'
            go_simp
            with_reducible rfl
          simp only [Act.put, List.setIfInBounds_toArray, List.set_cons_zero, List.set_cons_succ]
          refine tr_one ?_
          go_wp2_with fail
          obtain ⟨w7, hwj⟩ : ∃ x, x = w6.alloc (.cells #[.slice none 0 0, .bool false] 25) := ⟨_, rfl⟩
          obtain ⟨ob, hob⟩ : ∃ ob, ob = w6.heap.size := ⟨_, rfl⟩
          have hS : w7.heap[ob]? = some (.cells #[.slice none 0 0, .bool false] 25 (0, 0)) := by rw [hwj, hob]; exact heap_alloc _ _
          have hij : Keeps [] w6 w7 := by rw [hwj]; exact (Keeps.refl _ _).alloc _
          have OBL := Lib.hid (show w3.heap.size ≤ ob by rw [hob]; exact K6.out.size)
          rw [← hwj, ← hob]
          have K7 := Lib.hid (K6.out.trans hij)
          have OB7 := Lib.hid hS
          have M7 := Lib.hid (M6.out.keep hij)
          clear hwj hob hS hij
          refine ⟨K7.out, ?_⟩
          refine tr_one ?_
          have o0 : w7.cell? ⟨ob, 0, none⟩ = some (.slice none 0 0) := cell_of OB7.out rfl
          have o1 : w7.cell? ⟨ob, 1, none⟩ = some (.bool false) := cell_of OB7.out rfl
          have z0 : w7.frozen? ⟨ob, 0, none⟩ = false := frozen_of 0 OB7.out
          have z1 : w7.frozen? ⟨ob, 1, none⟩ = false := frozen_of 1 OB7.out
          have hkk : Keeps [ob] w7 ((w7.setCell ⟨ob, 0, none⟩ (.slice pv M cv)).setCell ⟨ob, 1, none⟩ (.bool d2)) := ((Keeps.refl [ob] w7).setCell (Or.inl (by simp)) _).setCell (Or.inl (by simp)) _
          have hfin : ((w7.setCell ⟨ob, 0, none⟩ (.slice pv M cv)).setCell ⟨ob, 1, none⟩ (.bool d2)).heap[ob]? = some (.cells #[.slice pv M cv, .bool d2] 25 (0, 0)) := heap_setCell (heap_setCell OB7.out)
          have HKK := Lib.hid (And.intro hkk hfin)
          clear hkk hfin
          go_wp2_with fail
          refine ⟨K7.out.trans' HKK.out.1 (fun z hz => Or.inr (by obtain rfl := List.mem_singleton.1 hz; exact OBL.out)), ?_⟩
          refine hK1 _ _ ?_
          go_meet
          case rel => exact ⟨ob, _, rfl, HKK.out.2, ⟨M7.out.1.keep HKK.out.1 (fun z hz => by obtain rfl := List.mem_singleton.1 hz; exact M7.out.1.ne OB7.out (by decide)), M7.out.2.1, M7.out.2.2.trans' HKK.out.1 (fun z hz => Or.inr (by obtain rfl := List.mem_singleton.1 hz; exact OBL.out))⟩, OBL.out⟩
        · go_wp2_with fail
          obtain ⟨w6, hwj⟩ : ∃ x, x = w5.alloc (.cells #[.slice none 0 0, .bool false] 25) := ⟨_, rfl⟩
          obtain ⟨ob, hob⟩ : ∃ ob, ob = w5.heap.size := ⟨_, rfl⟩
          have hS : w6.heap[ob]? = some (.cells #[.slice none 0 0, .bool false] 25 (0, 0)) := by rw [hwj, hob]; exact heap_alloc _ _
          have hij : Keeps [] w5 w6 := by rw [hwj]; exact (Keeps.refl _ _).alloc _
          have OBL := Lib.hid (show w3.heap.size ≤ ob by rw [hob]; exact K5.out.size)
          rw [← hwj, ← hob]
          have K6 := Lib.hid (K5.out.trans hij)
          have OB6 := Lib.hid hS
          have SB6 := Lib.hid (hij.get SB5.out (by simp))
          clear hwj hob hS hij
          refine ⟨K6.out, ?_⟩
          refine tr_one ?_
          go_wp2_with fail
          rename_i KK hKK
          refine (concat_ok _ _ n1 n2 sb 23 w6 (H.out.2.2.1.keep (H3.out.2.2.2.1.trans K6.out) (by simp)) (H.out.2.2.2.keep (H3.out.2.2.2.1.trans K6.out) (by simp)) SB6.out (by rw [← H.out.1]; omega) (by rw [← H.out.2.1]; omega)).mono ?_
          rintro e w7 ⟨va, rfl, hva⟩
          refine hKK _ _ ?_
          obtain ⟨pv, cv, hvv, _, _⟩ := hva.1.value
          obtain ⟨M, hM⟩ : ∃ M, M = (n1 ++ n2).length := ⟨_, rfl⟩
          rw [← hM] at hvv
          clear hM
          subst hvv
          have K7 := Lib.hid (K6.out.trans hva.2.2)
          have M7 := Lib.hid (hva.from K6.out)
          have OB7 := Lib.hid (hva.2.2.get OB6.out (by simp))
          clear hKK hva
          refine tr_next K7.out ?_
          refine tr_free rfl (v := ?_) ?_ ?_
          rotate_left
          · intro w' hw'
            go_simp
            with_reducible rfl
          simp only [Act.put, List.setIfInBounds_toArray, List.set_cons_zero, List.set_cons_succ]
          refine tr_one ?_
          have o0 : w7.cell? ⟨ob, 0, none⟩ = some (.slice none 0 0) := cell_of OB7.out rfl
          have o1 : w7.cell? ⟨ob, 1, none⟩ = some (.bool false) := cell_of OB7.out rfl
          have z0 : w7.frozen? ⟨ob, 0, none⟩ = false := frozen_of 0 OB7.out
          have z1 : w7.frozen? ⟨ob, 1, none⟩ = false := frozen_of 1 OB7.out
          have hkk : Keeps [ob] w7 ((w7.setCell ⟨ob, 0, none⟩ (.slice pv M cv)).setCell ⟨ob, 1, none⟩ (.bool d2)) := ((Keeps.refl [ob] w7).setCell (Or.inl (by simp)) _).setCell (Or.inl (by simp)) _
          have hfin : ((w7.setCell ⟨ob, 0, none⟩ (.slice pv M cv)).setCell ⟨ob, 1, none⟩ (.bool d2)).heap[ob]? = some (.cells #[.slice pv M cv, .bool d2] 25 (0, 0)) := heap_setCell (heap_setCell OB7.out)
          have HKK := Lib.hid (And.intro hkk hfin)
          clear hkk hfin
          go_wp2_with fail
          refine ⟨K7.out.trans' HKK.out.1 (fun z hz => Or.inr (by obtain rfl := List.mem_singleton.1 hz; exact OBL.out)), ?_⟩
          refine hK1 _ _ ?_
          go_meet
          case rel => exact ⟨ob, _, rfl, HKK.out.2, ⟨M7.out.1.keep HKK.out.1 (fun z hz => by obtain rfl := List.mem_singleton.1 hz; exact M7.out.1.ne OB7.out (by decide)), M7.out.2.1, M7.out.2.2.trans' HKK.out.1 (fun z hz => Or.inr (by obtain rfl := List.mem_singleton.1 hz; exact OBL.out))⟩, OBL.out⟩
      · go_wp2_with fail
        obtain ⟨w5, hwj⟩ : ∃ x, x = w4.alloc (.cells #[.slice none 0 0, .bool false] 25) := ⟨_, rfl⟩
        obtain ⟨ob, hob⟩ : ∃ ob, ob = w4.heap.size := ⟨_, rfl⟩
        have hS : w5.heap[ob]? = some (.cells #[.slice none 0 0, .bool false] 25 (0, 0)) := by rw [hwj, hob]; exact heap_alloc _ _
        have hij : Keeps [] w4 w5 := by rw [hwj]; exact (Keeps.refl _ _).alloc _
        have OBL := Lib.hid (show w3.heap.size ≤ ob by rw [hob]; exact K4.out.size)
        rw [← hwj, ← hob]
        have K5 := Lib.hid (K4.out.trans hij)
        have OB5 := Lib.hid hS
        clear hwj hob hS hij
        refine ⟨K5.out, ?_⟩
        refine tr_one ?_
        go_wp2_with fail
        obtain ⟨w6, hwj⟩ : ∃ x, x = w5.alloc (.cells #[.slice p1 A c1, .slice p2 B c2] 23) := ⟨_, rfl⟩
        obtain ⟨sb, hsb⟩ : ∃ sb, sb = w5.heap.size := ⟨_, rfl⟩
        have hS : w6.heap[sb]? = some (.cells #[.slice p1 A c1, .slice p2 B c2] 23 (0, 0)) := by rw [hwj, hsb]; exact heap_alloc _ _
        have hij : Keeps [] w5 w6 := by rw [hwj]; exact (Keeps.refl _ _).alloc _
        rw [← hwj, ← hsb]
        have K6 := Lib.hid (K5.out.trans hij)
        have SB6 := Lib.hid hS
        have OB6 := Lib.hid (hij.get OB5.out (by simp))
        clear hwj hsb hS hij
        refine ⟨K6.out, ?_⟩
        refine tr_one ?_
        go_wp2_with fail
        rename_i KK hKK
        refine (concat_ok _ _ n1 n2 sb 23 w6 (H.out.2.2.1.keep (H3.out.2.2.2.1.trans K6.out) (by simp)) (H.out.2.2.2.keep (H3.out.2.2.2.1.trans K6.out) (by simp)) SB6.out (by rw [← H.out.1]; omega) (by rw [← H.out.2.1]; omega)).mono ?_
        rintro e w7 ⟨va, rfl, hva⟩
        refine hKK _ _ ?_
        obtain ⟨pv, cv, hvv, _, _⟩ := hva.1.value
        obtain ⟨M, hM⟩ : ∃ M, M = (n1 ++ n2).length := ⟨_, rfl⟩
        rw [← hM] at hvv
        clear hM
        subst hvv
        have K7 := Lib.hid (K6.out.trans hva.2.2)
        have M7 := Lib.hid (hva.from K6.out)
        have OB7 := Lib.hid (hva.2.2.get OB6.out (by simp))
        clear hKK hva
        refine tr_next K7.out ?_
        refine tr_free rfl (v := ?_) ?_ ?_
        rotate_left
        · intro w' hw'
          go_simp
          with_reducible rfl
        simp only [Act.put, List.setIfInBounds_toArray, List.set_cons_zero, List.set_cons_succ]
        refine tr_one ?_
        have o0 : w7.cell? ⟨ob, 0, none⟩ = some (.slice none 0 0) := cell_of OB7.out rfl
        have o1 : w7.cell? ⟨ob, 1, none⟩ = some (.bool false) := cell_of OB7.out rfl
        have z0 : w7.frozen? ⟨ob, 0, none⟩ = false := frozen_of 0 OB7.out
        have z1 : w7.frozen? ⟨ob, 1, none⟩ = false := frozen_of 1 OB7.out
        have hkk : Keeps [ob] w7 ((w7.setCell ⟨ob, 0, none⟩ (.slice pv M cv)).setCell ⟨ob, 1, none⟩ (.bool d2)) := ((Keeps.refl [ob] w7).setCell (Or.inl (by simp)) _).setCell (Or.inl (by simp)) _
        have hfin : ((w7.setCell ⟨ob, 0, none⟩ (.slice pv M cv)).setCell ⟨ob, 1, none⟩ (.bool d2)).heap[ob]? = some (.cells #[.slice pv M cv, .bool d2] 25 (0, 0)) := heap_setCell (heap_setCell OB7.out)
        have HKK := Lib.hid (And.intro hkk hfin)
        clear hkk hfin
        go_wp2_with fail
        refine ⟨K7.out.trans' HKK.out.1 (fun z hz => Or.inr (by obtain rfl := List.mem_singleton.1 hz; exact OBL.out)), ?_⟩
        refine hK1 _ _ ?_
        go_meet
        case rel => exact ⟨ob, _, rfl, HKK.out.2, ⟨M7.out.1.keep HKK.out.1 (fun z hz => by obtain rfl := List.mem_singleton.1 hz; exact M7.out.1.ne OB7.out (by decide)), M7.out.2.1, M7.out.2.2.trans' HKK.out.1 (fun z hz => Or.inr (by obtain rfl := List.mem_singleton.1 hz; exact OBL.out))⟩, OBL.out⟩
    case rest =>
      obtain ⟨ob, va, rfl, hob, hm, hol⟩ := hcut
      obtain ⟨pv, cv, hvv, _, _⟩ := hm.1.value
      obtain ⟨M, hM⟩ : ∃ M, M = (n1 ++ n2).length := ⟨_, rfl⟩
      rw [← hM] at hvv
      clear hM
      subst hvv
      have hE : joinE n1 n2 = 0 := by unfold joinE; rw [← H.out.1, ← H.out.2.1, if_neg hlong]
      have hN : joinN n1 n2 = n1 ++ n2 := by unfold joinN; rw [← H.out.1, ← H.out.2.1, if_neg hlong]
      have hD : joinD n1 d1 n2 d2 = if B = 0 then d1 else d2 := by unfold joinD; rw [← H.out.1, ← H.out.2.1, if_neg hlong]
      have HE := Lib.hid (And.intro hE (And.intro hN hD))
      clear hE hN hD
      have r0 := hm.2.2.get H3.out.2.2.1 (by simp)
      have g1 := hm.2.2.get H3.out.1 (by simp)
      have g2 := hm.2.2.get H3.out.2.1 (by simp)
      have hrl : rb < w3.heap.size := lt_of_heap H3.out.2.2.1
      have hor : ob ≠ rb := by omega
      have hD2 : ∀ (wf : World) (D : Bool), wf.heap[rb]? = some (.cells #[.slice none 0 0, .bool false] 25 (0, 0)) → ((wf.setCell ⟨rb, 0, none⟩ (.slice pv M cv)).setCell ⟨rb, 1, none⟩ (.bool D)).heap[rb]? = some (.cells #[.slice pv M cv, .bool D] 25 (0, 0)) := fun wf D h => heap_setCell (heap_setCell h)
      have hK2 : ∀ (wf : World) (D : Bool), Keeps [rb] wf ((wf.setCell ⟨rb, 0, none⟩ (.slice pv M cv)).setCell ⟨rb, 1, none⟩ (.bool D)) := fun wf D => ((Keeps.refl [rb] wf).setCell (Or.inl (by simp)) _).setCell (Or.inl (by simp)) _
      have fin : ∀ (wf : World) (D : Bool), Keeps [ob] wc wf → joinD n1 d1 n2 d2 = D → JoinPost n1 d1 n2 d2 w (.returned (.tuple #[.agg #[.slice pv M cv, .bool D], .int .i64 0])) ((wf.setCell ⟨rb, 0, none⟩ (.slice pv M cv)).setCell ⟨rb, 1, none⟩ (.bool D)) := by
        intro wf D hk hd
        refine ⟨.slice pv M cv, by rw [HE.out.1, hd]; rfl, ?_⟩
        rw [HE.out.2.1]
        have hrr := hk.get r0 (by simp; exact hor.symm)
        have hrow := hm.1.keep hk (fun z hz => by obtain rfl := List.mem_singleton.1 hz; exact hm.1.ne hob (by decide))
        refine ⟨hrow.keep (hK2 wf D) (fun z hz => by obtain rfl := List.mem_singleton.1 hz; exact hrow.ne hrr (by decide)), fun z hz => Nat.le_trans H3.out.2.2.2.1.size (hm.2.1 z hz), ?_⟩
        exact ((H3.out.2.2.2.1.trans hm.2.2).trans' hk (fun z hz => Or.inr (by obtain rfl := List.mem_singleton.1 hz; exact Nat.le_trans H3.out.2.2.2.1.size hol))).trans' (hK2 wf D) (fun z hz => Or.inr (by obtain rfl := List.mem_singleton.1 hz; exact H3.out.2.2.2.2.2.2))
      have b0 : wc.cell? ⟨bb, 0, none⟩ = some (.slice p2 B c2) := cell_of g2 rfl
      have a1 : wc.cell? ⟨ab, 1, none⟩ = some (.bool d1) := cell_of g1 rfl
      have o0 : wc.cell? ⟨ob, 0, none⟩ = some (.slice pv M cv) := cell_of hob rfl
      have o1 : wc.cell? ⟨ob, 1, none⟩ = some (.bool d2) := cell_of hob rfl
      have zo : wc.frozen? ⟨ob, 1, none⟩ = false := frozen_of 1 hob
      have t0 : wc.cell? ⟨rb, 0, none⟩ = some (.slice none 0 0) := cell_of r0 rfl
      have t1 : wc.cell? ⟨rb, 1, none⟩ = some (.bool false) := cell_of r0 rfl
      have z0 : wc.frozen? ⟨rb, 0, none⟩ = false := frozen_of 0 r0
      have z1 : wc.frozen? ⟨rb, 1, none⟩ = false := frozen_of 1 r0
      have HFIN := Lib.hid (And.intro fin hD2)
      have HR := Lib.hid (And.intro r0 (And.intro hor hob))
      clear fin hD2 hK2 r0 g1 g2 hrl hm hol hlong hc
      by_cases hB0 : B = 0
      · have hd : joinD n1 d1 n2 d2 = d1 := by rw [HE.out.2.2, if_pos hB0]
        have HDD := Lib.hid hd
        have e0 : ((B : Int) == 0) = true := by rw [hB0]; rfl
        obtain ⟨wf, hwf⟩ : ∃ wf, wf = wc.setCell ⟨ob, 1, none⟩ (.bool d1) := ⟨_, rfl⟩
        have hk : Keeps [ob] wc wf := by rw [hwf]; exact (Keeps.refl _ _).setCell (Or.inl (by simp)) _
        have ho : wf.heap[ob]? = some (.cells #[.slice pv M cv, .bool d1] 25 (0, 0)) := by rw [hwf]; exact heap_setCell hob
        have HK := Lib.hid (And.intro hk (And.intro ho hwf))
        clear hd hwf hk ho hob
        go_upto_region 6 with fail
        rw [← HK.out.2.2]
        clear o0 o1 zo t0 t1 z0 z1 a1 b0
        have r0 := HK.out.1.get HR.out.1 (by simp; exact HR.out.2.1.symm)
        have o0 : wf.cell? ⟨ob, 0, none⟩ = some (.slice pv M cv) := cell_of HK.out.2.1 rfl
        have o1 : wf.cell? ⟨ob, 1, none⟩ = some (.bool d1) := cell_of HK.out.2.1 rfl
        have t0 : wf.cell? ⟨rb, 0, none⟩ = some (.slice none 0 0) := cell_of r0 rfl
        have t1 : wf.cell? ⟨rb, 1, none⟩ = some (.bool false) := cell_of r0 rfl
        have z0 : wf.frozen? ⟨rb, 0, none⟩ = false := frozen_of 0 r0
        have z1 : wf.frozen? ⟨rb, 1, none⟩ = false := frozen_of 1 r0
        have HR0 := Lib.hid r0
        clear r0
        go_wp2
        (try simp only [Exit.inBlock, Exit.then])
        refine bodyPost_ret (results_ct rfl rfl (load25 (HFIN.out.2 wf d1 HR0.out))) rfl ?_
        exact HFIN.out.1 wf d1 HK.out.1 HDD.out
      · have hd : joinD n1 d1 n2 d2 = d2 := by rw [HE.out.2.2, if_neg hB0]
        have HDD := Lib.hid hd
        have e0 : ((B : Int) == 0) = false := by rw [beq_eq_false_iff_ne]; omega
        clear hd hob
        go_wp2
        (try simp only [Exit.inBlock, Exit.then])
        refine bodyPost_ret (results_ct rfl rfl (load25 (HFIN.out.2 wc d2 HR.out.1))) rfl ?_
        exact HFIN.out.1 wc d2 (Keeps.refl _ _) HDD.out
end Go.Proofs.Ytpfmhjokcpkliaa
