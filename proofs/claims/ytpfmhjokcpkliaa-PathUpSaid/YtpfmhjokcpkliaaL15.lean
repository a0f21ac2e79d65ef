/-
  The reference: Join, walked.
-/
import Derived.Test.YtpfmhjokcpkliaaL14
namespace Go.Proofs.Ytpfmhjokcpkliaa
open Go.RowKit Go.V Go.V.Path
theorem three_boxes (w : World) (v1 v2 : Value) (d1 d2 : Bool) : ∃ (w3 : World) (ab bb rb : Nat), w3 = ((w.alloc (.cells #[v1, .bool d1] 25)).alloc (.cells #[v2, .bool d2] 25)).alloc (.cells #[.slice none 0 0, .bool false] 25) ∧
    ab = w.heap.size ∧ bb = w.heap.size + 1 ∧ rb = w.heap.size + 1 + 1 ∧
    w3.heap[ab]? = some (.cells #[v1, .bool d1] 25 (0, 0)) ∧ w3.heap[bb]? = some (.cells #[v2, .bool d2] 25 (0, 0)) ∧ w3.heap[rb]? = some (.cells #[.slice none 0 0, .bool false] 25 (0, 0)) ∧ Keeps [] w w3 := by
  refine ⟨_, _, _, _, rfl, rfl, rfl, rfl, heap_alloc_ne _ _ (heap_alloc_ne _ _ (heap_alloc w _)), ?_, ?_, (((Keeps.refl _ _).alloc _).alloc _).alloc _⟩
  · refine heap_alloc_ne _ _ ?_
    have := heap_alloc (w.alloc (.cells #[v1, .bool d1] 25)) (.cells #[v2, .bool d2] 25)
    rwa [show (w.alloc (.cells #[v1, .bool d1] 25)).heap.size = w.heap.size + 1 from by show (w.heap.push _).size = _; simp] at this
  · have := heap_alloc ((w.alloc (.cells #[v1, .bool d1] 25)).alloc (.cells #[v2, .bool d2] 25)) (.cells #[.slice none 0 0, .bool false] 25)
    rwa [show ((w.alloc (.cells #[v1, .bool d1] 25)).alloc (.cells #[v2, .bool d2] 25)).heap.size = w.heap.size + 1 + 1 from by show ((w.heap.push _).push _).size = _; simp] at this
theorem take_snoc {l : List (List UInt8)} {i : Nat} {x : List UInt8} (h : l[i]? = some x) : l.take i ++ [x] = l.take (i + 1) := by
  rw [List.take_add_one, h]; rfl
set_option maxRecDepth 100000 in
set_option maxHeartbeats 4000000 in
theorem rjoin_ok (v1 v2 : Value) (n1 n2 : List (List UInt8)) (d1 d2 : Bool) (w : World) (h1 : SG FB w v1 n1) (h2 : SG FB w v2 n2) (hl1 : n1.length ≤ 1000) (hl2 : n2.length ≤ 1000) :
    Calls Try.prog 22 #[pathV v1 d1, pathV v2 d2] w (JoinPost n1 d1 n2 d2 w) := by
  obtain ⟨p1, c1, rfl, hc1, hd1, _⟩ := id h1
  obtain ⟨p2, c2, rfl, hc2, hd2, _⟩ := id h2
  obtain ⟨A, hA⟩ : ∃ A, A = n1.length := ⟨_, rfl⟩
  obtain ⟨B, hB⟩ : ∃ B, B = n2.length := ⟨_, rfl⟩
  rw [← hA] at hl1 h1 hc1 ⊢
  rw [← hB] at hl2 h2 hc2 ⊢
  have H := Lib.hid (And.intro hA (And.intro hB (And.intro h1 h2)))
  clear hA hB h1 h2
  unfold pathV
  go_enter Try.func22, Try.ntmps22
  go_upto_region 1 with fail
  obtain ⟨w3, ab, bb, rb, hw3, hab, hbb, hrb, q1, q2, q3, hk3⟩ := three_boxes w (.slice p1 A c1) (.slice p2 B c2) d1 d2
  have H3 := Lib.hid (And.intro q1 (And.intro q2 (And.intro q3 (And.intro hk3 (show w.heap.size ≤ rb by omega)))))
  rw [← hw3, ← hrb, ← hbb, ← hab]
  clear hw3 hab hbb hrb q1 q2 q3 hk3
  go_upto_block 0 with fail
  go_cut [6] (fun va wx => Made FB 9 w3 va n1 wx)
  case first =>
    go_wp2_with fail
    go_loopg [6, 7] A (fun m va vi wx => ∃ (i : Nat), vi = .int .i64 i ∧ i + m = A ∧ Made FB 9 w3 va (n1.take i) wx)
    case atStart => exact ⟨0, rfl, by omega, Made.empty FB 9 w3⟩
    case round =>
      obtain ⟨i, rfl, hi, hm⟩ := hrel
      have HM := Lib.hid hm
      have HI := Lib.hid hi
      obtain ⟨pv, cv, hv, _, _⟩ := hm.1.value
      obtain ⟨acc, hacc⟩ : ∃ acc, acc = n1.take i := ⟨_, rfl⟩
      rw [← hacc] at HM hv
      have hal : acc.length ≤ i := by rw [hacc, List.length_take]; omega
      have HACC := Lib.hid hacc
      obtain ⟨M, hMl⟩ : ∃ M, M = acc.length := ⟨_, rfl⟩
      rw [← hMl] at hv
      subst hv
      have a0 : wr.cell? ⟨ab, 0, none⟩ = some (.slice p1 A c1) := cell_of (hm.2.2.get H3.out.1 (by simp)) rfl
      have HK := Lib.hid hm.2.2
      clear hm hi hacc hMl
      by_cases hlt : i < A
      · have hii : (i : Int) < (A : Int) := by omega
        obtain ⟨x, hx⟩ : ∃ x, n1[i]? = some x := ⟨_, List.getElem?_eq_getElem (by rw [← H.out.1]; exact hlt)⟩
        obtain ⟨gx, ox, rfl, x0⟩ := sg_str (H.out.2.2.1.keep (H3.out.2.2.2.1.trans HK.out) (by simp)) hx
        have HX := Lib.hid (take_snoc hx)
        rw [← HACC.out] at HX
        clear hx
        go_wp2_with (first | (refine vp_append_g (F := FB) rfl (.tmp 17) (.tmp 23) 23 rfl (.string ByteArray.empty) 16 Try.underlying23 infoz9 rfl (by decide) _ acc rfl (HM.out.1.keep ((Keeps.refl [] wr).alloc _) (by simp)) ⟨wr.heap.size, 0, none⟩ 1 1 [x] rfl rfl (by intro j u hj; rw [add_none, Nat.zero_add]; exact cell_of (heap_alloc wr _) (by simpa [FB, Form.all] using hj)) (by omega) (by omega) ?_; intro v6 w6 k1 k2 k3; have HM6 := Lib.hid ((HM.out.keep ((Keeps.refl [] wr).alloc _)).app k1 k2 k3); clear k1 k2 k3) | fail)
        go_roundg (gk - 1)
        case measure => have := HI.out; omega
        case rel => exact ⟨i + 1, by push_cast; rfl, by have := HI.out; omega, by rw [← HX.out]; exact HM6.out⟩
      · have hii : ¬ (i : Int) < (A : Int) := by omega
        have hf : acc = n1 := by rw [HACC.out, List.take_of_length_le (by rw [← H.out.1]; omega)]
        have HF := Lib.hid hf
        clear hf
        go_wp2
        go_meet
        case rel => rw [← HF.out]; exact HM.out
  case rest =>
    have HM0 := Lib.hid hcut
    obtain ⟨pv, cv, hv, _, _⟩ := hcut.1.value
    obtain ⟨M0, hM0⟩ : ∃ M0, M0 = n1.length := ⟨_, rfl⟩
    rw [← hM0] at hv
    subst hv
    clear hcut hM0
    go_upto_block 2 with fail
    go_cut [6] (fun va wx => Made FB 9 w3 va (n1 ++ n2) wx)
    case first =>
      go_wp2_with fail
      go_loopg [6, 8] B (fun m va vi wx => ∃ (i : Nat), vi = .int .i64 i ∧ i + m = B ∧ Made FB 9 w3 va (n1 ++ n2.take i) wx)
      case atStart => exact ⟨0, rfl, by omega, by simpa using HM0.out⟩
      case round =>
        obtain ⟨i, rfl, hi, hm⟩ := hrel
        have HM := Lib.hid hm
        have HI := Lib.hid hi
        obtain ⟨pv, cv, hv, _, _⟩ := hm.1.value
        obtain ⟨acc, hacc⟩ : ∃ acc, acc = n1 ++ n2.take i := ⟨_, rfl⟩
        rw [← hacc] at HM hv
        have hal : acc.length ≤ i + A := by rw [hacc, List.length_append, List.length_take, ← H.out.1]; omega
        have HACC := Lib.hid hacc
        obtain ⟨M, hMl⟩ : ∃ M, M = acc.length := ⟨_, rfl⟩
        rw [← hMl] at hv
        subst hv
        have a0 : wr.cell? ⟨bb, 0, none⟩ = some (.slice p2 B c2) := cell_of (hm.2.2.get H3.out.2.1 (by simp)) rfl
        have HK := Lib.hid hm.2.2
        clear hm hi hacc hMl
        by_cases hlt : i < B
        · have hii : (i : Int) < (B : Int) := by omega
          obtain ⟨x, hx⟩ : ∃ x, n2[i]? = some x := ⟨_, List.getElem?_eq_getElem (by rw [← H.out.2.1]; exact hlt)⟩
          obtain ⟨gx, ox, rfl, x0⟩ := sg_str (H.out.2.2.2.keep (H3.out.2.2.2.1.trans HK.out) (by simp)) hx
          have HX := Lib.hid (take_snoc hx)
          clear hx
          go_wp2_with (first | (refine vp_append_g (F := FB) rfl (.tmp 32) (.tmp 38) 23 rfl (.string ByteArray.empty) 16 Try.underlying23 infoz9 rfl (by decide) _ acc rfl (HM.out.1.keep ((Keeps.refl [] wr).alloc _) (by simp)) ⟨wr.heap.size, 0, none⟩ 1 1 [x] rfl rfl (by intro j u hj; rw [add_none, Nat.zero_add]; exact cell_of (heap_alloc wr _) (by simpa [FB, Form.all] using hj)) (by omega) (by omega) ?_; intro v6 w6 k1 k2 k3; have HM6 := Lib.hid ((HM.out.keep ((Keeps.refl [] wr).alloc _)).app k1 k2 k3); clear k1 k2 k3) | fail)
          go_roundg (gk - 1)
          case measure => have := HI.out; omega
          case rel => exact ⟨i + 1, by push_cast; rfl, by have := HI.out; omega, by rw [← HX.out, ← List.append_assoc, ← HACC.out]; exact HM6.out⟩
        · have hii : ¬ (i : Int) < (B : Int) := by omega
          have hf : acc = n1 ++ n2 := by rw [HACC.out, List.take_of_length_le (by rw [← H.out.2.1]; omega)]
          have HF := Lib.hid hf
          clear hf
          go_wp2
          go_meet
          case rel => rw [← HF.out]; exact HM.out
    case rest =>
      clear HM0
      have HM := Lib.hid hcut
      obtain ⟨pv, cv, hv, _, _⟩ := hcut.1.value
      obtain ⟨M, hM⟩ : ∃ M, M = (n1 ++ n2).length := ⟨_, rfl⟩
      rw [← hM] at hv
      have hMA : M = A + B := by rw [hM, List.length_append, ← H.out.1, ← H.out.2.1]
      subst hv
      have c0 : wc.cell? ⟨rb, 0, none⟩ = some (.slice none 0 0) := cell_of (hcut.2.2.get H3.out.2.2.1 (by simp)) rfl
      have c1 : wc.cell? ⟨rb, 1, none⟩ = some (.bool false) := cell_of (hcut.2.2.get H3.out.2.2.1 (by simp)) rfl
      have z0 : wc.frozen? ⟨rb, 0, none⟩ = false := frozen_of 0 (hcut.2.2.get H3.out.2.2.1 (by simp))
      have z1 : wc.frozen? ⟨rb, 1, none⟩ = false := frozen_of 1 (hcut.2.2.get H3.out.2.2.1 (by simp))
      have b0 : wc.cell? ⟨bb, 0, none⟩ = some (.slice p2 B c2) := cell_of (hcut.2.2.get H3.out.2.1 (by simp)) rfl
      have b1 : wc.cell? ⟨bb, 1, none⟩ = some (.bool d2) := cell_of (hcut.2.2.get H3.out.2.1 (by simp)) rfl
      have a1 : wc.cell? ⟨ab, 1, none⟩ = some (.bool d1) := cell_of (hcut.2.2.get H3.out.1 (by simp)) rfl
      have hfin : ∀ va b, ((wc.setCell ⟨rb, 0, none⟩ va).setCell ⟨rb, 1, none⟩ (.bool b)).heap[rb]? = some (.cells #[va, .bool b] 25 (0, 0)) := fun va b => heap_setCell (heap_setCell (hcut.2.2.get H3.out.2.2.1 (by simp)))
      have hkk : ∀ va b, Keeps [rb] wc ((wc.setCell ⟨rb, 0, none⟩ va).setCell ⟨rb, 1, none⟩ (.bool b)) := fun va b => ((Keeps.refl [rb] wc).setCell (Or.inl (by simp)) _).setCell (Or.inl (by simp)) _
      have HR := Lib.hid (hcut.1.ne (hcut.2.2.get H3.out.2.2.1 (by simp)) (by decide))
      have HF := Lib.hid (And.intro hfin hkk)
      clear hfin hkk hcut hM
      by_cases hlong : 40 < A + B
      · have hE : joinE n1 n2 = 36 := by unfold joinE; rw [← H.out.1, ← H.out.2.1, if_pos hlong]
        have hN : joinN n1 n2 = [] := by unfold joinN; rw [← H.out.1, ← H.out.2.1, if_pos hlong]
        have hD : joinD n1 d1 n2 d2 = false := by unfold joinD; rw [← H.out.1, ← H.out.2.1, if_pos hlong]
        have HE := Lib.hid (And.intro hE (And.intro hN hD))
        clear hE hN hD
        have hc : (40 : Int) < (M : Int) := by omega
        have HMA := Lib.hid hMA
        clear hMA
        go_wp2
        (try simp only [Exit.inBlock, Exit.then])
        refine bodyPost_ret (results_ct rfl rfl (load25 (HF.out.1 _ _))) rfl ?_
        obtain ⟨hE, hN, hD⟩ := HE.out
        refine ⟨.slice none 0 0, by rw [hE, hD]; rfl, ?_⟩
        rw [hN]
        exact ⟨RowG.nil FB 9 _, fun x hx => (by cases hx), (H3.out.2.2.2.1.trans HM.out.2.2).trans' (HF.out.2 _ _) (fun z hz => Or.inr (by obtain rfl := List.mem_singleton.1 hz; exact H3.out.2.2.2.2))⟩
      · have hE : joinE n1 n2 = 0 := by unfold joinE; rw [← H.out.1, ← H.out.2.1, if_neg hlong]
        have hN : joinN n1 n2 = n1 ++ n2 := by unfold joinN; rw [← H.out.1, ← H.out.2.1, if_neg hlong]
        have hD : joinD n1 d1 n2 d2 = if B = 0 then d1 else d2 := by unfold joinD; rw [← H.out.1, ← H.out.2.1, if_neg hlong]
        have HE := Lib.hid (And.intro hE (And.intro hN hD))
        clear hE hN hD
        have hc : ¬ (40 : Int) < (M : Int) := by omega
        have HMA := Lib.hid hMA
        clear hMA
        have fin : ∀ b, (if B = 0 then d1 else d2) = b → JoinPost n1 d1 n2 d2 w (.returned (.tuple #[pathV (.slice pv M cv) b, .int .i64 0])) ((wc.setCell ⟨rb, 0, none⟩ (.slice pv M cv)).setCell ⟨rb, 1, none⟩ (.bool b)) := by
          intro b hb
          obtain ⟨hE, hN, hD⟩ := HE.out
          refine ⟨.slice pv M cv, by rw [hE, hD, hb], ?_⟩
          rw [hN]
          exact ⟨HM.out.1.keep (HF.out.2 _ _) (fun z hz => by obtain rfl := List.mem_singleton.1 hz; exact HR.out), fun g hg => Nat.le_trans H3.out.2.2.2.1.size (HM.out.2.1 g hg), (H3.out.2.2.2.1.trans HM.out.2.2).trans' (HF.out.2 _ _) (fun z hz => Or.inr (by obtain rfl := List.mem_singleton.1 hz; exact H3.out.2.2.2.2))⟩
        have FIN := Lib.hid fin
        clear fin
        by_cases h0 : B = 0
        · have HB := Lib.hid (if_pos h0 : (if B = 0 then d1 else d2) = d1)
          subst h0
          go_wp2
          (try simp only [Exit.inBlock, Exit.then])
          exact bodyPost_ret (results_ct rfl rfl (load25 (HF.out.1 _ _))) rfl (FIN.out _ HB.out)
        · have HB := Lib.hid (if_neg h0 : (if B = 0 then d1 else d2) = d2)
          go_wp2
          (try simp only [Exit.inBlock, Exit.then])
          exact bodyPost_ret (results_ct rfl rfl (load25 (HF.out.1 _ _))) rfl (FIN.out _ HB.out)
end Go.Proofs.Ytpfmhjokcpkliaa
