/-
  PathTexts, walked.
-/
import Derived.Test.YtpfmhjokcpkliaaL29
namespace Go.Proofs.Ytpfmhjokcpkliaa
open Go.RowKit Go.V Go.V.Path
theorem own_box {wc w' : World} {ob : Nat} {v : Value} {d : Bool} {ns : List (List UInt8)} (hb : w'.heap[ob]? = some (.cells #[.slice none 0 0, .bool false] 25 (0, 0))) (hm : Made FB 9 wc v ns w') (ho : wc.heap.size ≤ ob) :
    BoxP wc ob v d ns ((w'.setCell ⟨ob, 0, none⟩ v).setCell ⟨ob, 1, none⟩ (.bool d)) ∧ Keeps [] wc ((w'.setCell ⟨ob, 0, none⟩ v).setCell ⟨ob, 1, none⟩ (.bool d)) := by
  have hk : Keeps [ob] w' ((w'.setCell ⟨ob, 0, none⟩ v).setCell ⟨ob, 1, none⟩ (.bool d)) := ((Keeps.refl [ob] w').setCell (Or.inl (by simp)) _).setCell (Or.inl (by simp)) _
  have hk2 := hm.2.2.trans' hk (fun z hz => Or.inr (by obtain rfl := List.mem_singleton.1 hz; exact ho))
  exact ⟨⟨heap_setCell (heap_setCell hb), ho, hm.1.keep hk (fun z hz => by obtain rfl := List.mem_singleton.1 hz; exact hm.1.ne hb (by decide)), hm.2.1, hk2⟩, hk2⟩
theorem row_cell {w : World} {p : Option Addr} {n c : Nat} {l : List (List UInt8)} (h : RowG FB 9 w (.slice p n c) l) {i : Nat} {x : List UInt8} (hx : l[i]? = some x) :
    ∃ g, p = some ⟨g, 0, none⟩ ∧ w.cell? ⟨g, i, none⟩ = some (.string (bs x)) ∧ w.frozen? ⟨g, i, none⟩ = false ∧
      RowG FB 9 (w.setCell ⟨g, i, none⟩ (.string ⟨#[120]⟩)) (.slice p n c) (l.set i [120]) ∧ Keeps (Value.slice p n c).ownBlock.toList w (w.setCell ⟨g, i, none⟩ (.string ⟨#[120]⟩)) := by
  have hb : ∃ g, p = some ⟨g, 0, none⟩ := by
    obtain ⟨_, h2⟩ := id h
    rcases h2 with ⟨h2, h3⟩ | ⟨g, cap, cur, hv, _⟩
    · have : l = [] := List.eq_nil_of_length_eq_zero h3
      rw [this] at hx; simp at hx
    · simp only [Value.slice.injEq] at hv
      exact ⟨g, hv.1⟩
  obtain ⟨g, rfl⟩ := hb
  obtain ⟨b, o, h1, h2⟩ := sg_str h.sg hx
  simp only [Option.some.injEq, Addr.mk.injEq] at h1
  obtain ⟨rfl, rfl, _⟩ := h1
  rw [Nat.zero_add] at h2
  obtain ⟨k1, k2, k3⟩ := h.setc (i := i) (j := 0) (x' := [120]) (u := .string ⟨#[120]⟩) hx (by decide) rfl
  rw [show i * FB.s + 0 = i from by show i * 1 = _; rw [Nat.mul_one]] at k1 k2 k3
  exact ⟨g, rfl, h2, k3, k1, k2⟩
theorem lastN_le (ns : List (List UInt8)) : (lastN ns).length ≤ ns.length := by
  unfold lastN
  split
  · rw [List.length_dropLast]; omega
  · simp
theorem joinN_le (p q : List (List UInt8)) : (joinN p q).length ≤ 40 := by
  unfold joinN
  split
  · simp
  · rw [List.length_append]; omega
set_option maxRecDepth 100000 in
set_option maxHeartbeats 16000000 in
theorem texts_any (v1 v2 : Value) (n1 n2 : List (List UInt8)) (d1 d2 : Bool) (sa sb : ByteArray) (w : World) (h1 : SG FB w v1 n1) (h2 : SG FB w v2 n2)
    (hx1 : ∀ x ∈ n1, x.length ≤ 140737488351232) (hx2 : ∀ x ∈ n2, x.length ≤ 140737488351232) (hsa : sa.size ≤ 140737488351232) :
    Calls Try.prog 4 #[.agg #[v1, .bool d1], .agg #[v2, .bool d2], .string sa, .string sb] w (BK true w) := by
  obtain ⟨p1, c1, rfl, _, _, _⟩ := id h1
  obtain ⟨p2, c2, rfl, _, _, _⟩ := id h2
  obtain ⟨A, hA⟩ : ∃ A, A = n1.length := ⟨_, rfl⟩
  obtain ⟨B, hB⟩ : ∃ B, B = n2.length := ⟨_, rfl⟩
  rw [← hA] at h1 ⊢
  rw [← hB] at h2 ⊢
  have H := Lib.hid (And.intro hA hB)
  have HS := Lib.hid (And.intro h1 h2)
  have HX := Lib.hid (And.intro hx1 (And.intro hx2 hsa))
  clear hA hB h1 h2 hx1 hx2 hsa
  go_enter Try.func4, Try.ntmps4
  go_upto_region 1 with fail
  obtain ⟨w2, b1, b2, hw2, hb1, hb2, q1, q2, hk⟩ := two_boxes w (.slice p1 A c1) (.slice p2 B c2) d1 d2
  rw [← hw2, ← hb2, ← hb1]
  have A1 : Hid (BoxA b1 (.slice p1 A c1) d1 n1 w2) := Lib.hid ⟨q1, HS.out.1.keep hk (by simp)⟩
  have A2 : Hid (BoxA b2 (.slice p2 B c2) d2 n2 w2) := Lib.hid ⟨q2, HS.out.2.keep hk (by simp)⟩
  have KW := Lib.hid hk
  clear hw2 hb1 hb2 q1 q2 hk
  go_wp2_with fail
  refine (awake_ok w2).mono ?_
  rintro e w0 ⟨rfl, hk0⟩
  have K0 := Lib.hid (KW.out.trans hk0)
  have B1 := Lib.hid (A1.out.keep hk0)
  have B2 := Lib.hid (A2.out.keep hk0)
  clear hk0 A1 A2 KW
  go_upto_region 3 with fail
  go_cut [29] (fun v wx => Keeps [] w0 wx ∧ ∃ b, v = .bool b ∧ (b = false → (A ≤ 201 ∧ clip n1 ≤ 65536) ∧ B ≤ 201))
  case first =>
    have hc0 := B1.out.c0
    have hc1 := B1.out.c1
    go_wp2_with fail
    refine (large_at _ n1 d1 w0 B1.out.2 HX.out.1).mono ?_
    rintro e w3 ⟨g1, rfl, hk1, hf1⟩
    cases g1 with
    | true =>
      have K1 := Lib.hid hk1
      clear hk1 hf1
      go_wp2
      go_meet
      case rel => exact ⟨K1.out, true, rfl, fun h => by cases h⟩
    | false =>
      have HF1 := Lib.hid (hf1 rfl)
      have K1 := Lib.hid hk1
      have hd0 := (B2.out.keep hk1).c0
      have hd1 := (B2.out.keep hk1).c1
      clear hk1 hf1 hc0 hc1
      go_wp2_with fail
      refine (large_at _ n2 d2 w3 (B2.out.keep K1.out).2 HX.out.2.1).mono ?_
      rintro e w4 ⟨g2, rfl, hk2, hf2⟩
      have K2 := Lib.hid (K1.out.trans hk2)
      clear hk2
      cases g2 with
      | true =>
        clear hf2
        go_wp2
        go_meet
        case rel => exact ⟨K2.out, true, rfl, fun h => by cases h⟩
      | false =>
        have HF2 := Lib.hid (hf2 rfl)
        clear hf2
        go_wp2
        go_meet
        case rel => exact ⟨K2.out, false, rfl, fun _ => ⟨by rw [H.out.1]; exact HF1.out, by rw [H.out.2]; exact HF2.out.1⟩⟩
  case rest =>
    obtain ⟨hkc, g, rfl, hg⟩ := hcut
    cases g with
    | true =>
      have K1 := Lib.hid (K0.out.trans hkc)
      clear hkc hg
      go_wp2
      (try simp only [Exit.inBlock, Exit.then])
      go_ret
      exact ⟨rfl, K1.out⟩
    | false =>
      have H201 := Lib.hid (And.intro (hg rfl).1.1 (And.intro (hg rfl).1.2 (hg rfl).2))
      have KC := Lib.hid (K0.out.trans hkc)
      have A1 := Lib.hid (B1.out.keep hkc)
      have A2 := Lib.hid (B2.out.keep hkc)
      clear hkc hg B1 B2 K0
      have B1 := A1
      have B2 := A2
      clear A1 A2
      obtain ⟨wL, hwL⟩ : ∃ x, x = wc := ⟨_, rfl⟩
      subst hwL
      go_upto_region 5 with fail
      go_cut [9] (fun v wx => ∃ ob p M c, v = .pointer (some ⟨ob, 0, none⟩) ∧ BoxP wL ob (.slice p M c) d1 n1 wx ∧ Keeps [] wL wx)
      case first =>
        rename_i J1 K1 hJ1 hK1
        refine vp_region_tree (fun w' => Keeps [] wL w') (.take 1 (.take 2 (.take 4 (.take 5 (.two 0 (.two 3 (.take 6 (.one 7 (.one 8 .nil))) 7 (.one 3 (.take 6 (.one 8 .nil)))) 7 (.one 0 (.one 3 (.take 6 (.one 8 .nil))))))))) (by kernel_rfl) (by kernel_rfl) (by intro _ d _ _ _ h; cases d <;> exact h) ((Keeps.refl _ _).drew) ?_
        intro w4 hw4
        simp only [Tr.pick, List.getD_cons_zero, List.getD_cons_succ]
        repeat
          refine tr_free rfl (v := ?_) ?_ ?_
          rotate_left
          · intro w' hw'
            have a0 := (B1.out.keep hw').c0
            have a1 := (B1.out.keep hw').c1
            go_simp
            with_reducible rfl
          simp only [Act.put, List.setIfInBounds_toArray, List.set_cons_zero, List.set_cons_succ]
        have hk4 : Keeps [] wL w4 := by rw [hw4]; exact (Keeps.refl _ _).drew
        have K4 := Lib.hid hk4
        clear hw4 hk4
        refine tr_two ?_ ?_
        · go_wp2_with fail
          obtain ⟨w5, hwj⟩ : ∃ x, x = w4.alloc (.cells #[] 9) := ⟨_, rfl⟩
          have hme := (Made.empty FB 9 w4).from K4.out
          have hij : Keeps [] w4 w5 := by rw [hwj]; exact (Keeps.refl _ _).alloc _
          obtain ⟨sb, hsb⟩ : ∃ sb, sb = w4.heap.size := ⟨_, rfl⟩
          rw [← hwj, ← hsb] at hme
          rw [← hwj, ← hsb]
          have K5 := Lib.hid (K4.out.trans hij)
          have M5 := Lib.hid hme
          clear hwj hsb hme hij
          refine ⟨K5.out, ?_⟩
          refine tr_two ?_ ?_
          · refine vp_append_sg (F := FB) rfl (.tmp 30) (.tmp 32) 23 rfl (.string ByteArray.empty) 16 Try.underlying23 infoz9 rfl (by decide) (.slice (some ⟨sb, 0, none⟩) 0 0) [] rfl M5.out.1 _ n1 rfl (B1.out.keep K5.out).2 (by have := H201.out.1; rw [← H.out.1]; simp only [List.length_nil]; omega) (by have := H201.out.1; rw [← H.out.1]; simp only [List.length_nil]; omega) ?_
            intro v6 w6 k1 k2 k3
            rw [List.nil_append] at k1
            have hme := M5.out.app k1 k2 k3
            obtain ⟨pv, M, cv, hvv, hMM⟩ := made_shape hme
            subst hvv
            have K6 := Lib.hid hme.2.2
            have M6 := Lib.hid hme
            clear hme k1 k2 k3 hMM
            simp only [Act.put, List.setIfInBounds_toArray, List.set_cons_zero, List.set_cons_succ]
            refine tr_next K6.out ?_
            refine tr_free rfl (v := ?_) ?_ ?_
            rotate_left
            · intro w' hw'
              go_simp
              with_reducible rfl
            simp only [Act.put, List.setIfInBounds_toArray, List.set_cons_zero, List.set_cons_succ]
            refine tr_one ?_
            go_wp2_with fail
            obtain ⟨w7, hwj⟩ : ∃ x, x = w6.alloc (.cells #[.slice none 0 0, .bool false] 25) := ⟨_, rfl⟩
            obtain ⟨ob, hob⟩ : ∃ ob, ob = w6.heap.size := ⟨_, rfl⟩
            have hS : w7.heap[ob]? = some (.cells #[.slice none 0 0, .bool false] 25 (0, 0)) := by rw [hwj, hob]; exact heap_alloc _ _
            have hij : Keeps [] w6 w7 := by rw [hwj]; exact (Keeps.refl _ _).alloc _
            have OBL := Lib.hid (show wL.heap.size ≤ ob by rw [hob]; exact K6.out.size)
            rw [← hwj, ← hob]
            have K7 := Lib.hid (K6.out.trans hij)
            have OB7 := Lib.hid hS
            have M7 := Lib.hid (M6.out.keep hij)
            clear hwj hob hS hij
            refine ⟨K7.out, ?_⟩
            refine tr_one ?_
            have o0 : w7.cell? ⟨ob, 0, none⟩ = some (.slice none 0 0) := cell_of OB7.out rfl
            have o1 : w7.cell? ⟨ob, 1, none⟩ = some (.bool false) := cell_of OB7.out rfl
            have z0 : w7.frozen? ⟨ob, 0, none⟩ = false := frozen_of 0 OB7.out
            have z1 : w7.frozen? ⟨ob, 1, none⟩ = false := frozen_of 1 OB7.out
            have HKK := Lib.hid (own_box OB7.out M7.out OBL.out (d := d1))
            go_wp2_with fail
            refine ⟨HKK.out.2, ?_⟩
            refine hK1 _ _ ?_
            go_meet
            case rel => exact ⟨ob, pv, M, cv, rfl, HKK.out.1, HKK.out.2⟩
          · go_wp2_with fail
            obtain ⟨w6, hwj⟩ : ∃ x, x = w5.alloc (.cells #[.slice none 0 0, .bool false] 25) := ⟨_, rfl⟩
            obtain ⟨ob, hob⟩ : ∃ ob, ob = w5.heap.size := ⟨_, rfl⟩
            have hS : w6.heap[ob]? = some (.cells #[.slice none 0 0, .bool false] 25 (0, 0)) := by rw [hwj, hob]; exact heap_alloc _ _
            have hij : Keeps [] w5 w6 := by rw [hwj]; exact (Keeps.refl _ _).alloc _
            have OBL := Lib.hid (show wL.heap.size ≤ ob by rw [hob]; exact K5.out.size)
            rw [← hwj, ← hob]
            have K6 := Lib.hid (K5.out.trans hij)
            have OB6 := Lib.hid hS
            have M6 := Lib.hid (M5.out.keep hij)
            clear hwj hob hS hij
            refine ⟨K6.out, ?_⟩
            refine tr_one ?_
            refine vp_append_sg (F := FB) rfl (.tmp 30) (.tmp 32) 23 rfl (.string ByteArray.empty) 16 Try.underlying23 infoz9 rfl (by decide) (.slice (some ⟨sb, 0, none⟩) 0 0) [] rfl M6.out.1 _ n1 rfl (B1.out.keep K6.out).2 (by have := H201.out.1; rw [← H.out.1]; simp only [List.length_nil]; omega) (by have := H201.out.1; rw [← H.out.1]; simp only [List.length_nil]; omega) ?_
            intro v6 w7 k1 k2 k3
            rw [List.nil_append] at k1
            have hme := M6.out.app k1 k2 k3
            have hobk := (keeps_grown (S := (Value.slice (some ⟨sb, 0, none⟩) 0 0).ownBlock.toList) k3 (fun k hk => by rw [hk]; simp)).get OB6.out (fun hx => M6.out.1.ne OB6.out (by decide) (by simpa using hx))
            have OB7 := Lib.hid hobk
            clear hobk
            obtain ⟨pv, M, cv, hvv, hMM⟩ := made_shape hme
            subst hvv
            have K7 := Lib.hid hme.2.2
            have M7 := Lib.hid hme
            clear hme k1 k2 k3 hMM
            simp only [Act.put, List.setIfInBounds_toArray, List.set_cons_zero, List.set_cons_succ]
            refine tr_next K7.out ?_
            refine tr_free rfl (v := ?_) ?_ ?_
            rotate_left
            · intro w' hw'
              go_simp
              with_reducible rfl
            simp only [Act.put, List.setIfInBounds_toArray, List.set_cons_zero, List.set_cons_succ]
            refine tr_one ?_
            have o0 : w7.cell? ⟨ob, 0, none⟩ = some (.slice none 0 0) := cell_of OB7.out rfl
            have o1 : w7.cell? ⟨ob, 1, none⟩ = some (.bool false) := cell_of OB7.out rfl
            have z0 : w7.frozen? ⟨ob, 0, none⟩ = false := frozen_of 0 OB7.out
            have z1 : w7.frozen? ⟨ob, 1, none⟩ = false := frozen_of 1 OB7.out
            have HKK := Lib.hid (own_box OB7.out M7.out OBL.out (d := d1))
            go_wp2_with fail
            refine ⟨HKK.out.2, ?_⟩
            refine hK1 _ _ ?_
            go_meet
            case rel => exact ⟨ob, pv, M, cv, rfl, HKK.out.1, HKK.out.2⟩
        · go_wp2_with fail
          obtain ⟨w5, hwj⟩ : ∃ x, x = w4.alloc (.cells #[.slice none 0 0, .bool false] 25) := ⟨_, rfl⟩
          obtain ⟨ob, hob⟩ : ∃ ob, ob = w4.heap.size := ⟨_, rfl⟩
          have hS : w5.heap[ob]? = some (.cells #[.slice none 0 0, .bool false] 25 (0, 0)) := by rw [hwj, hob]; exact heap_alloc _ _
          have hij : Keeps [] w4 w5 := by rw [hwj]; exact (Keeps.refl _ _).alloc _
          have OBL := Lib.hid (show wL.heap.size ≤ ob by rw [hob]; exact K4.out.size)
          rw [← hwj, ← hob]
          have K5 := Lib.hid (K4.out.trans hij)
          have OB5 := Lib.hid hS
          clear hwj hob hS hij
          refine ⟨K5.out, ?_⟩
          refine tr_one ?_
          go_wp2_with fail
          obtain ⟨w6, hwj⟩ : ∃ x, x = w5.alloc (.cells #[] 9) := ⟨_, rfl⟩
          have hme := (Made.empty FB 9 w5).from K5.out
          have hij : Keeps [] w5 w6 := by rw [hwj]; exact (Keeps.refl _ _).alloc _
          obtain ⟨sb, hsb⟩ : ∃ sb, sb = w5.heap.size := ⟨_, rfl⟩
          rw [← hwj, ← hsb] at hme
          rw [← hwj, ← hsb]
          have K6 := Lib.hid (K5.out.trans hij)
          have M6 := Lib.hid hme
          have OB6 := Lib.hid (hij.get OB5.out (by simp))
          clear hwj hsb hme hij
          refine ⟨K6.out, ?_⟩
          refine tr_one ?_
          refine vp_append_sg (F := FB) rfl (.tmp 30) (.tmp 32) 23 rfl (.string ByteArray.empty) 16 Try.underlying23 infoz9 rfl (by decide) (.slice (some ⟨sb, 0, none⟩) 0 0) [] rfl M6.out.1 _ n1 rfl (B1.out.keep K6.out).2 (by have := H201.out.1; rw [← H.out.1]; simp only [List.length_nil]; omega) (by have := H201.out.1; rw [← H.out.1]; simp only [List.length_nil]; omega) ?_
          intro v6 w7 k1 k2 k3
          rw [List.nil_append] at k1
          have hme := M6.out.app k1 k2 k3
          have hobk := (keeps_grown (S := (Value.slice (some ⟨sb, 0, none⟩) 0 0).ownBlock.toList) k3 (fun k hk => by rw [hk]; simp)).get OB6.out (fun hx => M6.out.1.ne OB6.out (by decide) (by simpa using hx))
          have OB7 := Lib.hid hobk
          clear hobk
          obtain ⟨pv, M, cv, hvv, hMM⟩ := made_shape hme
          subst hvv
          have K7 := Lib.hid hme.2.2
          have M7 := Lib.hid hme
          clear hme k1 k2 k3 hMM
          simp only [Act.put, List.setIfInBounds_toArray, List.set_cons_zero, List.set_cons_succ]
          refine tr_next K7.out ?_
          refine tr_free rfl (v := ?_) ?_ ?_
          rotate_left
          · intro w' hw'
            go_simp
            with_reducible rfl
          simp only [Act.put, List.setIfInBounds_toArray, List.set_cons_zero, List.set_cons_succ]
          refine tr_one ?_
          have o0 : w7.cell? ⟨ob, 0, none⟩ = some (.slice none 0 0) := cell_of OB7.out rfl
          have o1 : w7.cell? ⟨ob, 1, none⟩ = some (.bool false) := cell_of OB7.out rfl
          have z0 : w7.frozen? ⟨ob, 0, none⟩ = false := frozen_of 0 OB7.out
          have z1 : w7.frozen? ⟨ob, 1, none⟩ = false := frozen_of 1 OB7.out
          have HKK := Lib.hid (own_box OB7.out M7.out OBL.out (d := d1))
          go_wp2_with fail
          refine ⟨HKK.out.2, ?_⟩
          refine hK1 _ _ ?_
          go_meet
          case rel => exact ⟨ob, pv, M, cv, rfl, HKK.out.1, HKK.out.2⟩
      case rest =>
        obtain ⟨ob, po, Mo, co, rfl, hbo, hkc⟩ := hcut
        obtain ⟨wA, hwA⟩ : ∃ x, x = wc := ⟨_, rfl⟩
        subst hwA
        have KA := Lib.hid (KC.out.trans hkc)
        have B1a := Lib.hid (B1.out.keep hkc)
        have B2a := Lib.hid (B2.out.keep hkc)
        have B1w := B1a
        have BO := Lib.hid hbo
        clear hkc hbo B1 B2 KC
        have hl1 : n1.length ≤ 201 := by rw [← H.out.1]; exact H201.out.1
        have hl2 : n2.length ≤ 201 := by rw [← H.out.2]; exact H201.out.2.2
        have htot := tot_le (m := 140737488351232) (by decide) n1 HX.out.1 H201.out.2.1
        have HLN := Lib.hid (And.intro hl1 (And.intro hl2 htot))
        clear hl1 hl2 htot
        go_upto_region 6 with fail
        have hc0 := BO.out.c0
        have hc1 := BO.out.c1
        go_wp2_with fail
        refine (last_at _ n1 d1 wA BO.out.sg (by have := HLN.out.1; omega)).mono ?_
        rintro e w3 ⟨pd, Md, cd, rfl, hMd, hmd⟩
        obtain ⟨LB, hLB⟩ : ∃ x, x = lastB n1 := ⟨_, rfl⟩
        obtain ⟨LE, hLE⟩ : ∃ x, x = lastE n1 := ⟨_, rfl⟩
        obtain ⟨LS, hLS⟩ : ∃ x, x = lastS n1 := ⟨_, rfl⟩
        obtain ⟨LN, hLN⟩ : ∃ x, x = lastN n1 := ⟨_, rfl⟩
        rw [← hLB, ← hLE, ← hLS]
        rw [← hLN] at hMd hmd
        have HLL := Lib.hid (And.intro hLB (And.intro hLE (And.intro hLS hLN)))
        have HMD := Lib.hid hMd
        obtain ⟨w4, bd, hw4, hbd, hB, hk⟩ := new_box LB hmd
        have K1 := Lib.hid (hmd.2.2.trans hk)
        have B1b := Lib.hid (B1a.out.keep K1.out)
        have B2b := Lib.hid (B2a.out.keep K1.out)
        have BO1 := Lib.hid (BO.out.keep K1.out)
        have BD := Lib.hid hB
        clear hB hk hmd hMd hLB hLE hLS hLN hc0 hc1 B1a B2a
        go_upto_region 7 with fail
        rw [← hw4, ← hbd]
        clear hw4 hbd
        have hc0 := B1b.out.c0
        have hc1 := B1b.out.c1
        go_wp2_with fail
        refine (rlast_at _ n1 d1 w4 B1b.out.2 (by have := HLN.out.1; omega)).mono ?_
        rintro e w5 ⟨pc, Mc, cc, rfl, hMc, hmc⟩
        rw [← HLL.out.1, ← HLL.out.2.1, ← HLL.out.2.2.1]
        rw [← HLL.out.2.2.2] at hMc hmc
        obtain ⟨w6, bc, hw6, hbc, hB, hk⟩ := new_box LB (hmc.from K1.out)
        have K2 := Lib.hid ((K1.out.trans hmc.2.2).trans hk)
        have B1c := Lib.hid (B1b.out.keep (hmc.2.2.trans hk))
        have B2c := Lib.hid (B2b.out.keep (hmc.2.2.trans hk))
        have BO2 := Lib.hid (BO1.out.keep (hmc.2.2.trans hk))
        have BD1 := Lib.hid (BD.out.keep (hmc.2.2.trans hk))
        have BC := Lib.hid hB
        clear hB hk hmc hMc hc0 hc1 B1b B2b BO1 BD K1
        go_upto_region 8 with fail
        rw [← hw6, ← hbc]
        clear hw6 hbc
        have hc0 := BO2.out.c0
        have hc1 := BO2.out.c1
        have hd0 := B2c.out.c0
        have hd1 := B2c.out.c1
        go_wp2_with fail
        refine (join_at _ _ n1 n2 d1 d2 w6 BO2.out.sg B2c.out.2 (by have := HLN.out.1; omega) (by have := HLN.out.2.1; omega)).mono ?_
        rintro e w7 ⟨pj, Mj, cj, rfl, hMj, hmj⟩
        obtain ⟨JD, hJD⟩ : ∃ x, x = joinD n1 d1 n2 d2 := ⟨_, rfl⟩
        obtain ⟨JE, hJE⟩ : ∃ x, x = joinE n1 n2 := ⟨_, rfl⟩
        obtain ⟨JN, hJN⟩ : ∃ x, x = joinN n1 n2 := ⟨_, rfl⟩
        rw [← hJD, ← hJE]
        rw [← hJN] at hMj hmj
        have HJJ := Lib.hid (And.intro hJD (And.intro hJE hJN))
        have HMJ := Lib.hid hMj
        have hnd : ∀ x, (Value.slice pd Md cd).ownBlock = some x → (Value.slice pj Mj cj).ownBlock ≠ some x := fun x hx e => by
          have h1 := BD1.out.2.2.1.lt hx
          have h2 := hmj.2.1 x e
          omega
        have ND := Lib.hid hnd
        obtain ⟨w8, bj, hw8, hbj, hB, hk⟩ := new_box JD (hmj.from K2.out)
        have K3 := Lib.hid ((K2.out.trans hmj.2.2).trans hk)
        have B1d := Lib.hid (B1c.out.keep (hmj.2.2.trans hk))
        have B2d := Lib.hid (B2c.out.keep (hmj.2.2.trans hk))
        have BO3 := Lib.hid (BO2.out.keep (hmj.2.2.trans hk))
        have BD2 := Lib.hid (BD1.out.keep (hmj.2.2.trans hk))
        have BC1 := Lib.hid (BC.out.keep (hmj.2.2.trans hk))
        have BJ := Lib.hid hB
        clear hB hk hmj hMj hnd hJD hJE hJN hc0 hc1 hd0 hd1 B1c B2c BO2 BD1 BC K2
        go_upto_region 9 with fail
        rw [← hw8, ← hbj]
        clear hw8 hbj
        have hc0 := B1d.out.c0
        have hc1 := B1d.out.c1
        have hd0 := B2d.out.c0
        have hd1 := B2d.out.c1
        go_wp2_with fail
        refine (rjoin_at _ _ n1 n2 d1 d2 w8 B1d.out.2 B2d.out.2 (by have := HLN.out.1; omega) (by have := HLN.out.2.1; omega)).mono ?_
        rintro e w9 ⟨pk, Mk, ck, rfl, hMk, hmk⟩
        rw [← HJJ.out.1, ← HJJ.out.2.1]
        rw [← HJJ.out.2.2] at hMk hmk
        obtain ⟨wS, bk, hwS, hbk, hB, hk⟩ := new_box JD (hmk.from K3.out)
        have K4 := Lib.hid ((K3.out.trans hmk.2.2).trans hk)
        have B1e := Lib.hid (B1d.out.keep (hmk.2.2.trans hk))
        have BO4 := Lib.hid (BO3.out.keep (hmk.2.2.trans hk))
        have BD3 := Lib.hid (BD2.out.keep (hmk.2.2.trans hk))
        have BC2 := Lib.hid (BC1.out.keep (hmk.2.2.trans hk))
        have BJ1 := Lib.hid (BJ.out.keep (hmk.2.2.trans hk))
        have BK0 := Lib.hid hB
        clear hB hk hmk hMk hc0 hc1 hd0 hd1 B1d B2d BO3 BD2 BC1 BJ K3
        have B1d := B1e
        have BO3 := BO4
        clear B1e BO4
        go_upto_region 10 with fail
        rw [← hwS, ← hbk]
        clear hwS hbk
        have hss : ((bs LS).toList == (bs LS).toList) = true := by simp
        have hee : (LE == LE) = true := by simp
        have hjj : (JE == JE) = true := by simp
        refine vp_region_tree (fun w' => Keeps [] wS w') ((.take 0 (.take 2 (.one 1 (.one 3 (.take 4 (.take 5 (.take 6 (.take 7 (.one 8 (.take 9 (.take 10 (.take 11 (.take 12 (.take 13 (.take 14 (.take 15 (.take 16 (.take 17 (.take 18 (.take 19 (.take 20 (.take 21 (.take 22 (.take 23 (.one 24 (.take 25 (.take 26 (.take 27 (.take 28 (.take 29 (.take 30 (.take 31 .nil))))))))))))))))))))))))))))))))) (by kernel_rfl) (by kernel_rfl) (by intro _ d _ _ _ h; cases d <;> exact h) ((Keeps.refl _ _).drew) ?_
        intro w11 hw11
        simp only [Tr.pick, List.getD_cons_zero, List.getD_cons_succ]
        have hk11 : Keeps [] wS w11 := by rw [hw11]; exact (Keeps.refl _ _).drew
        have R11 := Lib.hid hk11
        clear hw11 hk11
        repeat
          first
            | (refine tr_free rfl (v := ?_) ?_ ?_
               rotate_left
               · intro w' hw'
                 have e1 := (BO3.out.keep hw').c0
                 have e2 := (BO3.out.keep hw').c1
                 have e3 := (B1d.out.keep hw').c0
                 have e4 := (B1d.out.keep hw').c1
                 have e5 := (BD3.out.keep hw').c0
                 have e6 := (BD3.out.keep hw').c1
                 have e7 := (BC2.out.keep hw').c0
                 have e8 := (BC2.out.keep hw').c1
                 have e9 := (BJ1.out.keep hw').c0
                 have f1 := (BJ1.out.keep hw').c1
                 have f2 := (BK0.out.keep hw').c0
                 have f3 := (BK0.out.keep hw').c1
                 go_simp
                 first | done | with_reducible rfl
               simp only [Act.put, List.setIfInBounds_toArray, List.set_cons_zero, List.set_cons_succ])
            | (refine tr_free_g (by first | rfl | decide) (v := ?_) ?_ ?_
               rotate_left
               · intro w' hw'
                 have e1 := (BO3.out.keep hw').c0
                 have e2 := (BO3.out.keep hw').c1
                 have e3 := (B1d.out.keep hw').c0
                 have e4 := (B1d.out.keep hw').c1
                 have e5 := (BD3.out.keep hw').c0
                 have e6 := (BD3.out.keep hw').c1
                 have e7 := (BC2.out.keep hw').c0
                 have e8 := (BC2.out.keep hw').c1
                 have e9 := (BJ1.out.keep hw').c0
                 have f1 := (BJ1.out.keep hw').c1
                 have f2 := (BK0.out.keep hw').c0
                 have f3 := (BK0.out.keep hw').c1
                 go_simp
                 first | done | with_reducible rfl
               simp only [Act.put, List.setIfInBounds_toArray, List.set_cons_zero, List.set_cons_succ])
            | (refine tr_skip (by first | rfl | decide) ?_
               simp only [Act.put, List.setIfInBounds_toArray, List.set_cons_zero, List.set_cons_succ])
        refine tr_one ?_
        go_wp2_with fail
        rename_i KK hKK
        refine (text_at _ n1 d1 w11 (BO3.out.keep R11.out).sg (by have := HLN.out.1; omega) (by have := HLN.out.2.2; omega)).mono ?_
        rintro e w12 ⟨rfl, hk⟩
        refine hKK _ _ ?_
        obtain ⟨T, hT⟩ : ∃ T, T = textL n1 d1 := ⟨_, rfl⟩
        rw [← hT]
        have HT := Lib.hid hT
        clear hT
        have R12 := Lib.hid (R11.out.trans hk)
        clear hKK hk
        refine tr_next R12.out ?_
        refine tr_one ?_
        go_wp2_with fail
        rename_i KK hKK
        refine (rtext_ok (.slice p1 A c1) n1 d1 w12 (B1d.out.keep R12.out).2 (by have := textL_length n1 d1; have := HLN.out.1; have := HLN.out.2.2; omega)).mono ?_
        rintro e w13 ⟨rfl, hk⟩
        refine hKK _ _ ?_
        rw [← HT.out]
        have htt : ((bs T).toList == (bs T).toList) = true := by simp
        have R13 := Lib.hid (R12.out.trans hk)
        clear hKK hk
        refine tr_next R13.out ?_
        repeat
          first
            | (refine tr_free rfl (v := ?_) ?_ ?_
               rotate_left
               · intro w' hw'
                 have e1 := (BO3.out.keep hw').c0
                 have e2 := (BO3.out.keep hw').c1
                 have e3 := (B1d.out.keep hw').c0
                 have e4 := (B1d.out.keep hw').c1
                 have e5 := (BD3.out.keep hw').c0
                 have e6 := (BD3.out.keep hw').c1
                 have e7 := (BC2.out.keep hw').c0
                 have e8 := (BC2.out.keep hw').c1
                 have e9 := (BJ1.out.keep hw').c0
                 have f1 := (BJ1.out.keep hw').c1
                 have f2 := (BK0.out.keep hw').c0
                 have f3 := (BK0.out.keep hw').c1
                 go_simp
                 first | done | with_reducible rfl
               simp only [Act.put, List.setIfInBounds_toArray, List.set_cons_zero, List.set_cons_succ])
            | (refine tr_free_g (by first | rfl | decide) (v := ?_) ?_ ?_
               rotate_left
               · intro w' hw'
                 have e1 := (BO3.out.keep hw').c0
                 have e2 := (BO3.out.keep hw').c1
                 have e3 := (B1d.out.keep hw').c0
                 have e4 := (B1d.out.keep hw').c1
                 have e5 := (BD3.out.keep hw').c0
                 have e6 := (BD3.out.keep hw').c1
                 have e7 := (BC2.out.keep hw').c0
                 have e8 := (BC2.out.keep hw').c1
                 have e9 := (BJ1.out.keep hw').c0
                 have f1 := (BJ1.out.keep hw').c1
                 have f2 := (BK0.out.keep hw').c0
                 have f3 := (BK0.out.keep hw').c1
                 go_simp
                 first | done | with_reducible rfl
               simp only [Act.put, List.setIfInBounds_toArray, List.set_cons_zero, List.set_cons_succ])
            | (refine tr_skip (by first | rfl | decide) ?_
               simp only [Act.put, List.setIfInBounds_toArray, List.set_cons_zero, List.set_cons_succ])
        refine tr_one ?_
        go_wp2_with fail
        rename_i KK hKK
        refine (same_at _ _ LN LN LB LB w13 (BD3.out.keep R13.out).sg (BC2.out.keep R13.out).sg).mono ?_
        rintro e w14 ⟨rfl, hk⟩
        refine hKK _ _ ?_
        rw [sameB_self]
        have R14 := Lib.hid (R13.out.trans hk)
        clear hKK hk
        refine tr_next R14.out ?_
        repeat
          first
            | (refine tr_free rfl (v := ?_) ?_ ?_
               rotate_left
               · intro w' hw'
                 have e1 := (BO3.out.keep hw').c0
                 have e2 := (BO3.out.keep hw').c1
                 have e3 := (B1d.out.keep hw').c0
                 have e4 := (B1d.out.keep hw').c1
                 have e5 := (BD3.out.keep hw').c0
                 have e6 := (BD3.out.keep hw').c1
                 have e7 := (BC2.out.keep hw').c0
                 have e8 := (BC2.out.keep hw').c1
                 have e9 := (BJ1.out.keep hw').c0
                 have f1 := (BJ1.out.keep hw').c1
                 have f2 := (BK0.out.keep hw').c0
                 have f3 := (BK0.out.keep hw').c1
                 go_simp
                 first | done | with_reducible rfl
               simp only [Act.put, List.setIfInBounds_toArray, List.set_cons_zero, List.set_cons_succ])
            | (refine tr_free_g (by first | rfl | decide) (v := ?_) ?_ ?_
               rotate_left
               · intro w' hw'
                 have e1 := (BO3.out.keep hw').c0
                 have e2 := (BO3.out.keep hw').c1
                 have e3 := (B1d.out.keep hw').c0
                 have e4 := (B1d.out.keep hw').c1
                 have e5 := (BD3.out.keep hw').c0
                 have e6 := (BD3.out.keep hw').c1
                 have e7 := (BC2.out.keep hw').c0
                 have e8 := (BC2.out.keep hw').c1
                 have e9 := (BJ1.out.keep hw').c0
                 have f1 := (BJ1.out.keep hw').c1
                 have f2 := (BK0.out.keep hw').c0
                 have f3 := (BK0.out.keep hw').c1
                 go_simp
                 first | done | with_reducible rfl
               simp only [Act.put, List.setIfInBounds_toArray, List.set_cons_zero, List.set_cons_succ])
            | (refine tr_skip (by first | rfl | decide) ?_
               simp only [Act.put, List.setIfInBounds_toArray, List.set_cons_zero, List.set_cons_succ])
        refine tr_one ?_
        go_wp2_with fail
        rename_i KK hKK
        refine (same_at _ _ JN JN JD JD w14 (BJ1.out.keep R14.out).sg (BK0.out.keep R14.out).sg).mono ?_
        rintro e w15 ⟨rfl, hk⟩
        refine hKK _ _ ?_
        rw [sameB_self]
        have R15 := Lib.hid (R14.out.trans hk)
        clear hKK hk
        refine tr_next R15.out ?_
        repeat
          first
            | (refine tr_free rfl (v := ?_) ?_ ?_
               rotate_left
               · intro w' hw'
                 have e1 := (BO3.out.keep hw').c0
                 have e2 := (BO3.out.keep hw').c1
                 have e3 := (B1d.out.keep hw').c0
                 have e4 := (B1d.out.keep hw').c1
                 have e5 := (BD3.out.keep hw').c0
                 have e6 := (BD3.out.keep hw').c1
                 have e7 := (BC2.out.keep hw').c0
                 have e8 := (BC2.out.keep hw').c1
                 have e9 := (BJ1.out.keep hw').c0
                 have f1 := (BJ1.out.keep hw').c1
                 have f2 := (BK0.out.keep hw').c0
                 have f3 := (BK0.out.keep hw').c1
                 go_simp
                 first | done | with_reducible rfl
               simp only [Act.put, List.setIfInBounds_toArray, List.set_cons_zero, List.set_cons_succ])
            | (refine tr_free_g (by first | rfl | decide) (v := ?_) ?_ ?_
               rotate_left
               · intro w' hw'
                 have e1 := (BO3.out.keep hw').c0
                 have e2 := (BO3.out.keep hw').c1
                 have e3 := (B1d.out.keep hw').c0
                 have e4 := (B1d.out.keep hw').c1
                 have e5 := (BD3.out.keep hw').c0
                 have e6 := (BD3.out.keep hw').c1
                 have e7 := (BC2.out.keep hw').c0
                 have e8 := (BC2.out.keep hw').c1
                 have e9 := (BJ1.out.keep hw').c0
                 have f1 := (BJ1.out.keep hw').c1
                 have f2 := (BK0.out.keep hw').c0
                 have f3 := (BK0.out.keep hw').c1
                 go_simp
                 first | done | with_reducible rfl
               simp only [Act.put, List.setIfInBounds_toArray, List.set_cons_zero, List.set_cons_succ])
            | (refine tr_skip (by first | rfl | decide) ?_
               simp only [Act.put, List.setIfInBounds_toArray, List.set_cons_zero, List.set_cons_succ])
        refine tr_nil ?_
        have BD4 := Lib.hid (BD3.out.keep R15.out)
        have BJ2 := Lib.hid (BJ1.out.keep R15.out)
        have K5 := Lib.hid (K4.out.trans R15.out)
        have hk3 := BO3.out.keep R15.out
        have hl3 := B1d.out.keep R15.out
        have BO5 := Lib.hid hk3
        have B1f := Lib.hid hl3
        clear BD3 BC2 BJ1 BK0 hk3 hl3 R11 R12 R13 R14 R15 BO3 B1d hss hee hjj htt
        have hc0 := BD4.out.c0
        have hMd2 : Md ≤ 201 := by
          rw [HMD.out, HLL.out.2.2.2]
          exact Nat.le_trans (lastN_le n1) HLN.out.1
        have hMj2 : Mj ≤ 40 := by
          rw [HMJ.out, HJJ.out.2.2]
          exact joinN_le n1 n2
        simp only [Exit.then]
        go_upto_block 0 with fail
        go_cut [] (fun wx => Keeps (Value.slice pd Md cd).ownBlock.toList w15 wx)
        case first =>
          go_wp2_with fail
          go_loopg [96] Md (fun m vi wx => ∃ (i : Nat) (l' : List (List UInt8)), vi = .int .i64 i ∧ i + m = Md ∧ l'.length = Md ∧ RowG FB 9 wx (.slice pd Md cd) l' ∧ Keeps (Value.slice pd Md cd).ownBlock.toList w15 wx)
          case atStart => exact ⟨0, LN, rfl, by omega, HMD.out.symm, BD4.out.2.2.1, Keeps.refl _ _⟩
          case round =>
            obtain ⟨i, l', rfl, hi, hll, hrow, hk⟩ := hrel
            have HI := Lib.hid hi
            have hbx := hk.get BD4.out.1 (fun hx => BD4.out.2.2.1.ne BD4.out.1 (by decide) (by simpa using hx))
            have e1 : wr.cell? ⟨bd, 0, none⟩ = some (.slice pd Md cd) := cell_of hbx rfl
            have HK := Lib.hid hk
            clear hi hbx hk
            by_cases hlt : i < Md
            · have hii : (i : Int) < (Md : Int) := by omega
              obtain ⟨x, hx⟩ : ∃ x, l'[i]? = some x := ⟨_, List.getElem?_eq_getElem (by omega)⟩
              obtain ⟨g, hg, x0, z0, hr2, hk2⟩ := row_cell hrow hx
              rw [hg] at e1
              have HR2 := Lib.hid (And.intro hr2 (And.intro hk2 hll))
              clear hx hr2 hk2 hrow hll
              go_wp2
              go_roundg (gk - 1)
              case measure => have := HI.out; omega
              case rel => exact ⟨i + 1, l'.set i [120], by push_cast; rfl, by have := HI.out; omega, by rw [List.length_set]; exact HR2.out.2.2, HR2.out.1, HK.out.trans HR2.out.2.1⟩
            · have hii : ¬ (i : Int) < (Md : Int) := by omega
              clear hll hrow
              go_wp2
              go_meet
              case rel => exact HK.out
        case rest =>
          obtain ⟨wD, hwD⟩ : ∃ x, x = wc := ⟨_, rfl⟩
          subst hwD
          have hjr := BJ2.out.2.2.1.keep hcut (fun x hx => ND.out x (by simpa using hx))
          have hjb := hcut.get BJ2.out.1 (fun hx => BD4.out.2.2.1.ne BJ2.out.1 (by decide) (by simpa using hx))
          have K6 := Lib.hid (K5.out.trans' hcut (fun z hz => Or.inr (BD4.out.2.2.2.1 z (by simpa using hz))))
          have hkd := hcut
          have HKD := Lib.hid hkd
          have BJ3 : Hid (BoxP wA bj (.slice pj Mj cj) JD JN wD) := Lib.hid ⟨hjb, BJ2.out.2.1, hjr, BJ2.out.2.2.2.1, K6.out⟩
          clear hjr hjb hcut hkd
          have hc0 := BJ3.out.c0
          go_upto_block 2 with fail
          go_cut [] (fun wx => Keeps (Value.slice pj Mj cj).ownBlock.toList wD wx)
          case first =>
            go_wp2_with fail
            go_loopg [107] Mj (fun m vi wx => ∃ (i : Nat) (l' : List (List UInt8)), vi = .int .i64 i ∧ i + m = Mj ∧ l'.length = Mj ∧ RowG FB 9 wx (.slice pj Mj cj) l' ∧ Keeps (Value.slice pj Mj cj).ownBlock.toList wD wx)
            case atStart => exact ⟨0, JN, rfl, by omega, HMJ.out.symm, BJ3.out.2.2.1, Keeps.refl _ _⟩
            case round =>
              obtain ⟨i, l', rfl, hi, hll, hrow, hk⟩ := hrel
              have HI := Lib.hid hi
              have hbx := hk.get BJ3.out.1 (fun hx => BJ3.out.2.2.1.ne BJ3.out.1 (by decide) (by simpa using hx))
              have e1 : wr.cell? ⟨bj, 0, none⟩ = some (.slice pj Mj cj) := cell_of hbx rfl
              have HK := Lib.hid hk
              clear hi hbx hk
              by_cases hlt : i < Mj
              · have hii : (i : Int) < (Mj : Int) := by omega
                obtain ⟨x, hx⟩ : ∃ x, l'[i]? = some x := ⟨_, List.getElem?_eq_getElem (by omega)⟩
                obtain ⟨g, hg, x0, z0, hr2, hk2⟩ := row_cell hrow hx
                rw [hg] at e1
                have HR2 := Lib.hid (And.intro hr2 (And.intro hk2 hll))
                clear hx hr2 hk2 hrow hll
                go_wp2
                go_roundg (gk - 1)
                case measure => have := HI.out; omega
                case rel => exact ⟨i + 1, l'.set i [120], by push_cast; rfl, by have := HI.out; omega, by rw [List.length_set]; exact HR2.out.2.2, HR2.out.1, HK.out.trans HR2.out.2.1⟩
              · have hii : ¬ (i : Int) < (Mj : Int) := by omega
                clear hll hrow
                go_wp2
                go_meet
                case rel => exact HK.out
          case rest =>
            obtain ⟨wZ, hwZ⟩ : ∃ x, x = wc := ⟨_, rfl⟩
            subst hwZ
            have hzA := K6.out.trans' hcut (fun z hz => Or.inr (BJ3.out.2.2.2.1 z (by simpa using hz)))
            have KZ := Lib.hid hzA
            have BOz := Lib.hid (BO.out.keep hzA)
            have B1z := Lib.hid (B1w.out.keep hzA)
            have KW := Lib.hid (KA.out.trans hzA)
            clear hcut hzA
            have hc1 := BOz.out.c0
            have hc2 := BOz.out.c1
            have hc3 := B1z.out.c0
            have hc4 := B1z.out.c1
            go_wp2_with fail
            refine (same_at _ _ n1 n1 d1 d1 wZ BOz.out.sg B1z.out.2).mono ?_
            rintro e wY ⟨rfl, hkY⟩
            rw [sameB_self]
            have KY := Lib.hid (KW.out.trans hkY)
            clear hkY
            go_wp2_with fail
            refine (less_ok sa sb wY).mono ?_
            rintro e wX ⟨rfl, hwX⟩
            subst hwX
            obtain ⟨Q1, hQ1⟩ : ∃ x, x = Op.bytesLess sa.data.toList sb.data.toList := ⟨_, rfl⟩
            rw [← hQ1]
            have HQ1 := Lib.hid hQ1
            clear hQ1
            go_wp2_with fail
            refine (rless_ok sa sb wX (Nat.le_trans HX.out.2.2 (by decide))).mono ?_
            rintro e wV ⟨rfl, hkV⟩
            rw [← HQ1.out]
            have KV := Lib.hid (KY.out.trans hkV)
            have hqq : (Q1 == Q1) = true := by simp
            clear hkV
            go_wp2
            (try simp only [Exit.inBlock, Exit.then])
            go_ret
            exact ⟨rfl, KV.out⟩
end Go.Proofs.Ytpfmhjokcpkliaa
