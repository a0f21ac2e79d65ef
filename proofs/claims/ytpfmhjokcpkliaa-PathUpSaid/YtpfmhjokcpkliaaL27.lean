/-
  PathJoins, walked.
-/
import Derived.Test.YtpfmhjokcpkliaaL26
namespace Go.Proofs.Ytpfmhjokcpkliaa
open Go.RowKit Go.V Go.V.Path
/-- a box with a path that came in -/
def BoxA (b : Nat) (v : Value) (d : Bool) (ns : List (List UInt8)) (wx : World) : Prop := wx.heap[b]? = some (.cells #[v, .bool d] 25 (0, 0)) ∧ SG FB wx v ns
theorem BoxA.keep {wx w' : World} {b : Nat} {v : Value} {d : Bool} {ns : List (List UInt8)} (h : BoxA b v d ns wx) (hk : Keeps [] wx w') : BoxA b v d ns w' :=
  ⟨hk.get h.1 (by simp), h.2.keep hk (by simp)⟩
theorem BoxA.c0 {wx : World} {b : Nat} {v : Value} {d : Bool} {ns : List (List UInt8)} (h : BoxA b v d ns wx) : wx.cell? ⟨b, 0, none⟩ = some v := cell_of h.1 rfl
theorem BoxA.c1 {wx : World} {b : Nat} {v : Value} {d : Bool} {ns : List (List UInt8)} (h : BoxA b v d ns wx) : wx.cell? ⟨b, 1, none⟩ = some (.bool d) := cell_of h.1 rfl
theorem BoxP.a {w wx : World} {b : Nat} {v : Value} {d : Bool} {ns : List (List UInt8)} (h : BoxP w b v d ns wx) : BoxA b v d ns wx := ⟨h.1, h.sg⟩
theorem three_args (w : World) (v1 v2 v3 : Value) (d1 d2 d3 : Bool) : ∃ (w3 : World) (ab bb rb : Nat), w3 = ((w.alloc (.cells #[v1, .bool d1] 25)).alloc (.cells #[v2, .bool d2] 25)).alloc (.cells #[v3, .bool d3] 25) ∧
    ab = w.heap.size ∧ bb = w.heap.size + 1 ∧ rb = w.heap.size + 1 + 1 ∧
    w3.heap[ab]? = some (.cells #[v1, .bool d1] 25 (0, 0)) ∧ w3.heap[bb]? = some (.cells #[v2, .bool d2] 25 (0, 0)) ∧ w3.heap[rb]? = some (.cells #[v3, .bool d3] 25 (0, 0)) ∧ Keeps [] w w3 := by
  refine ⟨_, _, _, _, rfl, rfl, rfl, rfl, heap_alloc_ne _ _ (heap_alloc_ne _ _ (heap_alloc w _)), ?_, ?_, (((Keeps.refl _ _).alloc _).alloc _).alloc _⟩
  · refine heap_alloc_ne _ _ ?_
    have := heap_alloc (w.alloc (.cells #[v1, .bool d1] 25)) (.cells #[v2, .bool d2] 25)
    rwa [show (w.alloc (.cells #[v1, .bool d1] 25)).heap.size = w.heap.size + 1 from by show (w.heap.push _).size = _; simp] at this
  · have := heap_alloc ((w.alloc (.cells #[v1, .bool d1] 25)).alloc (.cells #[v2, .bool d2] 25)) (.cells #[v3, .bool d3] 25)
    rwa [show ((w.alloc (.cells #[v1, .bool d1] 25)).alloc (.cells #[v2, .bool d2] 25)).heap.size = w.heap.size + 1 + 1 from by show ((w.heap.push _).push _).size = _; simp] at this
theorem large_at (v : Value) (ns : List (List UInt8)) (d : Bool) (w : World) (hv : SG FB w v ns) (hxs : ∀ x ∈ ns, x.length ≤ 140737488351232) : Calls Try.prog 18 #[.agg #[v, .bool d]] w (LargePost ns w) :=
  large_ok v ns d w hv (fun x hx => Nat.le_trans (hxs x hx) (by decide))
theorem joinD_eq {p q : List (List UInt8)} (d d' : Bool) (h : p.length + q.length ≤ 40) : joinD p d q d' = if q.length = 0 then d else d' := by
  unfold joinD
  rw [if_neg (by omega)]
theorem sg_nil (w : World) : SG FB w (.slice none 0 0) [] := (RowG.nil FB 9 w).sg
set_option maxRecDepth 100000 in
set_option maxHeartbeats 8000000 in
theorem joins_any (v1 v2 v3 : Value) (n1 n2 n3 : List (List UInt8)) (d1 d2 d3 : Bool) (w : World) (h1 : SG FB w v1 n1) (h2 : SG FB w v2 n2) (h3 : SG FB w v3 n3)
    (hx1 : ∀ x ∈ n1, x.length ≤ 140737488351232) (hx2 : ∀ x ∈ n2, x.length ≤ 140737488351232) (hx3 : ∀ x ∈ n3, x.length ≤ 140737488351232) :
    Calls Try.prog 11 #[.agg #[v1, .bool d1], .agg #[v2, .bool d2], .agg #[v3, .bool d3]] w (BK true w) := by
  obtain ⟨p1, c1, rfl, _, _, _⟩ := id h1
  obtain ⟨p2, c2, rfl, _, _, _⟩ := id h2
  obtain ⟨p3, c3, rfl, _, _, _⟩ := id h3
  obtain ⟨A, hA⟩ : ∃ A, A = n1.length := ⟨_, rfl⟩
  obtain ⟨B, hB⟩ : ∃ B, B = n2.length := ⟨_, rfl⟩
  obtain ⟨C, hC⟩ : ∃ C, C = n3.length := ⟨_, rfl⟩
  rw [← hA] at h1 ⊢
  rw [← hB] at h2 ⊢
  rw [← hC] at h3 ⊢
  have H := Lib.hid (And.intro hA (And.intro hB hC))
  have HS := Lib.hid (And.intro h1 (And.intro h2 h3))
  have HX := Lib.hid (And.intro hx1 (And.intro hx2 hx3))
  clear hA hB hC h1 h2 h3 hx1 hx2 hx3
  go_enter Try.func11, Try.ntmps11
  go_upto_region 1 with fail
  obtain ⟨w2, b1, b2, b3, hw2, hb1, hb2, hb3, q1, q2, q3, hk⟩ := three_args w (.slice p1 A c1) (.slice p2 B c2) (.slice p3 C c3) d1 d2 d3
  rw [← hw2, ← hb3, ← hb2, ← hb1]
  have A1 : Hid (BoxA b1 (.slice p1 A c1) d1 n1 w2) := Lib.hid ⟨q1, HS.out.1.keep hk (by simp)⟩
  have A2 : Hid (BoxA b2 (.slice p2 B c2) d2 n2 w2) := Lib.hid ⟨q2, HS.out.2.1.keep hk (by simp)⟩
  have A3 : Hid (BoxA b3 (.slice p3 C c3) d3 n3 w2) := Lib.hid ⟨q3, HS.out.2.2.keep hk (by simp)⟩
  have KW := Lib.hid hk
  clear hw2 hb1 hb2 hb3 q1 q2 q3 hk
  go_wp2_with fail
  refine (awake_ok w2).mono ?_
  rintro e w0 ⟨rfl, hk0⟩
  have K0 := Lib.hid (KW.out.trans hk0)
  have B1 := Lib.hid (A1.out.keep hk0)
  have B2 := Lib.hid (A2.out.keep hk0)
  have B3 := Lib.hid (A3.out.keep hk0)
  clear hk0 A1 A2 A3 KW
  go_upto_region 3 with fail
  go_cut [42] (fun v wx => Keeps [] w0 wx ∧ ∃ b, v = .bool b ∧ (b = false → A + B + C ≤ 40))
  case first =>
    have hc0 := B1.out.c0
    have hc1 := B1.out.c1
    go_wp2_with fail
    refine (large_at _ n1 d1 w0 B1.out.2 HX.out.1).mono ?_
    rintro e w3 ⟨g1, rfl, hk1, hf1⟩
    cases g1 with
    | true =>
      have K1 := Lib.hid hk1
      clear hk1 hf1
      go_wp2
      go_meet
      case rel => exact ⟨K1.out, true, rfl, fun h => by cases h⟩
    | false =>
      have HF1 := Lib.hid (hf1 rfl)
      have K1 := Lib.hid hk1
      have hd0 := (B2.out.keep hk1).c0
      have hd1 := (B2.out.keep hk1).c1
      clear hk1 hf1 hc0 hc1
      go_wp2_with fail
      refine (large_at _ n2 d2 w3 (B2.out.keep K1.out).2 HX.out.2.1).mono ?_
      rintro e w4 ⟨g2, rfl, hk2, hf2⟩
      cases g2 with
      | true =>
        have K2 := Lib.hid (K1.out.trans hk2)
        clear hk2 hf2
        go_wp2
        go_meet
        case rel => exact ⟨K2.out, true, rfl, fun h => by cases h⟩
      | false =>
        have HF2 := Lib.hid (hf2 rfl)
        have K2 := Lib.hid (K1.out.trans hk2)
        have he0 := (B3.out.keep K2.out).c0
        have he1 := (B3.out.keep K2.out).c1
        clear hk2 hf2 hd0 hd1
        go_wp2_with fail
        refine (large_at _ n3 d3 w4 (B3.out.keep K2.out).2 HX.out.2.2).mono ?_
        rintro e w5 ⟨g3, rfl, hk3, hf3⟩
        cases g3 with
        | true =>
          have K3 := Lib.hid (K2.out.trans hk3)
          clear hk3 hf3
          go_wp2
          go_meet
          case rel => exact ⟨K3.out, true, rfl, fun h => by cases h⟩
        | false =>
          have HF3 := Lib.hid (hf3 rfl)
          have K3 := Lib.hid (K2.out.trans hk3)
          clear hk3 hf3 he0 he1
          have hc0 := (B1.out.keep K3.out).c0
          have hd0 := (B2.out.keep K3.out).c0
          have he0 := (B3.out.keep K3.out).c0
          have hA : A ≤ 201 := by rw [H.out.1]; exact HF1.out.1
          have hB : B ≤ 201 := by rw [H.out.2.1]; exact HF2.out.1
          have hC : C ≤ 201 := by rw [H.out.2.2]; exact HF3.out.1
          go_wp2
          go_meet
          case rel => exact ⟨K3.out, _, rfl, fun h => by simp only [decide_eq_false_iff_not] at h; omega⟩
  case rest =>
    obtain ⟨hkc, g, rfl, hg⟩ := hcut
    cases g with
    | true =>
      have K1 := Lib.hid (K0.out.trans hkc)
      clear hkc hg
      go_wp2
      (try simp only [Exit.inBlock, Exit.then])
      go_ret
      exact ⟨rfl, K1.out⟩
    | false =>
      have h40 := hg rfl
      have H40 := Lib.hid h40
      have K1 := Lib.hid (K0.out.trans hkc)
      have A1 := Lib.hid (B1.out.keep hkc)
      have A2 := Lib.hid (B2.out.keep hkc)
      have A3 := Lib.hid (B3.out.keep hkc)
      clear hkc hg h40 B1 B2 B3 K0
      go_upto_region 5 with fail
      have hc0 := A1.out.c0
      have hc1 := A1.out.c1
      have hd0 := A2.out.c0
      have hd1 := A2.out.c1
      have l1 : n1.length + n2.length ≤ 40 := by have := H40.out; rw [← H.out.1, ← H.out.2.1]; omega
      have L1 := Lib.hid l1
      clear l1
      go_wp2_with fail
      refine (join_at _ _ n1 n2 d1 d2 wc A1.out.2 A2.out.2 (by have := L1.out; omega) (by have := L1.out; omega)).mono ?_
      rintro e w3 ⟨pa, Ma, ca, rfl, hMa, hma⟩
      rw [(joinE_le L1.out).1, joinD_eq d1 d2 L1.out]
      rw [(joinE_le L1.out).2] at hma hMa
      obtain ⟨da, hda⟩ : ∃ d, d = (if n2.length = 0 then d1 else d2) := ⟨_, rfl⟩
      rw [← hda]
      have HDA := Lib.hid hda
      obtain ⟨w4, ba, hw4, hba, hB, hk⟩ := new_box da (hma.from K1.out)
      have K2 := Lib.hid ((K1.out.trans hma.2.2).trans hk)
      have B1 := Lib.hid (A1.out.keep (hma.2.2.trans hk))
      have B2 := Lib.hid (A2.out.keep (hma.2.2.trans hk))
      have B3 := Lib.hid (A3.out.keep (hma.2.2.trans hk))
      have Ba := Lib.hid hB.a
      clear hB hk hma hMa hda hc0 hc1 hd0 hd1 A1 A2 A3 K1
      go_upto_region 6 with fail
      rw [← hw4, ← hba]
      clear hw4 hba
      have hc0 := Ba.out.c0
      have hc1 := Ba.out.c1
      have hd0 := B3.out.c0
      have hd1 := B3.out.c1
      have l2 : (n1 ++ n2).length + n3.length ≤ 40 := by have := H40.out; rw [List.length_append, ← H.out.1, ← H.out.2.1, ← H.out.2.2]; omega
      have L2 := Lib.hid l2
      clear l2
      go_wp2_with fail
      refine (join_at _ _ (n1 ++ n2) n3 da d3 w4 Ba.out.2 B3.out.2 (by have := L2.out; omega) (by have := L2.out; omega)).mono ?_
      rintro e w5 ⟨pb, Mb, cb, rfl, hMb, hmb⟩
      rw [(joinE_le L2.out).1, joinD_eq da d3 L2.out]
      rw [(joinE_le L2.out).2] at hmb hMb
      obtain ⟨db, hdb⟩ : ∃ d, d = (if n3.length = 0 then da else d3) := ⟨_, rfl⟩
      rw [← hdb]
      have HDB := Lib.hid hdb
      obtain ⟨w6, bb, hw6, hbb, hB, hk⟩ := new_box db (hmb.from K2.out)
      have K3 := Lib.hid ((K2.out.trans hmb.2.2).trans hk)
      have A1 := Lib.hid (B1.out.keep (hmb.2.2.trans hk))
      have A2 := Lib.hid (B2.out.keep (hmb.2.2.trans hk))
      have A3 := Lib.hid (B3.out.keep (hmb.2.2.trans hk))
      have Bb := Lib.hid hB
      have N1 := Lib.hid (show b1 ≠ bb by have := lt_of_heap (B1.out.keep hmb.2.2).1; omega)
      clear hB hk hmb hMb hdb hc0 hc1 hd0 hd1 B1 B2 B3 Ba K2
      go_upto_region 7 with fail
      rw [← hw6, ← hbb]
      clear hw6 hbb
      have hc0 := A2.out.c0
      have hc1 := A2.out.c1
      have hd0 := A3.out.c0
      have hd1 := A3.out.c1
      have l3 : n2.length + n3.length ≤ 40 := by have := H40.out; rw [← H.out.2.1, ← H.out.2.2]; omega
      have L3 := Lib.hid l3
      clear l3
      go_wp2_with fail
      refine (join_at _ _ n2 n3 d2 d3 w6 A2.out.2 A3.out.2 (by have := L3.out; omega) (by have := L3.out; omega)).mono ?_
      rintro e w7 ⟨pc, Mc, cc, rfl, hMc, hmc⟩
      rw [(joinE_le L3.out).1, joinD_eq d2 d3 L3.out]
      rw [(joinE_le L3.out).2] at hmc hMc
      obtain ⟨dc, hdc⟩ : ∃ d, d = (if n3.length = 0 then d2 else d3) := ⟨_, rfl⟩
      rw [← hdc]
      have HDC := Lib.hid hdc
      obtain ⟨w8, bc, hw8, hbc, hB, hk⟩ := new_box dc (hmc.from K3.out)
      have K4 := Lib.hid ((K3.out.trans hmc.2.2).trans hk)
      have B1 := Lib.hid (A1.out.keep (hmc.2.2.trans hk))
      have B2 := Lib.hid (A2.out.keep (hmc.2.2.trans hk))
      have B3 := Lib.hid (A3.out.keep (hmc.2.2.trans hk))
      have Bb2 := Lib.hid (Bb.out.keep (hmc.2.2.trans hk))
      have Bc := Lib.hid hB.a
      clear hB hk hmc hMc hdc hc0 hc1 hd0 hd1 A1 A2 A3 Bb K3
      go_upto_region 8 with fail
      rw [← hw8, ← hbc]
      clear hw8 hbc
      have hc0 := B1.out.c0
      have hc1 := B1.out.c1
      have hd0 := Bc.out.c0
      have hd1 := Bc.out.c1
      have l4 : n1.length + (n2 ++ n3).length ≤ 40 := by have := H40.out; rw [List.length_append, ← H.out.1, ← H.out.2.1, ← H.out.2.2]; omega
      have L4 := Lib.hid l4
      clear l4
      go_wp2_with fail
      refine (join_at _ _ n1 (n2 ++ n3) d1 dc w8 B1.out.2 Bc.out.2 (by have := L4.out; omega) (by have := L4.out; omega)).mono ?_
      rintro e w9 ⟨pd, Md, cd, rfl, hMd, hmd⟩
      rw [(joinE_le L4.out).1, joinD_eq d1 dc L4.out]
      rw [(joinE_le L4.out).2] at hmd hMd
      obtain ⟨dd, hdd⟩ : ∃ d, d = (if (n2 ++ n3).length = 0 then d1 else dc) := ⟨_, rfl⟩
      rw [← hdd]
      have HDD := Lib.hid hdd
      obtain ⟨wa, bd, hwa, hbd, hB, hk⟩ := new_box dd (hmd.from K4.out)
      have K5 := Lib.hid ((K4.out.trans hmd.2.2).trans hk)
      have A1 := Lib.hid (B1.out.keep (hmd.2.2.trans hk))
      have A2 := Lib.hid (B2.out.keep (hmd.2.2.trans hk))
      have A3 := Lib.hid (B3.out.keep (hmd.2.2.trans hk))
      have Bb := Lib.hid (Bb2.out.keep (hmd.2.2.trans hk))
      have Bd := Lib.hid hB
      have N2 := Lib.hid (And.intro (show b1 ≠ bd by have := lt_of_heap (B1.out.keep hmd.2.2).1; omega) (show bb ≠ bd by have := lt_of_heap (Bb2.out.keep hmd.2.2).1; omega))
      clear hB hk hmd hMd hdd hc0 hc1 hd0 hd1 B1 B2 B3 Bb2 Bc K4
      go_upto_region 9 with fail
      rw [← hwa, ← hbd]
      clear hwa hbd
      have hc0 := A1.out.c0
      have hc1 := A1.out.c1
      have l5 : n1.length + ([] : List (List UInt8)).length ≤ 40 := by have := L1.out; simp only [List.length_nil]; omega
      have L5 := Lib.hid l5
      clear l5
      go_wp2_with fail
      refine (join_at _ _ n1 [] d1 false wa A1.out.2 (sg_nil wa) (by have := L5.out; omega) (by simp)).mono ?_
      rintro e wb ⟨pn, Mn, cn, rfl, hMn, hmn⟩
      rw [(joinE_le L5.out).1, joinD_eq d1 false L5.out]
      rw [(joinE_le L5.out).2, List.append_nil] at hmn hMn
      rw [show (if ([] : List (List UInt8)).length = 0 then d1 else false) = d1 from rfl]
      obtain ⟨wd, bn, hwd, hbn, hB, hk⟩ := new_box d1 (hmn.from K5.out)
      have K6 := Lib.hid ((K5.out.trans hmn.2.2).trans hk)
      have B1 := Lib.hid (A1.out.keep (hmn.2.2.trans hk))
      have B2 := Lib.hid (A2.out.keep (hmn.2.2.trans hk))
      have B3 := Lib.hid (A3.out.keep (hmn.2.2.trans hk))
      have Bb2 := Lib.hid (Bb.out.keep (hmn.2.2.trans hk))
      have Bd2 := Lib.hid (Bd.out.keep (hmn.2.2.trans hk))
      have Bn := Lib.hid hB.a
      have NR := Lib.hid hB.2.2.1
      have N3 := Lib.hid (And.intro (show bn ≠ bb by have := lt_of_heap (Bb.out.keep hmn.2.2).1; omega) (show bn ≠ bd by have := lt_of_heap (Bd.out.keep hmn.2.2).1; omega))
      clear hB hk hmn hMn hc0 hc1 A1 A2 A3 Bb Bd K5
      go_upto_region 10 with fail
      rw [← hwd, ← hbn]
      clear hwd hbn
      have hd0 := B2.out.c0
      have he0 := B3.out.c0
      by_cases hz : B = 0 ∧ C = 0
      · obtain ⟨rfl, rfl⟩ := hz
        have xb1 := Bb2.out.c1
        have xd1 := Bd2.out.c1
        have zb : wd.frozen? ⟨bb, 1, none⟩ = false := frozen_of 1 Bb2.out.1
        have hkb : Keeps [bb] wd (wd.setCell ⟨bb, 1, none⟩ (.bool false)) := (Keeps.refl [bb] _).setCell (Or.inl (by simp)) _
        have hbd1 := hkb.get Bd2.out.1 (by simp; exact fun e => N2.out.2 e.symm)
        have xd2 : (wd.setCell ⟨bb, 1, none⟩ (.bool false)).cell? ⟨bd, 1, none⟩ = some (.bool dd) := cell_of hbd1 rfl
        have zd : (wd.setCell ⟨bb, 1, none⟩ (.bool false)).frozen? ⟨bd, 1, none⟩ = false := frozen_of 1 hbd1
        obtain ⟨wf, hwf⟩ : ∃ wf, wf = (wd.setCell ⟨bb, 1, none⟩ (.bool false)).setCell ⟨bd, 1, none⟩ (.bool false) := ⟨_, rfl⟩
        have hkd : Keeps [bd] (wd.setCell ⟨bb, 1, none⟩ (.bool false)) wf := by rw [hwf]; exact (Keeps.refl [bd] _).setCell (Or.inl (by simp)) _
        have hbbf : wf.heap[bb]? = some (.cells #[.slice pb Mb cb, .bool false] 25 (0, 0)) := hkd.get (heap_setCell Bb2.out.1) (by simp; exact N2.out.2)
        have hbdf : wf.heap[bd]? = some (.cells #[.slice pd Md cd, .bool false] 25 (0, 0)) := by rw [hwf]; exact heap_setCell hbd1
        have hb1f : wf.heap[b1]? = some (.cells #[.slice p1 A c1, .bool d1] 25 (0, 0)) := hkd.get (hkb.get B1.out.1 (by simp; exact N1.out)) (by simp; exact N2.out.1)
        have hbnf : wf.heap[bn]? = some (.cells #[.slice pn Mn cn, .bool d1] 25 (0, 0)) := hkd.get (hkb.get Bn.out.1 (by simp; exact N3.out.1)) (by simp; exact N3.out.2)
        have hkf : Keeps [] w wf := (K6.out.trans' hkb (fun z hz => Or.inr (by obtain rfl := List.mem_singleton.1 hz; exact Bb2.out.2.1))).trans' hkd (fun z hz => Or.inr (by obtain rfl := List.mem_singleton.1 hz; exact Bd2.out.2.1))
        have sgf : ∀ {v : Value} {l : List (List UInt8)}, RowG FB 9 wd v l → SG FB wf v l := by
          intro v l hr
          have h1 := hr.keep hkb (fun z hz => by obtain rfl := List.mem_singleton.1 hz; exact hr.ne Bb2.out.1 (by decide))
          exact (h1.keep hkd (fun z hz => by obtain rfl := List.mem_singleton.1 hz; exact h1.ne hbd1 (by decide))).sg
        have hsn := sgf NR.out
        have Bb : Hid (BoxA bb (.slice pb Mb cb) false (n1 ++ n2 ++ n3) wf) := Lib.hid ⟨hbbf, sgf Bb2.out.2.2.1⟩
        have Bd : Hid (BoxA bd (.slice pd Md cd) false (n1 ++ (n2 ++ n3)) wf) := Lib.hid ⟨hbdf, sgf Bd2.out.2.2.1⟩
        have A1 : Hid (BoxA b1 (.slice p1 A c1) d1 n1 wf) := Lib.hid ⟨hb1f, HS.out.1.keep hkf (by simp)⟩
        have An : Hid (BoxA bn (.slice pn Mn cn) d1 n1 wf) := Lib.hid ⟨hbnf, hsn⟩
        have KF := Lib.hid hkf
        clear hkb hbd1 hkd hbbf hbdf hb1f hbnf hkf sgf hsn
        go_upto_region 12 with fail
        rw [← hwf]
        clear hwf xb1 xd1 zb xd2 zd hd0 he0
        have hd0 := Bb.out.c0
        have hd1 := Bb.out.c1
        have he0 := Bd.out.c0
        have he1 := Bd.out.c1
        go_wp2_with fail
        refine (same_at _ _ _ _ _ _ wf Bb.out.2 Bd.out.2).mono ?_
        rintro e wg ⟨rfl, hkg⟩
        rw [List.append_assoc, sameB_self]
        have KG := Lib.hid (KF.out.trans hkg)
        have hn0 := (An.out.keep hkg).c0
        have hn1 := (An.out.keep hkg).c1
        have hp0 := (A1.out.keep hkg).c0
        have hp1 := (A1.out.keep hkg).c1
        have HGN := Lib.hid (An.out.keep hkg).2
        have HGP := Lib.hid (A1.out.keep hkg).2
        clear hkg hd0 hd1 he0 he1
        go_wp2_with fail
        refine (same_at _ _ n1 n1 d1 d1 wg HGN.out HGP.out).mono ?_
        rintro e wh ⟨rfl, hkh⟩
        rw [sameB_self]
        have KH := Lib.hid (KG.out.trans hkh)
        clear hkh
        go_wp2
        (try simp only [Exit.inBlock, Exit.then])
        go_ret
        exact ⟨rfl, KH.out⟩
      · have hdd : db = dd := by
          rw [HDB.out, HDD.out, HDC.out, HDA.out, List.length_append, ← H.out.2.1, ← H.out.2.2]
          by_cases hC0 : C = 0
          · have hB0 : B ≠ 0 := fun e => hz ⟨e, hC0⟩
            rw [if_pos hC0, if_neg hB0, if_neg (by omega), if_pos hC0]
          · rw [if_neg hC0, if_neg (by omega), if_neg hC0]
        subst hdd
        have Bb := Lib.hid Bb2.out.a
        have Bd := Lib.hid Bd2.out.a
        by_cases hB0 : B = 0
        · subst hB0
          have hC0 : ((C : Int) == 0) = false := by
            rw [beq_eq_false_iff_ne]
            intro e
            exact hz ⟨rfl, by omega⟩
          clear hz
          go_upto_region 12 with fail
          clear hd0 he0
          have hd0 := Bb.out.c0
          have hd1 := Bb.out.c1
          have he0 := Bd.out.c0
          have he1 := Bd.out.c1
          go_wp2_with fail
          refine (same_at _ _ _ _ _ _ wd Bb.out.2 Bd.out.2).mono ?_
          rintro e wg ⟨rfl, hkg⟩
          rw [List.append_assoc, sameB_self]
          have KG := Lib.hid (K6.out.trans hkg)
          have hn0 := (Bn.out.keep hkg).c0
          have hn1 := (Bn.out.keep hkg).c1
          have hp0 := (B1.out.keep hkg).c0
          have hp1 := (B1.out.keep hkg).c1
          have HGN := Lib.hid (Bn.out.keep hkg).2
          have HGP := Lib.hid (B1.out.keep hkg).2
          clear hkg hd0 hd1 he0 he1
          go_wp2_with fail
          refine (same_at _ _ n1 n1 d1 d1 wg HGN.out HGP.out).mono ?_
          rintro e wh ⟨rfl, hkh⟩
          rw [sameB_self]
          have KH := Lib.hid (KG.out.trans hkh)
          clear hkh
          go_wp2
          (try simp only [Exit.inBlock, Exit.then])
          go_ret
          exact ⟨rfl, KH.out⟩
        · have hB1 : ((B : Int) == 0) = false := by rw [beq_eq_false_iff_ne]; omega
          clear hz
          go_upto_region 12 with fail
          clear hd0 he0
          have hd0 := Bb.out.c0
          have hd1 := Bb.out.c1
          have he0 := Bd.out.c0
          have he1 := Bd.out.c1
          go_wp2_with fail
          refine (same_at _ _ _ _ _ _ wd Bb.out.2 Bd.out.2).mono ?_
          rintro e wg ⟨rfl, hkg⟩
          rw [List.append_assoc, sameB_self]
          have KG := Lib.hid (K6.out.trans hkg)
          have hn0 := (Bn.out.keep hkg).c0
          have hn1 := (Bn.out.keep hkg).c1
          have hp0 := (B1.out.keep hkg).c0
          have hp1 := (B1.out.keep hkg).c1
          have HGN := Lib.hid (Bn.out.keep hkg).2
          have HGP := Lib.hid (B1.out.keep hkg).2
          clear hkg hd0 hd1 he0 he1
          go_wp2_with fail
          refine (same_at _ _ n1 n1 d1 d1 wg HGN.out HGP.out).mono ?_
          rintro e wh ⟨rfl, hkh⟩
          rw [sameB_self]
          have KH := Lib.hid (KG.out.trans hkh)
          clear hkh
          go_wp2
          (try simp only [Exit.inBlock, Exit.then])
          go_ret
          exact ⟨rfl, KH.out⟩
end Go.Proofs.Ytpfmhjokcpkliaa
