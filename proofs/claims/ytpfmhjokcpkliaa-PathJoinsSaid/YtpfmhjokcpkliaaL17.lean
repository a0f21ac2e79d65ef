/-
  Package veneerlaw01: boxes of paths, the contracts as the laws meet them, awake.
-/
import Derived.Test.YtpfmhjokcpkliaaL16
namespace Go.Proofs.Ytpfmhjokcpkliaa
open Go.RowKit Go.V Go.V.Path
/-- a box with a path that the call has made -/
def BoxP (w : World) (b : Nat) (v : Value) (d : Bool) (ns : List (List UInt8)) (wx : World) : Prop :=
  wx.heap[b]? = some (.cells #[v, .bool d] 25 (0, 0)) ∧ w.heap.size ≤ b ∧ Made FB 9 w v ns wx
theorem BoxP.keep {w wx w' : World} {b : Nat} {v : Value} {d : Bool} {ns : List (List UInt8)} (h : BoxP w b v d ns wx) (hk : Keeps [] wx w') : BoxP w b v d ns w' :=
  ⟨hk.get h.1 (by simp), h.2.1, h.2.2.keep hk⟩
theorem made_shape {w wx : World} {v : Value} {ns : List (List UInt8)} (h : Made FB 9 w v ns wx) : ∃ p M c, v = .slice p M c ∧ M = ns.length := by
  obtain ⟨p, c, hv, _, _⟩ := h.1.value
  exact ⟨p, _, c, hv, rfl⟩
/-- a path that was just made is laid into a box -/
theorem new_box {w w1 : World} {v : Value} {ns : List (List UInt8)} (d : Bool) (h : Made FB 9 w v ns w1) :
    ∃ w2 b, w2 = w1.alloc (.cells #[v, .bool d] 25) ∧ b = w1.heap.size ∧ BoxP w b v d ns w2 ∧ Keeps [] w1 w2 :=
  have hk : Keeps [] w1 (w1.alloc (.cells #[v, .bool d] 25)) := (Keeps.refl _ _).alloc _
  ⟨_, _, rfl, rfl, ⟨heap_alloc w1 _, h.2.2.size, h.keep hk⟩, hk⟩
def ParseAt (l : List UInt8) (w : World) (e : Ending) (w' : World) : Prop :=
  ∃ p M c, e = .returned (.tuple #[.agg #[.slice p M c, .bool (parseD l)], .int .i64 (parseE l)]) ∧ M = (parseN l).length ∧ Made FB 9 w (.slice p M c) (parseN l) w'
theorem parse_at (s : ByteArray) (l : List UInt8) (w : World) (hs : s.data.toList = l) : Calls Try.prog 13 #[.string s] w (ParseAt l w) := by
  refine (parse_ok s w).mono ?_
  rw [hs]
  rintro e w' ⟨va, rfl, hm⟩
  obtain ⟨p, M, c, rfl, hM⟩ := made_shape hm
  exact ⟨p, M, c, rfl, hM, hm⟩
theorem rparse_at (s : ByteArray) (l : List UInt8) (w : World) (hs : s.data.toList = l) (h : s.size ≤ 4611686018427387904) : Calls Try.prog 14 #[.string s] w (ParseAt l w) := by
  refine (rparse_ok s w h).mono ?_
  rw [hs]
  rintro e w' ⟨va, rfl, hm⟩
  obtain ⟨p, M, c, rfl, hM⟩ := made_shape hm
  exact ⟨p, M, c, rfl, hM, hm⟩
def JoinAt (p : List (List UInt8)) (d : Bool) (q : List (List UInt8)) (d' : Bool) (w : World) (e : Ending) (w' : World) : Prop :=
  ∃ a M c, e = .returned (.tuple #[.agg #[.slice a M c, .bool (joinD p d q d')], .int .i64 (joinE p q)]) ∧ M = (joinN p q).length ∧ Made FB 9 w (.slice a M c) (joinN p q) w'
theorem join_at (v1 v2 : Value) (n1 n2 : List (List UInt8)) (d1 d2 : Bool) (w : World) (h1 : SG FB w v1 n1) (h2 : SG FB w v2 n2) (hl1 : n1.length ≤ 1000) (hl2 : n2.length ≤ 1000) :
    Calls Try.prog 21 #[.agg #[v1, .bool d1], .agg #[v2, .bool d2]] w (JoinAt n1 d1 n2 d2 w) := by
  refine (join_ok v1 v2 n1 n2 d1 d2 w h1 h2 hl1 hl2).mono ?_
  rintro e w' ⟨va, rfl, hm⟩
  obtain ⟨p, M, c, rfl, hM⟩ := made_shape hm
  exact ⟨p, M, c, rfl, hM, hm⟩
theorem rjoin_at (v1 v2 : Value) (n1 n2 : List (List UInt8)) (d1 d2 : Bool) (w : World) (h1 : SG FB w v1 n1) (h2 : SG FB w v2 n2) (hl1 : n1.length ≤ 1000) (hl2 : n2.length ≤ 1000) :
    Calls Try.prog 22 #[.agg #[v1, .bool d1], .agg #[v2, .bool d2]] w (JoinAt n1 d1 n2 d2 w) := by
  refine (rjoin_ok v1 v2 n1 n2 d1 d2 w h1 h2 hl1 hl2).mono ?_
  rintro e w' ⟨va, rfl, hm⟩
  obtain ⟨p, M, c, rfl, hM⟩ := made_shape hm
  exact ⟨p, M, c, rfl, hM, hm⟩
def lastN (ns : List (List UInt8)) : List (List UInt8) := if lastB ns = true then ns.dropLast else []
def lastS (ns : List (List UInt8)) : List UInt8 := if lastB ns = true then ns.getLastD [] else []
def lastE (ns : List (List UInt8)) : Int := if lastB ns = true then 0 else 16
def LastAt (ns : List (List UInt8)) (w : World) (e : Ending) (w' : World) : Prop :=
  ∃ a M c, e = .returned (.tuple #[.agg #[.slice a M c, .bool (lastB ns)], .string (bs (lastS ns)), .int .i64 (lastE ns)]) ∧ M = (lastN ns).length ∧ Made FB 9 w (.slice a M c) (lastN ns) w'
theorem last_tell {ns : List (List UInt8)} {w : World} {e : Ending} {w' : World} (h : LastPost ns w e w') : LastAt ns w e w' := by
  obtain ⟨va, rfl, hm⟩ := h
  obtain ⟨p, M, c, rfl, hM⟩ := made_shape hm
  refine ⟨p, M, c, ?_, hM, hm⟩
  unfold pathV lastS lastE
  split <;> rfl
theorem last_at (v : Value) (ns : List (List UInt8)) (d : Bool) (w : World) (hv : SG FB w v ns) (hl : ns.length ≤ 1000) : Calls Try.prog 19 #[.agg #[v, .bool d]] w (LastAt ns w) :=
  (last_ok v ns d w hv hl).mono fun _ _ h => last_tell h
theorem rlast_at (v : Value) (ns : List (List UInt8)) (d : Bool) (w : World) (hv : SG FB w v ns) (hl : ns.length ≤ 1000) : Calls Try.prog 20 #[.agg #[v, .bool d]] w (LastAt ns w) :=
  (rlast_ok v ns d w hv hl).mono fun _ _ h => last_tell h
theorem BoxP.sg {w wx : World} {b : Nat} {v : Value} {d : Bool} {ns : List (List UInt8)} (h : BoxP w b v d ns wx) : SG FB wx v ns := h.2.2.1.sg
theorem BoxP.c0 {w wx : World} {b : Nat} {v : Value} {d : Bool} {ns : List (List UInt8)} (h : BoxP w b v d ns wx) : wx.cell? ⟨b, 0, none⟩ = some v := cell_of h.1 rfl
theorem BoxP.c1 {w wx : World} {b : Nat} {v : Value} {d : Bool} {ns : List (List UInt8)} (h : BoxP w b v d ns wx) : wx.cell? ⟨b, 1, none⟩ = some (.bool d) := cell_of h.1 rfl
set_option maxHeartbeats 4000000 in
theorem awake_ok (w : World) : Calls Try.prog 12 #[] w (BK true w) := by
  go_enter Try.func12, Try.ntmps12
  go_upto_region 1 with fail
  go_wp2_with fail
  refine (parse_at _ [47, 97, 47, 47, 46, 47, 98] w rfl).mono ?_
  rintro e w1 ⟨p1, M1, c1, rfl, hM1, hm1⟩
  rw [show parseD [47, 97, 47, 47, 46, 47, 98] = false by kernel_rfl, show parseE [47, 97, 47, 47, 46, 47, 98] = 0 by kernel_rfl]
  rw [show parseN [47, 97, 47, 47, 46, 47, 98] = [[97], [98]] by kernel_rfl] at hm1 hM1
  obtain rfl : M1 = 2 := hM1
  obtain ⟨w2, b1, hw2, hb1, hB, hk⟩ := new_box false hm1
  have K1 := Lib.hid (hm1.2.2.trans hk)
  have B1 := Lib.hid hB
  clear hB hk hm1
  go_upto_region 2 with fail
  rw [← hw2, ← hb1]
  clear hw2 hb1
  go_wp2_with fail
  refine (parse_at _ [97, 47, 98, 47] w2 rfl).mono ?_
  rintro e w3 ⟨p2, M2, c2, rfl, hM2, hm2⟩
  rw [show parseD [97, 47, 98, 47] = true by kernel_rfl, show parseE [97, 47, 98, 47] = 0 by kernel_rfl]
  rw [show parseN [97, 47, 98, 47] = [[97], [98]] by kernel_rfl] at hm2 hM2
  obtain rfl : M2 = 2 := hM2
  obtain ⟨w4, b2, hw4, hb2, hB, hk⟩ := new_box true (hm2.from K1.out)
  have K2 := Lib.hid ((K1.out.trans hm2.2.2).trans hk)
  have B1a := Lib.hid (B1.out.keep (hm2.2.2.trans hk))
  have B2 := Lib.hid hB
  clear hB hk hm2 B1 K1
  go_upto_region 3 with fail
  rw [← hw4, ← hb2]
  clear hw4 hb2
  go_wp2_with fail
  refine (parse_at _ [] w4 rfl).mono ?_
  rintro e w5 ⟨p3, M3, c3, rfl, hM3, hm3⟩
  rw [show parseD [] = false by kernel_rfl, show parseE [] = 2 by kernel_rfl]
  rw [show parseN [] = [] by kernel_rfl] at hm3 hM3
  obtain rfl : M3 = 0 := hM3
  obtain ⟨w6, b3, hw6, hb3, hB, hk⟩ := new_box false (hm3.from K2.out)
  have K3 := Lib.hid ((K2.out.trans hm3.2.2).trans hk)
  have B1 := Lib.hid (B1a.out.keep (hm3.2.2.trans hk))
  have B2a := Lib.hid (B2.out.keep (hm3.2.2.trans hk))
  clear hB hk hm3 B1a B2 K2
  go_upto_region 4 with fail
  rw [← hw6, ← hb3]
  clear hw6 hb3
  have hc0 := B2a.out.c0
  have hc1 := B2a.out.c1
  go_wp2_with fail
  refine (last_at _ [[97], [98]] true w6 B2a.out.sg (by decide)).mono ?_
  rintro e w7 ⟨p4, M4, c4, rfl, hM4, hm4⟩
  rw [show lastB [[97], [98]] = true by kernel_rfl, show lastE [[97], [98]] = 0 by kernel_rfl, show lastS [[97], [98]] = [98] by kernel_rfl]
  rw [show lastN [[97], [98]] = [[97]] by kernel_rfl] at hm4 hM4
  obtain rfl : M4 = 1 := hM4
  obtain ⟨w8, b4, hw8, hb4, hB, hk⟩ := new_box true (hm4.from K3.out)
  have K4 := Lib.hid ((K3.out.trans hm4.2.2).trans hk)
  have B1a := Lib.hid (B1.out.keep (hm4.2.2.trans hk))
  have B2 := Lib.hid (B2a.out.keep (hm4.2.2.trans hk))
  have B4 := Lib.hid hB
  clear hB hk hm4 B1 B2a K3 hc0 hc1
  go_upto_region 5 with fail
  rw [← hw8, ← hb4]
  clear hw8 hb4
  have hc0 := B2.out.c0
  have hc1 := B2.out.c1
  have ha0 := B1a.out.c0
  have ha1 := B1a.out.c1
  go_wp2_with fail
  refine (join_at _ _ [[97], [98]] [[97], [98]] false true w8 B1a.out.sg B2.out.sg (by decide) (by decide)).mono ?_
  rintro e w9 ⟨p5, M5, c5, rfl, hM5, hm5⟩
  rw [show joinD [[97], [98]] false [[97], [98]] true = true by kernel_rfl, show joinE [[97], [98]] [[97], [98]] = 0 by kernel_rfl]
  rw [show joinN [[97], [98]] [[97], [98]] = [[97], [98], [97], [98]] by kernel_rfl] at hm5 hM5
  obtain rfl : M5 = 4 := hM5
  obtain ⟨wa, b5, hwa, hb5, hB, hk⟩ := new_box true (hm5.from K4.out)
  have K5 := Lib.hid ((K4.out.trans hm5.2.2).trans hk)
  have B1 := Lib.hid (B1a.out.keep (hm5.2.2.trans hk))
  have B2a := Lib.hid (B2.out.keep (hm5.2.2.trans hk))
  have B4a := Lib.hid (B4.out.keep (hm5.2.2.trans hk))
  have B5 := Lib.hid hB
  clear hB hk hm5 B1a B2 B4 K4 hc0 hc1 ha0 ha1
  go_upto_region 6 with fail
  rw [← hwa, ← hb5]
  clear hwa hb5
  have hc0 := B2a.out.c0
  have hc1 := B2a.out.c1
  have ha0 := B1.out.c0
  have ha1 := B1.out.c1
  have hd0 := B4a.out.c0
  have he0 := B5.out.c0
  have hb98 := bs_toList [98]
  go_wp2_with fail
  refine (text_ok _ [[97], [98]] true wa B2a.out.sg (by decide) (by decide)).mono ?_
  rintro e wb ⟨rfl, hkb⟩
  rw [show textL [[97], [98]] true = [47, 97, 47, 98, 47] by kernel_rfl]
  have ht := bs_toList [47, 97, 47, 98, 47]
  have KB := Lib.hid (K5.out.trans hkb)
  clear hkb
  go_wp2_with fail
  refine (name_ok ⟨#[97, 47]⟩ wb).mono ?_
  rintro e wd ⟨rfl, hwd⟩
  subst hwd
  rw [show nameF (⟨#[97, 47]⟩ : ByteArray).data.toList = 22 by kernel_rfl]
  go_wp2_with fail
  refine (less_ok ⟨#[97]⟩ ⟨#[98]⟩ wd).mono ?_
  rintro e we ⟨rfl, hwd⟩
  subst hwd
  rw [show Op.bytesLess (⟨#[97]⟩ : ByteArray).data.toList (⟨#[98]⟩ : ByteArray).data.toList = true by kernel_rfl]
  go_wp2
  (try simp only [Exit.inBlock, Exit.then])
  go_ret
  exact ⟨rfl, KB.out⟩
end Go.Proofs.Ytpfmhjokcpkliaa
