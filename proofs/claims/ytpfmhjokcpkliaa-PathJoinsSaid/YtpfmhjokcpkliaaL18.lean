/-
  PathParses, walked.
-/
import Derived.Test.YtpfmhjokcpkliaaL17
namespace Go.Proofs.Ytpfmhjokcpkliaa
open Go.RowKit Go.V Go.V.Path
theorem same_at (v1 v2 : Value) (n1 n2 : List (List UInt8)) (d1 d2 : Bool) (w : World) (h1 : SG FB w v1 n1) (h2 : SG FB w v2 n2) :
    Calls Try.prog 15 #[.agg #[v1, .bool d1], .agg #[v2, .bool d2]] w (BK (sameB d1 d2 n1 n2) w) := same_ok v1 v2 n1 n2 d1 d2 w h1 h2
theorem sameB_self (d : Bool) (n : List (List UInt8)) : sameB d d n n = true := by unfold sameB; simp
set_option maxHeartbeats 4000000 in
theorem parses_any (s : ByteArray) (w : World) (hs : s.size ≤ 4611686018427387904) : Calls Try.prog 3 #[.string s] w (BK true w) := by
  obtain ⟨l, hl⟩ : ∃ l, l = s.data.toList := ⟨_, rfl⟩
  have HL := Lib.hid hl
  have HS := Lib.hid hs
  clear hl hs
  go_enter Try.func3, Try.ntmps3
  go_upto_region 1 with fail
  go_wp2_with fail
  refine (awake_ok w).mono ?_
  rintro e w0 ⟨rfl, hk0⟩
  have K0 := Lib.hid hk0
  clear hk0
  go_upto_region 3 with fail
  go_wp2_with fail
  refine (parse_at s l w0 HL.out.symm).mono ?_
  rintro e w1 ⟨p1, M1, c1, rfl, hM1, hm1⟩
  obtain ⟨D, hD⟩ : ∃ D, D = parseD l := ⟨_, rfl⟩
  obtain ⟨E, hE⟩ : ∃ E, E = parseE l := ⟨_, rfl⟩
  obtain ⟨ns, hns⟩ : ∃ ns, ns = parseN l := ⟨_, rfl⟩
  rw [← hD, ← hE]
  rw [← hns] at hm1 hM1
  have HV := Lib.hid (And.intro hD (And.intro hE hns))
  clear hD hE hns
  obtain ⟨w2, b1, hw2, hb1, hB, hk⟩ := new_box D (hm1.from K0.out)
  have K1 := Lib.hid ((K0.out.trans hm1.2.2).trans hk)
  have B1 := Lib.hid hB
  have HM1 := Lib.hid hM1
  clear hB hk hm1 hM1 K0
  go_upto_region 4 with fail
  rw [← hw2, ← hb1]
  clear hw2 hb1
  go_wp2_with fail
  refine (rparse_at s l w2 HL.out.symm HS.out).mono ?_
  rintro e w3 ⟨p2, M2, c2, rfl, hM2, hm2⟩
  rw [← HV.out.1, ← HV.out.2.1]
  rw [← HV.out.2.2] at hm2 hM2
  obtain ⟨w4, b2, hw4, hb2, hB, hk⟩ := new_box D (hm2.from K1.out)
  have K2 := Lib.hid ((K1.out.trans hm2.2.2).trans hk)
  have B1a := Lib.hid (B1.out.keep (hm2.2.2.trans hk))
  have B2 := Lib.hid hB
  have HM2 := Lib.hid hM2
  clear hB hk hm2 hM2 K1 B1
  go_upto_region 5 with fail
  rw [← hw4, ← hb2]
  clear hw4 hb2
  have hc0 := B1a.out.c0
  have hc1 := B1a.out.c1
  have hd0 := B2.out.c0
  have hd1 := B2.out.c1
  go_wp2_with fail
  refine (same_at _ _ ns ns D D w4 B1a.out.sg B2.out.sg).mono ?_
  rintro e w5 ⟨rfl, hk5⟩
  rw [sameB_self]
  have K5 := Lib.hid (K2.out.trans hk5)
  clear hk5
  have hEE : (E == E) = true := by simp
  go_wp2_with fail
  refine (name_ok s w5).mono ?_
  rintro e w6 ⟨rfl, hw6⟩
  subst hw6
  rw [← HL.out]
  obtain ⟨F, hF⟩ : ∃ F, F = nameF l := ⟨_, rfl⟩
  rw [← hF]
  have HF := Lib.hid hF
  clear hF
  go_wp2_with fail
  refine (rname_ok s w6 HS.out).mono ?_
  rintro e w7 ⟨rfl, hw7⟩
  subst hw7
  rw [← HL.out, ← HF.out]
  have hFF : (F == F) = true := by simp
  go_wp2
  (try simp only [Exit.inBlock, Exit.then])
  go_ret
  exact ⟨rfl, K5.out⟩
end Go.Proofs.Ytpfmhjokcpkliaa
