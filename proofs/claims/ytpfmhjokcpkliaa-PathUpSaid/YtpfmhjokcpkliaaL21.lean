/-
  PathBack, walked.
-/
import Derived.Test.YtpfmhjokcpkliaaL18
import Derived.Test.YtpfmhjokcpkliaaL20
namespace Go.Proofs.Ytpfmhjokcpkliaa
open Go.RowKit Go.V Go.V.Path
theorem text_at (v : Value) (ns : List (List UInt8)) (d : Bool) (w : World) (hv : SG FB w v ns) (hl : ns.length ≤ 1000) (hb : tot ns ≤ 140737488354000) : Calls Try.prog 23 #[.agg #[v, .bool d]] w (SPost (textL ns d) w) :=
  text_ok v ns d w hv hl (by have := join_length ns; omega)
set_option maxHeartbeats 4000000 in
theorem back_any (s : ByteArray) (w : World) : Calls Try.prog 5 #[.string s] w (BK true w) := by
  obtain ⟨l, hl⟩ : ∃ l, l = s.data.toList := ⟨_, rfl⟩
  have HL := Lib.hid hl
  clear hl
  go_enter Try.func5, Try.ntmps5
  go_upto_region 1 with fail
  go_wp2_with fail
  refine (awake_ok w).mono ?_
  rintro e w0 ⟨rfl, hk0⟩
  have K0 := Lib.hid hk0
  clear hk0
  go_upto_region 3 with fail
  go_wp2_with fail
  refine (parse_at s l w0 HL.out.symm).mono ?_
  rintro e w1 ⟨p1, M1, c1, rfl, hM1, hm1⟩
  obtain ⟨D, hD⟩ : ∃ D, D = parseD l := ⟨_, rfl⟩
  obtain ⟨E, hE⟩ : ∃ E, E = parseE l := ⟨_, rfl⟩
  obtain ⟨ns, hns⟩ : ∃ ns, ns = parseN l := ⟨_, rfl⟩
  rw [← hD, ← hE]
  rw [← hns] at hm1 hM1
  have HV := Lib.hid (And.intro hD (And.intro hE hns))
  clear hD hE hns
  obtain ⟨w2, b1, hw2, hb1, hB, hk⟩ := new_box D (hm1.from K0.out)
  have K1 := Lib.hid ((K0.out.trans hm1.2.2).trans hk)
  have B1 := Lib.hid hB
  have HM1 := Lib.hid hM1
  clear hB hk hm1 hM1 K0
  go_upto_region 4 with fail
  rw [← hw2, ← hb1]
  clear hw2 hb1
  have hc0 := B1.out.c0
  have hc1 := B1.out.c1
  by_cases h0 : E = 0
  · subst h0
    go_upto_region 6 with fail
    go_wp2_with fail
    have hfew : ns.length ≤ 40 := by rw [HV.out.2.2]; exact parseN_few l
    have hshort : tot ns ≤ 2400 := by rw [HV.out.2.2]; exact parsed_short
    refine (text_at _ ns D w2 B1.out.sg (by omega) (by omega)).mono ?_
    rintro e w3 ⟨rfl, hk3⟩
    have hlen := textL_length ns D
    obtain ⟨T, hT⟩ : ∃ T, T = textL ns D := ⟨_, rfl⟩
    rw [← hT] at hlen ⊢
    have HT := Lib.hid hT
    have hts := bs_size T
    have K3 := Lib.hid (K1.out.trans hk3)
    have B1a := Lib.hid (B1.out.keep hk3)
    clear hT hk3 K1 B1 hc0 hc1
    go_upto_region 7 with fail
    by_cases hlong : 400 < T.length
    · have hll : (400 : Int) < (T.length : Int) := by omega
      go_wp2
      (try simp only [Exit.inBlock, Exit.then])
      go_ret
      exact ⟨rfl, K3.out⟩
    · have hll : ¬ (400 : Int) < (T.length : Int) := by omega
      have hbk : parseE T = 0 ∧ parseN T = ns ∧ parseD T = D := by
        have := back (l := l) HV.out.2.1.symm (by rw [← HV.out.1, ← HV.out.2.2, ← HT.out]; omega)
        rwa [← HV.out.1, ← HV.out.2.2, ← HT.out] at this
      have HBK := Lib.hid hbk
      clear hbk
      go_upto_region 9 with fail
      go_wp2_with fail
      refine (parse_at (bs T) T w3 (bs_dataL T)).mono ?_
      rintro e w4 ⟨p2, M2, c2, rfl, hM2, hm2⟩
      rw [HBK.out.1, HBK.out.2.2]
      rw [HBK.out.2.1] at hm2 hM2
      obtain ⟨w5, b2, hw5, hb2, hB, hk⟩ := new_box D (hm2.from K3.out)
      have K2 := Lib.hid ((K3.out.trans hm2.2.2).trans hk)
      have B1 := Lib.hid (B1a.out.keep (hm2.2.2.trans hk))
      have B2 := Lib.hid hB
      have HM2 := Lib.hid hM2
      clear hB hk hm2 hM2 K3 B1a
      go_upto_region 10 with fail
      rw [← hw5, ← hb2]
      clear hw5 hb2
      have hc0 := B1.out.c0
      have hc1 := B1.out.c1
      have hd0 := B2.out.c0
      have hd1 := B2.out.c1
      go_wp2_with fail
      refine (same_at _ _ ns ns D D w5 B1.out.sg B2.out.sg).mono ?_
      rintro e w6 ⟨rfl, hk6⟩
      rw [sameB_self]
      have K6 := Lib.hid (K2.out.trans hk6)
      have B2a := Lib.hid (B2.out.keep hk6)
      clear hk6 hc0 hc1 hd0 hd1 K2 B2
      have hd0 := B2a.out.c0
      have hd1 := B2a.out.c1
      go_wp2_with fail
      refine (text_at _ ns D w6 B2a.out.sg (by omega) (by omega)).mono ?_
      rintro e w7 ⟨rfl, hk7⟩
      rw [← HT.out]
      have K7 := Lib.hid (K6.out.trans hk7)
      clear hk7
      go_wp2
      (try simp only [Exit.inBlock, Exit.then])
      go_ret
      exact ⟨rfl, K7.out⟩
  · have e0 : (E == 0) = false := by simpa using h0
    have hD : D = false := by rw [HV.out.1]; exact parseD_bad (by rw [← HV.out.2.1]; exact h0)
    have hM : M1 = 0 := by rw [HM1.out, HV.out.2.2, parseN_bad (by rw [← HV.out.2.1]; exact h0)]; rfl
    subst hD hM
    go_wp2
    (try simp only [Exit.inBlock, Exit.then])
    go_ret
    exact ⟨rfl, K1.out⟩
end Go.Proofs.Ytpfmhjokcpkliaa
