/-
  PathLast, walked.
-/
import Derived.Test.YtpfmhjokcpkliaaL21
namespace Go.V.Path
open Go Go.V Go.Proofs.Ytpfmhjokcpkliaa
theorem nameF_ok {x : List UInt8} (h : NameOk x) : nameF x = 0 := by
  obtain ⟨h1, h2, h3, h4, _⟩ := h
  unfold nameF
  rw [if_neg h1, if_neg (by omega), if_neg]
  simp [h2, h3]
theorem dir_of_none {l : List UInt8} (h : parseE l = 0) (hn : parseN l = []) : parseD l = true := by
  rw [parseD_ok h]; exact dirB_nil (by rw [← parseN_ok h]; exact hn)
theorem dir_of_up {l : List UInt8} (h : parseE l = 0) (hn : (parseN l).getLast? = some [46, 46]) : parseD l = true := by
  rw [parseD_ok h]
  unfold dirB
  by_cases h1 : lastP (partsL l) = [46]
  · simp [h1]
  · have := (namesL_last h1).1
    rw [← parseN_ok h] at this
    unfold lastP at this
    rw [List.getLastD_eq_getLast?, hn] at this
    simp only [Option.getD_some] at this
    unfold lastP
    rw [← this]
    simp
theorem last_none {l : List UInt8} (h : parseE l = 0) (hb : lastB (parseN l) = false) : (parseN l = [] ∨ (parseN l).getLast? = some [46, 46]) ∧ parseD l = true := by
  unfold lastB at hb
  cases hg : (parseN l).getLast? with
  | none =>
    have := List.getLast?_eq_none_iff.1 hg
    exact ⟨Or.inl this, dir_of_none h this⟩
  | some x =>
    rw [hg] at hb
    have hx := (names_ok (List.mem_of_getLast? hg)).2.2.2.2
    have : x = [46, 46] := by simpa [hx] using hb
    subst this
    exact ⟨Or.inr rfl, dir_of_up h hg⟩
theorem last_some {ns : List (List UInt8)} (hb : lastB ns = true) : lastN ns ++ [lastS ns] = ns ∧ lastS ns ∈ ns ∧ lastE ns = 0 := by
  have hne : ns ≠ [] := fun e => by rw [e] at hb; cases hb
  unfold lastN lastS lastE
  rw [if_pos hb, if_pos hb, if_pos hb]
  have : ns.getLastD [] = ns.getLast hne := by rw [List.getLastD_eq_getLast?, List.getLast?_eq_some_getLast hne]; rfl
  rw [this]
  exact ⟨List.dropLast_concat_getLast hne, List.getLast_mem hne, rfl⟩
end Go.V.Path
namespace Go.Proofs.Ytpfmhjokcpkliaa
open Go.RowKit Go.V Go.V.Path
theorem sg_one (w : World) (x : List UInt8) : SG FB (w.alloc (.cells #[.string (bs x)] 9)) (.slice (some ⟨w.heap.size, 0, none⟩) 1 1) [x] := by
  refine ⟨_, 1, rfl, Nat.le_refl _, by omega, fun _ => ⟨w.heap.size, 0, rfl, fun j u hu => ?_⟩⟩
  rw [Nat.zero_add]
  exact cell_of (heap_alloc w _) (by simpa [FB, Form.all] using hu)
theorem joinE_le {p q : List (List UInt8)} (h : p.length + q.length ≤ 40) : joinE p q = 0 ∧ joinN p q = p ++ q := by
  unfold joinE joinN
  rw [if_neg (by omega), if_neg (by omega)]
  exact ⟨rfl, rfl⟩
set_option maxHeartbeats 4000000 in
theorem last_any (s : ByteArray) (w : World) : Calls Try.prog 8 #[.string s] w (BK true w) := by
  obtain ⟨l, hl⟩ : ∃ l, l = s.data.toList := ⟨_, rfl⟩
  have HL := Lib.hid hl
  clear hl
  go_enter Try.func8, Try.ntmps8
  go_upto_region 1 with fail
  go_wp2_with fail
  refine (awake_ok w).mono ?_
  rintro e w0 ⟨rfl, hk0⟩
  have K0 := Lib.hid hk0
  clear hk0
  go_upto_region 3 with fail
  go_wp2_with fail
  refine (parse_at s l w0 HL.out.symm).mono ?_
  rintro e w1 ⟨p1, M1, c1, rfl, hM1, hm1⟩
  obtain ⟨D, hD⟩ : ∃ D, D = parseD l := ⟨_, rfl⟩
  obtain ⟨E, hE⟩ : ∃ E, E = parseE l := ⟨_, rfl⟩
  obtain ⟨ns, hns⟩ : ∃ ns, ns = parseN l := ⟨_, rfl⟩
  rw [← hD, ← hE]
  rw [← hns] at hm1 hM1
  have HV := Lib.hid (And.intro hD (And.intro hE hns))
  clear hD hE hns
  obtain ⟨w2, b1, hw2, hb1, hB, hk⟩ := new_box D (hm1.from K0.out)
  have K1 := Lib.hid ((K0.out.trans hm1.2.2).trans hk)
  have B1 := Lib.hid hB
  have HM1 := Lib.hid hM1
  clear hB hk hm1 hM1 K0
  go_upto_region 4 with fail
  rw [← hw2, ← hb1]
  clear hw2 hb1
  by_cases h0 : E = 0
  · subst h0
    have hc0 := B1.out.c0
    have hc1 := B1.out.c1
    have hfew : ns.length ≤ 40 := by rw [HV.out.2.2]; exact parseN_few l
    have HF := Lib.hid hfew
    clear hfew
    go_upto_region 6 with fail
    go_wp2_with fail
    refine (last_at _ ns D w2 B1.out.sg (by have := HF.out; omega)).mono ?_
    rintro e w3 ⟨p2, M2, c2, rfl, hM2, hm2⟩
    cases hlb : lastB ns with
    | false =>
      obtain ⟨hl1, hl2⟩ := last_none (l := l) HV.out.2.1.symm (by rw [← HV.out.2.2]; exact hlb)
      rw [← HV.out.2.2] at hl1
      rw [← HV.out.1] at hl2
      subst hl2
      have he : lastE ns = 16 := by unfold lastE; rw [hlb]; rfl
      have hs : lastS ns = [] := by unfold lastS; rw [hlb]; rfl
      have hn : lastN ns = [] := by unfold lastN; rw [hlb]; rfl
      rw [he, hs]
      rw [hn] at hm2 hM2
      obtain ⟨w4, b2, hw4, hb2, hB, hk⟩ := new_box false (hm2.from K1.out)
      have K2 := Lib.hid ((K1.out.trans hm2.2.2).trans hk)
      have B1a := Lib.hid (B1.out.keep (hm2.2.2.trans hk))
      have HL1 := Lib.hid hl1
      clear hB hk hm2 hM2 K1 B1 hc0 hc1 he hs hn hl1 hlb
      go_upto_region 7 with fail
      rw [← hw4, ← hb2]
      clear hw4 hb2
      have hc0 := B1a.out.c0
      have hc1 := B1a.out.c1
      by_cases hz : M1 = 0
      · subst hz
        go_wp2
        (try simp only [Exit.inBlock, Exit.then])
        go_ret
        exact ⟨rfl, K2.out⟩
      · have hup : ns[M1 - 1]? = some [46, 46] := by
          rcases HL1.out with h | h
          · exact absurd (by rw [HM1.out, h]; rfl) hz
          · rw [HM1.out, ← List.getLast?_eq_getElem?]; exact h
        have hsg := B1a.out.sg
        obtain ⟨g, o, rfl, x0⟩ := sg_str hsg hup
        have hnn : ¬ ((M1 : Int) - 1 < 0) := by omega
        have hni : (M1 : Int) - 1 = ((M1 - 1 : Nat) : Int) := by omega
        have hup2 := bs_toList [46, 46]
        have hz2 : ((M1 : Int) == 0) = false := by simpa using hz
        have hz3 : 0 < M1 := by omega
        have hM40 : M1 ≤ 40 := by rw [HM1.out]; exact HF.out
        clear hup hsg
        go_wp2
        (try simp only [Exit.inBlock, Exit.then])
        go_ret
        exact ⟨rfl, K2.out⟩
    | true =>
      obtain ⟨hj, hmem, he⟩ := last_some hlb
      rw [he]
      have hnm := nameF_ok (names_ok (l := l) (x := lastS ns) (by rw [← HV.out.2.2]; exact hmem))
      obtain ⟨X, hX⟩ : ∃ X, X = lastS ns := ⟨_, rfl⟩
      obtain ⟨I, hI⟩ : ∃ I, I = lastN ns := ⟨_, rfl⟩
      rw [← hX] at hj hnm ⊢
      rw [← hI] at hm2 hM2 hj
      have hIl : I.length + 1 ≤ 40 := by
        have := HF.out
        rw [← hj, List.length_append] at this
        exact this
      have hjj := joinE_le (p := I) (q := [X]) (by simpa using hIl)
      rw [hj] at hjj
      have hjd : joinD I true [X] D = D := by
        unfold joinD
        rw [if_neg (by simp only [List.length_singleton]; omega), if_neg (by simp)]
      have HJ := Lib.hid (And.intro hjj.1 (And.intro hjj.2 (And.intro hjd hnm)))
      obtain ⟨w4, b2, hw4, hb2, hB, hk⟩ := new_box true (hm2.from K1.out)
      have K2 := Lib.hid ((K1.out.trans hm2.2.2).trans hk)
      have B1a := Lib.hid (B1.out.keep (hm2.2.2.trans hk))
      have B2 := Lib.hid hB
      have HIL := Lib.hid hIl
      clear hB hk hm2 hM2 K1 B1 hc0 hc1 he hX hI hj hnm hIl hjj hjd hmem hlb
      go_upto_region 7 with fail
      rw [← hw4, ← hb2]
      clear hw4 hb2
      go_upto_region 9 with fail
      have hk5 : Keeps [] w4 (w4.alloc (.cells #[.string (bs X)] 9)) := (Keeps.refl _ _).alloc _
      have hd0 := B2.out.c0
      have hd1 := B2.out.c1
      have hc1 := (B1a.out.keep hk5).c1
      have K5 := Lib.hid hk5
      clear hk5
      go_wp2_with fail
      refine (join_at _ _ I [X] true D _ (B2.out.keep K5.out).sg (sg_one w4 X) (by have := HIL.out; omega) (by simp)).mono ?_
      rintro e w5 ⟨p3, M3, c3, rfl, hM3, hm3⟩
      rw [HJ.out.1, HJ.out.2.2.1]
      rw [HJ.out.2.1] at hm3 hM3
      obtain ⟨w6, b3, hw6, hb3, hB, hk⟩ := new_box D (hm3.from (K2.out.trans K5.out))
      have K6 := Lib.hid (((K2.out.trans K5.out).trans hm3.2.2).trans hk)
      have B1 := Lib.hid (B1a.out.keep (K5.out.trans (hm3.2.2.trans hk)))
      have B2a := Lib.hid (B2.out.keep (K5.out.trans (hm3.2.2.trans hk)))
      have B3 := Lib.hid hB
      clear hB hk hm3 hM3 hc1 hd0 hd1 K2 B2 B1a
      go_upto_region 10 with fail
      rw [← hw6, ← hb3]
      clear hw6 hb3
      have hc0 := B1.out.c0
      have hc1 := B1.out.c1
      have hd0 := B3.out.c0
      have hd1 := B3.out.c1
      go_wp2_with fail
      refine (same_at _ _ ns ns D D w6 B3.out.sg B1.out.sg).mono ?_
      rintro e w7 ⟨rfl, hk7⟩
      rw [sameB_self]
      have K7 := Lib.hid (K6.out.trans hk7)
      have he1 := (B2a.out.keep hk7).c1
      clear hk7 hc0 hc1 hd0 hd1
      go_wp2_with fail
      refine (name_ok (bs X) w7).mono ?_
      rintro e w8 ⟨rfl, hw8⟩
      subst hw8
      rw [bs_dataL, HJ.out.2.2.2]
      go_wp2
      (try simp only [Exit.inBlock, Exit.then])
      go_ret
      exact ⟨rfl, K7.out⟩
  · have e0 : (E == 0) = false := by simpa using h0
    go_wp2
    (try simp only [Exit.inBlock, Exit.then])
    go_ret
    exact ⟨rfl, K1.out⟩
end Go.Proofs.Ytpfmhjokcpkliaa
