/-
  PathNames, walked.
-/
import Derived.Test.YtpfmhjokcpkliaaL23
namespace Go.V.Path
open Go Go.V Go.Proofs.Ytpfmhjokcpkliaa
theorem nameF_zero {l : List UInt8} (h : nameF l = 0) : l ≠ [] ∧ l.length ≤ 60 ∧ 0 ∉ l ∧ 47 ∉ l := by
  unfold nameF at h
  split at h
  · cases h
  split at h
  · cases h
  split at h
  · cases h
  rename_i h1 h2 h3
  simp only [Bool.or_eq_true, List.contains_iff_mem, not_or] at h3
  exact ⟨h1, by omega, h3.1, h3.2⟩
/-- a name alone is a path of it -/
theorem name_path {l : List UInt8} (h : nameF l = 0) (hd : l ≠ [46]) : parseE l = 0 ∧ parseN l = [l] ∧ parseD l = (l == [46, 46]) := by
  obtain ⟨h1, h2, h3, h4⟩ := nameF_zero h
  have hp := partsL_plain h4 h1
  have hn : namesL [l] = [l] := namesL_self (fun x hx => by obtain rfl := List.mem_singleton.1 hx; exact hd)
  have hE : parseE l = 0 := (parseE_cases l).2 ⟨h1, by omega, h3, fun x hx => by rw [hp] at hx; obtain rfl := List.mem_singleton.1 hx; exact h2, by rw [hp, hn]; simp⟩
  refine ⟨hE, by rw [parseN_ok hE, hp, hn], ?_⟩
  rw [parseD_ok hE]
  unfold dirB
  rw [hp]
  have e1 : (l.getLastD 0 == 47) = false := by
    rw [List.getLastD_eq_getLast?, List.getLast?_eq_some_getLast h1, beq_eq_false_iff_ne]
    intro e
    exact h4 (by rw [← e]; exact List.getLast_mem h1)
  have e2 : (l == [46]) = false := by simpa using hd
  rw [e1]
  rw [show lastP [l] = l from rfl, e2]; rfl
end Go.V.Path
namespace Go.Proofs.Ytpfmhjokcpkliaa
open Go.RowKit Go.V Go.V.Path
set_option maxHeartbeats 4000000 in
theorem names_any (s : ByteArray) (w : World) : Calls Try.prog 7 #[.string s] w (BK true w) := by
  obtain ⟨l, hl⟩ : ∃ l, l = s.data.toList := ⟨_, rfl⟩
  have HL := Lib.hid hl
  clear hl
  go_enter Try.func7, Try.ntmps7
  go_upto_region 1 with fail
  go_wp2_with fail
  refine (awake_ok w).mono ?_
  rintro e w0 ⟨rfl, hk0⟩
  have K0 := Lib.hid hk0
  clear hk0
  go_upto_region 3 with fail
  go_wp2_with fail
  refine (parse_at s l w0 HL.out.symm).mono ?_
  rintro e w1 ⟨p1, M1, c1, rfl, hM1, hm1⟩
  obtain ⟨D, hD⟩ : ∃ D, D = parseD l := ⟨_, rfl⟩
  obtain ⟨E, hE⟩ : ∃ E, E = parseE l := ⟨_, rfl⟩
  obtain ⟨ns, hns⟩ : ∃ ns, ns = parseN l := ⟨_, rfl⟩
  rw [← hD, ← hE]
  rw [← hns] at hm1 hM1
  have HV := Lib.hid (And.intro hD (And.intro hE hns))
  clear hD hE hns
  obtain ⟨w2, b1, hw2, hb1, hB, hk⟩ := new_box D (hm1.from K0.out)
  have K1 := Lib.hid ((K0.out.trans hm1.2.2).trans hk)
  have B1 := Lib.hid hB
  have HM1 := Lib.hid hM1
  clear hB hk hm1 hM1 K0
  go_upto_region 4 with fail
  rw [← hw2, ← hb1]
  clear hw2 hb1
  have hc0 := B1.out.c0
  have hc1 := B1.out.c1
  have hM40 : M1 ≤ 40 := by rw [HM1.out, HV.out.2.2]; exact parseN_few l
  go_upto_block 0 with fail
  go_cut [] (fun wx => wx = w2)
  case first =>
    go_wp2_with fail
    go_loopg [16] M1 (fun m vi wx => ∃ (i : Nat), vi = .int .i64 i ∧ i + m = M1 ∧ wx = w2)
    case atStart => exact ⟨0, rfl, by omega, rfl⟩
    case round =>
      obtain ⟨i, rfl, hi, hww⟩ := hrel
      subst wr
      have HI := Lib.hid hi
      clear hi
      by_cases hlt : i < M1
      · have hii : (i : Int) < (M1 : Int) := by omega
        obtain ⟨x, hx⟩ : ∃ x, ns[i]? = some x := ⟨_, List.getElem?_eq_getElem (by rw [← HM1.out]; exact hlt)⟩
        have hok := names_ok (l := l) (by rw [← HV.out.2.2]; exact List.mem_of_getElem? hx)
        obtain ⟨g, o, rfl, x0⟩ := sg_str B1.out.sg hx
        have h46 : (x == [46]) = false := by simpa using hok.2.2.2.2
        have hxt := bs_toList x
        have HN := Lib.hid (nameF_ok hok)
        clear hx hok
        go_wp2_with fail
        refine (name_ok (bs x) w2).mono ?_
        rintro e w3 ⟨rfl, hw3⟩
        subst hw3
        rw [bs_dataL, HN.out]
        go_wp2
        go_roundg (gk - 1)
        case measure => have := HI.out; omega
        case rel => exact ⟨i + 1, by push_cast; rfl, by have := HI.out; omega, rfl⟩
      · have hii : ¬ (i : Int) < (M1 : Int) := by omega
        go_wp2
        go_meet
        case rel => rfl
  case rest =>
    subst hcut
    go_upto_region 10 with fail
    go_wp2_with fail
    refine (name_ok s wc).mono ?_
    rintro e w3 ⟨rfl, hw3⟩
    subst hw3
    rw [← HL.out]
    obtain ⟨F, hF⟩ : ∃ F, F = nameF l := ⟨_, rfl⟩
    rw [← hF]
    have HF := Lib.hid hF
    clear hF
    by_cases hf0 : F = 0
    · subst hf0
      by_cases hdot : l = [46]
      · have hd2 : (s.toList == [46]) = true := by rw [Lib.toList_data, ← HL.out, hdot]; rfl
        go_wp2
        (try simp only [Exit.inBlock, Exit.then])
        go_ret
        exact ⟨rfl, K1.out⟩
      · have hd2 : (s.toList == [46]) = false := by rw [Lib.toList_data, ← HL.out, beq_eq_false_iff_ne]; exact hdot
        obtain ⟨q1, q2, q3⟩ := name_path HF.out.symm hdot
        rw [← HV.out.2.1] at q1
        rw [← HV.out.2.2] at q2
        rw [← HV.out.1] at q3
        subst q1
        have hone : M1 = 1 := by rw [HM1.out, q2]; rfl
        subst hone
        obtain ⟨g, o, rfl, x0⟩ := sg_str B1.out.sg (i := 0) (x := l) (by rw [q2]; rfl)
        have hxt := bs_toList l
        have hst : s.toList = l := by rw [Lib.toList_data, ← HL.out]
        have hbl : bs l = s := by rw [HL.out, bs_data]
        rw [hbl] at x0
        have hdd : (s.toList == [46, 46]) = D := by rw [hst, q3]
        have hDD : (D == D) = true := by simp
        have hss : (s.toList == s.toList) = true := by simp
        rw [Nat.add_zero] at x0
        clear q2 q3 hxt hst hbl hdot
        go_wp2
        (try simp only [Exit.inBlock, Exit.then])
        go_ret
        exact ⟨rfl, K1.out⟩
    · have e0 : (F == 0) = false := by simpa using hf0
      go_wp2
      (try simp only [Exit.inBlock, Exit.then])
      go_ret
      exact ⟨rfl, K1.out⟩
end Go.Proofs.Ytpfmhjokcpkliaa
