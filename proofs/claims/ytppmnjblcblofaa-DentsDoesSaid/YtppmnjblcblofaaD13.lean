/-
  DentsLast, walked.
-/
import Derived.Test.YtppmnjblcblofaaD12
namespace Go.V.Dents
open Go Go.V Go.V.Path
theorem get_facts {l : List Ent} (h : Srt l) (a b : List UInt8) (ino : Int) :
    (setE a ino = 0 → getI (setL l a ino) a = ino ∧ getE (setL l a ino) a = 0) ∧
    (a ≠ b → getI (setL l a ino) b = getI l b ∧ getE (setL l a ino) b = getE l b) ∧
    getE (delL (setL l a ino) a) a = 2 ∧
    (a ≠ b → getI (delL (setL l a ino) a) b = getI l b ∧ getE (delL (setL l a ino) a) b = getE l b) := by
  have hs := h.set a ino
  have h2 : a ≠ b → getO (setL l a ino) b = getO l b := fun hne => by
    unfold setL
    split
    · exact get_put_other h hne ino
    · rfl
  refine ⟨fun he => ?_, fun hne => ?_, ?_, fun hne => ?_⟩
  · have h1 : getO (setL l a ino) a = some ⟨a, ino⟩ := by unfold setL; rw [if_pos he]; exact get_put_self h a ino
    exact ⟨by unfold getI; rw [h1], by unfold getE; rw [has_getO hs, h1]; rfl⟩
  · exact ⟨getI_of (h2 hne), getE_of hs h (h2 hne)⟩
  · unfold getE
    rw [has_getO (hs.del a), get_del_self hs a]; rfl
  · have h3 := (get_del_other hs hne).trans (h2 hne)
    exact ⟨getI_of h3, getE_of (hs.del a) h h3⟩
end Go.V.Dents
namespace Go.Proofs.Ytppmnjblcblofaa
open Go.RowKit Go.V Go.V.Path Go.V.Dents
set_option maxRecDepth 100000 in
set_option maxHeartbeats 16000000 in
theorem last_any (v : Value) (ac : List DAct) (a b : List UInt8) (ino : Int) (w : World) (hv : SG FA w v ac) : Calls Try.prog 4 #[v, .string (bs a), .string (bs b), .int .i64 ino] w (BK true w) := by
  have HV := Lib.hid hv
  clear hv
  have hbs : ∀ c : List UInt8, (bs c).toList = c := bs_toList
  have hba := hbs a
  have hbb := hbs b
  obtain ⟨p, c, hv0, _⟩ := id HV.out
  subst hv0
  clear hbs
  go_enter Try.func4, Try.ntmps4
  go_upto_region 1 with fail
  go_wp2_with fail
  refine (awake_ok w).mono ?_
  rintro e w0 ⟨rfl, hk0⟩
  have K0 := Lib.hid hk0
  have HV0 := Lib.hid (HV.out.keep hk0 (by simp))
  clear hk0
  go_upto_region 3 with fail
  go_wp2_with fail
  refine (play_ok _ ac w0 HV0.out).mono ?_
  rintro e w1 ⟨db, v1, rfl, hd⟩
  obtain ⟨hs, hl⟩ := play_srt ac
  obtain ⟨l, hpl⟩ : ∃ l, l = playL ac := ⟨_, rfl⟩
  rw [← hpl] at hd hs hl
  clear hpl
  have hf := get_facts hs a b ino
  obtain ⟨was, hwas⟩ : ∃ x, x = getI l b := ⟨_, rfl⟩
  obtain ⟨E0, hE0⟩ : ∃ x, x = getE l b := ⟨_, rfl⟩
  obtain ⟨F, hF⟩ : ∃ x, x = setE a ino := ⟨_, rfl⟩
  obtain ⟨l1, hl1⟩ : ∃ x, x = setL l a ino := ⟨_, rfl⟩
  rw [← hwas, ← hE0, ← hF, ← hl1] at hf
  have hs1 : Srt l1 := by rw [hl1]; exact hs.set a ino
  have hlen1 : l1.length ≤ 101 := by rw [hl1]; have := length_set a ino (l := l); omega
  obtain ⟨got, hgot⟩ : ∃ x, x = getI l1 a := ⟨_, rfl⟩
  obtain ⟨G, hG⟩ : ∃ x, x = getE l1 a := ⟨_, rfl⟩
  obtain ⟨now, hnow⟩ : ∃ x, x = getI l1 b := ⟨_, rfl⟩
  obtain ⟨Hn, hHn⟩ : ∃ x, x = getE l1 b := ⟨_, rfl⟩
  obtain ⟨l2, hl2⟩ : ∃ x, x = delL l1 a := ⟨_, rfl⟩
  have hs2 : Srt l2 := by rw [hl2]; exact hs1.del a
  have hlen2 : l2.length ≤ 101 := by rw [hl2]; exact Nat.le_trans (length_del l1 a) hlen1
  rw [← hgot, ← hG, ← hnow, ← hHn, ← hl2] at hf
  obtain ⟨now2, hnow2⟩ : ∃ x, x = getI l2 b := ⟨_, rfl⟩
  obtain ⟨H2, hH2⟩ : ∃ x, x = getE l2 b := ⟨_, rfl⟩
  rw [← hnow2, ← hH2] at hf
  have HD := Lib.hid (And.intro hd (And.intro hs (And.intro hl (And.intro hs1 (And.intro hlen1 (And.intro hs2 hlen2))))))
  have HQ := Lib.hid (And.intro hwas (And.intro hE0 (And.intro hF (And.intro hl1 (And.intro hgot (And.intro hG (And.intro hnow (And.intro hHn (And.intro hl2 (And.intro hnow2 hH2))))))))))
  have HF := Lib.hid hf
  clear hd hs hl hs1 hlen1 hs2 hlen2 hwas hE0 hF hl1 hgot hG hnow hHn hl2 hnow2 hH2 hf
  unfold PT
  go_upto_region 4 with fail
  go_wp2_with fail
  refine (dget_ok db v1 l b w1 HD.out.1.2.2.1 HD.out.2.1 (by have := HD.out.2.2.1; omega)).mono ?_
  rw [← HQ.out.1, ← HQ.out.2.1]
  rintro e w2 ⟨rfl, hk2⟩
  have D2 := Lib.hid (HD.out.1.keep hk2)
  clear hk2
  go_wp2_with fail
  refine (dset_ok db v1 l a ino w2 D2.out.2.2.1 HD.out.2.1 (by have := HD.out.2.2.1; omega)).mono ?_
  rw [← HQ.out.2.2.1, ← HQ.out.2.2.2.1]
  rintro e w3 ⟨rfl, hch⟩
  obtain ⟨v3, hd3⟩ := D2.out.chg HD.out.2.2.2.1 hch
  have D3 := Lib.hid hd3
  clear hch hd3 D2
  go_wp2_with fail
  refine (dget_ok db v3 l1 a w3 D3.out.2.2.1 HD.out.2.2.2.1 (by have := HD.out.2.2.2.2.1; omega)).mono ?_
  rw [← HQ.out.2.2.2.2.1, ← HQ.out.2.2.2.2.2.1]
  rintro e w4 ⟨rfl, hk4⟩
  have D4 := Lib.hid (D3.out.keep hk4)
  clear hk4 D3
  go_wp2_with fail
  refine (dget_ok db v3 l1 b w4 D4.out.2.2.1 HD.out.2.2.2.1 (by have := HD.out.2.2.2.2.1; omega)).mono ?_
  rw [← HQ.out.2.2.2.2.2.2.1, ← HQ.out.2.2.2.2.2.2.2.1]
  rintro e w5 ⟨rfl, hk5⟩
  have D5 := Lib.hid (D4.out.keep hk5)
  clear hk5 D4
  go_upto_region 8 with fail
  obtain ⟨f1, f2, f3, f4⟩ := HF.out
  go_cut [72] (fun vx wx => vx = .bool false ∧ wx = w5)
  case first =>
    by_cases hF0 : F = 0
    · obtain ⟨rfl, rfl⟩ := f1 hF0
      subst hF0
      clear f1 f3 f4
      by_cases hab : a = b
      · have e1 : (a == b) = true := by simpa using hab
        have e2 : (got == got) = true := by simp
        clear f2 hab
        go_wp2
        go_meet
        case rel => exact ⟨rfl, rfl⟩
      · have e1 : (a == b) = false := by simpa using hab
        obtain ⟨rfl, rfl⟩ := f2 hab
        have e2 : (got == got) = true := by simp
        have e3 : (now == now) = true := by simp
        have e4 : (Hn == Hn) = true := by simp
        clear f2 hab
        go_wp2
        go_meet
        case rel => exact ⟨rfl, rfl⟩
    · have e0 : (F == 0) = false := by simpa using hF0
      clear f1 f3 f4 hF0
      by_cases hab : a = b
      · have e1 : (a == b) = true := by simpa using hab
        clear f2 hab
        go_wp2
        go_meet
        case rel => exact ⟨rfl, rfl⟩
      · have e1 : (a == b) = false := by simpa using hab
        obtain ⟨rfl, rfl⟩ := f2 hab
        have e3 : (now == now) = true := by simp
        have e4 : (Hn == Hn) = true := by simp
        clear f2 hab
        go_wp2
        go_meet
        case rel => exact ⟨rfl, rfl⟩
  case rest =>
    obtain ⟨rfl, hwc⟩ := hcut
    subst hwc
    clear f1 f2
    go_wp2_with fail
    refine (ddel_ok db v3 l1 a _ D5.out.2.2.1 HD.out.2.2.2.1 (by have := HD.out.2.2.2.2.1; omega)).mono ?_
    rw [← HQ.out.2.2.2.2.1, ← HQ.out.2.2.2.2.2.1, ← HQ.out.2.2.2.2.2.2.2.2.1]
    rintro e w6 ⟨rfl, hch⟩
    obtain ⟨v6, hd6⟩ := D5.out.chg HD.out.2.2.2.2.2.1 hch
    have D6 := Lib.hid hd6
    clear hch hd6
    go_wp2_with fail
    refine (dget_ok db v6 l2 a w6 D6.out.2.2.1 HD.out.2.2.2.2.2.1 (by have := HD.out.2.2.2.2.2.2; omega)).mono ?_
    rw [f3]
    rintro e w7 ⟨rfl, hk7⟩
    have D7 := Lib.hid (D6.out.keep hk7)
    clear hk7 f3
    go_wp2_with fail
    refine (dget_ok db v6 l2 b w7 D7.out.2.2.1 HD.out.2.2.2.2.2.1 (by have := HD.out.2.2.2.2.2.2; omega)).mono ?_
    rw [← HQ.out.2.2.2.2.2.2.2.2.2.1, ← HQ.out.2.2.2.2.2.2.2.2.2.2]
    rintro e w8 ⟨rfl, hk8⟩
    have K8 := Lib.hid (K0.out.trans (D7.out.2.2.2.2.trans hk8))
    clear hk8
    have g1 : (got == got) = true := by simp
    have g2 : (G == G) = true := by simp
    by_cases hab : a = b
    · have e1 : (a == b) = true := by simpa using hab
      clear f4 hab
      go_wp2
      (try simp only [Exit.inBlock, Exit.then])
      go_ret
      exact ⟨rfl, K8.out⟩
    · have e1 : (a == b) = false := by simpa using hab
      obtain ⟨rfl, rfl⟩ := f4 hab
      have e3 : (now2 == now2) = true := by simp
      have e4 : (H2 == H2) = true := by simp
      clear f4 hab
      go_wp2
      (try simp only [Exit.inBlock, Exit.then])
      go_ret
      exact ⟨rfl, K8.out⟩
theorem last_row (v : Value) (ac : List DAct) (s t : ByteArray) (ino : Int) (w : World) (hv : SG FA w v ac) : Calls Try.prog 4 #[v, .string s, .string t, .int .i64 ino] w (BK true w) := by
  rw [← bs_data s, ← bs_data t]
  exact last_any v ac s.data.toList t.data.toList ino w hv
end Go.Proofs.Ytppmnjblcblofaa
