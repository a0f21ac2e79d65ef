/-
  The reference of package dents: Set, walked.
-/
import Derived.Test.YtppmnjblcblofaaD21
namespace Go.Proofs.Ytppmnjblcblofaa
open Go.RowKit Go.V Go.V.Path Go.V.Dents
def RSetD (rb : Nat) (v : Value) (l' : List Ent) (n : Int) (w : World) (x : Ending) (w' : World) : Prop := x = .returned (.int .i64 n) ∧ RSet rb v l' w w'
theorem good_size {l : List Ent} (hg : Go.V.Dents.Good l) {x : Ent} (hx : x ∈ l) : (bs x.name).size ≤ 9223372036854775807 := by
  have h := (hg x hx).1
  rw [size_len, bs_dataL]
  unfold nameF at h
  split at h
  · cases h
  split at h
  · cases h
  · omega
set_option maxRecDepth 100000 in
set_option maxHeartbeats 8000000 in
theorem rset_ok (rb : Nat) (v : Value) (l : List Ent) (t : List UInt8) (ino : Int) (w : World) (h : RAt w rb v l) (hs : Srt l) (hg : Go.V.Dents.Good l) (hl : l.length ≤ 999) (ht : (bs t).size ≤ 9223372036854775807) :
    Calls Try.prog 11 #[PT rb, .string (bs t), .int .i64 ino] w (RSetD rb v (setL l t ino) (setE t ino) w) := by
  have HA := Lib.hid (And.intro h (And.intro hs (And.intro hl (And.intro hg ht))))
  have hbt := bs_toList t
  clear h hs hl hg ht
  obtain ⟨F, hF⟩ : ∃ F, F = nameF t := ⟨_, rfl⟩
  have HF := Lib.hid hF
  clear hF
  unfold PT
  by_cases hf0 : F = 0
  · by_cases hbad : t = [46] ∨ t = [46, 46] ∨ ino < 1
    · have he : setE t ino = 22 := by unfold setE; rw [← HF.out, if_neg (by simpa using hf0), if_pos hbad]
      have hL : setL l t ino = l := by unfold setL; rw [he, if_neg (by decide)]
      rw [he, hL]
      clear he hL
      subst hf0
      go_enter Try.func11, Try.ntmps11
      go_wp2_with fail
      refine (rname_ok (bs t) w HA.out.2.2.2.2).mono ?_
      rintro e w1 ⟨rfl, hw1⟩
      subst hw1
      rw [bs_dataL, ← HF.out]
      by_cases h1 : t = [46]
      · have e1 : (t == [46]) = true := by simpa using h1
        clear hbad h1
        go_wp2
        (try simp only [Exit.inBlock, Exit.then])
        go_ret
        exact ⟨rfl, RSet.same HA.out.1 (Keeps.refl _ _)⟩
      · have e1 : (t == [46]) = false := by simpa using h1
        by_cases h2 : t = [46, 46]
        · have e2 : (t == [46, 46]) = true := by simpa using h2
          clear hbad h1 h2
          go_wp2
          (try simp only [Exit.inBlock, Exit.then])
          go_ret
          exact ⟨rfl, RSet.same HA.out.1 (Keeps.refl _ _)⟩
        · have e2 : (t == [46, 46]) = false := by simpa using h2
          have h3 : ino < 1 := by rcases hbad with q | q | q <;> first | exact absurd q h1 | exact absurd q h2 | exact q
          clear hbad h1 h2
          go_wp2
          (try simp only [Exit.inBlock, Exit.then])
          go_ret
          exact ⟨rfl, RSet.same HA.out.1 (Keeps.refl _ _)⟩
    · have he : setE t ino = 0 := by unfold setE; rw [← HF.out, if_neg (by simpa using hf0), if_neg hbad]
      have hL : setL l t ino = putL l t ino := by unfold setL; rw [he, if_pos rfl]
      rw [he, hL]
      have e1 : (t == [46]) = false := by simpa using fun e => hbad (Or.inl e)
      have e2 : (t == [46, 46]) = false := by simpa using fun e => hbad (Or.inr (Or.inl e))
      have h3 : ¬ ino < 1 := fun e => hbad (Or.inr (Or.inr e))
      clear he hL hbad
      subst hf0
      obtain ⟨p, M, c, rfl, hM⟩ := ent_shape HA.out.1.2
      have hM1 : M ≤ 999 := by rw [hM]; exact HA.out.2.2.1
      have HM := Lib.hid hM
      clear hM
      go_enter Try.func11, Try.ntmps11
      go_wp2_with fail
      refine (rname_ok (bs t) w HA.out.2.2.2.2).mono ?_
      rintro e w1 ⟨rfl, hw1⟩
      subst hw1
      rw [bs_dataL, ← HF.out]
      go_upto_block 0 with fail
      clear e1 e2 h3
      go_cut [8, 9] (fun vx vd wx => vd = .bool (!(l.all (lt t))) ∧ Made FE 37 w1 vx (accP t ⟨t, ino⟩ l) wx)
      case first =>
        go_wp2_with fail
        go_loopg [8, 9, 10] M (fun m vx vd vi wx => ∃ i : Nat, vi = .int .i64 i ∧ i + m = M ∧ vd = .bool (!((l.take i).all (lt t))) ∧ Made FE 37 w1 vx (accP t ⟨t, ino⟩ (l.take i)) wx)
        case atStart => exact ⟨0, rfl, by omega, rfl, Made.empty FE 37 w1⟩
        case round =>
          obtain ⟨i, rfl, hi, rfl, hm⟩ := hrel
          have HR := Lib.hid (HA.out.1.keep hm.2.2)
          have c0 := HR.out.c0
          have HI := Lib.hid (And.intro hi hm)
          clear hi hm
          by_cases hlt : i < M
          · have hii : (i : Int) < (M : Int) := by omega
            obtain ⟨y, hy⟩ : ∃ y, l[i]? = some y := ⟨_, List.getElem?_eq_getElem (by rw [← HM.out]; exact hlt)⟩
            obtain ⟨g, o, rfl, y0, y1⟩ := sg_ent HR.out.2.sg hy
            have HY := Lib.hid hy
            have HST := Lib.hid (acc_step HA.out.2.1 (⟨t, ino⟩ : Ent) (t := t) hy)
            have hdn : (!((l.take (i + 1)).all (lt t))) = (!((l.take i).all (lt t)) || !(lt t y)) := by
              rw [← take_snocE hy, all_snoc, Bool.not_and]
            have HDN := Lib.hid hdn
            obtain ⟨A, hA⟩ : ∃ A, A = (l.take i).all (lt t) := ⟨_, rfl⟩
            obtain ⟨B, hB⟩ : ∃ B, B = lt t y := ⟨_, rfl⟩
            obtain ⟨acc, hacc⟩ : ∃ acc, acc = accP t ⟨t, ino⟩ (l.take i) := ⟨_, rfl⟩
            obtain ⟨mid, hmid⟩ : ∃ mid, mid = midP t ⟨t, ino⟩ (l.take i) y := ⟨_, rfl⟩
            have hmidv : mid = if A = true ∧ B = false then acc ++ [⟨t, ino⟩] else acc := by rw [hmid, hA, hB, hacc]; rfl
            have hal : acc.length ≤ 1000 := by
              rw [hacc]
              refine Nat.le_trans (len_acc _ _ _) ?_
              rw [List.length_take]
              omega
            have hml : mid.length ≤ 1001 := by
              rw [hmidv]
              split
              · rw [List.length_append, List.length_singleton]; omega
              · omega
            rw [← hA, ← hB] at hdn
            rw [← hA]
            have HL := Lib.hid (And.intro hA (And.intro hB (And.intro hacc (And.intro hmid (And.intro hmidv hdn)))))
            clear hy hdn HDN hA hB hacc hmid hmidv
            obtain ⟨C, hC⟩ : ∃ C, C = (A && !B) := ⟨_, rfl⟩
            have HC := Lib.hid hC
            clear hC
            go_upto_region 11 with fail
            go_cut [50] (fun vb wx => vb = .bool C ∧ Keeps [] wr wx)
            case first =>
              cases A with
              | true =>
                go_wp2_with fail
                refine (rless_ok (bs y.name) (bs t) wr (good_size HA.out.2.2.2.1 (List.mem_of_getElem? HY.out))).mono ?_
                rw [bs_dataL, bs_dataL, show Op.bytesLess y.name t = B from HL.out.2.1.symm]
                rintro e w2 ⟨rfl, hk2⟩
                have K2 := Lib.hid hk2
                clear hk2
                go_wp2
                go_meet
                case rel => exact ⟨by rw [HC.out]; rfl, K2.out⟩
              | false =>
                go_wp2
                go_meet
                case rel => exact ⟨by rw [HC.out]; rfl, Keeps.refl _ _⟩
            case rest =>
            obtain ⟨w2, hw2⟩ : ∃ x, x = wc := ⟨_, rfl⟩
            subst hw2
            obtain ⟨rfl, hk2⟩ := hcut
            have R2 := Lib.hid (HR.out.keep hk2)
            have hm2 := HI.out.2.keep hk2
            rw [← HL.out.2.2.1] at hm2
            have M2 := Lib.hid hm2
            clear c0 y0 y1 hk2 hm2
            go_upto_if 50 with fail
            go_cut [8, 9] (fun vx vd wx => vd = .bool (!A || !B) ∧ Made FE 37 w1 vx mid wx)
            case first =>
              cases C with
              | true =>
                have hab : A = true ∧ B = false := by simpa using HC.out.symm
                have HM2 := Lib.hid (show mid = acc ++ [⟨t, ino⟩] by rw [HL.out.2.2.2.2.1, if_pos hab])
                have M8 := Lib.hid (M2.out.keep ((Keeps.refl [] w2).alloc (.cells #[.string (bs t), .int .i64 ino] 37)))
                have HAB := Lib.hid hab
                clear hab
                go_wp2_with (first | (refine vp_append_g (F := FE) rfl (.tmp 51) (.tmp 55) 27 rfl (.agg #[.string ByteArray.empty, .int .i64 0]) 24 Try.underlying27 infoE rfl (by decide) _ acc rfl M8.out.1 ⟨w2.heap.size, 0, none⟩ 1 1 [⟨t, ino⟩] rfl rfl (by intro j u hj; rw [add_none, Nat.zero_add]; exact cell_of (heap_alloc w2 _) (by simpa [FE, Form.all] using hj)) (by omega) (by omega) ?_; intro v6 w8 k1 k2 k3; have HM8 := Lib.hid (M8.out.app k1 k2 k3); clear k1 k2 k3) | fail)
                go_meet
                case rel => exact ⟨by rw [HAB.out.1, HAB.out.2]; rfl, by rw [HM2.out]; exact HM8.out⟩
              | false =>
                have hab : ¬ (A = true ∧ B = false) := fun q => by have := HC.out; rw [q.1, q.2] at this; cases this
                have HM2 := Lib.hid (show mid = acc by rw [HL.out.2.2.2.2.1, if_neg hab])
                have hd : (!A) = (!A || !B) := by
                  have := HC.out
                  cases A <;> cases B <;> first | rfl | exact absurd ⟨rfl, rfl⟩ hab
                have HD := Lib.hid hd
                clear hab hd
                go_wp2
                go_meet
                case rel => exact ⟨by rw [← HD.out], by rw [HM2.out]; exact M2.out⟩
            case rest =>
              obtain ⟨w3, hw3⟩ : ∃ x, x = wc := ⟨_, rfl⟩
              subst hw3
              obtain ⟨rfl, hm3⟩ := hcut
              have M3 := Lib.hid hm3
              have R3 := Lib.hid (HA.out.1.keep hm3.2.2)
              have c0 := R3.out.c0
              have hby := bs_toList y.name
              obtain ⟨g', o', e1, y0, y1⟩ := sg_ent R3.out.2.sg HY.out
              simp only [Option.some.injEq, Addr.mk.injEq, and_true] at e1
              obtain ⟨rfl, rfl⟩ := e1
              clear hm3
              by_cases hn : y.name = t
              · have e1 : (y.name == t) = true := by simpa using hn
                have HN := Lib.hid hn
                clear hn
                go_wp2
                go_roundg (gk - 1)
                case measure => have := HI.out.1; omega
                case rel => exact ⟨i + 1, by push_cast; rfl, by have := HI.out.1; omega, by rw [← take_snocE HY.out, all_snoc, Bool.not_and, ← HL.out.1, ← HL.out.2.1], by rw [HST.out, if_pos HN.out, ← HL.out.2.2.2.1]; exact M3.out⟩
              · have e1 : (y.name == t) = false := by simpa using hn
                have HN := Lib.hid hn
                have M8 := Lib.hid (M3.out.keep ((Keeps.refl [] w3).alloc (.cells #[.string (bs y.name), .int .i64 y.ino] 37)))
                clear hn
                go_wp2_with (first | (refine vp_append_g (F := FE) rfl (.tmp 67) (.tmp 75) 27 rfl (.agg #[.string ByteArray.empty, .int .i64 0]) 24 Try.underlying27 infoE rfl (by decide) _ mid rfl M8.out.1 ⟨w3.heap.size, 0, none⟩ 1 1 [y] rfl rfl (by intro j u hj; rw [add_none, Nat.zero_add]; exact cell_of (heap_alloc w3 _) (by simpa [FE, Form.all] using hj)) (by omega) (by omega) ?_; intro v6 w8 k1 k2 k3; have HM8 := Lib.hid (M8.out.app k1 k2 k3); clear k1 k2 k3) | fail)
                go_roundg (gk - 1)
                case measure => have := HI.out.1; omega
                case rel => exact ⟨i + 1, by push_cast; rfl, by have := HI.out.1; omega, by rw [← take_snocE HY.out, all_snoc, Bool.not_and, ← HL.out.1, ← HL.out.2.1], by rw [HST.out, if_neg HN.out, ← HL.out.2.2.2.1]; exact HM8.out⟩
          · have hii : ¬ (i : Int) < (M : Int) := by omega
            have hiM : M ≤ i := by omega
            have HK := Lib.hid hiM
            clear hiM
            go_wp2
            go_meet
            case rel =>
              have := HI.out.2
              have ht := List.take_of_length_le (l := l) (i := i) (by rw [← HM.out]; exact HK.out)
              rw [ht] at this
              exact ⟨by rw [ht], this⟩
      case rest =>
        obtain ⟨w2, hw2⟩ : ∃ x, x = wc := ⟨_, rfl⟩
        subst hw2
        obtain ⟨rfl, hm⟩ := hcut
        have HE := Lib.hid (acc_end HA.out.2.1 t ino)
        have hal : (accP t ⟨t, ino⟩ l).length ≤ 1000 := Nat.le_trans (len_acc _ _ _) (by rw [← HM.out]; omega)
        obtain ⟨acc, hacc⟩ : ∃ acc, acc = accP t ⟨t, ino⟩ l := ⟨_, rfl⟩
        rw [← hacc] at hm hal HE
        obtain ⟨A, hA⟩ : ∃ A, A = l.all (lt t) := ⟨_, rfl⟩
        rw [← hA] at HE ⊢
        have M2 := Lib.hid hm
        clear hm hacc hA
        cases A with
        | false =>
          obtain ⟨pg, Mg, cg, rfl, hMg⟩ := ent_shape M2.out.1
          obtain ⟨z0, d0, hset⟩ := RSet.made HA.out.1 M2.out
          have HS := Lib.hid hset
          clear hset hMg
          go_wp2
          (try simp only [Exit.inBlock, Exit.then])
          go_ret
          exact ⟨rfl, by have h1 := HE.out; rw [if_neg (by decide)] at h1; rw [← h1]; exact HS.out⟩
        | true =>
          have M8 := Lib.hid (M2.out.keep ((Keeps.refl [] w2).alloc (.cells #[.string (bs t), .int .i64 ino] 37)))
          go_wp2_with (first | (refine vp_append_g (F := FE) rfl (.tmp 79) (.tmp 83) 27 rfl (.agg #[.string ByteArray.empty, .int .i64 0]) 24 Try.underlying27 infoE rfl (by decide) _ acc rfl M8.out.1 ⟨w2.heap.size, 0, none⟩ 1 1 [⟨t, ino⟩] rfl rfl (by intro j u hj; rw [add_none, Nat.zero_add]; exact cell_of (heap_alloc w2 _) (by simpa [FE, Form.all] using hj)) (by omega) (by omega) ?_; intro v6 w8 k1 k2 k3; have HM8 := Lib.hid (M8.out.app k1 k2 k3); obtain ⟨p6, M6, c6, hv6, hM6⟩ := ent_shape k1; obtain ⟨z0, d0, hset⟩ := RSet.made HA.out.1 HM8.out; subst hv6; have HS := Lib.hid hset; clear k1 k2 k3 hset hM6) | fail)
          (try simp only [Exit.inBlock, Exit.then])
          go_ret
          exact ⟨rfl, by have h1 := HE.out; rw [if_pos trivial] at h1; rw [← h1]; exact HS.out⟩
  · have he : setE t ino = F := by unfold setE; rw [← HF.out, if_pos hf0]
    have hL : setL l t ino = l := by unfold setL; rw [he, if_neg hf0]
    have e0 : (F == 0) = false := by simpa using hf0
    rw [he, hL]
    clear he hL hf0
    go_enter Try.func11, Try.ntmps11
    go_wp2_with fail
    refine (rname_ok (bs t) w HA.out.2.2.2.2).mono ?_
    rintro e w1 ⟨rfl, hw1⟩
    subst hw1
    rw [bs_dataL, ← HF.out]
    go_wp2
    (try simp only [Exit.inBlock, Exit.then])
    go_ret
    exact ⟨rfl, RSet.same HA.out.1 (Keeps.refl _ _)⟩
end Go.Proofs.Ytppmnjblcblofaa
