/-
  DentsOrder, walked.
-/
import Derived.Test.YtppmnjblcblofaaD15
namespace Go.V.Dents
open Go Go.V Go.V.Path
def Good (l : List Ent) : Prop := ∀ x ∈ l, nameF x.name = 0 ∧ 1 ≤ x.ino
theorem good_set {l : List Ent} (h : Good l) (hs : Srt l) (t : List UInt8) (ino : Int) : Good (setL l t ino) := by
  unfold setL
  split
  · rename_i he
    intro x hx
    rcases (mem_put hs).1 hx with rfl | ⟨hx, _⟩
    · unfold setE at he
      split at he
      · rename_i h1; exact absurd he h1
      split at he
      · cases he
      · rename_i h1 h2
        exact ⟨by simpa using h1, by simp only [not_or] at h2; show 1 ≤ ino; omega⟩
    · exact h x hx
  · exact h
theorem good_run : ∀ (ac : List DAct) (l : List Ent), Srt l → Good l → Good (runL l ac)
  | [], _, _, h => h
  | x :: ac, l, hs, h => by
    refine good_run ac (doL l x) (hs.doA x) ?_
    unfold doL
    split
    · exact good_set h hs _ _
    split
    · exact fun y hy => h y ((mem_del hs).1 hy).1
    · exact h
theorem good_play (ac : List DAct) : Good (playL ac) := good_run _ [] Srt.nil (fun _ h => by cases h)
/-- where the gone-through stands -/
def atN (l : List Ent) : Nat → List UInt8
  | 0 => []
  | k + 1 => match l[k]? with | some x => x.name | none => []
theorem next_at {l : List Ent} (hs : Srt l) (hg : Good l) {k : Nat} (hk : k ≤ l.length) : nextO l (atN l k) = l[k]? := by
  unfold nextO
  congr 1
  cases k with
  | zero =>
    have hp : pos l [] = 0 := pos_of (Nat.zero_le _) (fun j x hj => by omega) (fun j x _ _ => by unfold lt; cases x.name <;> rfl)
    have hh : has l [] = false := by
      cases hq : has l [] with
      | false => rfl
      | true =>
        obtain ⟨x, hx, hn⟩ := (hs.has_iff []).1 hq
        have := (hg x (List.mem_of_getElem? hx)).1
        rw [hn] at this; cases this
    unfold nextP
    rw [show atN l 0 = [] from rfl, hp, hh]; rfl
  | succ k =>
    obtain ⟨x, hx⟩ : ∃ x, l[k]? = some x := ⟨_, List.getElem?_eq_getElem (by omega)⟩
    have ha : atN l (k + 1) = x.name := by
      show (match l[k]? with | some x => x.name | none => []) = x.name
      rw [hx]
    have hp : pos l x.name = k := pos_of (by omega) (fun j y hj hy => hs.get hy hx hj) (fun j y hj hy => by
      rcases Nat.lt_or_ge k j with q | q
      · exact bl_asym (hs.get hx hy q)
      · have : j = k := by omega
        subst this
        rw [hx] at hy; cases hy
        exact bl_self _)
    have hh : has l x.name = true := List.any_eq_true.2 ⟨x, List.mem_of_getElem? hx, by simp⟩
    unfold nextP
    rw [ha, hp, hh]; rfl
end Go.V.Dents
namespace Go.Proofs.Ytppmnjblcblofaa
open Go.RowKit Go.V Go.V.Path Go.V.Dents
theorem take_snocE {l : List Ent} {i : Nat} {x : Ent} (h : l[i]? = some x) : l.take i ++ [x] = l.take (i + 1) := by
  rw [List.take_add_one, h]; rfl
set_option maxRecDepth 100000 in
set_option maxHeartbeats 16000000 in
theorem order_any (v : Value) (ac : List DAct) (w : World) (hv : SG FA w v ac) : Calls Try.prog 6 #[v] w (BK true w) := by
  have HV := Lib.hid hv
  clear hv
  obtain ⟨p, c, hv0, _⟩ := id HV.out
  subst hv0
  go_enter Try.func6, Try.ntmps6
  go_upto_region 1 with fail
  go_wp2_with fail
  refine (awake_ok w).mono ?_
  rintro e w0 ⟨rfl, hk0⟩
  have K0 := Lib.hid hk0
  have HV0 := Lib.hid (HV.out.keep hk0 (by simp))
  clear hk0
  go_upto_region 3 with fail
  go_wp2_with fail
  refine (play_ok _ ac w0 HV0.out).mono ?_
  rintro e w1 ⟨db, v1, rfl, hd⟩
  obtain ⟨hs, hl⟩ := play_srt ac
  have hgd := good_play ac
  obtain ⟨l, hpl⟩ : ∃ l, l = playL ac := ⟨_, rfl⟩
  rw [← hpl] at hd hs hl hgd
  have HD := Lib.hid (And.intro hd (And.intro hs (And.intro hl hgd)))
  clear hpl hd hs hl hgd
  unfold PT
  go_upto_region 4 with fail
  go_wp2_with fail
  refine (dall_ok db v1 l w1 HD.out.1.2.2.1 (by have := HD.out.2.2.1; omega)).mono ?_
  rintro e w4 ⟨va, rfl, hm⟩
  obtain ⟨pa, Ma, ca, rfl, hMa⟩ := ent_shape hm.1
  have D4 := Lib.hid (HD.out.1.keep hm.2.2)
  have HM := Lib.hid (And.intro hm.1.sg hMa)
  have hMb : Ma ≤ 100 := by rw [hMa]; exact HD.out.2.2.1
  clear hm hMa
  go_upto_block 0 with fail
  go_cut [] (fun wx => Keeps [] w4 wx)
  case first =>
    go_wp2_with fail
    go_loopg [18] Ma (fun m vi wx => ∃ i : Nat, vi = .int .i64 i ∧ i + m = Ma ∧ Keeps [] w4 wx)
    case atStart => exact ⟨0, rfl, by omega, Keeps.refl _ _⟩
    case round =>
      obtain ⟨i, rfl, hi, hk⟩ := hrel
      have HI := Lib.hid (And.intro hi hk)
      clear hi hk
      by_cases hlt : i < Ma
      · have hii : (i : Int) < (Ma : Int) := by omega
        obtain ⟨y, hy⟩ : ∃ y, l[i]? = some y := ⟨_, List.getElem?_eq_getElem (by rw [← HM.out.2]; exact hlt)⟩
        obtain ⟨g, o, rfl, _⟩ := sg_ent HM.out.1 hy
        have hall : ∀ w', Keeps [] w4 w' → w'.cell? ⟨g, o + i * 2, none⟩ = some (.string (bs y.name)) ∧ w'.cell? ⟨g, o + i * 2 + 1, none⟩ = some (.int .i64 y.ino) := fun w' hk => by
          obtain ⟨g', o', e1, a1, a2⟩ := sg_ent (HM.out.1.keep hk (by simp)) hy
          simp only [Option.some.injEq, Addr.mk.injEq] at e1
          obtain ⟨rfl, rfl, _⟩ := e1
          exact ⟨a1, a2⟩
        have HALL := Lib.hid hall
        obtain ⟨hn0, hi1⟩ := HD.out.2.2.2 y (List.mem_of_getElem? hy)
        have HINO := Lib.hid (show ¬ (y.ino < 1) by omega)
        have HN := Lib.hid (show nameF (bs y.name).data.toList = 0 by rw [bs_dataL]; exact hn0)
        have HY := Lib.hid hy
        clear hall hn0 hi1 hy
        by_cases hi0 : i = 0
        · subst hi0
          go_upto_region 8 with fail
          refine vp_region_tree (fun w' => Keeps [] w4 w') (.take 0 (.take 1 (.take 2 (.take 3 (.take 4 (.one 5 (.take 6 (.take 7 (.take 8 (.take 9 (.take 10 (.take 11 (.take 12 (.take 13 (.take 14 (.take 15 (.take 16 (.take 17 (.take 18 (.take 19 (.take 20 (.take 21 (.take 22 (.take 23 (.take 24 (.take 25 (.take 26 (.take 27 (.take 28 (.take 29 (.one 30 (.take 31 (.take 32 (.take 33 .nil)))))))))))))))))))))))))))))))))) (by kernel_rfl) (by kernel_rfl) (by intro _ d _ _ _ h; cases d <;> exact h) (HI.out.2.drew) ?_
          intro w5 hw5
          simp only [Tr.pick, List.getD_cons_zero, List.getD_cons_succ]
          have hk5 : Keeps [] w4 w5 := by rw [hw5]; exact HI.out.2.drew
          have K5 := Lib.hid hk5
          clear hw5 hk5
          repeat
            first
              | (refine tr_free rfl (v := ?_) ?_ ?_
                 rotate_left
                 · intro w' hw'
                   obtain ⟨x0, x1⟩ := HALL.out w' hw'
                   have hdec : decide (y.ino < 1) = false := decide_eq_false (by have := HINO.out; omega)
                   simp only [Nat.zero_mul, Nat.add_zero] at x0 x1
                   go_simp
                   first | done | with_reducible rfl
                 simp only [Act.put, List.setIfInBounds_toArray, List.set_cons_zero, List.set_cons_succ])
              | (refine tr_free_g (by first | rfl | decide) (v := ?_) ?_ ?_
                 rotate_left
                 · intro w' hw'
                   obtain ⟨x0, x1⟩ := HALL.out w' hw'
                   have hdec : decide (y.ino < 1) = false := decide_eq_false (by have := HINO.out; omega)
                   simp only [Nat.zero_mul, Nat.add_zero] at x0 x1
                   go_simp
                   first | done | with_reducible rfl
                 simp only [Act.put, List.setIfInBounds_toArray, List.set_cons_zero, List.set_cons_succ])
              | (refine tr_skip (by first | rfl | decide) ?_
                 simp only [Act.put, List.setIfInBounds_toArray, List.set_cons_zero, List.set_cons_succ])
          refine tr_one ?_
          go_wp2_with fail
          rename_i KK hKK
          refine (name_ok (bs y.name) w5).mono ?_
          rw [HN.out]
          rintro e w6 ⟨rfl, hw6⟩
          subst hw6
          refine hKK _ _ ?_
          clear hKK
          refine tr_next K5.out ?_
          repeat
            first
              | (refine tr_free rfl (v := ?_) ?_ ?_
                 rotate_left
                 · intro w' hw'
                   obtain ⟨x0, x1⟩ := HALL.out w' hw'
                   have hdec : decide (y.ino < 1) = false := decide_eq_false (by have := HINO.out; omega)
                   simp only [Nat.zero_mul, Nat.add_zero] at x0 x1
                   go_simp
                   first | done | with_reducible rfl
                 simp only [Act.put, List.setIfInBounds_toArray, List.set_cons_zero, List.set_cons_succ])
              | (refine tr_free_g (by first | rfl | decide) (v := ?_) ?_ ?_
                 rotate_left
                 · intro w' hw'
                   obtain ⟨x0, x1⟩ := HALL.out w' hw'
                   have hdec : decide (y.ino < 1) = false := decide_eq_false (by have := HINO.out; omega)
                   simp only [Nat.zero_mul, Nat.add_zero] at x0 x1
                   go_simp
                   first | done | with_reducible rfl
                 simp only [Act.put, List.setIfInBounds_toArray, List.set_cons_zero, List.set_cons_succ])
              | (refine tr_skip (by first | rfl | decide) ?_
                 simp only [Act.put, List.setIfInBounds_toArray, List.set_cons_zero, List.set_cons_succ])
          refine tr_one ?_
          go_wp2_with fail
          refine ⟨K5.out, ?_⟩
          repeat
            first
              | (refine tr_free rfl (v := ?_) ?_ ?_
                 rotate_left
                 · intro w' hw'
                   skip
                   go_simp
                   first | done | with_reducible rfl
                 simp only [Act.put, List.setIfInBounds_toArray, List.set_cons_zero, List.set_cons_succ])
              | (refine tr_free_g (by first | rfl | decide) (v := ?_) ?_ ?_
                 rotate_left
                 · intro w' hw'
                   skip
                   go_simp
                   first | done | with_reducible rfl
                 simp only [Act.put, List.setIfInBounds_toArray, List.set_cons_zero, List.set_cons_succ])
              | (refine tr_skip (by first | rfl | decide) ?_
                 simp only [Act.put, List.setIfInBounds_toArray, List.set_cons_zero, List.set_cons_succ])
          refine tr_nil ?_
          go_wp2
          go_roundg (gk - 1)
          case measure => have := HI.out.1; omega
          case rel => exact ⟨1, rfl, by have := HI.out.1; omega, K5.out⟩
        · obtain ⟨z, hz⟩ : ∃ z, l[i - 1]? = some z := ⟨_, List.getElem?_eq_getElem (by rw [← HM.out.2]; omega)⟩
          have hlz : Op.bytesLess (bs z.name).data.toList (bs y.name).data.toList = true := by rw [bs_dataL, bs_dataL]; exact HD.out.2.1.get hz HY.out (by omega)
          have hall2 : ∀ w', Keeps [] w4 w' → w'.cell? ⟨g, o + (i - 1) * 2, none⟩ = some (.string (bs z.name)) := fun w' hk => by
            obtain ⟨g', o', e1, a1, a2⟩ := sg_ent (HM.out.1.keep hk (by simp)) hz
            simp only [Option.some.injEq, Addr.mk.injEq] at e1
            obtain ⟨rfl, rfl, _⟩ := e1
            exact a1
          have HALL2 := Lib.hid hall2
          have HLZ := Lib.hid hlz
          have hpos : (0 : Int) < (i : Int) := by omega
          have hni : (i : Int) - 1 = ((i - 1 : Nat) : Int) := by omega
          have hnn : ¬ ((i : Int) - 1 < 0) := by omega
          have hnw : IntKind.i64.wrap ((i : Int) - 1) = ((i - 1 : Nat) : Int) := by rw [IntKind.wrap_i64]; omega
          clear hall2 hlz hz
          go_upto_region 8 with fail
          refine vp_region_tree (fun w' => Keeps [] w4 w') (.take 0 (.take 1 (.take 2 (.take 3 (.take 4 (.one 5 (.take 6 (.take 7 (.take 8 (.take 9 (.take 10 (.take 11 (.take 12 (.take 13 (.take 14 (.take 15 (.take 16 (.take 17 (.take 18 (.take 19 (.take 20 (.take 21 (.take 22 (.take 23 (.take 24 (.take 25 (.take 26 (.take 27 (.take 28 (.take 29 (.one 30 (.take 31 (.take 32 (.take 33 .nil)))))))))))))))))))))))))))))))))) (by kernel_rfl) (by kernel_rfl) (by intro _ d _ _ _ h; cases d <;> exact h) (HI.out.2.drew) ?_
          intro w5 hw5
          simp only [Tr.pick, List.getD_cons_zero, List.getD_cons_succ]
          have hk5 : Keeps [] w4 w5 := by rw [hw5]; exact HI.out.2.drew
          have K5 := Lib.hid hk5
          clear hw5 hk5
          repeat
            first
              | (refine tr_free rfl (v := ?_) ?_ ?_
                 rotate_left
                 · intro w' hw'
                   obtain ⟨x0, x1⟩ := HALL.out w' hw'
                   have hdec : decide (y.ino < 1) = false := decide_eq_false (by have := HINO.out; omega)
                   go_simp
                   first | done | with_reducible rfl
                 simp only [Act.put, List.setIfInBounds_toArray, List.set_cons_zero, List.set_cons_succ])
              | (refine tr_free_g (by first | rfl | decide) (v := ?_) ?_ ?_
                 rotate_left
                 · intro w' hw'
                   obtain ⟨x0, x1⟩ := HALL.out w' hw'
                   have hdec : decide (y.ino < 1) = false := decide_eq_false (by have := HINO.out; omega)
                   go_simp
                   first | done | with_reducible rfl
                 simp only [Act.put, List.setIfInBounds_toArray, List.set_cons_zero, List.set_cons_succ])
              | (refine tr_skip (by first | rfl | decide) ?_
                 simp only [Act.put, List.setIfInBounds_toArray, List.set_cons_zero, List.set_cons_succ])
          refine tr_one ?_
          go_wp2_with fail
          rename_i KK hKK
          refine (name_ok (bs y.name) w5).mono ?_
          rw [HN.out]
          rintro e w6 ⟨rfl, hw6⟩
          subst hw6
          refine hKK _ _ ?_
          clear hKK
          refine tr_next K5.out ?_
          repeat
            first
              | (refine tr_free rfl (v := ?_) ?_ ?_
                 rotate_left
                 · intro w' hw'
                   obtain ⟨x0, x1⟩ := HALL.out w' hw'
                   have hdec : decide (y.ino < 1) = false := decide_eq_false (by have := HINO.out; omega)
                   have z0 := HALL2.out w' hw'
                   have hpos2 : decide ((0 : Int) < (i : Int)) = true := decide_eq_true (by omega)
                   have hpos3 : decide (0 < i) = true := decide_eq_true (by omega)
                   have hpos4 : 0 < i := by omega
                   have hw : IntKind.i64.wrap ((i - 1 : Nat) : Int) = ((i - 1 : Nat) : Int) := by rw [IntKind.wrap_i64]; omega
                   have hlt3 : ((i - 1 : Nat) : Int) < (Ma : Int) := by omega
                   have hlt2 : i - 1 < Ma := by omega
                   go_simp
                   first | done | with_reducible rfl
                 simp only [Act.put, List.setIfInBounds_toArray, List.set_cons_zero, List.set_cons_succ])
              | (refine tr_free_g (by first | rfl | decide) (v := ?_) ?_ ?_
                 rotate_left
                 · intro w' hw'
                   obtain ⟨x0, x1⟩ := HALL.out w' hw'
                   have hdec : decide (y.ino < 1) = false := decide_eq_false (by have := HINO.out; omega)
                   have z0 := HALL2.out w' hw'
                   have hpos2 : decide ((0 : Int) < (i : Int)) = true := decide_eq_true (by omega)
                   have hpos3 : decide (0 < i) = true := decide_eq_true (by omega)
                   have hpos4 : 0 < i := by omega
                   have hw : IntKind.i64.wrap ((i - 1 : Nat) : Int) = ((i - 1 : Nat) : Int) := by rw [IntKind.wrap_i64]; omega
                   have hlt3 : ((i - 1 : Nat) : Int) < (Ma : Int) := by omega
                   have hlt2 : i - 1 < Ma := by omega
                   go_simp
                   first | done | with_reducible rfl
                 simp only [Act.put, List.setIfInBounds_toArray, List.set_cons_zero, List.set_cons_succ])
              | (refine tr_skip (by first | rfl | decide) ?_
                 simp only [Act.put, List.setIfInBounds_toArray, List.set_cons_zero, List.set_cons_succ])
          refine tr_one ?_
          go_wp2_with fail
          rename_i KK hKK
          refine (less_ok (bs z.name) (bs y.name) w6).mono ?_
          rw [HLZ.out]
          rintro e w7 ⟨rfl, hw7⟩
          subst hw7
          refine hKK _ _ ?_
          clear hKK
          refine tr_next K5.out ?_
          repeat
            first
              | (refine tr_free rfl (v := ?_) ?_ ?_
                 rotate_left
                 · intro w' hw'
                   skip
                   go_simp
                   first | done | with_reducible rfl
                 simp only [Act.put, List.setIfInBounds_toArray, List.set_cons_zero, List.set_cons_succ])
              | (refine tr_free_g (by first | rfl | decide) (v := ?_) ?_ ?_
                 rotate_left
                 · intro w' hw'
                   skip
                   go_simp
                   first | done | with_reducible rfl
                 simp only [Act.put, List.setIfInBounds_toArray, List.set_cons_zero, List.set_cons_succ])
              | (refine tr_skip (by first | rfl | decide) ?_
                 simp only [Act.put, List.setIfInBounds_toArray, List.set_cons_zero, List.set_cons_succ])
          refine tr_nil ?_
          go_wp2
          go_roundg (gk - 1)
          case measure => have := HI.out.1; omega
          case rel => exact ⟨i + 1, by push_cast; rfl, by have := HI.out.1; omega, K5.out⟩
      · have hii : ¬ (i : Int) < (Ma : Int) := by omega
        go_wp2
        go_meet
        case rel => exact HI.out.2
  case rest =>
    obtain ⟨w5, hw5⟩ : ∃ x, x = wc := ⟨_, rfl⟩
    subst hw5
    have D5 := Lib.hid (D4.out.keep hcut)
    have M5 := Lib.hid (HM.out.1.keep hcut (by simp))
    clear hcut D4
    go_upto_block 2 with fail
    go_cut [6] (fun vx wx => Made FE 37 w5 vx l wx)
    case first =>
      go_wp2_with fail
      go_loopg [6, 7] (Ma + 1) (fun m vx vat wx => ∃ k : Nat, k + m = Ma + 1 ∧ k ≤ Ma ∧ vat = .string (bs (atN l k)) ∧ Made FE 37 w5 vx (l.take k) wx)
      case atStart => exact ⟨0, by omega, by omega, rfl, Made.empty FE 37 w5⟩
      case round =>
        obtain ⟨k, hkm, hkM, rfl, hmk⟩ := hrel
        have HK := Lib.hid (And.intro hkm hmk)
        obtain ⟨T, hT⟩ : ∃ T, T = atN l k := ⟨_, rfl⟩
        rw [← hT]
        obtain ⟨O, hO⟩ : ∃ O, O = nextO l T := ⟨_, rfl⟩
        have hOk : O = l[k]? := by rw [hO, hT]; exact next_at HD.out.2.1 HD.out.2.2.2 (by rw [← HM.out.2]; exact hkM)
        obtain ⟨pg, cg, hvg, _, _⟩ := hmk.1.value
        obtain ⟨acc, hacc⟩ : ∃ acc, acc = l.take k := ⟨_, rfl⟩
        rw [← hacc] at hvg
        obtain ⟨P3, hP3⟩ : ∃ P3, P3 = acc.length := ⟨_, rfl⟩
        rw [← hP3] at hvg
        subst hvg
        have hP3k : P3 = k := by rw [hP3, hacc, List.length_take, ← HM.out.2]; omega
        have HO := Lib.hid (And.intro hT (And.intro hO (And.intro hOk (And.intro hacc (And.intro hP3 hP3k)))))
        have DR := Lib.hid (D5.out.keep hmk.2.2)
        clear hkm hmk hT hO hacc hP3 hP3k
        go_wp2_with fail
        refine (dnext_ok db v1 l T wr DR.out.2.2.1 HD.out.2.1 (by have := HD.out.2.2.1; omega)).mono ?_
        rw [← HO.out.2.1]
        rintro e w6 ⟨rfl, hk6⟩
        rw [entV_eq]
        cases hOv : O with
        | none =>
          have hkend : k = Ma := by
            have h1 := HO.out.2.2.1
            rw [hOv] at h1
            have := List.getElem?_eq_none_iff.1 h1.symm
            rw [← HM.out.2] at this
            omega
          have HKE := Lib.hid hkend
          have HK6 := Lib.hid (hk6.trans ((Keeps.refl [] w6).alloc (.cells #[.string (bs (entN none)), .int .i64 (entI none)] 37)))
          clear hkend hOv hOk hk6
          go_wp2
          go_meet
          case rel =>
            have h1 := HK.out.2
            rw [List.take_of_length_le (by rw [← HM.out.2, HKE.out]; exact Nat.le_refl _)] at h1
            exact h1.keep HK6.out
        | some x =>
          have hx : l[k]? = some x := by rw [← HO.out.2.2.1, hOv]
          have hkl : k < Ma := by rw [HM.out.2]; exact (List.getElem?_eq_some_iff.1 hx).1
          obtain ⟨w7, nb, hw7, hnb, hb7, hk7⟩ : ∃ w7 nb, w7 = w6.alloc (.cells #[.string (bs x.name), .int .i64 x.ino] 37) ∧ nb = w6.heap.size ∧ w7.heap[nb]? = some (.cells #[.string (bs x.name), .int .i64 x.ino] 37 (0, 0)) ∧ Keeps [] w6 w7 := ⟨_, _, rfl, rfl, heap_alloc w6 _, (Keeps.refl _ _).alloc _⟩
          have M7 := Lib.hid (HK.out.2.keep (hk6.trans hk7))
          have B7 := Lib.hid hb7
          have NB := Lib.hid (show (Value.slice pg P3 cg).ownBlock ≠ some nb from fun e => by have := (HK.out.2.keep hk6).1.lt e; omega)
          have HX := Lib.hid (And.intro hx (take_snocE hx))
          have n0 : w7.cell? ⟨nb, 0, none⟩ = some (.string (bs x.name)) := cell_of hb7 rfl
          have n1 : w7.cell? ⟨nb, 1, none⟩ = some (.int .i64 x.ino) := cell_of hb7 rfl
          clear hb7 hk6 hk7 hOv hOk hx
          unfold entN entI
          go_upto_region 15 with fail
          rw [← hw7, ← hnb]
          clear hw7 hnb
          have hka : Keeps [] w7 (w7.alloc (.cells #[.string (bs x.name), .int .i64 x.ino] 37)) := (Keeps.refl _ _).alloc _
          have M8 := Lib.hid (M7.out.keep hka)
          have B8 := Lib.hid (hka.get B7.out (by simp))
          have hP3k : P3 = k := HO.out.2.2.2.2.2
          have HACC := Lib.hid HO.out.2.2.2.1
          rw [← HACC.out] at M8
          clear hka
          go_wp2_with (first | (refine vp_append_g (F := FE) rfl (.tmp 65) (.tmp 67) 27 rfl (.agg #[.string ByteArray.empty, .int .i64 0]) 24 Try.underlying27 infoE rfl (by decide) (.slice pg P3 cg) acc rfl M8.out.1 ⟨w7.heap.size, 0, none⟩ 1 1 [x] rfl rfl (by intro j u hj; rw [add_none, Nat.zero_add]; exact cell_of (heap_alloc w7 _) (by simpa [FE, Form.all] using hj)) (by have := HO.out.2.2.2.2.1; omega) (by have := HO.out.2.2.2.2.1; omega) ?_; intro v6 w8 k1 k2 k3; have hm8 := M8.out.app k1 k2 k3; have hb8 := (keeps_grown (S := (Value.slice pg P3 cg).ownBlock.toList) k3 (fun k hk => by rw [hk]; simp)).get B8.out (fun hx => NB.out (by simpa using hx)); have n0 : w8.cell? ⟨nb, 0, none⟩ = some (.string (bs x.name)) := cell_of hb8 rfl; obtain ⟨p6, M6, c6, hv6, hM6⟩ := ent_shape k1; have hM6b : ¬ ((Ma : Int) < (M6 : Int)) := (by rw [hM6, List.length_append, List.length_singleton, ← HO.out.2.2.2.2.1]; omega); subst hv6; have HM8 := Lib.hid hm8; clear k1 k2 k3 hm8 hb8 hM6) | fail)
          go_roundg (gk - 1)
          case measure => have := HK.out.1; omega
          case rel => exact ⟨k + 1, by have := HK.out.1; omega, by omega, by
            have h1 : atN l (k + 1) = x.name := by
              show (match l[k]? with | some x => x.name | none => []) = x.name
              rw [HX.out.1]
            rw [h1], by rw [← HX.out.2, ← HACC.out]; exact HM8.out⟩
    case rest =>
      obtain ⟨pg, Mg, cg, rfl, hMg⟩ := ent_shape hcut.1
      have DZ := Lib.hid (D5.out.keep hcut.2.2)
      have S1 := Lib.hid hcut.1.sg
      have S2 := Lib.hid (M5.out.keep hcut.2.2 (by simp))
      clear hcut hMg
      go_wp2_with fail
      refine (same_ok _ _ l l _ S1.out S2.out).mono ?_
      rintro e w8 ⟨rfl, hk8⟩
      have D8 := Lib.hid (DZ.out.keep hk8)
      rw [show sameE l l = true by unfold sameE; simp]
      clear hk8 DZ S1 S2
      go_wp2_with fail
      refine (dlen_ok db v1 l w8 D8.out.2.2.1).mono ?_
      rw [← HM.out.2]
      rintro e w9 ⟨rfl, hk9⟩
      have K9 := Lib.hid (K0.out.trans (D8.out.2.2.2.2.trans hk9))
      have hee : ((Ma : Int) == (Ma : Int)) = true := by simp
      clear hk9
      go_wp2
      (try simp only [Exit.inBlock, Exit.then])
      go_ret
      exact ⟨rfl, K9.out⟩
end Go.Proofs.Ytppmnjblcblofaa
