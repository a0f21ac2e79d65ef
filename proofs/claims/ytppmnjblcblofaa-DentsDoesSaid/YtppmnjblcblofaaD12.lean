/-
  Package veneerlaw04: play, walked.
-/
import Derived.Test.YtppmnjblcblofaaD11
namespace Go.Proofs.Ytppmnjblcblofaa
open Go.RowKit Go.V Go.V.Path Go.V.Dents
theorem sg_act {w : World} {p : Option Addr} {n c : Nat} {l : List DAct} (h : SG FA w (.slice p n c) l) {i : Nat} {x : DAct} (hx : l[i]? = some x) :
    ∃ b o, p = some ⟨b, o, none⟩ ∧ ∀ w', Keeps [] w w' → w'.cell? ⟨b, o + i * 3, none⟩ = some (.int .i64 x.kind) ∧ w'.cell? ⟨b, o + i * 3 + 1, none⟩ = some (.string (bs x.name)) ∧ w'.cell? ⟨b, o + i * 3 + 2, none⟩ = some (.int .i64 x.ino) := by
  obtain ⟨b, o, c', hv⟩ := h.shape (by have := (List.getElem?_eq_some_iff.1 hx).1; omega)
  simp only [Value.slice.injEq] at hv
  obtain ⟨rfl, h2, h3⟩ := hv
  refine ⟨b, o, rfl, fun w' hk => ?_⟩
  have h' := h.keep hk (by simp)
  exact ⟨h'.item rfl hx (j := 0) (u := .int .i64 x.kind) rfl, h'.item rfl hx (j := 1) (u := .string (bs x.name)) rfl, h'.item rfl hx (j := 2) (u := .int .i64 x.ino) rfl⟩
theorem take_snocA {l : List DAct} {i : Nat} {x : DAct} (h : l[i]? = some x) : l.take i ++ [x] = l.take (i + 1) := by
  rw [List.take_add_one, h]; rfl
def PlayD (ac : List DAct) (w : World) (e : Ending) (w' : World) : Prop := ∃ db v, e = .returned (PT db) ∧ DI w db v (playL ac) w'
set_option maxHeartbeats 8000000 in
theorem play_ok (v : Value) (ac : List DAct) (w : World) (hv : SG FA w v ac) : Calls Try.prog 21 #[v] w (PlayD ac w) := by
  obtain ⟨p, c, rfl, hc, hm, _⟩ := id hv
  obtain ⟨N, hN⟩ : ∃ N, N = ac.length := ⟨_, rfl⟩
  rw [← hN] at hv hc ⊢
  obtain ⟨K, hK⟩ : ∃ K, K = min N 100 := ⟨_, rfl⟩
  have hKN : K ≤ N := by omega
  have hK1 : K ≤ 100 := by omega
  have H := Lib.hid (And.intro hv (And.intro hN hK))
  clear hv hN hK
  go_enter Try.func21, Try.ntmps21
  go_wp2_with fail
  refine (dnew_ok w).mono ?_
  rintro e w1 ⟨db, rfl, hdb, hd0, hk0⟩
  have D0 : Hid (DI w db (.slice none 0 0) [] w1) := Lib.hid ⟨hdb, (fun g hg => by cases hg), hd0, Srt.nil, hk0⟩
  clear hdb hd0 hk0
  unfold PT
  go_upto_block 0 with fail
  go_cut [] (fun wx => ∃ v', DI w db v' (playL ac) wx)
  case first =>
    go_wp2_with fail
    go_loopg [4] K (fun m vi wx => ∃ (i : Nat) (v' : Value), vi = .int .i64 i ∧ i + m = K ∧ DI w db v' (runL [] (ac.take i)) wx)
    case atStart => exact ⟨0, _, rfl, by omega, D0.out⟩
    case round =>
      obtain ⟨i, v', rfl, hi, hd⟩ := hrel
      have hlen : (runL [] (ac.take i)).length ≤ 100 := by
        have h1 := (run_srt (ac.take i) [] Srt.nil).2
        rw [List.length_take] at h1
        simp only [List.length_nil] at h1
        omega
      have HI := Lib.hid (And.intro hi (And.intro hd hlen))
      clear hi hd hlen
      by_cases hlt : i < K
      · have h1 : (i : Int) < (N : Int) := by omega
        have h2 : (i : Int) < 100 := by omega
        have hiN : i < N := by omega
        obtain ⟨x, hx⟩ : ∃ x, ac[i]? = some x := ⟨_, List.getElem?_eq_getElem (by rw [← H.out.2.1]; exact hiN)⟩
        obtain ⟨b, o, rfl, hcells⟩ := sg_act H.out.1 hx
        have HC := Lib.hid hcells
        have hnx : runL [] (ac.take (i + 1)) = doL (runL [] (ac.take i)) x := by rw [← take_snocA hx, run_snoc]
        have HNX := Lib.hid hnx
        obtain ⟨x0, x1, x2⟩ := hcells wr HI.out.2.1.2.2.2.2
        clear hcells hx hnx
        obtain ⟨kd, hkd⟩ : ∃ kd, kd = x.kind := ⟨_, rfl⟩
        rw [← hkd] at x0
        have HKD := Lib.hid hkd
        clear hkd
        by_cases hk0 : kd = 0
        · subst hk0
          have hdo : doL (runL [] (ac.take i)) x = setL (runL [] (ac.take i)) x.name x.ino := by unfold doL; rw [if_pos HKD.out.symm]
          go_upto_region 7 with fail
          clear x0 x1 x2
          refine vp_region_tree (fun w' => Keeps [] w w') (.take 0 (.take 1 (.take 2 (.take 3 (.take 4 (.take 5 (.take 6 (.take 7 (.take 8 (.take 9 (.take 10 (.one 11 .nil)))))))))))) (by kernel_rfl) (by kernel_rfl) (by intro _ d _ _ _ h; cases d <;> exact h) (HI.out.2.1.2.2.2.2.drew) ?_
          intro w4 hw4
          simp only [Tr.pick, List.getD_cons_zero, List.getD_cons_succ]
          repeat
            refine tr_free rfl (v := ?_) ?_ ?_
            rotate_left
            · intro w' hw'
              obtain ⟨x0, x1, x2⟩ := HC.out w' hw'
              go_simp
              first | done | with_reducible rfl
            simp only [Act.put, List.setIfInBounds_toArray, List.set_cons_zero, List.set_cons_succ]
          have hk4 : Keeps [] wr w4 := by rw [hw4]; exact (Keeps.refl _ _).drew
          have D4 := Lib.hid (HI.out.2.1.keep hk4)
          clear hw4 hk4
          refine tr_one ?_
          go_wp2_with fail
          rename_i KK hKK
          refine (dset_ok db v' _ x.name x.ino w4 D4.out.2.2.1 D4.out.2.2.2.1 (by have := HI.out.2.2; omega)).mono ?_
          rintro e w5 ⟨rfl, hch⟩
          obtain ⟨v5, hd5⟩ := D4.out.chg (D4.out.2.2.2.1.set _ _) hch
          rw [← hdo, ← HNX.out] at hd5
          have D5 := Lib.hid hd5
          refine hKK _ _ ?_
          clear hKK hch hd5 hdo
          refine tr_next D5.out.2.2.2.2 ?_
          refine tr_nil ?_
          go_wp2
          go_roundg (gk - 1)
          case measure => have := HI.out.1; omega
          case rel => exact ⟨i + 1, v5, by push_cast; rfl, by have := HI.out.1; omega, D5.out⟩
        · have e0 : (kd == 0) = false := by simpa using hk0
          by_cases hk1 : kd = 1
          · subst hk1
            have hdo : doL (runL [] (ac.take i)) x = delL (runL [] (ac.take i)) x.name := by unfold doL; rw [if_neg (by rw [← HKD.out]; decide), if_pos HKD.out.symm]
            have HD0 := Lib.hid hdo
            clear hdo hk0
            go_wp2_with fail
            refine (ddel_ok db v' _ x.name wr HI.out.2.1.2.2.1 HI.out.2.1.2.2.2.1 (by have := HI.out.2.2; omega)).mono ?_
            rintro e w5 ⟨rfl, hch⟩
            obtain ⟨v5, hd5⟩ := HI.out.2.1.chg (HI.out.2.1.2.2.2.1.del _) hch
            rw [← HD0.out, ← HNX.out] at hd5
            have D5 := Lib.hid hd5
            clear hch hd5 x0 x1 x2
            go_wp2
            go_roundg (gk - 1)
            case measure => have := HI.out.1; omega
            case rel => exact ⟨i + 1, v5, by push_cast; rfl, by have := HI.out.1; omega, D5.out⟩
          · have e1 : (kd == 1) = false := by simpa using hk1
            have hdo : doL (runL [] (ac.take i)) x = runL [] (ac.take i) := by unfold doL; rw [if_neg (by rw [← HKD.out]; exact hk0), if_neg (by rw [← HKD.out]; exact hk1)]
            have HD0 := Lib.hid hdo
            clear hdo hk0 hk1
            go_wp2
            go_roundg (gk - 1)
            case measure => have := HI.out.1; omega
            case rel => exact ⟨i + 1, v', by push_cast; rfl, by have := HI.out.1; omega, by rw [HNX.out, HD0.out]; exact HI.out.2.1⟩
      · have hfin : runL [] (ac.take i) = playL ac := by
          unfold playL
          have hk := H.out.2.2
          have hn := H.out.2.1
          have hiK := HI.out.1
          by_cases hh : 100 ≤ N
          · rw [show i = 100 by omega]
          · rw [List.take_of_length_le (l := ac) (i := i) (by omega), List.take_of_length_le (l := ac) (i := 100) (by omega)]
        have HF := Lib.hid hfin
        clear hfin
        have hiK : i = K := by have := HI.out.1; omega
        by_cases h1 : i < N
        · have h1' : (i : Int) < (N : Int) := by omega
          have h2 : ¬ (i : Int) < 100 := by have := H.out.2.2; omega
          clear hiK hlt
          go_wp2
          go_meet
          case rel => exact ⟨v', by rw [← HF.out]; exact HI.out.2.1⟩
        · have h1' : ¬ (i : Int) < (N : Int) := by omega
          clear hiK hlt
          go_wp2
          go_meet
          case rel => exact ⟨v', by rw [← HF.out]; exact HI.out.2.1⟩
  case rest =>
    obtain ⟨v', hd⟩ := hcut
    have HD := Lib.hid hd
    clear hd
    go_wp2
    go_ret
    exact ⟨_, _, rfl, HD.out⟩
end Go.Proofs.Ytppmnjblcblofaa
