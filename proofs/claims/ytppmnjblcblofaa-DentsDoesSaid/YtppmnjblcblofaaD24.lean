/-
  DentsDoes, walked.
-/
import Derived.Test.YtppmnjblcblofaaD23
namespace Go.V.Dents
open Go Go.V Go.V.Path
theorem good_do {l : List Ent} (h : Good l) (hs : Srt l) (x : DAct) : Good (doL l x) := by
  unfold doL
  split
  · exact good_set h hs _ _
  split
  · exact fun y hy => h y ((mem_del hs).1 hy).1
  · exact h
theorem run_len (ac : List DAct) (i : Nat) : (runL [] (ac.take i)).length ≤ i := by
  have h1 := (run_srt (ac.take i) [] Srt.nil).2
  rw [List.length_take] at h1
  simp only [List.length_nil] at h1
  omega
theorem run_play {ac : List DAct} {N K i : Nat} (hN : N = ac.length) (hK : K = min N 100) (hi : i = K) : runL [] (ac.take i) = playL ac := by
  unfold playL
  by_cases hh : 100 ≤ N
  · rw [show i = 100 by omega]
  · rw [List.take_of_length_le (l := ac) (i := i) (by omega), List.take_of_length_le (l := ac) (i := 100) (by omega)]
end Go.V.Dents
namespace Go.Proofs.Ytppmnjblcblofaa
open Go.RowKit Go.V Go.V.Path Go.V.Dents
/-- an entry's name set in the row that the call has made -/
theorem made_x {w wx : World} {p : Option Addr} {n c i : Nat} {l : List Ent} {y : Ent} (h : Made FE 37 w (.slice p n c) l wx) (hy : l[i]? = some y) :
    ∃ g, p = some ⟨g, 0, none⟩ ∧ wx.cell? ⟨g, i * 2, none⟩ = some (.string (bs y.name)) ∧ wx.frozen? ⟨g, i * 2, none⟩ = false ∧ Made FE 37 w (.slice p n c) (l.set i ⟨[120], y.ino⟩) (wx.setCell ⟨g, i * 2, none⟩ (.string ⟨#[120]⟩)) := by
  have hb : ∃ g, p = some ⟨g, 0, none⟩ := by
    obtain ⟨_, h2⟩ := id h.1
    rcases h2 with ⟨h2, h3⟩ | ⟨g, cap, cur, hv, _⟩
    · have : l = [] := List.eq_nil_of_length_eq_zero h3
      rw [this] at hy; simp at hy
    · simp only [Value.slice.injEq] at hv
      exact ⟨g, hv.1⟩
  obtain ⟨g, rfl⟩ := hb
  obtain ⟨b, o, h1, h2, _⟩ := sg_ent h.1.sg hy
  simp only [Option.some.injEq, Addr.mk.injEq] at h1
  obtain ⟨rfl, rfl, _⟩ := h1
  rw [Nat.zero_add] at h2
  obtain ⟨k1, k2⟩ := h.setc (i := i) (j := 0) (x' := ⟨[120], y.ino⟩) (u := .string ⟨#[120]⟩) hy (by decide) rfl
  exact ⟨g, rfl, h2, k2, k1⟩
set_option maxRecDepth 100000 in
set_option maxHeartbeats 64000000 in
theorem does_any (v : Value) (ac : List DAct) (t : List UInt8) (w : World) (hv : SG FA w v ac) (hsz : ∀ x ∈ ac, (bs x.name).size ≤ 9223372036854775807) (ht : (bs t).size ≤ 9223372036854775807) : Calls Try.prog 3 #[v, .string (bs t)] w (BK true w) := by
  obtain ⟨p, c, rfl, hc, hm, _⟩ := id hv
  obtain ⟨N, hN⟩ : ∃ N, N = ac.length := ⟨_, rfl⟩
  rw [← hN] at hv hc ⊢
  obtain ⟨K, hK⟩ : ∃ K, K = min N 100 := ⟨_, rfl⟩
  have hKN : K ≤ N := by omega
  have hK1 : K ≤ 100 := by omega
  have H := Lib.hid (And.intro hv (And.intro hN (And.intro hK (And.intro hsz ht))))
  clear hv hN hK hsz ht
  go_enter Try.func3, Try.ntmps3
  go_upto_region 1 with fail
  go_wp2_with fail
  refine (awake_ok w).mono ?_
  rintro e w0 ⟨rfl, hk0⟩
  have K0 := Lib.hid hk0
  clear hk0
  go_upto_region 3 with fail
  go_wp2_with fail
  refine (dnew_ok w0).mono ?_
  rintro e w1 ⟨db, rfl, hdb, hd0, hk1⟩
  have D0 : Hid (DI w db (.slice none 0 0) [] w1) := Lib.hid ⟨Nat.le_trans K0.out.size hdb, (fun g hg => by cases hg), hd0, Srt.nil, K0.out.trans hk1⟩
  clear hdb hd0 hk1
  unfold PT
  obtain ⟨w2, rb, hw2, hrb, hr2, hk2⟩ : ∃ w2 rb, w2 = w1.alloc (.cells #[.slice none 0 0] 29) ∧ rb = w1.heap.size ∧ w2.heap[rb]? = some (.cells #[.slice none 0 0] 29 (0, 0)) ∧ Keeps [] w1 w2 := ⟨_, _, rfl, rfl, heap_alloc w1 _, (Keeps.refl _ _).alloc _⟩
  have R0 : Hid (DR w db rb (.slice none 0 0) (.slice none 0 0) [] [] w2) := Lib.hid ⟨D0.out.keep hk2, by rw [hrb]; exact D0.out.2.2.2.2.size, (fun g hg => by cases hg), ⟨hr2, RowG.nil FE 37 w2⟩, (fun g hg => by cases hg)⟩
  clear hr2 hk2 D0
  go_upto_block 0 with fail
  rw [← hw2, ← hrb]
  clear hw2 hrb
  go_cut [] (fun wx => ∃ v' u', DR w db rb v' u' (playL ac) (playL ac) wx)
  case first =>
    go_wp2_with fail
    go_loopg [7] K (fun m vi wx => ∃ (i : Nat) (v' u' : Value), vi = .int .i64 i ∧ i + m = K ∧ DR w db rb v' u' (runL [] (ac.take i)) (runL [] (ac.take i)) wx)
    case atStart => exact ⟨0, _, _, rfl, by omega, R0.out⟩
    case round =>
      obtain ⟨i, v', u', rfl, hi, hd⟩ := hrel
      have hgood : Go.V.Dents.Good (runL [] (ac.take i)) := good_run _ [] Srt.nil (fun _ h => by cases h)
      have HI := Lib.hid (And.intro hi (And.intro hd (And.intro (run_len ac i) hgood)))
      clear hi hd hgood
      by_cases hlt : i < K
      · have h1 : (i : Int) < (N : Int) := by omega
        have h2 : (i : Int) < 100 := by omega
        have hiN : i < N := by omega
        obtain ⟨x, hx⟩ : ∃ x, ac[i]? = some x := ⟨_, List.getElem?_eq_getElem (by rw [← H.out.2.1]; exact hiN)⟩
        obtain ⟨b, o, rfl, hcells⟩ := sg_act H.out.1 hx
        have hnx : runL [] (ac.take (i + 1)) = doL (runL [] (ac.take i)) x := by rw [← take_snocA hx, run_snoc]
        have HNX := Lib.hid (And.intro hnx (H.out.2.2.2.1 x (List.mem_of_getElem? hx)))
        obtain ⟨x0, x1, x2⟩ := hcells wr HI.out.2.1.d.2.2.2.2
        obtain ⟨L, hL⟩ : ∃ L, L = runL [] (ac.take i) := ⟨_, rfl⟩
        obtain ⟨L', hL'⟩ : ∃ L', L' = doL L x := ⟨_, rfl⟩
        obtain ⟨wA, ab, hwA, hab, hA, hkA⟩ : ∃ wA ab, wA = wr.alloc (.cells #[.int .i64 x.kind, .string (bs x.name), .int .i64 x.ino] 31) ∧ ab = wr.heap.size ∧ AB ab x wA ∧ Keeps [] wr wA := ⟨_, _, rfl, rfl, heap_alloc wr _, (Keeps.refl _ _).alloc _⟩
        have hdA := HI.out.2.1.keep hkA
        rw [← hL] at hdA hnx
        have hLp : Srt L ∧ L.length ≤ 99 ∧ Go.V.Dents.Good L := by
          rw [hL]
          exact ⟨(run_srt _ [] Srt.nil).1, Nat.le_trans HI.out.2.2.1 (by omega), HI.out.2.2.2⟩
        have HLL := Lib.hid (And.intro hL' hLp)
        have DA := Lib.hid (And.intro hdA hA)
        have HNL := Lib.hid hnx
        have a0 := (AB.cells hA).1
        clear hcells hx hnx hL hL' hLp hdA hA hkA
        go_upto_block 2 with fail
        rw [← hwA, ← hab]
        clear hwA hab x0 x1 x2
        obtain ⟨kd, hkd⟩ : ∃ kd, kd = x.kind := ⟨_, rfl⟩
        rw [← hkd] at a0 ⊢
        have HKD := Lib.hid hkd
        clear hkd
        go_cut [] (fun wx => ∃ v' u', DR w db rb v' u' L' L' wx ∧ AB ab x wx)
        case first =>
          by_cases hk0 : kd = 0
          · subst hk0
            have hdo : L' = setL L x.name x.ino := by rw [HLL.out.1]; unfold doL; rw [if_pos HKD.out.symm]
            have HDO := Lib.hid hdo
            clear hdo a0
            obtain ⟨F, hF⟩ : ∃ F, F = setE x.name x.ino := ⟨_, rfl⟩
            have HF := Lib.hid hF
            clear hF
            go_upto_region 11 with fail
            refine vp_region_tree (fun w' => AB ab x w') (.take 0 (.take 1 (.take 2 (.take 3 (.take 4 (.take 6 (.take 7 (.take 8 (.take 9 (.take 10 (.one 5 (.one 11 (.take 12 .nil))))))))))))) (by kernel_rfl) (by kernel_rfl) (by intro _ d _ _ _ h; cases d <;> exact h) (DA.out.2.keep (Keeps.refl _ _).drew) ?_
            intro w4 hw4
            simp only [Tr.pick, List.getD_cons_zero, List.getD_cons_succ]
            have hk4 : Keeps [] wA w4 := by rw [hw4]; exact (Keeps.refl _ _).drew
            have D4 := Lib.hid (DA.out.1.keep hk4)
            have A4 := Lib.hid (DA.out.2.keep hk4)
            clear hw4 hk4
            repeat
              first
                | (refine tr_free rfl (v := ?_) ?_ ?_
                   rotate_left
                   · intro w' hw'
                     obtain ⟨x0, x1, x2⟩ := AB.cells hw'
                     go_simp
                     first | done | with_reducible rfl
                   simp only [Act.put, List.setIfInBounds_toArray, List.set_cons_zero, List.set_cons_succ])
                | (refine tr_free_g (by first | rfl | decide) (v := ?_) ?_ ?_
                   rotate_left
                   · intro w' hw'
                     obtain ⟨x0, x1, x2⟩ := AB.cells hw'
                     go_simp
                     first | done | with_reducible rfl
                   simp only [Act.put, List.setIfInBounds_toArray, List.set_cons_zero, List.set_cons_succ])
                | (refine tr_skip (by first | rfl | decide) ?_
                   simp only [Act.put, List.setIfInBounds_toArray, List.set_cons_zero, List.set_cons_succ])
            refine tr_one ?_
            go_wp2_with fail
            rename_i KK hKK
            refine (dset_ok db v' L x.name x.ino w4 D4.out.d.2.2.1 HLL.out.2.1 (by have := HLL.out.2.2.1; omega)).mono ?_
            rw [← HF.out, ← HDO.out]
            rintro e w5 ⟨rfl, hch⟩
            have A5 := Lib.hid (A4.out.chg D4.out hch)
            obtain ⟨v5, hd5⟩ := D4.out.chg (by rw [HDO.out]; exact HLL.out.2.1.set _ _) hch
            have D5 := Lib.hid hd5
            refine hKK _ _ ?_
            clear hKK hch hd5
            refine tr_next A5.out ?_
            refine tr_one ?_
            go_wp2_with fail
            rename_i KK hKK
            refine (rset_ok rb u' L x.name x.ino w5 D5.out.r HLL.out.2.1 HLL.out.2.2.2 (by have := HLL.out.2.2.1; omega) HNX.out.2).mono ?_
            rw [← HF.out, ← HDO.out]
            rintro e w6 ⟨rfl, hch⟩
            have A6 := Lib.hid (A5.out.rset D5.out hch)
            obtain ⟨u5, hd6⟩ := D5.out.rset hch
            have D6 := Lib.hid hd6
            refine hKK _ _ ?_
            clear hKK hch hd6
            refine tr_next A6.out ?_
            repeat
              first
                | (refine tr_free rfl (v := ?_) ?_ ?_
                   rotate_left
                   · intro w' hw'
                     have hff : (F == F) = true := by simp
                     go_simp
                     first | done | with_reducible rfl
                   simp only [Act.put, List.setIfInBounds_toArray, List.set_cons_zero, List.set_cons_succ])
                | (refine tr_free_g (by first | rfl | decide) (v := ?_) ?_ ?_
                   rotate_left
                   · intro w' hw'
                     have hff : (F == F) = true := by simp
                     go_simp
                     first | done | with_reducible rfl
                   simp only [Act.put, List.setIfInBounds_toArray, List.set_cons_zero, List.set_cons_succ])
                | (refine tr_skip (by first | rfl | decide) ?_
                   simp only [Act.put, List.setIfInBounds_toArray, List.set_cons_zero, List.set_cons_succ])
            refine tr_nil ?_
            have hff : (F == F) = true := by simp
            go_wp2
            go_meet
            case rel => exact ⟨_, _, D6.out, A6.out⟩
          · have e0 : (kd == 0) = false := by simpa using hk0
            by_cases hk1 : kd = 1
            · subst hk1
              have hdo : L' = delL L x.name := by rw [HLL.out.1]; unfold doL; rw [if_neg (by rw [← HKD.out]; decide), if_pos HKD.out.symm]
              have HDO := Lib.hid hdo
              obtain ⟨a0, a1, a2⟩ := AB.cells DA.out.2
              obtain ⟨G, hG⟩ : ∃ G, G = getI L x.name := ⟨_, rfl⟩
              obtain ⟨E, hE⟩ : ∃ E, E = getE L x.name := ⟨_, rfl⟩
              have HGE := Lib.hid (And.intro hG hE)
              clear hdo hk0 hG hE a0
              go_wp2_with fail
              refine (ddel_ok db v' L x.name wA DA.out.1.d.2.2.1 HLL.out.2.1 (by have := HLL.out.2.2.1; omega)).mono ?_
              rw [← HDO.out, ← HGE.out.1, ← HGE.out.2]
              rintro e w5 ⟨rfl, hch⟩
              have A5 := Lib.hid (DA.out.2.chg DA.out.1 hch)
              obtain ⟨v5, hd5⟩ := DA.out.1.chg (by rw [HDO.out]; exact HLL.out.2.1.del _) hch
              have D5 := Lib.hid hd5
              clear hch hd5 a1 a2
              obtain ⟨a0, a1, a2⟩ := AB.cells A5.out
              clear a0 a2
              go_wp2_with fail
              refine (rdel_ok rb u' L x.name w5 D5.out.r HLL.out.2.1 (by have := HLL.out.2.2.1; omega)).mono ?_
              rw [← HDO.out, ← HGE.out.1, ← HGE.out.2]
              rintro e w6 ⟨rfl, hch⟩
              have A6 := Lib.hid (A5.out.rset D5.out hch)
              obtain ⟨u5, hd6⟩ := D5.out.rset hch
              have D6 := Lib.hid hd6
              have g1 : (G == G) = true := by simp
              have g2 : (E == E) = true := by simp
              clear hch hd6 a1
              go_wp2
              go_meet
              case rel => exact ⟨_, _, D6.out, A6.out⟩
            · have e1 : (kd == 1) = false := by simpa using hk1
              have hdo : L' = L := by rw [HLL.out.1]; unfold doL; rw [if_neg (by rw [← HKD.out]; exact hk0), if_neg (by rw [← HKD.out]; exact hk1)]
              have HDO := Lib.hid hdo
              clear hdo hk0 hk1
              go_wp2
              go_meet
              case rel => exact ⟨_, _, by rw [HDO.out]; exact DA.out.1, DA.out.2⟩
        case rest =>
        obtain ⟨w3, hw3⟩ : ∃ x, x = wc := ⟨_, rfl⟩
        subst hw3
        obtain ⟨v3, u3, hd3, hA3⟩ := hcut
        have hL1 : Srt L' ∧ L'.length ≤ 100 := by
          rw [HLL.out.1]
          exact ⟨HLL.out.2.1.doA x, Nat.le_trans (length_do x) (by have := HLL.out.2.2.1; omega)⟩
        obtain ⟨pu, Mu, cu, rfl, hMu⟩ := ent_shape hd3.r.2
        have hMu1 : Mu ≤ 100 := by rw [hMu]; exact hL1.2
        have HL1 := Lib.hid (And.intro hL1.1 (And.intro hL1.2 hMu))
        have D3 := Lib.hid hd3
        have A3 := Lib.hid hA3
        obtain ⟨a0, a1, a2⟩ := AB.cells hA3
        obtain ⟨G, hG⟩ : ∃ G, G = getI L' x.name := ⟨_, rfl⟩
        obtain ⟨E, hE⟩ : ∃ E, E = getE L' x.name := ⟨_, rfl⟩
        obtain ⟨O, hO⟩ : ∃ O, O = nextO L' t := ⟨_, rfl⟩
        obtain ⟨nm, hnm⟩ : ∃ nm, nm = entN O := ⟨_, rfl⟩
        obtain ⟨ni, hni⟩ : ∃ ni, ni = entI O := ⟨_, rfl⟩
        obtain ⟨is, his⟩ : ∃ is, is = O.isSome := ⟨_, rfl⟩
        have HGE := Lib.hid (And.intro hG (And.intro hE (And.intro hO (And.intro hnm (And.intro hni his)))))
        clear hd3 hA3 hL1 hMu hG hE hO hnm hni his a0 a2
        go_wp2_with fail
        refine (dget_ok db v3 L' x.name w3 D3.out.d.2.2.1 HL1.out.1 (by have := HL1.out.2.1; omega)).mono ?_
        rw [← HGE.out.1, ← HGE.out.2.1]
        rintro e w4 ⟨rfl, hk4⟩
        have D4 := Lib.hid (D3.out.keep hk4)
        have A4 := Lib.hid (A3.out.keep hk4)
        clear hk4 a1 D3 A3
        obtain ⟨a0, a1, a2⟩ := AB.cells A4.out
        clear a0 a2
        go_wp2_with fail
        refine (rget_ok rb _ L' x.name w4 D4.out.r HL1.out.1 (by have := HL1.out.2.1; omega)).mono ?_
        rw [← HGE.out.1, ← HGE.out.2.1]
        rintro e w5 ⟨rfl, hk5⟩
        have D5 := Lib.hid (D4.out.keep hk5)
        clear hk5 a1 D4 A4
        go_wp2_with fail
        refine (dnext_ok db v3 L' t w5 D5.out.d.2.2.1 HL1.out.1 (by have := HL1.out.2.1; omega)).mono ?_
        rw [← HGE.out.2.2.1]
        rintro e w6 ⟨rfl, hk6⟩
        rw [entV_eq, ← HGE.out.2.2.2.1, ← HGE.out.2.2.2.2.1, ← HGE.out.2.2.2.2.2]
        obtain ⟨w7, nb, hw7, hnb, hb7, hk7⟩ : ∃ w7 nb, w7 = w6.alloc (.cells #[.string (bs nm), .int .i64 ni] 37) ∧ nb = w6.heap.size ∧ w7.heap[nb]? = some (.cells #[.string (bs nm), .int .i64 ni] 37 (0, 0)) ∧ Keeps [] w6 w7 := ⟨_, _, rfl, rfl, heap_alloc w6 _, (Keeps.refl _ _).alloc _⟩
        have D7 := Lib.hid (D5.out.keep (hk6.trans hk7))
        have B7 := Lib.hid hb7
        clear hk6 hk7 hb7 D5
        go_upto_region 21 with fail
        rw [← hw7, ← hnb]
        clear hw7 hnb
        go_wp2_with fail
        refine (rnext_ok rb _ L' t w7 D7.out.r HL1.out.1 (by have := HL1.out.2.1; omega) H.out.2.2.2.2).mono ?_
        rw [← HGE.out.2.2.1]
        rintro e w8 ⟨rfl, hk8⟩
        rw [entV_eq, ← HGE.out.2.2.2.1, ← HGE.out.2.2.2.2.1, ← HGE.out.2.2.2.2.2]
        obtain ⟨w9, qb, hw9, hqb, hb9, hk9⟩ : ∃ w9 qb, w9 = w8.alloc (.cells #[.string (bs nm), .int .i64 ni] 37) ∧ qb = w8.heap.size ∧ w9.heap[qb]? = some (.cells #[.string (bs nm), .int .i64 ni] 37 (0, 0)) ∧ Keeps [] w8 w9 := ⟨_, _, rfl, rfl, heap_alloc w8 _, (Keeps.refl _ _).alloc _⟩
        have D9 := Lib.hid (D7.out.keep (hk8.trans hk9))
        have hall : ∀ w', Keeps [] w9 w' → w'.cell? ⟨nb, 0, none⟩ = some (.string (bs nm)) ∧ w'.cell? ⟨nb, 1, none⟩ = some (.int .i64 ni) ∧ w'.cell? ⟨qb, 0, none⟩ = some (.string (bs nm)) ∧ w'.cell? ⟨qb, 1, none⟩ = some (.int .i64 ni) ∧ w'.cell? ⟨rb, 0, none⟩ = some (.slice pu Mu cu) := fun w' hk => by
          have b1 := (hk8.trans (hk9.trans hk)).get B7.out (by simp)
          have b2 := hk.get hb9 (by simp)
          exact ⟨cell_of b1 rfl, cell_of b1 rfl, cell_of b2 rfl, cell_of b2 rfl, (D9.out.keep hk).r.c0⟩
        have HALL := Lib.hid hall
        clear hk8 hk9 hb9 hall D7 B7
        go_upto_region 22 with fail
        rw [← hw9, ← hqb]
        clear hw9 hqb
        refine vp_region_tree (fun w' => Keeps [] w9 w') (.take 0 (.take 1 (.take 2 (.take 3 (.take 4 (.take 5 (.take 6 (.take 7 (.take 8 (.take 9 (.take 10 (.take 11 (.take 12 (.take 13 (.take 14 (.take 15 (.take 16 (.take 17 (.take 18 (.take 19 (.take 21 (.take 22 (.take 23 (.take 24 (.take 25 (.one 20 (.take 26 (.take 27 (.take 28 (.take 29 (.take 31 (.take 32 (.take 33 (.take 34 (.one 30 (.one 35 (.take 36 (.take 37 .nil)))))))))))))))))))))))))))))))))))))) (by kernel_rfl) (by kernel_rfl) (by intro _ d _ _ _ h; cases d <;> exact h) ((Keeps.refl _ _).drew) ?_
        intro w10 hw10
        simp only [Tr.pick, List.getD_cons_zero, List.getD_cons_succ]
        have hk10 : Keeps [] w9 w10 := by rw [hw10]; exact (Keeps.refl _ _).drew
        have K10 := Lib.hid hk10
        clear hw10 hk10
        repeat
          first
            | (refine tr_free rfl (v := ?_) ?_ ?_
               rotate_left
               · intro w' hw'
                 obtain ⟨x0, x1, x2, x3, x4⟩ := HALL.out w' hw'
                 have hg := guard37
                 have heq : ∀ W, (Op.equalIn 10000 37 (.agg #[.string (bs nm), .int .i64 ni]) (.agg #[.string (bs nm), .int .i64 ni])).run Try.prog W = .ok true W := fun W => by rw [ent_eq]; simp
                 have g1 : (G == G) = true := by simp
                 have g2 : (E == E) = true := by simp
                 have g3 : (is == is) = true := by simp
                 go_simp
                 first | done | with_reducible rfl
               simp only [Act.put, List.setIfInBounds_toArray, List.set_cons_zero, List.set_cons_succ])
            | (refine tr_free_g (by first | rfl | decide) (v := ?_) ?_ ?_
               rotate_left
               · intro w' hw'
                 obtain ⟨x0, x1, x2, x3, x4⟩ := HALL.out w' hw'
                 have hg := guard37
                 have heq : ∀ W, (Op.equalIn 10000 37 (.agg #[.string (bs nm), .int .i64 ni]) (.agg #[.string (bs nm), .int .i64 ni])).run Try.prog W = .ok true W := fun W => by rw [ent_eq]; simp
                 have g1 : (G == G) = true := by simp
                 have g2 : (E == E) = true := by simp
                 have g3 : (is == is) = true := by simp
                 go_simp
                 first | done | with_reducible rfl
               simp only [Act.put, List.setIfInBounds_toArray, List.set_cons_zero, List.set_cons_succ])
            | (refine tr_skip (by first | rfl | decide) ?_
               simp only [Act.put, List.setIfInBounds_toArray, List.set_cons_zero, List.set_cons_succ])
        refine tr_one ?_
        go_wp2_with fail
        rename_i KK hKK
        refine (dlen_ok db v3 L' w10 (D9.out.keep K10.out).d.2.2.1).mono ?_
        rw [← HL1.out.2.2]
        rintro e w11 ⟨rfl, hk11⟩
        have K11 := Lib.hid (K10.out.trans hk11)
        refine hKK _ _ ?_
        clear hKK hk11
        refine tr_next K11.out ?_
        repeat
          first
            | (refine tr_free rfl (v := ?_) ?_ ?_
               rotate_left
               · intro w' hw'
                 obtain ⟨x0, x1, x2, x3, x4⟩ := HALL.out w' hw'
                 have g4 : ((Mu : Int) == (Mu : Int)) = true := by simp
                 go_simp
                 first | done | with_reducible rfl
               simp only [Act.put, List.setIfInBounds_toArray, List.set_cons_zero, List.set_cons_succ])
            | (refine tr_free_g (by first | rfl | decide) (v := ?_) ?_ ?_
               rotate_left
               · intro w' hw'
                 obtain ⟨x0, x1, x2, x3, x4⟩ := HALL.out w' hw'
                 have g4 : ((Mu : Int) == (Mu : Int)) = true := by simp
                 go_simp
                 first | done | with_reducible rfl
               simp only [Act.put, List.setIfInBounds_toArray, List.set_cons_zero, List.set_cons_succ])
            | (refine tr_skip (by first | rfl | decide) ?_
               simp only [Act.put, List.setIfInBounds_toArray, List.set_cons_zero, List.set_cons_succ])
        refine tr_one ?_
        go_wp2_with fail
        rename_i KK hKK
        refine (dall_ok db v3 L' w11 (D9.out.keep K11.out).d.2.2.1 (by have := HL1.out.2.1; omega)).mono ?_
        rintro e w12 ⟨va, rfl, hma⟩
        have K12 := Lib.hid (K11.out.trans hma.2.2)
        have S12 := Lib.hid hma.1.sg
        refine hKK _ _ ?_
        clear hKK hma
        refine tr_next K12.out ?_
        refine tr_one ?_
        go_wp2_with fail
        rename_i KK hKK
        refine (same_ok va _ L' L' w12 S12.out (D9.out.keep K12.out).r.2.sg).mono ?_
        rw [show sameE L' L' = true by unfold sameE; simp]
        rintro e w13 ⟨rfl, hk13⟩
        have K13 := Lib.hid (K12.out.trans hk13)
        refine hKK _ _ ?_
        clear hKK hk13
        refine tr_next K13.out ?_
        repeat
          first
            | (refine tr_free rfl (v := ?_) ?_ ?_
               rotate_left
               · intro w' hw'
                 skip
                 go_simp
                 first | done | with_reducible rfl
               simp only [Act.put, List.setIfInBounds_toArray, List.set_cons_zero, List.set_cons_succ])
            | (refine tr_free_g (by first | rfl | decide) (v := ?_) ?_ ?_
               rotate_left
               · intro w' hw'
                 skip
                 go_simp
                 first | done | with_reducible rfl
               simp only [Act.put, List.setIfInBounds_toArray, List.set_cons_zero, List.set_cons_succ])
            | (refine tr_skip (by first | rfl | decide) ?_
               simp only [Act.put, List.setIfInBounds_toArray, List.set_cons_zero, List.set_cons_succ])
        refine tr_nil ?_
        go_wp2
        go_roundg (gk - 1)
        case measure => have := HI.out.1; omega
        case rel => exact ⟨i + 1, _, _, by push_cast; rfl, by have := HI.out.1; omega, by rw [HNL.out, ← HLL.out.1]; exact D9.out.keep K13.out⟩
      · have hiK : i = K := by have := HI.out.1; omega
        have HF := Lib.hid (run_play H.out.2.1 H.out.2.2.1 hiK)
        by_cases h1 : i < N
        · have h1' : (i : Int) < (N : Int) := by omega
          have h2 : ¬ (i : Int) < 100 := by have := H.out.2.2.1; omega
          clear hiK hlt
          go_wp2
          go_meet
          case rel => exact ⟨_, _, by rw [← HF.out]; exact HI.out.2.1⟩
        · have h1' : ¬ (i : Int) < (N : Int) := by omega
          clear hiK hlt
          go_wp2
          go_meet
          case rel => exact ⟨_, _, by rw [← HF.out]; exact HI.out.2.1⟩
  case rest =>
    obtain ⟨w3, hw3⟩ : ∃ x, x = wc := ⟨_, rfl⟩
    subst hw3
    obtain ⟨v3, u3, hd3⟩ := hcut
    have hpl := play_srt ac
    obtain ⟨L, hL⟩ : ∃ L, L = playL ac := ⟨_, rfl⟩
    rw [← hL] at hd3 hpl
    have HP := Lib.hid hpl
    obtain ⟨pu, Mu, cu, rfl, hMu⟩ := ent_shape hd3.r.2
    have D3 := Lib.hid hd3
    clear hpl hL hMu hd3
    go_wp2_with fail
    refine (dall_ok db v3 L w3 D3.out.d.2.2.1 (by have := HP.out.2; omega)).mono ?_
    rintro e w4 ⟨va, rfl, hma⟩
    obtain ⟨pa, Ma, ca, rfl, hMa⟩ := ent_shape hma.1
    have hMb : Ma ≤ 100 := by rw [hMa]; exact HP.out.2
    have HM := Lib.hid (And.intro hma hMa)
    clear hma hMa
    go_upto_block 3 with fail
    go_cut [] (fun wx => Keeps [] w3 wx)
    case first =>
      go_wp2_with fail
      go_loopg [151] Ma (fun m vi wx => ∃ (i : Nat) (l' : List Ent), vi = .int .i64 i ∧ i + m = Ma ∧ l'.length = Ma ∧ Made FE 37 w3 (.slice pa Ma ca) l' wx)
      case atStart => exact ⟨0, L, rfl, by omega, HM.out.2.symm, HM.out.1⟩
      case round =>
        obtain ⟨i, l', rfl, hi, hl', hm⟩ := hrel
        have HI := Lib.hid (And.intro hi (And.intro hl' hm))
        clear hi hl' hm
        by_cases hlt : i < Ma
        · have hii : (i : Int) < (Ma : Int) := by omega
          obtain ⟨y, hy⟩ : ∃ y, l'[i]? = some y := ⟨_, List.getElem?_eq_getElem (by rw [HI.out.2.1]; exact hlt)⟩
          obtain ⟨g, rfl, y0, z0, hmx⟩ := made_x HI.out.2.2 hy
          have HX := Lib.hid hmx
          clear hy hmx
          go_wp2
          go_roundg (gk - 1)
          case measure => have := HI.out.1; omega
          case rel => exact ⟨i + 1, _, by push_cast; rfl, by have := HI.out.1; omega, by rw [List.length_set]; exact HI.out.2.1, HX.out⟩
        · have hii : ¬ (i : Int) < (Ma : Int) := by omega
          go_wp2
          go_meet
          case rel => exact HI.out.2.2.2.2
    case rest =>
      obtain ⟨w5, hw5⟩ : ∃ x, x = wc := ⟨_, rfl⟩
      subst hw5
      have D5 := Lib.hid (D3.out.keep hcut)
      clear hcut D3 HM
      go_upto_region 30 with fail
      refine vp_region_tree (fun w' => Keeps [] w5 w') (.take 0 (.take 2 (.take 3 (.take 4 (.take 5 (.one 1 (.one 6 (.take 7 .nil)))))))) (by kernel_rfl) (by kernel_rfl) (by intro _ d _ _ _ h; cases d <;> exact h) ((Keeps.refl _ _).drew) ?_
      intro w6 hw6
      simp only [Tr.pick, List.getD_cons_zero, List.getD_cons_succ]
      have hk6 : Keeps [] w5 w6 := by rw [hw6]; exact (Keeps.refl _ _).drew
      have K6 := Lib.hid hk6
      clear hw6 hk6
      repeat
        first
          | (refine tr_free rfl (v := ?_) ?_ ?_
             rotate_left
             · intro w' hw'
               have x4 : w'.cell? ⟨rb, 0, none⟩ = some (.slice pu Mu cu) := (D5.out.keep hw').r.c0
               go_simp
               first | done | with_reducible rfl
             simp only [Act.put, List.setIfInBounds_toArray, List.set_cons_zero, List.set_cons_succ])
          | (refine tr_free_g (by first | rfl | decide) (v := ?_) ?_ ?_
             rotate_left
             · intro w' hw'
               have x4 : w'.cell? ⟨rb, 0, none⟩ = some (.slice pu Mu cu) := (D5.out.keep hw').r.c0
               go_simp
               first | done | with_reducible rfl
             simp only [Act.put, List.setIfInBounds_toArray, List.set_cons_zero, List.set_cons_succ])
          | (refine tr_skip (by first | rfl | decide) ?_
             simp only [Act.put, List.setIfInBounds_toArray, List.set_cons_zero, List.set_cons_succ])
      refine tr_one ?_
      go_wp2_with fail
      rename_i KK hKK
      refine (dall_ok db v3 L w6 (D5.out.keep K6.out).d.2.2.1 (by have := HP.out.2; omega)).mono ?_
      rintro e w7 ⟨va, rfl, hma⟩
      have K7 := Lib.hid (K6.out.trans hma.2.2)
      have S7 := Lib.hid hma.1.sg
      refine hKK _ _ ?_
      clear hKK hma
      refine tr_next K7.out ?_
      refine tr_one ?_
      go_wp2_with fail
      rename_i KK hKK
      refine (same_ok va _ L L w7 S7.out (D5.out.keep K7.out).r.2.sg).mono ?_
      rw [show sameE L L = true by unfold sameE; simp]
      rintro e w8 ⟨rfl, hk8⟩
      have K8 := Lib.hid (K7.out.trans hk8)
      refine hKK _ _ ?_
      clear hKK hk8
      refine tr_next K8.out ?_
      repeat
        first
          | (refine tr_free rfl (v := ?_) ?_ ?_
             rotate_left
             · intro w' hw'
               skip
               go_simp
               first | done | with_reducible rfl
             simp only [Act.put, List.setIfInBounds_toArray, List.set_cons_zero, List.set_cons_succ])
          | (refine tr_free_g (by first | rfl | decide) (v := ?_) ?_ ?_
             rotate_left
             · intro w' hw'
               skip
               go_simp
               first | done | with_reducible rfl
             simp only [Act.put, List.setIfInBounds_toArray, List.set_cons_zero, List.set_cons_succ])
          | (refine tr_skip (by first | rfl | decide) ?_
             simp only [Act.put, List.setIfInBounds_toArray, List.set_cons_zero, List.set_cons_succ])
      refine tr_nil ?_
      go_wp2
      (try simp only [Exit.inBlock, Exit.then])
      go_ret
      exact ⟨rfl, (D5.out.keep K8.out).d.2.2.2.2⟩
theorem does_row (v : Value) (ac : List DAct) (s : ByteArray) (w : World) (hv : SG FA w v ac) (hsz : ∀ x ∈ ac, (bs x.name).size ≤ 9223372036854775807) (hs : s.size ≤ 9223372036854775807) : Calls Try.prog 3 #[v, .string s] w (BK true w) := by
  have h := does_any v ac s.data.toList w hv hsz (by rw [bs_data]; exact hs)
  rw [bs_data] at h
  exact h
end Go.Proofs.Ytppmnjblcblofaa
