import Derived.Test.YthkeahjcokbaaaaB18
namespace Go.Proofs.Ythkeahjcokbaaaa
open Go.RowKit Go.V Go.V.Block

def L4 (ab sb : Nat) (ad : Ad) (room : Int) (n : Nat) (W : World) (k : Nat) (v : Value) (wx : World) : Prop :=
  ∃ (i : Nat) (used : Int) (st : Bo), v = .int .i64 i ∧ i ≤ n ∧ n - i ≤ k ∧ S4 ab sb ad room used st W wx

def SA (b j : Nat) (x : ActV) (ab kk kb : Nat) (w : World) : Prop :=
  w.cell? ⟨b, j, none⟩ = some (.int .i64 x.kind) ∧ w.cell? ⟨b, j + 1, none⟩ = some (.int .i64 x.who) ∧ w.cell? ⟨b, j + 2, none⟩ = some (.int .i64 x.off) ∧ w.cell? ⟨b, j + 3, none⟩ = some (.int .i64 x.n) ∧
    w.cell? ⟨b, j + 4, none⟩ = some x.b ∧ w.cell? ⟨ab, kk, none⟩ = some (.pointer (some ⟨kb, 0, none⟩))
theorem SA.of {b j : Nat} {x : ActV} {ab kk kb : Nat} {w : World} (h : w.rangeAt b j x.cells) (hc : w.cell? ⟨ab, kk, none⟩ = some (ptrV kb)) : SA b j x ab kk kb w :=
  ⟨h 0 _ rfl, h 1 _ rfl, h 2 _ rfl, h 3 _ rfl, h 4 _ rfl, hc⟩
def psum (st : Bo) : Nat → Int
  | 0 => 0
  | j + 1 => psum st j + ((st j).2.length : Int)
theorem psum_four (st : Bo) : psum st 4 = total st := by simp only [psum, total]; omega
theorem psum_le (st : Bo) : ∀ j, j ≤ 4 → 0 ≤ psum st j ∧ psum st j ≤ total st := by
  intro j hj
  have : j = 0 ∨ j = 1 ∨ j = 2 ∨ j = 3 ∨ j = 4 := by omega
  rcases this with rfl | rfl | rfl | rfl | rfl <;> simp only [psum, total] <;> omega
def P4 (ab sb : Nat) (ad : Ad) (room used : Int) (st : Bo) (W : World) (k : Nat) (v t : Value) (wx : World) : Prop :=
  ∃ j : Nat, v = .int .i64 j ∧ j ≤ 4 ∧ 4 - j ≤ k ∧ t = .int .i64 (psum st j) ∧ S4 ab sb ad room used st W wx
def F4 (ab sb : Nat) (ad : Ad) (room : Int) (W : World) (k : Nat) (v : Value) (wx : World) : Prop :=
  ∃ (j : Nat) (used : Int) (st : Bo), v = .int .i64 j ∧ j ≤ 4 ∧ 4 - j ≤ k ∧ S4 ab sb ad room used st W wx ∧ ∀ i, i < j → (st i).2.length = 0
def E4 (ab sb : Nat) (ad : Ad) (room : Int) (W wx : World) : Prop := ∃ (used : Int) (st : Bo), S4 ab sb ad room used st W wx

set_option maxRecDepth 100000 in
set_option maxHeartbeats 2000000 in
theorem room_any (room : Int) (A : Value) (acts : List ActV) (W : World) (hA : SliceOf 5 ActOk W A acts) :
    Calls Try.prog 5 #[.int .i64 room, A] W (Tells (.bool true) W) := by
  obtain ⟨p, cap, rfl, hcap, hc, hr⟩ := hA
  obtain ⟨n, hn⟩ : ∃ n, n = acts.length := ⟨_, rfl⟩
  have HR := Lib.hid hr
  have HN := Lib.hid hn
  rw [← hn] at hcap ⊢
  clear hr hn
  by_cases hroom : room < 0 ∨ 65536 < room
  · by_cases h0 : room < 0
    · go_enter Try.func5, Try.ntmps5
      go_wp2_with fail
      refine (awake_any _).mono ?_
      rintro e w1 ⟨rfl, hk1⟩
      go_wp2_with fail
      refine (new_bad room _ hroom).mono ?_
      rintro e w2 ⟨rfl, rfl⟩
      go_wp2
      go_ret
      exact ⟨by simp, hk1⟩
    · have h1 : 65536 < room := by omega
      go_enter Try.func5, Try.ntmps5
      go_wp2_with fail
      refine (awake_any _).mono ?_
      rintro e w1 ⟨rfl, hk1⟩
      go_wp2_with fail
      refine (new_bad room _ hroom).mono ?_
      rintro e w2 ⟨rfl, rfl⟩
      go_wp2
      go_ret
      exact ⟨by simp, hk1⟩
  · obtain ⟨hr0, hr1⟩ : 0 ≤ room ∧ room ≤ 65536 := by omega
    clear hroom
    go_enter Try.func5, Try.ntmps5
    go_wp2_with fail
    refine (awake_any _).mono ?_
    rintro e w1 ⟨rfl, hk1⟩
    go_wp2_with fail
    refine (new_any room _ hr0 hr1).mono ?_
    rintro e w2 ⟨sb, hsb, rfl, hs2, hk2⟩
    have hl2 := hs2.lt
    have hz1 := hk1.size
    have hz2 := hk2.size
    go_wp2_with fail
    refine (body_any _ _).mono ?_
    rintro e w3 ⟨b0, m0, hb0, hm0, rfl, p0, hk3⟩
    have hl3 := p0.lt
    have hz3 := hk3.size
    have hn3 := p0.ne
    go_wp2_with fail
    refine (body_any _ _).mono ?_
    rintro e w4 ⟨b1, m1, hb1, hm1, rfl, p1, hk4⟩
    have hl4 := p1.lt
    have hz4 := hk4.size
    have hn4 := p1.ne
    go_wp2_with fail
    refine (body_any _ _).mono ?_
    rintro e w5 ⟨b2, m2, hb2, hm2, rfl, p2, hk5⟩
    have hl5 := p2.lt
    have hz5 := hk5.size
    have hn5 := p2.ne
    go_wp2_with fail
    refine (body_any _ _).mono ?_
    rintro e w6 ⟨b3, m3, hb3, hm3, rfl, p3, hk6⟩
    have hl6 := p3.lt
    have hz6 := hk6.size
    have hn6 := p3.ne
    have q0 := ((p0.keep hk4 (by simp) (by simp)).keep hk5 (by simp) (by simp)).keep hk6 (by simp) (by simp)
    have q1 := (p1.keep hk5 (by simp) (by simp)).keep hk6 (by simp) (by simp)
    have q2 := p2.keep hk6 (by simp) (by simp)
    have qs := (((hs2.keep hk3 (by simp)).keep hk4 (by simp)).keep hk5 (by simp)).keep hk6 (by simp)
    have hkW := ((((hk1.trans hk2).trans hk3).trans hk4).trans hk5).trans hk6
    go_upto_region 7 with fail
    obtain ⟨ad, hsep, hst⟩ := four_start (W := W) (w6 := w6) (sb := sb) (z2 := w2.heap.size) (z3 := w3.heap.size) (z4 := w4.heap.size) (z5 := w5.heap.size) (by omega) hl2 ⟨hb0, hm0, hl3.1, hl3.2, hn3⟩ ⟨hb1, hm1, hl4.1, hl4.2, hn4⟩ ⟨hb2, hm2, hl5.1, hl5.2, hn5⟩ ⟨hb3, hm3, hl6.1, hl6.2, hn6⟩ q0 q1 q2 p3 qs hr0 hkW
    obtain ⟨w7, hw7⟩ : ∃ w7, w7 = w6.alloc (.cells #[.pointer (some ⟨b0, 0, none⟩), .pointer (some ⟨b1, 0, none⟩), .pointer (some ⟨b2, 0, none⟩), .pointer (some ⟨b3, 0, none⟩)] 42) := ⟨_, rfl⟩
    obtain ⟨ab, hab⟩ : ∃ ab, ab = w6.heap.size := ⟨_, rfl⟩
    have hst : S4 ab sb ad room 0 (fun _ => (0, [])) W w7 := by rw [hab, hw7]; exact hst
    rw [← hab] at hsep
    rw [← hw7, ← hab]
    have HST := Lib.hid hst
    have HSEP := Lib.hid hsep
    clear hst hsep hw7 hab hl2 hz1 hz2 hl3 hz3 hn3 hl4 hz4 hn4 hl5 hz5 hn5 hl6 hz6 hn6 q0 q1 q2 qs hkW p0 p1 p2 p3 hk1 hk2 hk3 hk4 hk5 hk6 hs2 hsb hb0 hm0 hb1 hm1 hb2 hm2 hb3 hm3
    go_upto_block 0 with fail
    go_cut [7] (fun _ wx => E4 ab sb ad room W wx)
    case first =>
      go_wp2_with fail
      go_loopg [7] n (fun k v wx => L4 ab sb ad room n W k v wx)
      case atStart => exact ⟨0, 0, fun _ => (0, []), rfl, by omega, by omega, HST.out⟩
      case round =>
        obtain ⟨i, used, st, rfl, hin, hk, hst⟩ := hrel
        have HS := Lib.hid hst
        clear hst
        by_cases hlt : i < n ∧ i < 60
        · obtain ⟨hi1, hi2⟩ := hlt
          obtain ⟨x, hx⟩ : ∃ x, acts[i]? = some x := ⟨_, List.getElem?_eq_getElem (by rw [← HN.out]; exact hi1)⟩
          obtain ⟨b, o, rfl, hb, he⟩ := HR.out (by rw [← HN.out]; omega)
          obtain ⟨cs, hcs, hra, hok⟩ := he i x hx
          obtain rfl := hok.1
          have hkW := HS.out.2.2.2.2.2
          have hra1 := hra.keep hkW (by simp)
          have hok1 := actOk_keep hok hkW (by simp)
          have HX := Lib.hid (And.intro hra1 (And.intro hok1 (And.intro hok hb)))
          clear hra1 hok1 hok hb hkW he hx hra hcs
          have c0 : wr.cell? ⟨b, o + i * 5, none⟩ = some (.int .i64 x.kind) := HX.out.1 0 _ rfl
          have c1 : wr.cell? ⟨b, o + i * 5 + 1, none⟩ = some (.int .i64 x.who) := HX.out.1 1 _ rfl
          have c2 : wr.cell? ⟨b, o + i * 5 + 2, none⟩ = some (.int .i64 x.off) := HX.out.1 2 _ rfl
          have c3 : wr.cell? ⟨b, o + i * 5 + 3, none⟩ = some (.int .i64 x.n) := HX.out.1 3 _ rfl
          have c4 : wr.cell? ⟨b, o + i * 5 + 4, none⟩ = some x.b := HX.out.1 4 _ rfl
          go_wp2_with fail
          refine (large_ok x wr HX.out.2.1).mono ?_
          obtain ⟨lb, hlb⟩ : ∃ lb, lb = largeB x := ⟨_, rfl⟩
          rw [← hlb]
          clear hlb
          rintro e w5 ⟨rfl, hk5⟩
          have HK5 := Lib.hid hk5
          clear hk5 c0 c1 c2 c3 c4
          cases lb with
          | true =>
            go_wp2
            go_ret
            exact ⟨rfl, HS.out.2.2.2.2.2.trans HK5.out⟩
          | false =>
            have HX5 := Lib.hid (And.intro (HX.out.1.keep HK5.out (by simp)) (And.intro (actOk_keep HX.out.2.1 HK5.out (by simp)) HX.out.2.2))
            have HS5 := Lib.hid (HS.out.keep HK5.out)
            clear HX HS HK5
            obtain ⟨kk, hkk⟩ : ∃ kk : Nat, bits .and .i64 x.who 3 = (kk : Int) := ⟨(x.who % 4).toNat, by rw [i64_and3]; omega⟩
            have hk4 : kk < 4 := by rw [i64_and3] at hkk; omega
            go_upto_region 12 with fail
            refine vp_region (SA b (o + i * 5) x ab kk (ad kk).1) [(0, true), (1, true), (2, true), (3, true), (4, true), (5, true), (6, true), (7, true), (8, true), (9, true), (10, true), (11, true), (12, true), (13, false)] (by kernel_rfl) (by kernel_rfl) (by intro _ d _ _ _ h; cases d <;> exact h) (SA.of HX5.out.1 (HS5.out.cell hk4)) ?_
            intro w6 hw6
            simp only [pick, List.map_cons, List.map_nil, List.getD_cons_zero, List.getD_cons_succ]
            repeat
              refine ord_free rfl (v := ?_) ?_ ?_
              rotate_left
              · intro w' hw'
                obtain ⟨c0, c1, c2, c3, c4, c5⟩ := hw'
                go_simp
                first | with_reducible rfl | rw [if_pos (show (kk : Int) < 4 by omega)]
              simp only [Act.put, List.setIfInBounds_toArray, List.set_cons_zero, List.set_cons_succ]
            subst hw6
            refine ord_eff ?_
            go_wp2_with fail
            rename_i KK hKK
            obtain ⟨n1, n2, n3, n4, n5⟩ := HSEP.out
            obtain ⟨d1, d2, d3, d4, d5, d6, d7⟩ := n4 kk hk4
            obtain ⟨s1, s2, s3, s4, s5, s6⟩ := HS5.out
            have hle := le_total st kk hk4
            refine (play_any sb (ad kk).1 (ad kk).2 room ⟨used, (st kk).1, (st kk).2⟩ x w5.drew s2 (s3 kk hk4).1 (Ne.symm d5) (s3 kk hk4).2.1.2.1 (by show ((st kk).2.length : Int) ≤ used; omega) s5 hr1 HX5.out.2.1 ?_).mono ?_
            · intro h0 y hy e
              have := HX5.out.2.2.1.2.2.2.2.2.2.2 h0 y e
              simp at hy
              omega
            · rintro e w6 ⟨rfl, q1, q2, q3⟩
              have q4 := play_gen (room := room) (s := ⟨used, (st kk).1, (st kk).2⟩) (s3 kk hk4).2 s5 x
              have hst6 := S4.step (wx := w5.drew) (w' := w6) ⟨s1, s2, s3, s4, s5, s6.drew⟩ HSEP.out hk4 (playM room ⟨used, (st kk).1, (st kk).2⟩ x) q1 q2 q3 q4.1 q4.2.1 q4.2.2
              have hra6 : w6.rangeAt b (o + i * 5) x.cells := (HX5.out.1.keep ((Keeps.refl [] w5).drew) (by simp)).keep q3 (by have := HX5.out.2.2.2; simp; omega)
              have HS6 := Lib.hid hst6
              have hsa := Lib.hid (SA.of hra6 (hst6.cell hk4))
              clear hst6 q1 q2 q3 q4 hra6 s1 s2 s3 s4 s5 s6 n1 n2 n3 n4 n5 d1 d2 d3 d4 d5 d6 d7 hle
              refine hKK _ _ ?_
              refine ord_next hsa.out ?_
              refine ord_nil ?_
              clear hKK KK hsa
              obtain ⟨g1, hg1⟩ : ∃ g1, g1 = gk := ⟨_, rfl⟩
              obtain ⟨st1, hst1⟩ : ∃ st1, st1 = upd st kk (playM room ⟨used, (st kk).1, (st kk).2⟩ x) := ⟨_, rfl⟩
              obtain ⟨us1, hus1⟩ : ∃ us1, us1 = (playM room ⟨used, (st kk).1, (st kk).2⟩ x).used := ⟨_, rfl⟩
              rw [← hst1, ← hus1] at HS6
              clear hst1 hus1 HS5 HX5 hkk hk4
              go_wp2_with fail
              go_loopg [61, 8] 4 (fun k v t wx => P4 ab sb ad room us1 st1 W k v t wx)
              case atStart => exact ⟨0, rfl, by omega, by omega, rfl, HS6.out⟩
              case round =>
                obtain ⟨j, rfl, hj4, hjk, rfl, hst⟩ := hrel
                have HSJ := Lib.hid hst
                have hps := psum_le st1 j hj4
                have htot : total st1 ≤ 65536 := by have := hst.2.2.2.1; have := hst.2.2.2.2.1; omega
                clear hst
                by_cases hj : j < 4
                · have c5 : wr.cell? ⟨ab, j, none⟩ = some (.pointer (some ⟨(ad j).1, 0, none⟩)) := HSJ.out.cell hj
                  obtain ⟨hbj, hokj⟩ := HSJ.out.2.2.1 j hj
                  have hps1 := psum_le st1 (j + 1) (by omega)
                  obtain ⟨L, hL⟩ : ∃ L : Int, L = ((st1 j).2.length : Int) := ⟨_, rfl⟩
                  have hps2 : psum st1 (j + 1) = psum st1 j + L := by rw [hL]; rfl
                  have hch := chunks_any (ad j).1 (ad j).2 _ _ wr hbj
                  rw [← hL] at hch
                  have HBJ := Lib.hid (And.intro hbj (And.intro hokj hL))
                  have HPS := Lib.hid hps2
                  rw [hps2] at hps1
                  clear hbj hokj hL hps2
                  go_upto_region 18 with (first | (refine hch.mono ?_; rintro e w' ⟨rfl, rfl⟩) | fail)
                  clear hch
                  obtain ⟨Z, hZ⟩ : ∃ Z : Int, Z = (st1 j).1 := ⟨_, rfl⟩
                  obtain ⟨D, hD⟩ : ∃ D : Nat, D = ((Z + 15) / 16).toNat := ⟨_, rfl⟩
                  obtain ⟨hs, hhs⟩ : ∃ hs, hs = holesTo (st1 j).2 D := ⟨_, rfl⟩
                  obtain ⟨nh, hnh⟩ : ∃ nh, nh = hs.length := ⟨_, rfl⟩
                  have hz0 : 0 ≤ Z := by rw [hZ]; exact HBJ.out.2.1.2.2.2.1
                  have hz1 : Z ≤ 65536 := by rw [hZ]; exact HBJ.out.2.1.2.2.2.2
                  have hsum : L + (nh : Int) = (D : Int) := by
                    have := chunks_holes HBJ.out.2.1
                    rw [← hZ, ← hD, ← hhs, ← hnh] at this
                    have := HBJ.out.2.2
                    omega
                  have hL0 : 0 ≤ L := by have := HBJ.out.2.2; omega
                  have hD2 : D ≤ 4096 := by omega
                  have e1 : IntKind.i64.wrap (L + (nh : Int)) = (D : Int) := by rw [hsum]; exact IntWalk.i64_in _ (by omega)
                  have e2 : IntKind.i64.wrap (Z + 16) = Z + 16 := IntWalk.i64_in _ (by omega)
                  have e3 : IntKind.i64.wrap (Z + 16 - 1) = Z + 16 - 1 := IntWalk.i64_in _ (by omega)
                  have e4 : (Z + 16 - 1).tdiv 16 = (D : Int) := by rw [Int.tdiv_eq_ediv_of_nonneg (by omega)]; omega
                  have e5 : IntKind.i64.wrap (D : Int) = (D : Int) := IntWalk.i64_in _ (by omega)
                  have hc1 := Lib.hid (chunks_any (ad j).1 (ad j).2 _ _ wr.drew HBJ.out.1)
                  have hc2 := Lib.hid (holes_any (ad j).1 (ad j).2 _ _ wr.drew HBJ.out.1)
                  rw [← HBJ.out.2.2] at hc1
                  rw [← hZ, ← hD] at hc2
                  have HH := Lib.hid (And.intro hhs (And.intro hnh hZ))
                  clear hhs hnh hZ hD hsum
                  refine vp_region (fun w' => w'.cell? ⟨ab, j, none⟩ = some (.pointer (some ⟨(ad j).1, 0, none⟩))) [(0, true), (1, true), (2, true), (4, true), (5, true), (6, true), (10, true), (11, true), (12, true), (3, false), (7, false), (8, true), (9, true), (13, false), (14, true), (15, true), (16, true), (17, true)] (by kernel_rfl) (by kernel_rfl) (by intro _ d _ _ _ h; cases d <;> exact h) (HSJ.out.cell hj) ?_
                  intro w7 hw7
                  simp only [pick, List.map_cons, List.map_nil, List.getD_cons_zero, List.getD_cons_succ]
                  repeat
                    refine ord_free rfl (v := ?_) ?_ ?_
                    rotate_left
                    · intro w' hw'
                      go_simp
                      first | with_reducible rfl | rw [if_pos (show (j : Int) < 4 by omega)]
                    simp only [Act.put, List.setIfInBounds_toArray, List.set_cons_zero, List.set_cons_succ]
                  subst hw7
                  refine ord_eff ?_
                  go_wp2_with fail
                  rename_i KK hKK
                  refine hc1.out.mono ?_
                  rintro e w' ⟨rfl, rfl⟩
                  refine hKK _ _ ?_
                  refine ord_next (HSJ.out.cell hj) ?_
                  clear hKK KK
                  go_simp
                  refine ord_eff ?_
                  go_wp2_with fail
                  rename_i KK hKK
                  refine hc2.out.mono ?_
                  rintro e w8 ⟨vh, rfl, hoh, hk8⟩
                  have hk8w : Keeps [] wr w8 := ((Keeps.refl [] wr).drew).trans hk8
                  have hst8 := HSJ.out.keep hk8w
                  obtain ⟨ph, ch, rfl⟩ : ∃ ph ch, vh = .slice ph nh ch := by
                    obtain ⟨ph, ch, hv, _⟩ := hoh.reads
                    rw [List.length_map, ← HH.out.1, ← HH.out.2.1] at hv
                    exact ⟨ph, ch, hv⟩
                  have hsz := Lib.hid (size_ok (ad j).1 (ad j).2 _ _ w8 (hst8.2.2.1 j hj).1)
                  rw [← HH.out.2.2] at hsz
                  have HS8 := Lib.hid hst8
                  clear hst8 hoh hk8 hk8w
                  refine hKK _ _ ?_
                  refine ord_next (HS8.out.cell hj) ?_
                  clear hKK KK
                  repeat
                    refine ord_free rfl (v := ?_) ?_ ?_
                    rotate_left
                    · intro w' hw'
                      go_simp
                      with_reducible rfl
                    simp only [Act.put, List.setIfInBounds_toArray, List.set_cons_zero, List.set_cons_succ]
                  refine ord_eff ?_
                  go_wp2_with fail
                  rename_i KK hKK
                  refine hsz.out.mono ?_
                  rintro e w' ⟨rfl, rfl⟩
                  refine hKK _ _ ?_
                  refine ord_next (HS8.out.cell hj) ?_
                  clear hKK KK
                  repeat
                    refine ord_free rfl (v := ?_) ?_ ?_
                    rotate_left
                    · intro w' hw'
                      go_simp
                      with_reducible rfl
                    simp only [Act.put, List.setIfInBounds_toArray, List.set_cons_zero, List.set_cons_succ]
                  refine ord_nil ?_
                  clear e1 e2 e3 e4 e5
                  go_wp2
                  go_roundg (gk - 1)
                  case measure => omega
                  case rel => exact ⟨j + 1, by push_cast; rfl, by omega, by omega, by rw [HPS.out], HS8.out⟩
                · obtain rfl : j = 4 := by omega
                  have hu := used_ok sb room us1 wr HSJ.out.2.1
                  have hps4 : psum st1 4 = us1 := by rw [psum_four]; exact HSJ.out.2.2.2.1.symm
                  have hu5 := HSJ.out.2.2.2.2.1
                  rw [hps4] at hps ⊢
                  clear hps4
                  go_wp2_with (first | (refine hu.mono ?_; rintro e w' ⟨rfl, rfl⟩) | fail)
                  go_roundg (g1 - 1)
                  case measure => omega
                  case rel => exact ⟨i + 1, us1, st1, by push_cast; rfl, by omega, by omega, HSJ.out⟩
        · by_cases h1 : i < n
          · have h2 : ¬ i < 60 := fun h => hlt ⟨h1, h⟩
            go_wp2
            go_meet
            case rel => exact ⟨used, st, HS.out⟩
          · go_wp2
            go_meet
            case rel => exact ⟨used, st, HS.out⟩
    case rest =>
      obtain ⟨used, st, hst⟩ := hcut
      have HS := Lib.hid hst
      clear hst
      go_wp2_with fail
      go_loopg [98] 4 (fun k v wx => F4 ab sb ad room W k v wx)
      case atStart => exact ⟨0, used, st, rfl, by omega, by omega, HS.out, fun i hi => by omega⟩
      case round =>
        obtain ⟨j, us, sj, rfl, hj4, hjk, hst, hz⟩ := hrel
        have HSJ := Lib.hid hst
        have HZ := Lib.hid hz
        clear hst hz
        by_cases hj : j < 4
        · have c5 : wr.cell? ⟨ab, j, none⟩ = some (.pointer (some ⟨(ad j).1, 0, none⟩)) := HSJ.out.cell hj
          obtain ⟨n1, n2, n3, n4, n5⟩ := HSEP.out
          obtain ⟨d1, d2, d3, d4, d5, d6, d7⟩ := n4 j hj
          obtain ⟨s1, s2, s3, s4, s5, s6⟩ := HSJ.out
          have hle := le_total sj j hj
          have hfr := Lib.hid (free_any sb (ad j).1 (ad j).2 room ⟨us, (sj j).1, (sj j).2⟩ wr s2 (s3 j hj).1 (Ne.symm d5) (s3 j hj).2.1.2.1 (by show ((sj j).2.length : Int) ≤ us; omega) (by show us ≤ 65536; omega))
          have hg := Lib.hid (cutM_gen (s := ⟨us, (sj j).1, (sj j).2⟩) (s3 j hj).2 0)
          clear n1 n2 n3 n4 n5 d1 d2 d3 d4 d5 d6 d7 s1 s2 s3 s4 s6 hle
          go_wp2_with fail
          refine hfr.out.mono ?_
          rintro e w6 ⟨rfl, q1, q2, q3⟩
          have hg2 := hg.out.2.1
          have hst6 := S4.step HSJ.out HSEP.out hj (cutM ⟨us, (sj j).1, (sj j).2⟩ 0).2 q1 q2 q3 hg.out.1 (by have : (cutM ⟨us, (sj j).1, (sj j).2⟩ 0).2.used ≤ us := hg2; omega) hg.out.2.2
          have HS6 := Lib.hid hst6
          clear hst6 q1 q2 q3 hg2
          go_wp2
          go_roundg (gk - 1)
          case measure => omega
          case rel =>
            refine ⟨j + 1, _, _, by push_cast; rfl, by omega, by omega, HS6.out, fun i hi => ?_⟩
            by_cases e : i = j
            · subst e; rw [upd_same]; show (cutM _ 0).2.l.length = 0; rw [cutM_zero]; rfl
            · rw [upd_other _ _ e]; exact HZ.out i (by omega)
        · obtain rfl : j = 4 := by omega
          have hu := used_ok sb room us wr HSJ.out.2.1
          have hus : us = 0 := by
            have h := HSJ.out.2.2.2.1
            have z := HZ.out
            have z0 := z 0 (by omega); have z1 := z 1 (by omega); have z2 := z 2 (by omega); have z3 := z 3 (by omega)
            unfold total at h
            omega
          subst hus
          go_wp2_with (first | (refine hu.mono ?_; rintro e w' ⟨rfl, rfl⟩) | fail)
          go_ret
          exact ⟨rfl, HSJ.out.2.2.2.2.2⟩
end Go.Proofs.Ythkeahjcokbaaaa
