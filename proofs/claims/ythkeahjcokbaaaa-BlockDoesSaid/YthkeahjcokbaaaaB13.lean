import Derived.Test.YthkeahjcokbaaaaB12
namespace Go.Proofs.Ythkeahjcokbaaaa
open Go.RowKit Go.V Go.V.Block

/-- a store with one body, in order -/
def St (sb bb mb : Nat) (room : Int) (s : BS) (W wx : World) : Prop :=
  SAt wx sb room s.used ∧ BAt wx bb mb s.sz s.l ∧ OkB s.sz s.l ∧ s.used = (s.l.length : Int) ∧ s.used ≤ room ∧ Keeps [] W wx
def LI (sb bb mb : Nat) (room : Int) (n : Nat) (W : World) (k : Nat) (v : Value) (wx : World) : Prop :=
  ∃ (i : Nat) (s : BS), v = .int .i64 i ∧ i ≤ n ∧ n - i ≤ k ∧ St sb bb mb room s W wx
def LE (sb bb mb : Nat) (room : Int) (W : World) (wx : World) : Prop := ∃ s : BS, St sb bb mb room s W wx

theorem St.play {sb bb mb : Nat} {room : Int} {s : BS} {W wx w' : World} {x : ActV} (h : St sb bb mb room s W wx) (hsb : W.heap.size ≤ sb) (hbb : W.heap.size ≤ bb) (hmb : W.heap.size ≤ mb)
    (h1 : SAt w' sb room (playM room s x).used) (h2 : BAt w' bb mb (playM room s x).sz (playM room s x).l) (h3 : Keeps [sb, bb, mb] wx w') : St sb bb mb room (playM room s x) W w' := by
  obtain ⟨a1, a2, a3, a4, a5, a6⟩ := h
  obtain ⟨g1, g2, g3⟩ := play_gen a3 a5 x
  exact ⟨h1, h2, g1, by omega, g2, a6.trans' h3 (fun x hx => Or.inr (by simp at hx; omega))⟩

theorem actOk_keep {S : List Nat} {w w' : World} {cs : List Value} {x : ActV} (h : ActOk w cs x) (hk : Keeps S w w') (hb : ∀ y ∈ S, w.heap.size ≤ y) : ActOk w' cs x := by
  obtain ⟨a0, a1, a2, a3, a4, a5, a6, a7⟩ := h
  exact ⟨a0, a1, a2, a3, a4, a5.keep hk (fun h0 y hy e => by have := a7 (by simpa using h0) y e; have := hb y hy; omega), a6, fun h0 g hg => Nat.lt_of_lt_of_le (a7 h0 g hg) hk.size⟩

def IdxI (n : Nat) (w : World) (k : Nat) (v : Value) (wx : World) : Prop := ∃ i : Nat, v = .int .i64 i ∧ i ≤ n ∧ n - i ≤ k ∧ w = wx
theorem cell_getD {w : World} {b o i : Nat} {xs : List UInt8} (h : ∀ j u, (xs.map bv)[j]? = some u → w.cell? ⟨b, o + j, none⟩ = some u) (hi : i < xs.length) : w.cell? ⟨b, o + i, none⟩ = some (.int .u8 ((xs.getD i 0).toNat : Int)) := by
  refine h i _ ?_
  rw [List.getElem?_map, List.getD_eq_getElem?_getD, List.getElem?_eq_getElem hi]; rfl

set_option maxRecDepth 100000 in
set_option maxHeartbeats 2000000 in
theorem cuts_any (room : Int) (A : Value) (acts : List ActV) (small great : Int) (W : World) (hA : SliceOf 5 ActOk W A acts) :
    Calls Try.prog 7 #[.int .i64 room, A, .int .i64 small, .int .i64 great] W (Tells (.bool true) W) := by
  have HA0 := Lib.hid hA
  obtain ⟨p, cap, rfl, hcap, hc, hr⟩ := hA
  obtain ⟨n, hn⟩ : ∃ n, n = acts.length := ⟨_, rfl⟩
  have HR := Lib.hid hr
  have HN := Lib.hid hn
  rw [← hn] at hcap HA0 ⊢
  clear hr hn
  by_cases hroom : room < 0 ∨ 65536 < room
  · go_enter Try.func7, Try.ntmps7
    go_wp2_with fail
    refine (awake_any _).mono ?_
    rintro e w1 ⟨rfl, hk1⟩
    go_wp2_with fail
    refine (new_bad room _ hroom).mono ?_
    rintro e w2 ⟨rfl, rfl⟩
    go_wp2
    go_ret
    exact ⟨rfl, hk1⟩
  · obtain ⟨hr0, hr1⟩ : 0 ≤ room ∧ room ≤ 65536 := by omega
    clear hroom
    go_enter Try.func7, Try.ntmps7
    go_wp2_with fail
    refine (awake_any _).mono ?_
    rintro e w1 ⟨rfl, hk1⟩
    go_wp2_with fail
    refine (new_any room _ hr0 hr1).mono ?_
    rintro e w2 ⟨sb, hsb, rfl, hs2, hk2⟩
    go_wp2_with fail
    refine (body_any _ _).mono ?_
    rintro e w3 ⟨bb, mb, hbb, hmb, rfl, hb3, hk3⟩
    have hst : St sb bb mb room ⟨0, 0, []⟩ W w3 := ⟨hs2.keep hk3 (by simp), hb3, okB_nil, rfl, hr0, (hk1.trans hk2).trans hk3⟩
    have hz1 := hk1.size
    have hz2 := hk2.size
    have hl2 := hs2.lt
    have hb1 : W.heap.size ≤ sb := by omega
    have hb2 : W.heap.size ≤ bb := by omega
    have hb4 : W.heap.size ≤ mb := by omega
    have hne : sb ≠ bb := by omega
    have HST := Lib.hid hst
    have HB := Lib.hid (And.intro hb1 (And.intro hb2 (And.intro hb4 hne)))
    clear hst hz1 hz2 hl2 hb1 hb2 hb4 hne hs2 hk1 hk2 hk3 hb3 hsb hbb hmb
    go_upto_block 0 with fail
    go_cut [11] (fun _ wx => LE sb bb mb room W wx)
    case first =>
      go_wp2_with fail
      go_loopg [11] n (fun k v wx => LI sb bb mb room n W k v wx)
      case atStart =>
        exact ⟨0, ⟨0, 0, []⟩, rfl, by omega, by omega, HST.out⟩
      case round =>
        obtain ⟨i, s, rfl, hin, hk, hst⟩ := hrel
        have HS := Lib.hid hst
        clear hst
        by_cases hlt : i < n ∧ i < 60
        · obtain ⟨hi1, hi2⟩ := hlt
          obtain ⟨x, hx⟩ : ∃ x, acts[i]? = some x := ⟨_, List.getElem?_eq_getElem (by rw [← HN.out]; exact hi1)⟩
          obtain ⟨b, o, rfl, hb, he⟩ := HR.out (by rw [← HN.out]; omega)
          obtain ⟨cs, hcs, hra, hok⟩ := he i x hx
          obtain rfl := hok.1
          have hkW := HS.out.2.2.2.2.2
          have hra1 := hra.keep hkW (by simp)
          have hok1 := actOk_keep hok hkW (by simp)
          have HX := Lib.hid (And.intro hra1 (And.intro hok1 (And.intro hok hb)))
          clear hra1 hok1 hok hb hkW he hx hra hcs
          have c0 : wr.cell? ⟨b, o + i * 5, none⟩ = some (.int .i64 x.kind) := HX.out.1 0 _ rfl
          have c1 : wr.cell? ⟨b, o + i * 5 + 1, none⟩ = some (.int .i64 x.who) := HX.out.1 1 _ rfl
          have c2 : wr.cell? ⟨b, o + i * 5 + 2, none⟩ = some (.int .i64 x.off) := HX.out.1 2 _ rfl
          have c3 : wr.cell? ⟨b, o + i * 5 + 3, none⟩ = some (.int .i64 x.n) := HX.out.1 3 _ rfl
          have c4 : wr.cell? ⟨b, o + i * 5 + 4, none⟩ = some x.b := HX.out.1 4 _ rfl
          go_wp2_with fail
          refine (large_ok x wr HX.out.2.1).mono ?_
          obtain ⟨lb, hlb⟩ : ∃ lb, lb = largeB x := ⟨_, rfl⟩
          rw [← hlb]
          clear hlb
          rintro e w5 ⟨rfl, hk5⟩
          have HK5 := Lib.hid hk5
          have HC := Lib.hid (And.intro c0 (And.intro c1 (And.intro c2 (And.intro c3 c4))))
          clear hk5 c0 c1 c2 c3 c4
          cases lb with
          | true =>
            go_wp2
            go_ret
            exact ⟨rfl, HS.out.2.2.2.2.2.trans HK5.out⟩
          | false =>
            have c0 : w5.cell? ⟨b, o + i * 5, none⟩ = some (.int .i64 x.kind) := (HX.out.1.keep HK5.out (by simp)) 0 _ rfl
            have c1 : w5.cell? ⟨b, o + i * 5 + 1, none⟩ = some (.int .i64 x.who) := (HX.out.1.keep HK5.out (by simp)) 1 _ rfl
            have c2 : w5.cell? ⟨b, o + i * 5 + 2, none⟩ = some (.int .i64 x.off) := (HX.out.1.keep HK5.out (by simp)) 2 _ rfl
            have c3 : w5.cell? ⟨b, o + i * 5 + 3, none⟩ = some (.int .i64 x.n) := (HX.out.1.keep HK5.out (by simp)) 3 _ rfl
            have c4 : w5.cell? ⟨b, o + i * 5 + 4, none⟩ = some x.b := (HX.out.1.keep HK5.out (by simp)) 4 _ rfl
            go_wp2_with fail
            obtain ⟨s1, s2, s3, s4, s5, s6⟩ := HS.out
            obtain ⟨n1, n2, n3, n4⟩ := HB.out
            refine (play_any sb bb mb room s x w5 (s1.keep HK5.out (by simp)) (s2.keep HK5.out (by simp) (by simp)) n4 s3.1.2.1 (by omega) s5 hr1 (actOk_keep HX.out.2.1 HK5.out (by simp)) ?_).mono ?_
            · intro h0 y hy e
              have := HX.out.2.2.1.2.2.2.2.2.2.2 h0 y e
              simp at hy
              omega
            · rintro e w6 ⟨rfl, q1, q2, q3⟩
              have hst6 := (St.play (w' := w6) (x := x) ⟨s1.keep HK5.out (by simp), s2.keep HK5.out (by simp) (by simp), s3, s4, s5, s6.trans HK5.out⟩ n1 n2 n3 q1 q2 q3)
              have HS6 := Lib.hid hst6
              clear hst6 q1 q2 q3 s1 s2 s3 s4 s5 s6 n1 n2 n3 n4 c0 c1 c2 c3 c4
              go_wp2
              go_roundg (gk - 1)
              case measure => omega
              case rel => exact ⟨i + 1, _, by push_cast; rfl, by omega, by omega, HS6.out⟩
        · by_cases h1 : i < n
          · have h2 : ¬ i < 60 := fun h => hlt ⟨h1, h⟩
            go_wp2
            go_meet
            case rel => exact ⟨s, HS.out⟩
          · go_wp2
            go_meet
            case rel => exact ⟨s, HS.out⟩
    case rest =>
      obtain ⟨s, hst⟩ := hcut
      obtain ⟨n1, n2, n3, n4⟩ := HB.out
      obtain ⟨s1, s2, s3, s4, s5, s6⟩ := hst
      clear HST HR HN HA0 HB
      have hlu : (s.l.length : Int) ≤ s.used := by omega
      have hlu2 := (cutM_gen s3 small).2.2
      have hlu3 : ((cutM s small).2.l.length : Int) ≤ (cutM s small).2.used := by omega
      clear s4 hlu2
      have hl1 := s1.lt
      have hl2 := s2.lt
      go_wp2_with fail
      refine (read_any _ bb mb s 0 65536 _ s2).mono ?_
      rintro e w4 ⟨vw, rfl, ho4, hk4⟩
      have s14 := s1.keep hk4 (by simp)
      have s24 := s2.keep hk4 (by simp) (by simp)
      have s64 := s6.trans hk4
      go_wp2_with fail
      refine (used_ok sb room s.used w4 s14).mono ?_
      rintro e w' ⟨rfl, rfl⟩
      go_wp2_with fail
      refine (cut_any sb bb mb room s small w4 s14 s24 n4 s3.1.2.1 (by omega) (by omega)).mono ?_
      rintro e w5 ⟨rfl, s15, s25, hk5⟩
      have g1 := cutM_gen s3 small
      have ho5 := ho4.keep_lo hk5 (by simp; omega)
      have s65 := s64.trans' hk5 (by simp; omega)
      go_wp2_with fail
      refine (cut_any sb bb mb room (cutM s small).2 great w5 s15 s25 n4 g1.1.1.2.1 (by omega) (by omega)).mono ?_
      rintro e w6 ⟨rfl, s16, s26, hk6⟩
      have ho6 := ho5.keep_lo hk6 (by simp; omega)
      have s66 := s65.trans' hk6 (by simp; omega)
      by_cases hs0 : small < 0
      · have he1 : (cutM s small).1 = 22 := by unfold cutM; rw [if_pos hs0]
        obtain ⟨e2, he2⟩ : ∃ e2, e2 = (cutM (cutM s small).2 great).1 := ⟨_, rfl⟩
        rw [he1, ← he2]
        clear he1 he2
        go_wp2
        go_ret
        exact ⟨rfl, s66⟩
      · by_cases hs1 : 65536 < small
        · have he1 : (cutM s small).1 = 27 := by unfold cutM; rw [if_neg hs0, if_pos hs1]
          obtain ⟨e2, he2⟩ : ∃ e2, e2 = (cutM (cutM s small).2 great).1 := ⟨_, rfl⟩
          rw [he1, ← he2]
          clear he1 he2
          go_wp2
          go_ret
          exact ⟨rfl, s66⟩
        · have he1 : (cutM s small).1 = 0 := by unfold cutM; rw [if_neg hs0, if_neg hs1]
          rw [he1]
          by_cases hg0 : great < 0
          · have he2 : (cutM (cutM s small).2 great).1 = 22 := by unfold cutM; rw [if_pos hg0]
            rw [he2]
            clear he1 he2
            go_wp2
            go_ret
            exact ⟨rfl, s66⟩
          · by_cases hg1 : 65536 < great
            · have he2 : (cutM (cutM s small).2 great).1 = 27 := by unfold cutM; rw [if_neg hg0, if_pos hg1]
              rw [he2]
              clear he1 he2
              go_wp2
              go_ret
              exact ⟨rfl, s66⟩
            · have he2 : (cutM (cutM s small).2 great).1 = 0 := by unfold cutM; rw [if_neg hg0, if_neg hg1]
              rw [he2]
              by_cases hsg : great < small
              · clear he1 he2
                go_wp2
                go_ret
                exact ⟨rfl, s66⟩
              · have hP := cuts_plain (s := s) s3 (small := small) (great := great) (by omega) (by omega) (by omega)
                have g2 := cutM_gen g1.1 great
                go_wp2_with fail
                refine (read_any _ bb mb (cutM (cutM s small).2 great).2 0 65536 _ s26).mono ?_
                rintro e w7 ⟨vn, rfl, ho7, hk7⟩
                have s17 := s16.keep hk7 (by simp)
                have how := ho6.keep hk7 (by simp)
                have s67 := s66.trans hk7
                obtain ⟨ws, hws⟩ : ∃ ws, ws = (readM s 0 65536).1 := ⟨_, rfl⟩
                obtain ⟨ns, hns⟩ : ∃ ns, ns = (readM (cutM (cutM s small).2 great).2 0 65536).1 := ⟨_, rfl⟩
                obtain ⟨u2, hu2⟩ : ∃ u2, u2 = (cutM (cutM s small).2 great).2.used := ⟨_, rfl⟩
                rw [← hws] at how
                rw [← hns] at ho7
                rw [← hu2] at s17
                rw [← hws, ← hns, ← hu2] at hP
                obtain ⟨p1, p2, p3, p4, p5⟩ := hP
                obtain ⟨u1, hu1⟩ : ∃ u1, u1 = s.used := ⟨_, rfl⟩
                rw [← hu1] at p4 ⊢
                obtain ⟨pn, cn, rfl, hcn, hrn⟩ := ho7.reads
                obtain ⟨pw, cw, rfl, hcw, hrw⟩ := how.reads
                rw [List.length_map] at hcn hrn hcw hrw
                rw [List.length_map, List.length_map]
                obtain ⟨nw, hnw⟩ : ∃ nw, nw = ws.length := ⟨_, rfl⟩
                obtain ⟨nn, hnn⟩ : ∃ nn, nn = ns.length := ⟨_, rfl⟩
                rw [← hnw] at hcw hrw p5 ⊢
                rw [← hnn] at hcn hrn p3 ⊢
                have hw64 : nw ≤ 65536 := by
                  rw [hnw, hws, readAll (u := s.used) s3, length_bytesFrom]
                  have := s3.2.2.2.2; omega
                have HP := Lib.hid (And.intro p5 (And.intro hrw (And.intro hrn (And.intro hnw (And.intro hnn (And.intro s17 s67))))))
                clear p1 p2 p5 hrw hrn hws hns hu2 hnw hnn ho7 how ho6 ho5 ho4 g1 g2 s1 s2 s3 s5 s6 s14 s24 s64 hk4 s15 s25 hk5 s65 s16 s26 hk6 s66 hk7 s67 he1 he2 hu1
                have hgl : ((nn : Int) != great) = false := by rw [p3]; simp
                go_wp2_with (first | (refine (used_ok sb room u2 w7 s17).mono ?_; rintro e w' ⟨rfl, rfl⟩) | fail)
                go_loopg [126] nn (fun k v wx => IdxI nn w7 k v wx)
                case atStart => exact ⟨0, rfl, by omega, by omega, rfl⟩
                case round =>
                  obtain ⟨i, rfl, hin, hk, rfl⟩ := hrel
                  by_cases hlt : i < nn
                  · have hltg : (i : Int) < great := by omega
                    obtain ⟨bn, on, rfl, hrn⟩ := HP.out.2.2.1 (by omega)
                    have hx := HP.out.1 i (by omega)
                    have c1 := cell_getD hrn (i := i) (by rw [← HP.out.2.2.2.2.1]; exact hlt)
                    obtain ⟨z, hz⟩ : ∃ z : Int, z = ((ns.getD i 0).toNat : Int) := ⟨_, rfl⟩
                    rw [← hz] at c1
                    clear hrn
                    by_cases ha : (i : Int) < small
                    · by_cases hb : i < nw
                      · obtain ⟨bw, ow, rfl, hrw⟩ := HP.out.2.1 (by omega)
                        have c2 := cell_getD hrw (i := i) (by rw [← HP.out.2.2.2.1]; exact hb)
                        rw [if_pos ⟨ha, hb⟩] at hx
                        rw [← hx, ← hz] at c2
                        clear hx hz hrw
                        have hzz : (z != z) = false := by simp
                        go_wp2
                        go_roundg (gk - 1)
                        case measure => omega
                        case rel => exact ⟨i + 1, by push_cast; rfl, by omega, by omega, rfl⟩
                      · rw [if_neg (fun h => hb h.2)] at hx
                        have hz0 : z = 0 := by rw [hz, hx]; rfl
                        subst hz0
                        clear hx hz
                        go_wp2
                        go_roundg (gk - 1)
                        case measure => omega
                        case rel => exact ⟨i + 1, by push_cast; rfl, by omega, by omega, rfl⟩
                    · rw [if_neg (fun h => ha h.1)] at hx
                      have hz0 : z = 0 := by rw [hz, hx]; rfl
                      subst hz0
                      clear hx hz
                      go_wp2
                      go_roundg (gk - 1)
                      case measure => omega
                      case rel => exact ⟨i + 1, by push_cast; rfl, by omega, by omega, rfl⟩
                  · have hltg : great ≤ (i : Int) := by omega
                    go_wp2
                    go_ret
                    exact ⟨rfl, HP.out.2.2.2.2.2.2⟩
end Go.Proofs.Ythkeahjcokbaaaa
