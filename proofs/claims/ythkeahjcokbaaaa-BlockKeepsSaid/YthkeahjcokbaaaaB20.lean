import Derived.Test.YthkeahjcokbaaaaB19
namespace Go.Proofs.Ythkeahjcokbaaaa
open Go.RowKit Go.V Go.V.Block

theorem s4_keepx {ab sb : Nat} {ad : Ad} {room used : Int} {st : Bo} {S : List Nat} {W wx w' : World} (h : S4 ab sb ad room used st W wx) (hk : Keeps S wx w') (hW : ∀ x ∈ S, W.heap.size ≤ x)
    (hS : ∀ x ∈ S, x ≠ ab ∧ x ≠ sb ∧ ∀ k, k < 4 → x ≠ (ad k).1 ∧ x ≠ (ad k).2) : S4 ab sb ad room used st W w' := by
  obtain ⟨a1, a2, a3, a4, a5, a6⟩ := h
  exact ⟨hk.get a1 (fun q => (hS _ q).1 rfl), a2.keep hk (fun q => (hS _ q).2.1 rfl), fun k hk4 => ⟨(a3 k hk4).1.keep hk (fun q => ((hS _ q).2.2 k hk4).1 rfl) (fun q => ((hS _ q).2.2 k hk4).2 rfl), (a3 k hk4).2⟩, a4, a5, a6.trans' hk (fun x hx => Or.inr (hW x hx))⟩
def allB (used : Int) (st : Bo) (i : Nat) : List UInt8 := (readM ⟨used, (st i).1, (st i).2⟩ 0 65536).1
def K4 (ab sb wb : Nat) (ad : Ad) (room used : Int) (st : Bo) (W : World) (k : Nat) (v : Value) (wx : World) : Prop :=
  ∃ (j : Nat) (vs : Nat → Value), v = .int .i64 j ∧ j ≤ 4 ∧ 4 - j ≤ k ∧ wx.heap[wb]? = some (.cells #[vs 0, vs 1, vs 2, vs 3] 60 (0, 0)) ∧ (∀ i, i < j → Own wx (wb + 1) 5 (vs i) ((allB used st i).map bv)) ∧ S4 ab sb ad room used st W wx

theorem keeps_plain {u : Int} {sz : Int} {l : CL} (h : OkB sz l) {off : Int} {data : List UInt8} {n : Nat} {u' : Int} {l' : CL} (hok : OkB (if n = 0 then sz else max sz (off + n)) l') (h0 : 0 < n → 0 ≤ off ∧ off + n ≤ 65536) (hz : n = 0 → l' = l)
    (hb : ∀ p : Nat, byteAt l' p = if off ≤ p ∧ (p : Int) < off + n then data.getD (p - off.toNat) 0 else byteAt l p) :
    (readM ⟨u, sz, l⟩ 0 65536).1.length ≤ 65536 ∧ (n = 0 → (readM ⟨u', if n = 0 then sz else max sz (off + n), l'⟩ 0 65536).1 = (readM ⟨u, sz, l⟩ 0 65536).1) ∧
    (0 < n → max ((readM ⟨u, sz, l⟩ 0 65536).1.length : Int) (off + n) = ((readM ⟨u', if n = 0 then sz else max sz (off + n), l'⟩ 0 65536).1.length : Int) ∧
      ∀ i : Nat, i < (readM ⟨u', if n = 0 then sz else max sz (off + n), l'⟩ 0 65536).1.length → (readM ⟨u', if n = 0 then sz else max sz (off + n), l'⟩ 0 65536).1.getD i 0 =
        if off ≤ i ∧ (i : Int) < off + n then data.getD (i - off.toNat) 0 else if i < (readM ⟨u, sz, l⟩ 0 65536).1.length then (readM ⟨u, sz, l⟩ 0 65536).1.getD i 0 else 0) := by
  rw [readAll hok, readAll h]
  obtain ⟨_, _, z1, z2, z3⟩ := h
  refine ⟨by rw [length_bytesFrom]; omega, fun e => by rw [if_pos e, hz e], fun hn => ?_⟩
  obtain ⟨h1, h2⟩ := h0 hn
  rw [if_neg (by omega), length_bytesFrom, length_bytesFrom]
  refine ⟨by omega, fun i hi => ?_⟩
  rw [getD_bytesFrom _ _ _ hi, hb]
  by_cases c : off ≤ i ∧ (i : Int) < off + n
  · rw [if_pos c, if_pos c]
  · rw [if_neg c, if_neg c]
    by_cases d : i < sz.toNat
    · rw [if_pos d, getD_bytesFrom _ _ _ d]
    · rw [if_neg d]; exact z1 i (by omega)
def K3 (w3 : World) (m : Nat) (v : Value) (wx : World) : Prop := ∃ k : Nat, v = .int .i64 k ∧ 1 ≤ k ∧ k ≤ 4 ∧ 4 - k ≤ m ∧ Keeps [] w3 wx
def SB (wb k : Nat) (v vc : Value) (bs : List UInt8) (w : World) : Prop := w.cell? ⟨wb, k, none⟩ = some v ∧ Reads w v (bs.map bv) ∧ Reads w vc (bs.map bv)

set_option maxRecDepth 100000 in
set_option maxHeartbeats 4000000 in
theorem keeps_any (room : Int) (A : Value) (acts : List ActV) (off : Int) (D : Value) (data : List UInt8) (W : World) (hA : SliceOf 5 ActOk W A acts) (_hoff : I64 off) (hD : Reads W D (data.map bv)) (hf : Fits D) (hblk : 0 < data.length → ∀ g, D.ownBlock = some g → g < W.heap.size) :
    Calls Try.prog 6 #[.int .i64 room, A, .int .i64 off, D] W (Tells (.bool true) W) := by
  obtain ⟨p, cap, rfl, hcap, hc, hr⟩ := hA
  obtain ⟨n, hn⟩ : ∃ n, n = acts.length := ⟨_, rfl⟩
  have HR := Lib.hid hr
  have HN := Lib.hid hn
  rw [← hn] at hcap ⊢
  clear hr hn
  have HD := Lib.hid (And.intro hD (And.intro hf hblk))
  obtain ⟨dp, dc, rfl, hdc, hdr⟩ := hD
  rw [List.length_map] at hdc hdr HD ⊢
  obtain ⟨dn, hdn⟩ : ∃ dn, dn = data.length := ⟨_, rfl⟩
  rw [← hdn] at hdc hdr HD ⊢
  clear hdr hf hblk
  have HDN := Lib.hid hdn
  clear hdn
  by_cases hroom : room < 0 ∨ 65536 < room
  · go_enter Try.func6, Try.ntmps6
    go_wp2_with fail
    refine (awake_any _).mono ?_
    rintro e w1 ⟨rfl, hk1⟩
    go_wp2_with fail
    refine (new_bad room _ hroom).mono ?_
    rintro e w2 ⟨rfl, rfl⟩
    go_wp2
    go_ret
    exact ⟨rfl, hk1⟩
  · obtain ⟨hr0, hr1⟩ : 0 ≤ room ∧ room ≤ 65536 := by omega
    clear hroom
    by_cases hd4 : 4096 < dn
    · have hd4' : (4096 : Int) < (dn : Int) := by omega
      go_enter Try.func6, Try.ntmps6
      go_wp2_with fail
      refine (awake_any _).mono ?_
      rintro e w1 ⟨rfl, hk1⟩
      go_wp2_with fail
      refine (new_any room _ hr0 hr1).mono ?_
      rintro e w2 ⟨sb, hsb, rfl, hs2, hk2⟩
      go_wp2
      go_ret
      exact ⟨rfl, hk1.trans hk2⟩
    have hd4' : (dn : Int) ≤ (4096 : Int) := by omega
    go_enter Try.func6, Try.ntmps6
    go_wp2_with fail
    refine (awake_any _).mono ?_
    rintro e w1 ⟨rfl, hk1⟩
    go_wp2_with fail
    refine (new_any room _ hr0 hr1).mono ?_
    rintro e w2 ⟨sb, hsb, rfl, hs2, hk2⟩
    have hl2 := hs2.lt
    have hz1 := hk1.size
    have hz2 := hk2.size
    go_wp2_with fail
    refine (body_any _ _).mono ?_
    rintro e w3 ⟨b0, m0, hb0, hm0, rfl, p0, hk3⟩
    have hl3 := p0.lt
    have hz3 := hk3.size
    have hn3 := p0.ne
    go_wp2_with fail
    refine (body_any _ _).mono ?_
    rintro e w4 ⟨b1, m1, hb1, hm1, rfl, p1, hk4⟩
    have hl4 := p1.lt
    have hz4 := hk4.size
    have hn4 := p1.ne
    go_wp2_with fail
    refine (body_any _ _).mono ?_
    rintro e w5 ⟨b2, m2, hb2, hm2, rfl, p2, hk5⟩
    have hl5 := p2.lt
    have hz5 := hk5.size
    have hn5 := p2.ne
    go_wp2_with fail
    refine (body_any _ _).mono ?_
    rintro e w6 ⟨b3, m3, hb3, hm3, rfl, p3, hk6⟩
    have hl6 := p3.lt
    have hz6 := hk6.size
    have hn6 := p3.ne
    have q0 := ((p0.keep hk4 (by simp) (by simp)).keep hk5 (by simp) (by simp)).keep hk6 (by simp) (by simp)
    have q1 := (p1.keep hk5 (by simp) (by simp)).keep hk6 (by simp) (by simp)
    have q2 := p2.keep hk6 (by simp) (by simp)
    have qs := (((hs2.keep hk3 (by simp)).keep hk4 (by simp)).keep hk5 (by simp)).keep hk6 (by simp)
    have hkW := ((((hk1.trans hk2).trans hk3).trans hk4).trans hk5).trans hk6
    go_upto_region 7 with fail
    obtain ⟨ad, hsep, hst⟩ := four_start (W := W) (w6 := w6) (sb := sb) (z2 := w2.heap.size) (z3 := w3.heap.size) (z4 := w4.heap.size) (z5 := w5.heap.size) (by omega) hl2 ⟨hb0, hm0, hl3.1, hl3.2, hn3⟩ ⟨hb1, hm1, hl4.1, hl4.2, hn4⟩ ⟨hb2, hm2, hl5.1, hl5.2, hn5⟩ ⟨hb3, hm3, hl6.1, hl6.2, hn6⟩ q0 q1 q2 p3 qs hr0 hkW
    obtain ⟨w7, hw7⟩ : ∃ w7, w7 = w6.alloc (.cells #[.pointer (some ⟨b0, 0, none⟩), .pointer (some ⟨b1, 0, none⟩), .pointer (some ⟨b2, 0, none⟩), .pointer (some ⟨b3, 0, none⟩)] 42) := ⟨_, rfl⟩
    obtain ⟨ab, hab⟩ : ∃ ab, ab = w6.heap.size := ⟨_, rfl⟩
    have hst : S4 ab sb ad room 0 (fun _ => (0, [])) W w7 := by rw [hab, hw7]; exact hst
    rw [← hab] at hsep
    rw [← hw7, ← hab]
    have HST := Lib.hid hst
    have HSEP := Lib.hid hsep
    clear hst hsep hw7 hab hl2 hz1 hz2 hl3 hz3 hn3 hl4 hz4 hn4 hl5 hz5 hn5 hl6 hz6 hn6 q0 q1 q2 qs hkW p0 p1 p2 p3 hk1 hk2 hk3 hk4 hk5 hk6 hs2 hsb hb0 hm0 hb1 hm1 hb2 hm2 hb3 hm3
    go_upto_block 0 with fail
    go_cut [11] (fun _ wx => E4 ab sb ad room W wx)
    case first =>
      go_wp2_with fail
      go_loopg [11] n (fun k v wx => L4 ab sb ad room n W k v wx)
      case atStart => exact ⟨0, 0, fun _ => (0, []), rfl, by omega, by omega, HST.out⟩
      case round =>
        obtain ⟨i, used, st, rfl, hin, hk, hst⟩ := hrel
        have HS := Lib.hid hst
        clear hst
        by_cases hlt : i < n ∧ i < 60
        · obtain ⟨hi1, hi2⟩ := hlt
          obtain ⟨x, hx⟩ : ∃ x, acts[i]? = some x := ⟨_, List.getElem?_eq_getElem (by rw [← HN.out]; exact hi1)⟩
          obtain ⟨b, o, rfl, hb, he⟩ := HR.out (by rw [← HN.out]; omega)
          obtain ⟨cs, hcs, hra, hok⟩ := he i x hx
          obtain rfl := hok.1
          have hkW := HS.out.2.2.2.2.2
          have hra1 := hra.keep hkW (by simp)
          have hok1 := actOk_keep hok hkW (by simp)
          have HX := Lib.hid (And.intro hra1 (And.intro hok1 (And.intro hok hb)))
          clear hra1 hok1 hok hb hkW he hx hra hcs
          have c0 : wr.cell? ⟨b, o + i * 5, none⟩ = some (.int .i64 x.kind) := HX.out.1 0 _ rfl
          have c1 : wr.cell? ⟨b, o + i * 5 + 1, none⟩ = some (.int .i64 x.who) := HX.out.1 1 _ rfl
          have c2 : wr.cell? ⟨b, o + i * 5 + 2, none⟩ = some (.int .i64 x.off) := HX.out.1 2 _ rfl
          have c3 : wr.cell? ⟨b, o + i * 5 + 3, none⟩ = some (.int .i64 x.n) := HX.out.1 3 _ rfl
          have c4 : wr.cell? ⟨b, o + i * 5 + 4, none⟩ = some x.b := HX.out.1 4 _ rfl
          go_wp2_with fail
          refine (large_ok x wr HX.out.2.1).mono ?_
          obtain ⟨lb, hlb⟩ : ∃ lb, lb = largeB x := ⟨_, rfl⟩
          rw [← hlb]
          clear hlb
          rintro e w5 ⟨rfl, hk5⟩
          have HK5 := Lib.hid hk5
          clear hk5 c0 c1 c2 c3 c4
          cases lb with
          | true =>
            go_wp2
            go_ret
            exact ⟨rfl, HS.out.2.2.2.2.2.trans HK5.out⟩
          | false =>
            have HX5 := Lib.hid (And.intro (HX.out.1.keep HK5.out (by simp)) (And.intro (actOk_keep HX.out.2.1 HK5.out (by simp)) HX.out.2.2))
            have HS5 := Lib.hid (HS.out.keep HK5.out)
            clear HX HS HK5
            obtain ⟨kk, hkk⟩ : ∃ kk : Nat, bits .and .i64 x.who 3 = (kk : Int) := ⟨(x.who % 4).toNat, by rw [i64_and3]; omega⟩
            have hk4 : kk < 4 := by rw [i64_and3] at hkk; omega
            go_upto_region 12 with fail
            refine vp_region (SA b (o + i * 5) x ab kk (ad kk).1) [(0, true), (1, true), (2, true), (3, true), (4, true), (5, true), (6, true), (7, true), (8, true), (9, true), (10, true), (11, true), (12, true), (13, false)] (by kernel_rfl) (by kernel_rfl) (by intro _ d _ _ _ h; cases d <;> exact h) (SA.of HX5.out.1 (HS5.out.cell hk4)) ?_
            intro w6 hw6
            simp only [pick, List.map_cons, List.map_nil, List.getD_cons_zero, List.getD_cons_succ]
            repeat
              refine ord_free rfl (v := ?_) ?_ ?_
              rotate_left
              · intro w' hw'
                obtain ⟨c0, c1, c2, c3, c4, c5⟩ := hw'
                go_simp
                first | with_reducible rfl | rw [if_pos (show (kk : Int) < 4 by omega)]
              simp only [Act.put, List.setIfInBounds_toArray, List.set_cons_zero, List.set_cons_succ]
            subst hw6
            refine ord_eff ?_
            go_wp2_with fail
            rename_i KK hKK
            obtain ⟨n1, n2, n3, n4, n5⟩ := HSEP.out
            obtain ⟨d1, d2, d3, d4, d5, d6, d7⟩ := n4 kk hk4
            obtain ⟨s1, s2, s3, s4, s5, s6⟩ := HS5.out
            have hle := le_total st kk hk4
            refine (play_any sb (ad kk).1 (ad kk).2 room ⟨used, (st kk).1, (st kk).2⟩ x w5.drew s2 (s3 kk hk4).1 (Ne.symm d5) (s3 kk hk4).2.1.2.1 (by show ((st kk).2.length : Int) ≤ used; omega) s5 hr1 HX5.out.2.1 ?_).mono ?_
            · intro h0 y hy e
              have := HX5.out.2.2.1.2.2.2.2.2.2.2 h0 y e
              simp at hy
              omega
            · rintro e w6 ⟨rfl, q1, q2, q3⟩
              have q4 := play_gen (room := room) (s := ⟨used, (st kk).1, (st kk).2⟩) (s3 kk hk4).2 s5 x
              have hst6 := S4.step (wx := w5.drew) (w' := w6) ⟨s1, s2, s3, s4, s5, s6.drew⟩ HSEP.out hk4 (playM room ⟨used, (st kk).1, (st kk).2⟩ x) q1 q2 q3 q4.1 q4.2.1 q4.2.2
              have hra6 : w6.rangeAt b (o + i * 5) x.cells := (HX5.out.1.keep ((Keeps.refl [] w5).drew) (by simp)).keep q3 (by have := HX5.out.2.2.2; simp; omega)
              have HS6 := Lib.hid hst6
              have hsa := Lib.hid (SA.of hra6 (hst6.cell hk4))
              clear hst6 q1 q2 q3 q4 hra6 s1 s2 s3 s4 s5 s6 n1 n2 n3 n4 n5 d1 d2 d3 d4 d5 d6 d7 hle
              refine hKK _ _ ?_
              refine ord_next hsa.out ?_
              refine ord_nil ?_
              clear hKK KK hsa
              go_wp2
              go_roundg (gk - 1)
              case measure => omega
              case rel => exact ⟨i + 1, _, _, by push_cast; rfl, by omega, by omega, HS6.out⟩
        · by_cases h1 : i < n
          · have h2 : ¬ i < 60 := fun h => hlt ⟨h1, h⟩
            go_wp2
            go_meet
            case rel => exact ⟨used, st, HS.out⟩
          · go_wp2
            go_meet
            case rel => exact ⟨used, st, HS.out⟩
    case rest =>
      obtain ⟨used, st, hst⟩ := hcut
      have HS := Lib.hid hst
      clear hst
      go_upto_region 14 with fail
      obtain ⟨wb, hwb⟩ : ∃ wb, wb = wc.heap.size := ⟨_, rfl⟩
      obtain ⟨w1, hw1⟩ : ∃ w1, w1 = wc.alloc (.cells #[.slice none 0 0, .slice none 0 0, .slice none 0 0, .slice none 0 0] 60) := ⟨_, rfl⟩
      have hk1 : Keeps [] wc w1 := by rw [hw1]; exact (Keeps.refl _ _).alloc _
      have hb1 : w1.heap[wb]? = some (.cells #[.slice none 0 0, .slice none 0 0, .slice none 0 0, .slice none 0 0] 60 (0, 0)) := by rw [hw1, hwb]; exact heap_alloc wc _
      have hst1 := HS.out.keep hk1
      have hwW : W.heap.size ≤ wb := by rw [hwb]; exact HS.out.2.2.2.2.2.size
      have hap : (ab < wb ∧ sb < wb ∧ ∀ k, k < 4 → (ad k).1 < wb ∧ (ad k).2 < wb) ∧ wb ≠ ab ∧ wb ≠ sb ∧ ∀ k, k < 4 → wb ≠ (ad k).1 ∧ wb ≠ (ad k).2 := by
        have h1 := lt_of_heap HS.out.1
        have h2 := HS.out.2.1.lt
        refine ⟨⟨by omega, by omega, fun k hk => ?_⟩, by omega, by omega, fun k hk => ?_⟩
        · have h3 := (HS.out.2.2.1 k hk).1.lt
          omega
        · have h3 := (HS.out.2.2.1 k hk).1.lt
          omega
      rw [← hw1, ← hwb]
      have H1 := Lib.hid (And.intro hb1 (And.intro hst1 (And.intro hwW hap)))
      clear hw1 hwb hk1 hb1 hst1 hwW hap HS
      go_wp2_with fail
      go_loopg [74] 4 (fun k v wx => K4 ab sb wb ad room used st W k v wx)
      case atStart => exact ⟨0, fun _ => .slice none 0 0, rfl, by omega, by omega, H1.out.1, fun i hi => by omega, H1.out.2.1⟩
      case round =>
        obtain ⟨j, vs, rfl, hj4, hjk, hwv, hown, hst⟩ := hrel
        have HJ := Lib.hid (And.intro hwv (And.intro hown hst))
        clear hwv hown hst
        by_cases hj : j < 4
        · have c5 : wr.cell? ⟨ab, j, none⟩ = some (.pointer (some ⟨(ad j).1, 0, none⟩)) := HJ.out.2.2.cell hj
          have hbj := (HJ.out.2.2.2.2.1 j hj).1
          have hrd := Lib.hid (read_any (.pointer (some ⟨sb, 0, none⟩)) (ad j).1 (ad j).2 ⟨used, (st j).1, (st j).2⟩ 0 65536 wr hbj)
          clear hbj
          go_wp2_with fail
          refine hrd.out.mono ?_
          rintro e w2 ⟨v, rfl, ho2, hk2⟩
          obtain ⟨pv, cv, nv, rfl⟩ : ∃ pv cv nv, v = .slice pv nv cv := by
            obtain ⟨pv, cv, hv, _⟩ := ho2.reads
            exact ⟨pv, cv, _, hv⟩
          have hw2 := hk2.get HJ.out.1 (by simp)
          have c6 : w2.frozen? ⟨wb, j, none⟩ = false := frozen_of j hw2
          have c7 : w2.cell? ⟨wb, j, none⟩ = some (vs j) := by
            have : j = 0 ∨ j = 1 ∨ j = 2 ∨ j = 3 := by omega
            rcases this with rfl | rfl | rfl | rfl <;> exact cell_of hw2 rfl
          have H2 := Lib.hid (And.intro hw2 (And.intro ho2 hk2))
          clear hw2 ho2 hk2
          go_wp2
          go_roundg (gk - 1)
          case measure => omega
          case rel =>
            have hks : Keeps [wb] w2 (w2.setCell ⟨wb, j, none⟩ (.slice pv nv cv)) := (Keeps.refl _ _).setCell (Or.inl (by simp)) _
            have hbase : wb + 1 ≤ wr.heap.size := by have := lt_of_heap HJ.out.1; omega
            refine ⟨j + 1, fun i => if i = j then .slice pv nv cv else vs i, by push_cast; rfl, by omega, by omega, ?_, fun i hi => ?_, ?_⟩
            · rw [heap_setCell H2.out.1]
              have : j = 0 ∨ j = 1 ∨ j = 2 ∨ j = 3 := by omega
              rcases this with rfl | rfl | rfl | rfl <;> rfl
            · by_cases e : i = j
              · subst e
                show Own _ _ _ (if _ = _ then _ else _) _
                rw [if_pos rfl]
                have h := H2.out.2.1
                obtain ⟨o1, o2⟩ := h
                have hown : Own w2 (wb + 1) 5 (.slice pv nv cv) ((allB used st i).map bv) := by
                  refine ⟨o1, ?_⟩
                  rcases o2 with o2 | ⟨g, cp, cu, r1, r2, r3⟩
                  · exact Or.inl o2
                  · exact Or.inr ⟨g, cp, cu, r1, by omega, r3⟩
                exact hown.keep_lo hks (by simp)
              · show Own _ _ _ (if _ = _ then _ else _) _
                rw [if_neg e]
                exact ((HJ.out.2.1 i (by omega)).keep H2.out.2.2 (by simp)).keep_lo hks (by simp)
            · exact s4_keepx (HJ.out.2.2.keep H2.out.2.2) hks (by simp; exact H1.out.2.2.1) (by simp; exact H1.out.2.2.2.2)
        · obtain rfl : j = 4 := by omega
          have hW := HSEP.out
          obtain ⟨s1, s2, s3, s4, s5, s6⟩ := HJ.out.2.2
          obtain ⟨d1, d2, d3, d4, d5, d6, d7⟩ := hW.2.2.2.1 0 (by omega)
          have hle := le_total st 0 (by omega)
          have hu0 : 0 ≤ used := by have := psum_le st 0 (by omega); rw [s4]; have := psum_le st 4 (by omega); rw [psum_four] at this; exact this.1
          obtain ⟨nw, ew, u', l', hwm, hg1, hg2, hg3, hg4, hg6, hg7, hg8, hg9, _⟩ := write_gen (s := ⟨used, (st 0).1, (st 0).2⟩) (s3 0 (by omega)).2 s5 off data
          have c5 : wr.cell? ⟨ab, 0, none⟩ = some (.pointer (some ⟨(ad 0).1, 0, none⟩)) := HJ.out.2.2.cell (by omega)
          have hDr := HD.out.1.keep s6 (by simp)
          have hb3 : ∀ y : Nat, W.heap.size ≤ y → 0 < data.length → Value.ownBlock (.slice dp dn dc) ≠ some y := fun y hy h0 e => by have := HD.out.2.2 (by rw [HDN.out]; exact h0) y e; omega
          have hwc := write_any sb (ad 0).1 (ad 0).2 room ⟨used, (st 0).1, (st 0).2⟩ off data _ wr s2 (s3 0 (by omega)).1 (Ne.symm d5) hu0 s5 hr1 hDr (fun h0 y hy => hb3 y (by have := hW.2.1; simp at hy; omega) h0) HD.out.2.1
          rw [hwm] at hwc
          have HWC := Lib.hid hwc
          obtain ⟨s', hs'⟩ : ∃ s', s' = (⟨u', if nw = 0 then (st 0).1 else max (st 0).1 (off + nw), l'⟩ : BS) := ⟨_, rfl⟩
          have hpl := keeps_plain (u := used) (u' := u') (s3 0 (by omega)).2 hg6 (fun h => ⟨(hg7 h).1, (hg7 h).2.1⟩) (fun h => (hg8 h).1) hg9
          rw [← hs'] at hpl
          have HPL := Lib.hid hpl
          have HGE := Lib.hid (And.intro hg1 (And.intro (fun h => (hg7 h)) hg8))
          have HG := Lib.hid (show s'.used ≤ room ∧ s'.used - used = (s'.l.length : Int) - ((st 0).2.length : Int) ∧ OkB s'.sz s'.l by rw [hs']; exact ⟨hg2, hg4, hg6⟩)
          have HS' := Lib.hid hs'
          clear hwc hwm hg1 hg2 hg3 hg4 hg6 hg7 hg8 hg9 hpl hs' hDr hb3 s1 s2 s3 s4 s6 d1 d2 d3 d4 d5 d6 d7 hle hW
          go_wp2_with fail
          refine HWC.out.mono ?_
          rintro e w2 ⟨rfl, q1, q2, q3⟩
          have q1' : SAt w2 sb room s'.used := by rw [HS'.out]; exact q1
          have q2' : BAt w2 (ad 0).1 (ad 0).2 s'.sz s'.l := by rw [HS'.out]; exact q2
          clear q1 q2
          have hst2 := S4.step HJ.out.2.2 HSEP.out (show 0 < 4 by omega) s' q1' q2' q3 HG.out.2.2 HG.out.1 HG.out.2.1
          have hw2 := q3.get HJ.out.1 (by have h := H1.out.2.2.2.2; have := h.2.2 0 (by omega); simp; exact ⟨h.2.1, this.1, this.2⟩)
          have how2 : ∀ i, i < 4 → Own w2 (wb + 1) 5 (vs i) ((allB used st i).map bv) := fun i hi => (HJ.out.2.1 i hi).keep_lo q3 (by have h := H1.out.2.2.2.1; have := h.2.2 0 (by omega); simp; omega)
          have c6 : w2.cell? ⟨ab, 0, none⟩ = some (.pointer (some ⟨(ad 0).1, 0, none⟩)) := hst2.cell (by omega)
          have H2 := Lib.hid (And.intro hst2 (And.intro hw2 how2))
          have HR2 := Lib.hid (read_any (.pointer (some ⟨sb, 0, none⟩)) (ad 0).1 (ad 0).2 s' 0 65536 w2 q2')
          clear q1' q2' q3 hst2 hw2 how2 c5 HWC
          go_wp2_with fail
          refine HR2.out.mono ?_
          rintro e w3 ⟨v, rfl, ho3, hk3⟩
          obtain ⟨ns, hns⟩ : ∃ ns, ns = (readM s' 0 65536).1 := ⟨_, rfl⟩
          have hpl := HPL.out
          rw [← hns] at ho3 hpl
          have hst3 := H2.out.1.keep hk3
          have hw3 := hk3.get H2.out.2.1 (by simp)
          have how3 : ∀ i, i < 4 → Reads w3 (vs i) ((allB used st i).map bv) := fun i hi => ((H2.out.2.2 i hi).keep hk3 (by simp)).reads
          have hrn := ho3.reads
          clear ho3 hk3 H2 HR2 c6 HPL
          have hrw := how3 0 (by omega)
          obtain ⟨p0, k0, hv0, hk0, hr0'⟩ := how3 0 (by omega)
          obtain ⟨p1, k1, hv1, hk1, _⟩ := how3 1 (by omega)
          obtain ⟨p2, k2, hv2, hk2, _⟩ := how3 2 (by omega)
          obtain ⟨p3, k3, hv3, hk3, _⟩ := how3 3 (by omega)
          have hrnow := hrn
          obtain ⟨pn, kn, rfl, hkn, hrn'⟩ := hrn
          obtain ⟨ws, hws⟩ : ∃ ws, ws = allB used st 0 := ⟨_, rfl⟩
          have hpl' : ws.length ≤ 65536 ∧ (nw = 0 → ns = ws) ∧ (0 < nw → max (ws.length : Int) (off + nw) = (ns.length : Int) ∧
              ∀ i : Nat, i < ns.length → ns.getD i 0 = if off ≤ i ∧ (i : Int) < off + nw then data.getD (i - off.toNat) 0 else if i < ws.length then ws.getD i 0 else 0) := by rw [hws]; exact hpl
          clear hpl
          rw [← hws] at hv0 hk0 hr0' hrw
          rw [List.length_map] at hv0 hk0 hr0' hkn hrn' hrnow ⊢
          obtain ⟨n0, hn0⟩ : ∃ n0, n0 = ws.length := ⟨_, rfl⟩
          obtain ⟨nn, hnn⟩ : ∃ nn, nn = ns.length := ⟨_, rfl⟩
          obtain ⟨n1, hn1⟩ : ∃ n1, n1 = ((allB used st 1).map bv).length := ⟨_, rfl⟩
          obtain ⟨n2, hn2⟩ : ∃ n2, n2 = ((allB used st 2).map bv).length := ⟨_, rfl⟩
          obtain ⟨n3, hn3⟩ : ∃ n3, n3 = ((allB used st 3).map bv).length := ⟨_, rfl⟩
          rw [← hn0] at hv0 hk0 hr0'
          rw [← hn1] at hv1
          rw [← hn2] at hv2
          rw [← hn3] at hv3
          rw [← hnn] at hkn hrn' hrnow ⊢
          rw [hv0, hv1, hv2, hv3] at hw3
          rw [hv0] at hrw
          rw [← hn0, ← hnn] at hpl'
          have hn065 : n0 ≤ 65536 := hpl'.1
          have c7 : w3.cell? ⟨wb, 0, none⟩ = some (.slice p0 n0 k0) := cell_of hw3 rfl
          have HP := Lib.hid hpl'.2
          have H3 := Lib.hid (And.intro hst3 (And.intro how3 (And.intro hr0' hrn')))
          have HW3 := Lib.hid (And.intro hw3 (And.intro hv0 (And.intro hv1 (And.intro hv2 hv3))))
          have HN0 := Lib.hid hn0
          have HNN := Lib.hid hnn
          have HRW := Lib.hid hrw
          have HRN := Lib.hid hrnow
          clear hst3 how3 hr0' hrn' hw3 hv0 hv1 hv2 hv3 hk1 hk2 hk3 hn0 hnn hn1 hn2 hn3 hpl' hrw hrnow hws
          by_cases hz0 : nw = 0
          · have hsame : ns = ws := HP.out.1 hz0
            subst hz0
            have v1 := run_bytes_string (P := Try.prog) 22 9 5 Try.underlying22 Try.underlying5 Try.underlying9 HRN.out
            have v2 := run_bytes_string (P := Try.prog) 22 9 5 Try.underlying22 Try.underlying5 Try.underlying9 HRW.out
            rw [hsame] at v1
            by_cases hew : ew = 0
            · go_wp2_with fail
              go_ret
              exact ⟨by simp, H3.out.1.2.2.2.2.2⟩
            · go_wp2_with fail
              go_ret
              exact ⟨by simp, H3.out.1.2.2.2.2.2⟩
          · obtain ⟨hnw0, hnw1, hew⟩ := HGE.out.2.1 (by omega)
            obtain ⟨hmax, hall⟩ := HP.out.2 (by omega)
            have hnw2 : nw ≤ dn := by rw [HDN.out]; exact HGE.out.1
            have hnwi : (nw : Int) ≤ (dn : Int) := by omega
            have hnw3 : ¬ (nw : Int) = 0 := by omega
            have HALL := Lib.hid hall
            have HRW2 := Lib.hid H3.out.2.2.1
            have HRN2 := Lib.hid H3.out.2.2.2
            have hdr3 : 0 < dn → ∃ b o, dp = some ⟨b, o, none⟩ ∧ ∀ j u, (data.map bv)[j]? = some u → w3.cell? ⟨b, o + j, none⟩ = some u := by
              intro h
              obtain ⟨p', c', hv, _, hr⟩ := HD.out.1.keep H3.out.1.2.2.2.2.2 (by simp)
              obtain ⟨b', o', hp, hr2⟩ := hr (by rw [List.length_map, ← HDN.out]; exact h)
              simp only [Value.slice.injEq] at hv
              exact ⟨b', o', hv.1.trans hp, hr2⟩
            have HDR := Lib.hid hdr3
            clear hdr3
            clear hall hz0 HP HGE HG HS'
            subst hew
            have hgm : ((nn : Int) != if (n0 : Int) < off + (nw : Int) then off + (nw : Int) else (n0 : Int)) = false := by
              have : (if (n0 : Int) < off + (nw : Int) then off + (nw : Int) else (n0 : Int)) = nn := by split <;> omega
              rw [this]; simp
            have hgn : ¬ (nw : Int) < 0 := by omega
            have hgd : ¬ dn < nw := by omega
            have hge : ((nw : Int) == 0) = false := by simp; omega
            have HMAX := Lib.hid hmax
            clear hmax
            go_upto_region 23 with fail
            go_cut [139] (fun v wx => v = .bool false ∧ w3 = wx)
            case first =>
              clear HALL HRW2 HRN2 HDR
              go_wp2_with fail
              all_goals go_meet
              all_goals exact ⟨rfl, rfl⟩
            obtain ⟨rfl, rfl⟩ := hcut
            clear hgm hgd hge
            go_wp2_with fail
            go_loopg [142] nn (fun k v wx => IdxI nn w3 k v wx)
            case atStart => exact ⟨0, rfl, by omega, by omega, rfl⟩
            case round =>
              obtain ⟨i, rfl, hin, hk, rfl⟩ := hrel
              by_cases hlt : i < nn
              · obtain ⟨bn, on, rfl, hcn⟩ := HRN2.out (by omega)
                have hv := HALL.out i hlt
                have c1 := cell_getD hcn (i := i) (by rw [← HNN.out]; exact hlt)
                obtain ⟨z, hz⟩ : ∃ z : Int, z = ((ns.getD i 0).toNat : Int) := ⟨_, rfl⟩
                rw [← hz] at c1
                rw [hv] at hz
                clear hv hcn
                have hzz : (z != z) = false := by simp
                by_cases hin0 : i < n0
                · obtain ⟨bw, ow, rfl, hcw⟩ := HRW2.out (by omega)
                  have c2 := cell_getD hcw (i := i) (by rw [← HN0.out]; exact hin0)
                  rw [if_pos hin0] at hz
                  clear hcw
                  by_cases hof : off ≤ (i : Int)
                  · by_cases hon : (i : Int) < off + nw
                    · rw [if_pos ⟨hof, hon⟩] at hz
                      obtain ⟨j, hj, hj2⟩ : ∃ j : Nat, (i : Int) - off = j ∧ i - off.toNat = j := ⟨i - off.toNat, by omega, rfl⟩
                      rw [hj2] at hz
                      have hjn : j < nw := by omega
                      have hjd : j < dn := by omega
                      have hjn' : (j : Int) < (nw : Int) := by omega
                      obtain ⟨bd, od, rfl, hcd⟩ := HDR.out (by omega)
                      have c3 := cell_getD hcd (i := j) (by rw [← HDN.out]; exact hjd)
                      rw [← hz] at c3
                      clear hcd hz hj2
                      go_wp2
                      go_roundg (gk - 1)
                      case measure => omega
                      case rel => exact ⟨i + 1, by push_cast; rfl, by omega, by omega, rfl⟩
                    · rw [if_neg (fun h => hon h.2)] at hz
                      have hon2 : ¬ (i : Int) - off < (nw : Int) := by omega
                      have hof2 : 0 ≤ (i : Int) - off := by omega
                      rw [← hz] at c2
                      clear hz
                      go_wp2
                      go_roundg (gk - 1)
                      case measure => omega
                      case rel => exact ⟨i + 1, by push_cast; rfl, by omega, by omega, rfl⟩
                  · rw [if_neg (fun h => hof h.1)] at hz
                    have hof2 : ¬ 0 ≤ (i : Int) - off := by omega
                    rw [← hz] at c2
                    clear hz
                    go_wp2
                    go_roundg (gk - 1)
                    case measure => omega
                    case rel => exact ⟨i + 1, by push_cast; rfl, by omega, by omega, rfl⟩
                · rw [if_neg hin0] at hz
                  by_cases hof : off ≤ (i : Int)
                  · by_cases hon : (i : Int) < off + nw
                    · rw [if_pos ⟨hof, hon⟩] at hz
                      obtain ⟨j, hj, hj2⟩ : ∃ j : Nat, (i : Int) - off = j ∧ i - off.toNat = j := ⟨i - off.toNat, by omega, rfl⟩
                      rw [hj2] at hz
                      have hjn : j < nw := by omega
                      have hjd : j < dn := by omega
                      have hjn' : (j : Int) < (nw : Int) := by omega
                      obtain ⟨bd, od, rfl, hcd⟩ := HDR.out (by omega)
                      have c3 := cell_getD hcd (i := j) (by rw [← HDN.out]; exact hjd)
                      rw [← hz] at c3
                      clear hcd hz hj2
                      go_wp2
                      go_roundg (gk - 1)
                      case measure => omega
                      case rel => exact ⟨i + 1, by push_cast; rfl, by omega, by omega, rfl⟩
                    · have := HMAX.out; omega
                  · rw [if_neg (fun h => hof h.1)] at hz
                    have hof2 : ¬ 0 ≤ (i : Int) - off := by omega
                    have hz0 : z = 0 := by rw [hz]; rfl
                    subst hz0
                    clear hz
                    go_wp2
                    go_roundg (gk - 1)
                    case measure => omega
                    case rel => exact ⟨i + 1, by push_cast; rfl, by omega, by omega, rfl⟩
              · clear HALL HRW2 HRN2 HDR HRW HRN HNN HMAX HN0
                go_upto_block 0 with fail
                go_loopg [21] 4 (fun k v wx => K3 w3 k v wx)
                case atStart => exact ⟨1, rfl, by omega, by omega, by omega, Keeps.refl _ _⟩
                case round =>
                  obtain ⟨k, rfl, hk1, hk4, hkk, hkx⟩ := hrel
                  have HKX := Lib.hid (H3.out.1.2.2.2.2.2.trans hkx)
                  by_cases hk : k < 4
                  · have hst := H3.out.1.keep hkx
                    have hbk : BAt wr (ad k).1 (ad k).2 (st k).1 (st k).2 := by
                      have := (hst.2.2.1 k hk).1
                      rwa [upd_other st s' (show k ≠ 0 by omega)] at this
                    have c5 : wr.cell? ⟨ab, k, none⟩ = some (.pointer (some ⟨(ad k).1, 0, none⟩)) := hst.cell hk
                    obtain ⟨pk, ck, hvk, _, _⟩ := H3.out.2.1 k hk
                    obtain ⟨nk, hnk⟩ : ∃ nk, nk = ((allB used st k).map bv).length := ⟨_, rfl⟩
                    rw [← hnk] at hvk
                    have hck : ∀ w', Keeps [] w3 w' → w'.cell? ⟨wb, k, none⟩ = some (vs k) := by
                      intro w' hw'
                      obtain ⟨g1, g2, g3, g4, g5⟩ := HW3.out
                      have g1 := hw'.get g1 (by simp)
                      have : k = 1 ∨ k = 2 ∨ k = 3 := by omega
                      rcases this with rfl | rfl | rfl
                      · rw [g3]; exact cell_of g1 rfl
                      · rw [g4]; exact cell_of g1 rfl
                      · rw [g5]; exact cell_of g1 rfl
                    have hrk := H3.out.2.1 k hk
                    rw [hvk] at hck hrk
                    have HRD := Lib.hid (read_any (.pointer (some ⟨sb, 0, none⟩)) (ad k).1 (ad k).2 ⟨used, (st k).1, (st k).2⟩ 0 65536 wr hbk)
                    have HK := Lib.hid (And.intro hkx (And.intro hck hrk))
                    clear hst hbk hvk hnk hck hrk hkx
                    go_wp2_with fail
                    refine HRD.out.mono ?_
                    rintro e w4 ⟨v, rfl, ho4, hk4'⟩
                    have hr4 := ho4.reads
                    obtain ⟨pc, cc, nc, rfl⟩ : ∃ pc cc nc, v = .slice pc nc cc := by
                      obtain ⟨pv, cv, hv, _⟩ := hr4
                      exact ⟨pv, cv, _, hv⟩
                    have hkw := HK.out.1.trans hk4'
                    have hsb : SB wb k (.slice pk nk ck) (.slice pc nc cc) (allB used st k) w4 := ⟨HK.out.2.1 _ hkw, HK.out.2.2.keep hkw (by simp), hr4⟩
                    have HSB := Lib.hid hsb
                    have HKW := Lib.hid hkw
                    clear ho4 hr4 hkw hsb hk4' HRD c5
                    go_upto_region 41 with fail
                    refine vp_region (SB wb k (.slice pk nk ck) (.slice pc nc cc) (allB used st k)) [(0, true), (1, true), (2, true), (3, true), (4, true), (5, true), (6, true)] (by kernel_rfl) (by kernel_rfl) (by intro _ d _ _ _ h; cases d <;> exact h) HSB.out ?_
                    intro w6 hw6
                    simp only [pick, List.map_cons, List.map_nil, List.getD_cons_zero, List.getD_cons_succ]
                    repeat
                      refine ord_free rfl (v := ?_) ?_ ?_
                      rotate_left
                      · intro w' hw'
                        obtain ⟨c0, c1, c2⟩ := hw'
                        have v1 := run_bytes_string (P := Try.prog) 22 9 5 Try.underlying22 Try.underlying5 Try.underlying9 c1
                        have v2 := run_bytes_string (P := Try.prog) 22 9 5 Try.underlying22 Try.underlying5 Try.underlying9 c2
                        go_simp
                        with_reducible rfl
                      simp only [Act.put, List.setIfInBounds_toArray, List.set_cons_zero, List.set_cons_succ]
                    subst hw6
                    refine ord_nil ?_
                    go_wp2
                    go_roundg (gk - 1)
                    case measure => omega
                    case rel => exact ⟨k + 1, by push_cast; rfl, by omega, by omega, by omega, HKW.out.drew⟩
                  · clear H3 HW3
                    go_wp2
                    go_ret
                    exact ⟨rfl, HKX.out⟩
end Go.Proofs.Ythkeahjcokbaaaa
