import Derived.Test.YthkeahjcokbaaaaB15
import Derived.Test.YthkeahjcokbaaaaV5
namespace Go.V.Block
open Go.V
theorem cutL_zero (l : CL) : cutL 0 l = [] := by
  have h : ∀ k, k ∉ keys (cutL 0 l) := fun k hk => by have := (cutL_mem.1 hk).2; omega
  cases hc : cutL 0 l with
  | nil => rfl
  | cons p q => exact absurd (by rw [hc]; simp [keys]) (h p.1)
theorem free_plain {s : BS} (h : s.used = (s.l.length : Int)) : (cutM s 0).2 = ⟨0, 0, []⟩ := by
  unfold cutM
  rw [if_neg (by omega), if_neg (by omega)]
  simp only [Int.toNat_zero, cutL_zero, List.length_nil, h]
  congr 1
  omega
end Go.V.Block
namespace Go.Proofs.Ythkeahjcokbaaaa
open Go.RowKit Go.V Go.V.Block

set_option maxRecDepth 100000 in
set_option maxHeartbeats 2000000 in
theorem frees_any (room : Int) (A : Value) (acts : List ActV) (off : Int) (D : Value) (data : List UInt8) (W : World) (hA : SliceOf 5 ActOk W A acts) (hD : Reads W D (data.map bv)) (hf : Fits D) (hblk : 0 < data.length → ∀ g, D.ownBlock = some g → g < W.heap.size) :
    Calls Try.prog 9 #[.int .i64 room, A, .int .i64 off, D] W (Tells (.bool true) W) := by
  have HA0 := Lib.hid hA
  obtain ⟨p, cap, rfl, hcap, hc, hr⟩ := hA
  obtain ⟨n, hn⟩ : ∃ n, n = acts.length := ⟨_, rfl⟩
  have HR := Lib.hid hr
  have HN := Lib.hid hn
  rw [← hn] at hcap HA0 ⊢
  clear hr hn
  have HD := Lib.hid (And.intro hD (And.intro hf hblk))
  obtain ⟨dp, dc, rfl, hdc, hdr⟩ := hD
  rw [List.length_map] at hdc hdr HD ⊢
  obtain ⟨dn, hdn⟩ : ∃ dn, dn = data.length := ⟨_, rfl⟩
  rw [← hdn] at hdc hdr HD ⊢
  clear hdr hf hblk
  have HDN := Lib.hid hdn
  clear hdn
  by_cases hroom : room < 0 ∨ 65536 < room
  · go_enter Try.func9, Try.ntmps9
    go_wp2_with fail
    refine (awake_any _).mono ?_
    rintro e w1 ⟨rfl, hk1⟩
    go_wp2_with fail
    refine (new_bad room _ hroom).mono ?_
    rintro e w2 ⟨rfl, rfl⟩
    go_wp2_with fail
    refine (new_bad room _ hroom).mono ?_
    rintro e w2 ⟨rfl, rfl⟩
    go_wp2
    go_ret
    exact ⟨rfl, hk1⟩
  · obtain ⟨hr0, hr1⟩ : 0 ≤ room ∧ room ≤ 65536 := by omega
    clear hroom
    by_cases hd4 : 4096 < dn
    · have hd4' : (4096 : Int) < (dn : Int) := by omega
      go_enter Try.func9, Try.ntmps9
      go_wp2_with fail
      refine (awake_any _).mono ?_
      rintro e w1 ⟨rfl, hk1⟩
      go_wp2_with fail
      refine (new_any room _ hr0 hr1).mono ?_
      rintro e w2 ⟨sb, hsb, rfl, hs2, hk2⟩
      go_wp2_with fail
      refine (new_any room _ hr0 hr1).mono ?_
      rintro e w2t ⟨tb, htb, rfl, ht2, hk2t⟩
      go_wp2
      go_ret
      exact ⟨rfl, (hk1.trans hk2).trans hk2t⟩
    · have hd4' : (dn : Int) ≤ (4096 : Int) := by omega
      go_enter Try.func9, Try.ntmps9
      go_wp2_with fail
      refine (awake_any _).mono ?_
      rintro e w1 ⟨rfl, hk1⟩
      go_wp2_with fail
      refine (new_any room _ hr0 hr1).mono ?_
      rintro e w2 ⟨sb, hsb, rfl, hs2, hk2⟩
      go_wp2_with fail
      refine (new_any room _ hr0 hr1).mono ?_
      rintro e w2t ⟨tb, htb, rfl, ht2, hk2t⟩
      go_wp2_with fail
      refine (body_any _ _).mono ?_
      rintro e w3 ⟨bb, mb, hbb, hmb, rfl, hb3, hk3⟩
      have hst : St2 sb bb mb room ⟨0, 0, []⟩ W w3 w3 := ⟨⟨(hs2.keep hk2t (by simp)).keep hk3 (by simp), hb3, okB_nil, rfl, hr0, ((hk1.trans hk2).trans hk2t).trans hk3⟩, Keeps.refl _ _⟩
      have ht3 := ht2.keep hk3 (by simp)
      have hz1 := hk1.size
      have hz2 := hk2.size
      have hz3 := hk2t.size
      have hl2 := hs2.lt
      have hlt := ht2.lt
      have hb1 : W.heap.size ≤ sb := by omega
      have hb2 : W.heap.size ≤ bb := by omega
      have hb4 : W.heap.size ≤ mb := by omega
      have hne : sb ≠ bb := by omega
      have hnt : W.heap.size ≤ tb ∧ tb ≠ sb ∧ tb ≠ bb ∧ tb ≠ mb := by omega
      have HST := Lib.hid hst
      have HB := Lib.hid (And.intro hb1 (And.intro hb2 (And.intro hb4 hne)))
      have HT := Lib.hid (And.intro ht3 hnt)
      clear hst hz1 hz2 hz3 hl2 hlt hb1 hb2 hb4 hne hnt hs2 ht2 ht3 hk1 hk2 hk2t hk3 hb3 hsb htb hbb hmb
      go_upto_block 0 with fail
      go_cut [12] (fun _ wx => LE2 sb bb mb room W w3 wx)
      case first =>
        go_wp2_with fail
        go_loopg [12] n (fun k v wx => LI2 sb bb mb room n W w3 k v wx)
        case atStart =>
          exact ⟨0, ⟨0, 0, []⟩, rfl, by omega, by omega, HST.out⟩
        case round =>
          obtain ⟨i, s, rfl, hin, hk, hst⟩ := hrel
          have HS := Lib.hid hst
          clear hst
          by_cases hlt : i < n ∧ i < 60
          · obtain ⟨hi1, hi2⟩ := hlt
            obtain ⟨x, hx⟩ : ∃ x, acts[i]? = some x := ⟨_, List.getElem?_eq_getElem (by rw [← HN.out]; exact hi1)⟩
            obtain ⟨b, o, rfl, hb, he⟩ := HR.out (by rw [← HN.out]; omega)
            obtain ⟨cs, hcs, hra, hok⟩ := he i x hx
            obtain rfl := hok.1
            have hkW := HS.out.1.2.2.2.2.2
            have hra1 := hra.keep hkW (by simp)
            have hok1 := actOk_keep hok hkW (by simp)
            have HX := Lib.hid (And.intro hra1 (And.intro hok1 (And.intro hok hb)))
            clear hra1 hok1 hok hb hkW he hx hra hcs
            have c0 : wr.cell? ⟨b, o + i * 5, none⟩ = some (.int .i64 x.kind) := HX.out.1 0 _ rfl
            have c1 : wr.cell? ⟨b, o + i * 5 + 1, none⟩ = some (.int .i64 x.who) := HX.out.1 1 _ rfl
            have c2 : wr.cell? ⟨b, o + i * 5 + 2, none⟩ = some (.int .i64 x.off) := HX.out.1 2 _ rfl
            have c3 : wr.cell? ⟨b, o + i * 5 + 3, none⟩ = some (.int .i64 x.n) := HX.out.1 3 _ rfl
            have c4 : wr.cell? ⟨b, o + i * 5 + 4, none⟩ = some x.b := HX.out.1 4 _ rfl
            go_wp2_with fail
            refine (large_ok x wr HX.out.2.1).mono ?_
            obtain ⟨lb, hlb⟩ : ∃ lb, lb = largeB x := ⟨_, rfl⟩
            rw [← hlb]
            clear hlb
            rintro e w5 ⟨rfl, hk5⟩
            have HK5 := Lib.hid hk5
            have HC := Lib.hid (And.intro c0 (And.intro c1 (And.intro c2 (And.intro c3 c4))))
            clear hk5 c0 c1 c2 c3 c4
            cases lb with
            | true =>
              go_wp2
              go_ret
              exact ⟨rfl, HS.out.1.2.2.2.2.2.trans HK5.out⟩
            | false =>
              have c0 : w5.cell? ⟨b, o + i * 5, none⟩ = some (.int .i64 x.kind) := (HX.out.1.keep HK5.out (by simp)) 0 _ rfl
              have c1 : w5.cell? ⟨b, o + i * 5 + 1, none⟩ = some (.int .i64 x.who) := (HX.out.1.keep HK5.out (by simp)) 1 _ rfl
              have c2 : w5.cell? ⟨b, o + i * 5 + 2, none⟩ = some (.int .i64 x.off) := (HX.out.1.keep HK5.out (by simp)) 2 _ rfl
              have c3 : w5.cell? ⟨b, o + i * 5 + 3, none⟩ = some (.int .i64 x.n) := (HX.out.1.keep HK5.out (by simp)) 3 _ rfl
              have c4 : w5.cell? ⟨b, o + i * 5 + 4, none⟩ = some x.b := (HX.out.1.keep HK5.out (by simp)) 4 _ rfl
              go_wp2_with fail
              obtain ⟨⟨s1, s2, s3, s4, s5, s6⟩, s7⟩ := HS.out
              obtain ⟨n1, n2, n3, n4⟩ := HB.out
              refine (play_any sb bb mb room s x w5 (s1.keep HK5.out (by simp)) (s2.keep HK5.out (by simp) (by simp)) n4 s3.1.2.1 (by omega) s5 hr1 (actOk_keep HX.out.2.1 HK5.out (by simp)) ?_).mono ?_
              · intro h0 y hy e
                have := HX.out.2.2.1.2.2.2.2.2.2.2 h0 y e
                simp at hy
                omega
              · rintro e w6 ⟨rfl, q1, q2, q3⟩
                have s76 := (s7.trans (HK5.out.mono (by simp))).trans q3
                have hst6 := And.intro (St.play (w' := w6) (x := x) ⟨s1.keep HK5.out (by simp), s2.keep HK5.out (by simp) (by simp), s3, s4, s5, s6.trans HK5.out⟩ n1 n2 n3 q1 q2 q3) s76
                have HS6 := Lib.hid hst6
                clear hst6 q1 q2 q3 s1 s2 s3 s4 s5 s6 s7 s76 n1 n2 n3 n4 c0 c1 c2 c3 c4
                go_wp2
                go_roundg (gk - 1)
                case measure => omega
                case rel => exact ⟨i + 1, _, by push_cast; rfl, by omega, by omega, HS6.out⟩
          · by_cases h1 : i < n
            · have h2 : ¬ i < 60 := fun h => hlt ⟨h1, h⟩
              go_wp2
              go_meet
              case rel => exact ⟨s, HS.out⟩
            · go_wp2
              go_meet
              case rel => exact ⟨s, HS.out⟩
      case rest =>
        obtain ⟨s, hst⟩ := hcut
        obtain ⟨⟨s1, s2, s3, s4, s5, s6⟩, s7⟩ := hst
        obtain ⟨n1, n2, n3, n4⟩ := HB.out
        obtain ⟨t1, t2, t3, t4, t5⟩ := HT.out
        have htw := t1.keep s7 (by simp; omega)
        have hfr := free_any sb bb mb room s wc s1 s2 n4 s3.1.2.1 (by omega) (by omega)
        rw [free_plain s4] at hfr
        have hls := s1.lt
        have hlb := s2.lt
        have hlt := htw.lt
        clear HST HR HN HA0 s1 s2 s3 s4 s5 s7
        go_wp2_with fail
        refine hfr.mono ?_
        rintro e w4 ⟨rfl, f1, f2, hk4⟩
        have ht4 := htw.keep hk4 (by simp; omega)
        have s64 := s6.trans' hk4 (by simp; omega)
        have hz4 := hk4.size
        have f1 : SAt w4 sb room 0 := f1
        have f2 : BAt w4 bb mb 0 [] := f2
        go_wp2_with fail
        refine (used_ok sb room 0 w4 f1).mono ?_
        rintro e w' ⟨rfl, rfl⟩
        go_wp2_with fail
        refine (size_ok bb mb 0 [] w4 f2).mono ?_
        rintro e w' ⟨rfl, rfl⟩
        go_wp2_with fail
        refine (chunks_any bb mb 0 [] w4 f2).mono ?_
        rintro e w' ⟨rfl, rfl⟩
        go_wp2_with fail
        refine (holes_any bb mb 0 [] w4 f2).mono ?_
        rintro e w5 ⟨vh, rfl, hoh, hk5⟩
        have hvh : ∃ ph ch, vh = .slice ph 0 ch := by
          obtain ⟨ph, ch, hv, _⟩ := hoh.reads
          exact ⟨ph, ch, hv⟩
        obtain ⟨ph, ch, rfl⟩ := hvh
        have f15 := f1.keep hk5 (by simp)
        have t15 := ht4.keep hk5 (by simp)
        have s65 := s64.trans hk5
        have hz5 := hk5.size
        clear hoh hk5 f1 f2 ht4 s64 hk4 htw s6 hfr
        go_wp2_with fail
        refine (body_any _ _).mono ?_
        rintro e w6 ⟨cb, cm, hcb, hcm, rfl, hc6, hk6⟩
        have hz6 := hk6.size
        have f16 := f15.keep hk6 (by simp)
        have t16 := t15.keep hk6 (by simp)
        have s66 := s65.trans hk6
        go_wp2_with fail
        refine (body_any _ _).mono ?_
        rintro e w7 ⟨db, dm, hdb, hdm, rfl, hd7, hk7⟩
        have hlc := hc6.lt
        have hz7 := hk7.size
        have f17 := f16.keep hk7 (by simp)
        have t17 := t16.keep hk7 (by simp)
        have c7 := hc6.keep hk7 (by simp) (by simp)
        have s67 := s66.trans hk7
        have hD7 := HD.out.1.keep s67 (by simp)
        have hld := hd7.lt
        have hb3 : ∀ y : Nat, W.heap.size ≤ y → 0 < data.length → Value.ownBlock (.slice dp dn dc) ≠ some y := fun y hy h0 e => by have := HD.out.2.2 (by rw [HDN.out]; exact h0) y e; omega
        have hb5 : W.heap.size ≤ cb ∧ W.heap.size ≤ cm ∧ W.heap.size ≤ db ∧ W.heap.size ≤ dm := by have := s65.size; omega
        clear f15 t15 s65 hk6 f16 t16 s66 hc6 hk7
        go_wp2_with fail
        refine (write_any sb cb cm room ⟨0, 0, []⟩ off data _ _ f17 c7 (by omega) (by decide) hr0 hr1 hD7 (fun h0 y hy => hb3 y (by simp at hy; omega) h0) HD.out.2.1).mono ?_
        rintro e w8 ⟨rfl, f18, c8, hk8⟩
        have t18 := t17.keep hk8 (by simp; omega)
        have d8 := hd7.keep hk8 (by simp; omega) (by simp; omega)
        have s68 := s67.trans' hk8 (by simp; omega)
        have hD8 := HD.out.1.keep s68 (by simp)
        clear f17 c7 t17 hd7 s67 hD7 hk8
        go_wp2_with fail
        refine (write_any tb db dm room ⟨0, 0, []⟩ off data _ _ t18 d8 (by omega) (by decide) hr0 hr1 hD8 (fun h0 y hy => hb3 y (by simp at hy; omega) h0) HD.out.2.1).mono ?_
        rintro e w9 ⟨rfl, t19, d9, hk9⟩
        obtain ⟨R, hR⟩ : ∃ R, R = writeM room ⟨0, 0, []⟩ off data := ⟨_, rfl⟩
        rw [← hR] at f18 c8 t19 d9 ⊢
        have f19 := f18.keep hk9 (by simp; omega)
        have c9 := c8.keep hk9 (by simp; omega) (by simp; omega)
        have s69 := s68.trans' hk9 (by simp; omega)
        clear f18 c8 t18 d8 s68 hD8 hk9 hR
        go_wp2_with fail
        refine (read_any _ cb cm R.2.2 0 65536 _ c9).mono ?_
        rintro e w10 ⟨vx, rfl, hox, hk10⟩
        have f20 := f19.keep hk10 (by simp)
        have t20 := t19.keep hk10 (by simp)
        have d20 := d9.keep hk10 (by simp) (by simp)
        have s70 := s69.trans hk10
        clear f19 t19 c9 d9 s69 hk10
        go_wp2_with fail
        refine (read_any _ db dm R.2.2 0 65536 _ d20).mono ?_
        rintro e w11 ⟨vy, rfl, hoy, hk11⟩
        have hox1 := hox.keep hk11 (by simp)
        have f21 := f20.keep hk11 (by simp)
        have t21 := t20.keep hk11 (by simp)
        have s71 := s70.trans hk11
        obtain ⟨xs, hxs⟩ : ∃ xs, xs = (readM R.2.2 0 65536).1 := ⟨_, rfl⟩
        obtain ⟨u, hu⟩ : ∃ u, u = R.2.2.used := ⟨_, rfl⟩
        obtain ⟨r1, hr1⟩ : ∃ r1, r1 = R.1 := ⟨_, rfl⟩
        obtain ⟨r2, hr2⟩ : ∃ r2, r2 = R.2.1 := ⟨_, rfl⟩
        rw [← hxs] at hox1 hoy
        rw [← hu] at f21 t21
        rw [← hr1, ← hr2]
        have hrx := Lib.hid hox1.reads
        have hry := Lib.hid hoy.reads
        have v1 := run_bytes_string (P := Try.prog) 22 9 5 Try.underlying22 Try.underlying5 Try.underlying9 hrx.out
        have v2 := run_bytes_string (P := Try.prog) 22 9 5 Try.underlying22 Try.underlying5 Try.underlying9 hry.out
        have hU1 := Lib.hid (used_ok sb room u w11 f21)
        have hU2 := Lib.hid (used_ok tb room u w11 t21)
        have HW := Lib.hid s71
        clear f20 t20 d20 s70 hox hk11 hox1 hoy f21 t21 s71 hxs hu hr1 hr2 hb3 hb5 hlc hld hz7 hz6 hz5 hdb hdm hcb hcm
        go_wp2_with (first
          | (go_at_call_of 16 (Value.pointer (some ⟨sb, 0, none⟩)); refine hU1.out.mono ?_; rintro e w' ⟨rfl, rfl⟩)
          | (go_at_call_of 16 (Value.pointer (some ⟨tb, 0, none⟩)); refine hU2.out.mono ?_; rintro e w' ⟨rfl, rfl⟩)
          | fail)
        go_ret
        exact ⟨by simp, HW.out⟩
end Go.Proofs.Ythkeahjcokbaaaa
