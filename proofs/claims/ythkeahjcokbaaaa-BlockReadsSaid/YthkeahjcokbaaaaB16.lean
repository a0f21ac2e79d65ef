import Derived.Test.YthkeahjcokbaaaaB15
import Derived.Test.YthkeahjcokbaaaaV5
namespace Go.Proofs.Ythkeahjcokbaaaa
open Go.RowKit Go.V Go.V.Block

def RdI (bb mb : Nat) (s : BS) (n : Nat) (vh : Value) (hs : List Value) (base : Nat) (W : World) (k : Nat) (v : Value) (wx : World) : Prop :=
  ∃ i : Nat, v = .int .i64 i ∧ i ≤ n ∧ n - i ≤ k ∧ BAt wx bb mb s.sz s.l ∧ Own wx base 3 vh hs ∧ Keeps [] W wx

set_option maxRecDepth 100000 in
set_option maxHeartbeats 2000000 in
theorem reads_any (room : Int) (A : Value) (acts : List ActV) (off a b : Int) (W : World) (hA : SliceOf 5 ActOk W A acts) (ha0 : 0 ≤ a) (ha1 : a ≤ 65535) (hb0 : 0 ≤ b) (hb1 : b ≤ 65535) :
    Calls Try.prog 8 #[.int .i64 room, A, .int .i64 off, .int .u16 a, .int .u16 b] W (Tells (.bool true) W) := by
  have HA0 := Lib.hid hA
  obtain ⟨p, cap, rfl, hcap, hc, hr⟩ := hA
  obtain ⟨n, hn⟩ : ∃ n, n = acts.length := ⟨_, rfl⟩
  have HR := Lib.hid hr
  have HN := Lib.hid hn
  rw [← hn] at hcap HA0 ⊢
  clear hr hn
  by_cases hroom : room < 0 ∨ 65536 < room
  · go_enter Try.func8, Try.ntmps8
    go_wp2_with fail
    refine (awake_any _).mono ?_
    rintro e w1 ⟨rfl, hk1⟩
    go_wp2_with fail
    refine (new_bad room _ hroom).mono ?_
    rintro e w2 ⟨rfl, rfl⟩
    go_wp2
    go_ret
    exact ⟨rfl, hk1⟩
  · obtain ⟨hr0, hr1⟩ : 0 ≤ room ∧ room ≤ 65536 := by omega
    clear hroom
    by_cases ho0 : off < 0
    · go_enter Try.func8, Try.ntmps8
      go_wp2_with fail
      refine (awake_any _).mono ?_
      rintro e w1 ⟨rfl, hk1⟩
      go_wp2_with fail
      refine (new_any room _ hr0 hr1).mono ?_
      rintro e w2 ⟨sb, hsb, rfl, hs2, hk2⟩
      go_wp2
      go_ret
      exact ⟨rfl, hk1.trans hk2⟩
    · by_cases ho1 : 1099511627776 < off
      · go_enter Try.func8, Try.ntmps8
        go_wp2_with fail
        refine (awake_any _).mono ?_
        rintro e w1 ⟨rfl, hk1⟩
        go_wp2_with fail
        refine (new_any room _ hr0 hr1).mono ?_
        rintro e w2 ⟨sb, hsb, rfl, hs2, hk2⟩
        go_wp2
        go_ret
        exact ⟨rfl, hk1.trans hk2⟩
      · go_enter Try.func8, Try.ntmps8
        go_wp2_with fail
        refine (awake_any _).mono ?_
        rintro e w1 ⟨rfl, hk1⟩
        go_wp2_with fail
        refine (new_any room _ hr0 hr1).mono ?_
        rintro e w2 ⟨sb, hsb, rfl, hs2, hk2⟩
        go_wp2_with fail
        refine (body_any _ _).mono ?_
        rintro e w3 ⟨bb, mb, hbb, hmb, rfl, hb3, hk3⟩
        have hst : St2 sb bb mb room ⟨0, 0, []⟩ W w3 w3 := ⟨⟨hs2.keep hk3 (by simp), hb3, okB_nil, rfl, hr0, (hk1.trans hk2).trans hk3⟩, Keeps.refl _ _⟩
        have hz1 := hk1.size
        have hz2 := hk2.size
        have hl2 := hs2.lt
        have hb1' : W.heap.size ≤ sb := by omega
        have hb2 : W.heap.size ≤ bb := by omega
        have hb4 : W.heap.size ≤ mb := by omega
        have hne : sb ≠ bb := by omega
        have HST := Lib.hid hst
        have HB := Lib.hid (And.intro hb1' (And.intro hb2 (And.intro hb4 hne)))
        clear hst hz1 hz2 hl2 hb1' hb2 hb4 hne hs2 hk1 hk2 hk3 hb3 hsb hbb hmb
        go_upto_block 0 with fail
        go_cut [13] (fun _ wx => LE2 sb bb mb room W w3 wx)
        case first =>
          go_wp2_with fail
          go_loopg [13] n (fun k v wx => LI2 sb bb mb room n W w3 k v wx)
          case atStart =>
            exact ⟨0, ⟨0, 0, []⟩, rfl, by omega, by omega, HST.out⟩
          case round =>
            obtain ⟨i, s, rfl, hin, hk, hst⟩ := hrel
            have HS := Lib.hid hst
            clear hst
            by_cases hlt : i < n ∧ i < 60
            · obtain ⟨hi1, hi2⟩ := hlt
              obtain ⟨x, hx⟩ : ∃ x, acts[i]? = some x := ⟨_, List.getElem?_eq_getElem (by rw [← HN.out]; exact hi1)⟩
              obtain ⟨b, o, rfl, hb, he⟩ := HR.out (by rw [← HN.out]; omega)
              obtain ⟨cs, hcs, hra, hok⟩ := he i x hx
              obtain rfl := hok.1
              have hkW := HS.out.1.2.2.2.2.2
              have hra1 := hra.keep hkW (by simp)
              have hok1 := actOk_keep hok hkW (by simp)
              have HX := Lib.hid (And.intro hra1 (And.intro hok1 (And.intro hok hb)))
              clear hra1 hok1 hok hb hkW he hx hra hcs
              have c0 : wr.cell? ⟨b, o + i * 5, none⟩ = some (.int .i64 x.kind) := HX.out.1 0 _ rfl
              have c1 : wr.cell? ⟨b, o + i * 5 + 1, none⟩ = some (.int .i64 x.who) := HX.out.1 1 _ rfl
              have c2 : wr.cell? ⟨b, o + i * 5 + 2, none⟩ = some (.int .i64 x.off) := HX.out.1 2 _ rfl
              have c3 : wr.cell? ⟨b, o + i * 5 + 3, none⟩ = some (.int .i64 x.n) := HX.out.1 3 _ rfl
              have c4 : wr.cell? ⟨b, o + i * 5 + 4, none⟩ = some x.b := HX.out.1 4 _ rfl
              go_wp2_with fail
              refine (large_ok x wr HX.out.2.1).mono ?_
              obtain ⟨lb, hlb⟩ : ∃ lb, lb = largeB x := ⟨_, rfl⟩
              rw [← hlb]
              clear hlb
              rintro e w5 ⟨rfl, hk5⟩
              have HK5 := Lib.hid hk5
              have HC := Lib.hid (And.intro c0 (And.intro c1 (And.intro c2 (And.intro c3 c4))))
              clear hk5 c0 c1 c2 c3 c4
              cases lb with
              | true =>
                go_wp2
                go_ret
                exact ⟨rfl, HS.out.1.2.2.2.2.2.trans HK5.out⟩
              | false =>
                have c0 : w5.cell? ⟨b, o + i * 5, none⟩ = some (.int .i64 x.kind) := (HX.out.1.keep HK5.out (by simp)) 0 _ rfl
                have c1 : w5.cell? ⟨b, o + i * 5 + 1, none⟩ = some (.int .i64 x.who) := (HX.out.1.keep HK5.out (by simp)) 1 _ rfl
                have c2 : w5.cell? ⟨b, o + i * 5 + 2, none⟩ = some (.int .i64 x.off) := (HX.out.1.keep HK5.out (by simp)) 2 _ rfl
                have c3 : w5.cell? ⟨b, o + i * 5 + 3, none⟩ = some (.int .i64 x.n) := (HX.out.1.keep HK5.out (by simp)) 3 _ rfl
                have c4 : w5.cell? ⟨b, o + i * 5 + 4, none⟩ = some x.b := (HX.out.1.keep HK5.out (by simp)) 4 _ rfl
                go_wp2_with fail
                obtain ⟨⟨s1, s2, s3, s4, s5, s6⟩, s7⟩ := HS.out
                obtain ⟨n1, n2, n3, n4⟩ := HB.out
                refine (play_any sb bb mb room s x w5 (s1.keep HK5.out (by simp)) (s2.keep HK5.out (by simp) (by simp)) n4 s3.1.2.1 (by omega) s5 hr1 (actOk_keep HX.out.2.1 HK5.out (by simp)) ?_).mono ?_
                · intro h0 y hy e
                  have := HX.out.2.2.1.2.2.2.2.2.2.2 h0 y e
                  simp at hy
                  omega
                · rintro e w6 ⟨rfl, q1, q2, q3⟩
                  have s76 := (s7.trans (HK5.out.mono (by simp))).trans q3
                  have hst6 := And.intro (St.play (w' := w6) (x := x) ⟨s1.keep HK5.out (by simp), s2.keep HK5.out (by simp) (by simp), s3, s4, s5, s6.trans HK5.out⟩ n1 n2 n3 q1 q2 q3) s76
                  have HS6 := Lib.hid hst6
                  clear hst6 q1 q2 q3 s1 s2 s3 s4 s5 s6 s7 s76 n1 n2 n3 n4 c0 c1 c2 c3 c4
                  go_wp2
                  go_roundg (gk - 1)
                  case measure => omega
                  case rel => exact ⟨i + 1, _, by push_cast; rfl, by omega, by omega, HS6.out⟩
            · by_cases h1 : i < n
              · have h2 : ¬ i < 60 := fun h => hlt ⟨h1, h⟩
                go_wp2
                go_meet
                case rel => exact ⟨s, HS.out⟩
              · go_wp2
                go_meet
                case rel => exact ⟨s, HS.out⟩
        case rest =>
          obtain ⟨s, hst⟩ := hcut
          obtain ⟨⟨s1, s2, s3, s4, s5, s6⟩, s7⟩ := hst
          clear HST HR HN HA0 HB s1 s7 s4
          have hP := reads_plain (s := s) off a b (by omega) ha0 hb0
          obtain ⟨xs, hxs⟩ : ∃ xs, xs = (readM s off a).1 := ⟨_, rfl⟩
          obtain ⟨nx, hnx⟩ : ∃ nx, nx = xs.length := ⟨_, rfl⟩
          have hnx2 : (nx : Int) ≤ a := by rw [hnx, hxs]; exact readM_le ha0
          have hwa : IntKind.i64.wrap a = a := IntWalk.i64_in _ (by omega)
          have hwb : IntKind.i64.wrap b = b := IntWalk.i64_in _ (by omega)
          have r1 := read_any (.pointer (some ⟨sb, 0, none⟩)) bb mb s off a wc s2
          rw [← hxs, ← hnx] at hP
          go_wp2_with fail
          refine r1.mono ?_
          rintro e w4 ⟨vx, rfl, hox, hk4⟩
          rw [← hxs] at hox
          rw [hP.1]
          obtain ⟨px, cx, rfl, hcx, hrx⟩ := hox.reads
          rw [List.length_map, ← hnx] at hcx hrx hox ⊢
          clear hrx
          have s24 := s2.keep hk4 (by simp) (by simp)
          have s64 := s6.trans hk4
          obtain ⟨ys, hys⟩ : ∃ ys, ys = (readM s (off + nx) b).1 := ⟨_, rfl⟩
          obtain ⟨zs, hzs⟩ : ∃ zs, zs = (readM s off (nx + b)).1 := ⟨_, rfl⟩
          have hP2 := Lib.hid hP.2.2.2
          have hPe := Lib.hid hP.2
          clear hP
          have hnx3 : (nx : Int) ≤ 65535 := by omega
          have HX := Lib.hid (And.intro hox hnx)
          have HXS := Lib.hid hxs
          clear hox hnx hxs
          go_wp2_with fail
          refine (read_any _ bb mb s (off + nx) b _ s24).mono ?_
          rintro e w5 ⟨vy, rfl, hoy, hk5⟩
          rw [← hys] at hoy
          rw [hPe.out.1]
          have s25 := s24.keep hk5 (by simp) (by simp)
          have s65 := s64.trans hk5
          have hox5 := HX.out.1.keep hk5 (by simp)
          go_wp2_with fail
          refine (read_any _ bb mb s off (nx + b) _ s25).mono ?_
          rintro e w6 ⟨vz, rfl, hoz, hk6⟩
          rw [← hzs] at hoz
          rw [hPe.out.2.1]
          have s26 := s25.keep hk6 (by simp) (by simp)
          have s66 := s65.trans hk6
          have hox6 := hox5.keep hk6 (by simp)
          have hoy6 := hoy.keep hk6 (by simp)
          have hrx := Lib.hid hox6.reads
          have hry := Lib.hid hoy6.reads
          have hrz := Lib.hid hoz.reads
          have hcat : (⟨xs.toArray⟩ : ByteArray) ++ ⟨ys.toArray⟩ = ⟨zs.toArray⟩ := by
            rw [bytes_cat]
            have := hP2.out.1
            rw [← hys, ← hzs] at this
            rw [this]
          have hyl : ys.length ≤ 65535 := by have := readM_le (s := s) (off := off + nx) (n := b) hb0; rw [← hys] at this; omega
          have hxl : xs.length ≤ 65535 := by have := HX.out.2; omega
          have hcatl : ((⟨xs.toArray⟩ : ByteArray) ++ ⟨ys.toArray⟩).toList = zs := by rw [hcat]; simp
          have v1 := run_bytes_string (P := Try.prog) 22 9 5 Try.underlying22 Try.underlying5 Try.underlying9 hrx.out
          have v2 := run_bytes_string (P := Try.prog) 22 9 5 Try.underlying22 Try.underlying5 Try.underlying9 hry.out
          have v3 := run_bytes_string (P := Try.prog) 22 9 5 Try.underlying22 Try.underlying5 Try.underlying9 hrz.out
          clear hcat hox5 hox6 hoy6 hoz hoy hk5 hk6 s24 s25 s64 s65 hys hzs r1 s2 s6 hk4
          go_upto_region 16 with fail
          go_upto_region 18 with fail
          clear v1 v2 v3 hcatl hxl hyl
          go_cut [131] (fun v wx => v = .bool false ∧ w6 = wx)
          case first =>
            have hsz := size_ok bb mb s.sz s.l w6 s26
            obtain ⟨Z, hZ⟩ : ∃ Z, Z = s.sz := ⟨_, rfl⟩
            rw [← hZ] at hsz
            by_cases hso : Z ≤ off
            · have hn0 : nx = 0 := by have := hPe.out.2.2.2.2 (by omega); exact this
              subst hn0
              go_wp2_with (first | (refine hsz.mono ?_; rintro e w' ⟨rfl, rfl⟩) | fail)
              go_meet
              case rel => exact ⟨rfl, rfl⟩
            · go_wp2_with (first | (refine hsz.mono ?_; rintro e w' ⟨rfl, rfl⟩) | fail)
              go_meet
              case rel => exact ⟨rfl, rfl⟩
          case rest =>
            obtain ⟨rfl, rfl⟩ := hcut
            clear hrx hry hrz HX HXS hPe hP2 hwa hwb
            go_wp2_with fail
            refine (holes_any bb mb s.sz s.l _ s26).mono ?_
            rintro e w7 ⟨vh, rfl, hoh, hk7⟩
            have s27 := s26.keep hk7 (by simp) (by simp)
            have s67 := s66.trans hk7
            obtain ⟨nn, hnn⟩ : ∃ nn, nn = ((s.sz + 15) / 16).toNat := ⟨_, rfl⟩
            rw [← hnn] at hoh
            have hnn2 : nn ≤ 4096 := by have := s3.2.2.2.2; have := s3.2.2.2.1; omega
            have hlh := length_holesTo s.l nn
            obtain ⟨ph, ch, rfl, hch, hrh⟩ := hoh.reads
            obtain ⟨nh, hnh⟩ : ∃ nh, nh = (holesTo s.l nn).length := ⟨_, rfl⟩
            rw [List.length_map, ← hnh] at hch hrh hoh ⊢
            rw [← hnh] at hlh
            have HH := Lib.hid (And.intro hoh (And.intro hrh hnh))
            have HB := Lib.hid s27
            have HW := Lib.hid s67
            clear hoh hrh hnh hnn s26 s66 s27 s67 hk7 s3
            go_wp2_with fail
            go_loopg [135] nh (fun k v wx => RdI bb mb s nh (.slice ph nh ch) ((holesTo s.l nn).map iv) w6.heap.size W k v wx)
            case atStart => exact ⟨0, rfl, by omega, by omega, HB.out, HH.out.1, HW.out⟩
            case round =>
              obtain ⟨i, rfl, hin, hk, hbx, hox, hkx⟩ := hrel
              obtain ⟨g1, hg1⟩ : ∃ g1, g1 = gk := ⟨_, rfl⟩
              have HB1 := Lib.hid hbx
              have HO1 := Lib.hid hox
              have HK1 := Lib.hid hkx
              by_cases hlt : i < nh
              · obtain ⟨k, hk1, hk2, hk3⟩ := hole_of (l := s.l) (nn := nn) (i := i) (by rw [← HH.out.2.2]; exact hlt)
                obtain ⟨bh, oh, rfl, hrh⟩ : ∃ bh oh, ph = some ⟨bh, oh, none⟩ ∧ ∀ j u, ((holesTo s.l nn).map iv)[j]? = some u → wr.cell? ⟨bh, oh + j, none⟩ = some u := by
                  obtain ⟨p', c', hv, _, hr⟩ := hox.reads
                  obtain ⟨b', o', hp, hr2⟩ := hr (by rw [List.length_map, ← HH.out.2.2]; omega)
                  simp only [Value.slice.injEq] at hv
                  exact ⟨b', o', hv.1.trans hp, hr2⟩
                obtain ⟨K, hK⟩ : ∃ K : Int, K = (k : Int) := ⟨_, rfl⟩
                have c1 : wr.cell? ⟨bh, oh + i, none⟩ = some (.int .i64 K) := by
                  refine hrh i _ ?_
                  rw [List.getElem?_map, List.getElem?_eq_getElem (by rw [← HH.out.2.2]; exact hlt), hk1, hK]; rfl
                have hK0 : 0 ≤ K := by omega
                have hK1 : K ≤ 4095 := by omega
                have HKK := Lib.hid (And.intro hK hk3)
                clear hbx hox hkx hrh hk1 hk2 hk3 hK
                go_wp2_with fail
                refine (read_any _ bb mb s (K * 16) 16 _ HB1.out).mono ?_
                rintro e w8 ⟨vc, rfl, hoc, hk8⟩
                obtain ⟨cs, hcs⟩ : ∃ cs, cs = (readM s (K * 16) 16).1 := ⟨_, rfl⟩
                rw [← hcs] at hoc
                have hz : ∀ i, cs.getD i 0 = 0 := fun i => by rw [hcs, HKK.out.1]; exact hole_read HKK.out.2 i
                have hcl : cs.length ≤ 16 := by have := readM_le (s := s) (off := K * 16) (n := 16) (by omega); rw [← hcs] at this; omega
                obtain ⟨pc, cc, rfl, hcc, hrc⟩ := hoc.reads
                obtain ⟨nc, hnc⟩ : ∃ nc, nc = cs.length := ⟨_, rfl⟩
                rw [List.length_map, ← hnc] at hcc hrc ⊢
                rw [← hnc] at hcl
                have HCC := Lib.hid (And.intro hrc (And.intro hz hnc))
                have HK8 := Lib.hid hk8
                clear hoc hrc hz hnc hcs hk8 c1
                go_wp2_with fail
                go_loopg [149] nc (fun k v wx => IdxI nc w8 k v wx)
                case atStart => exact ⟨0, rfl, by omega, by omega, rfl⟩
                case round =>
                  obtain ⟨j, rfl, hj, hjk, rfl⟩ := hrel
                  by_cases hjl : j < nc
                  · obtain ⟨bc, oc, rfl, hrc⟩ := HCC.out.1 (by omega)
                    have c2 := cell_getD hrc (i := j) (by rw [← HCC.out.2.2]; exact hjl)
                    rw [HCC.out.2.1 j] at c2
                    have c3 : w8.cell? ⟨bc, oc + j, none⟩ = some (.int .u8 0) := c2
                    clear c2 hrc
                    go_wp2
                    go_roundg (gk - 1)
                    case measure => omega
                    case rel => exact ⟨j + 1, by push_cast; rfl, by omega, by omega, rfl⟩
                  · go_wp2
                    go_roundg (g1 - 1)
                    case measure => omega
                    case rel => exact ⟨i + 1, by push_cast; rfl, by omega, by omega, HB1.out.keep HK8.out (by simp) (by simp), HO1.out.keep HK8.out (by simp), HK1.out.trans HK8.out⟩
              · go_wp2
                go_ret
                exact ⟨rfl, HK1.out⟩
end Go.Proofs.Ythkeahjcokbaaaa
