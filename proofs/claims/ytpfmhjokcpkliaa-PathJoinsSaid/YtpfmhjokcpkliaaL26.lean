/-
  PathSlashes, walked.
-/
import Derived.Test.YtpfmhjokcpkliaaL25
namespace Go.Proofs.Ytpfmhjokcpkliaa
open Go.RowKit Go.V Go.V.Path
set_option maxHeartbeats 8000000 in
theorem slashes_any (a b : ByteArray) (n : Int) (w : World) (hn0 : 0 ≤ n) (hn1 : n ≤ 255) : Calls Try.prog 6 #[.string a, .string b, .int .u8 n] w (BK true w) := by
  obtain ⟨N, rfl⟩ : ∃ N : Nat, n = (N : Int) := ⟨n.toNat, by omega⟩
  obtain ⟨K, hK⟩ : ∃ K, K = N % 6 := ⟨_, rfl⟩
  have hK5 : K ≤ 5 := by omega
  have hrem : Int.tmod (N : Int) 6 = (K : Int) := by rw [hK]; rfl
  have hN255 : N ≤ 255 := by omega
  obtain ⟨la, hla⟩ : ∃ l, l = a.data.toList := ⟨_, rfl⟩
  obtain ⟨lb, hlb⟩ : ∃ l, l = b.data.toList := ⟨_, rfl⟩
  have HL := Lib.hid (And.intro hla hlb)
  clear hla hlb hn0 hn1 hK
  go_enter Try.func6, Try.ntmps6
  go_upto_region 1 with fail
  go_wp2_with fail
  refine (awake_ok w).mono ?_
  rintro e w0 ⟨rfl, hk0⟩
  have K0 := Lib.hid hk0
  clear hk0
  go_upto_region 3 with fail
  go_wp2_with fail
  refine (parse_at a la w0 HL.out.1.symm).mono ?_
  rintro e w1 ⟨p1, M1, c1, rfl, hM1, hm1⟩
  obtain ⟨D1, hD⟩ : ∃ D, D = parseD la := ⟨_, rfl⟩
  obtain ⟨E1, hE⟩ : ∃ E, E = parseE la := ⟨_, rfl⟩
  obtain ⟨ns1, hns⟩ : ∃ ns, ns = parseN la := ⟨_, rfl⟩
  rw [← hD, ← hE]
  rw [← hns] at hm1 hM1
  have HV1 := Lib.hid (And.intro hD (And.intro hE hns))
  clear hD hE hns
  obtain ⟨w2, b1, hw2, hb1, hB, hk⟩ := new_box D1 (hm1.from K0.out)
  have K1 := Lib.hid ((K0.out.trans hm1.2.2).trans hk)
  have B1 := Lib.hid hB
  have HM1 := Lib.hid hM1
  clear hB hk hm1 hM1 K0
  go_upto_region 4 with fail
  rw [← hw2, ← hb1]
  clear hw2 hb1
  go_wp2_with fail
  refine (parse_at b lb w2 HL.out.2.symm).mono ?_
  rintro e w3 ⟨p2, M2, c2, rfl, hM2, hm2⟩
  obtain ⟨D2, hD⟩ : ∃ D, D = parseD lb := ⟨_, rfl⟩
  obtain ⟨E2, hE⟩ : ∃ E, E = parseE lb := ⟨_, rfl⟩
  obtain ⟨ns2, hns⟩ : ∃ ns, ns = parseN lb := ⟨_, rfl⟩
  rw [← hD, ← hE]
  rw [← hns] at hm2 hM2
  have HV2 := Lib.hid (And.intro hD (And.intro hE hns))
  clear hD hE hns
  obtain ⟨w4, b2, hw4, hb2, hB, hk⟩ := new_box D2 (hm2.from K1.out)
  have K2 := Lib.hid ((K1.out.trans hm2.2.2).trans hk)
  have B1a := Lib.hid (B1.out.keep (hm2.2.2.trans hk))
  have B2 := Lib.hid hB
  have HM2 := Lib.hid hM2
  clear hB hk hm2 hM2 K1 B1
  go_upto_region 5 with fail
  rw [← hw4, ← hb2]
  clear hw4 hb2
  by_cases h1 : E1 = 0
  · by_cases h2 : E2 = 0
    · subst h1 h2
      have hsa : a.size ≤ 400 := by rw [size_len, ← HL.out.1]; exact ((parseE_cases la).1 HV1.out.2.1.symm).len
      have hsb : b.size ≤ 400 := by rw [size_len, ← HL.out.2]; exact ((parseE_cases lb).1 HV2.out.2.1.symm).len
      go_upto_block 0 with fail
      go_cut [11] (fun v wx => ∃ T : List UInt8, v = .string (bs T) ∧ Mid T ∧ T.length ≤ 20 ∧ Keeps [] w4 wx)
      case first =>
        go_wp2_with fail
        go_loopg [11, 12] K (fun m vs vi wx => ∃ (i : Nat) (T : List UInt8), vi = .int .i64 i ∧ i + m = K ∧ vs = .string (bs T) ∧ Mid T ∧ T.length ≤ 1 + 2 * i ∧ Keeps [] w4 wx)
        case atStart => exact ⟨0, [47], rfl, by omega, rfl, mid_one, by decide, Keeps.refl _ _⟩
        case round =>
          obtain ⟨i, T, rfl, hi, rfl, hmid, hTl, hk⟩ := hrel
          have HI := Lib.hid (And.intro hi (And.intro hmid hk))
          clear hi hmid hk
          have hTs := bs_size T
          by_cases hlt : i < K
          · have hii : (i : Int) < (K : Int) := by omega
            have h1 := bs_cat T [47]
            have h2 := bs_cat T [46, 47]
            by_cases hpar : i % 2 = 0
            · have hr2 : Int.tmod (i : Int) 2 = 0 := by
                rw [show Int.tmod (i : Int) 2 = ((i % 2 : Nat) : Int) from rfl, hpar]; rfl
              have x0 : (wr.alloc (.cells #[.string ⟨#[47]⟩, .string ⟨#[46, 47]⟩] 9)).cell? ⟨wr.heap.size, 0, none⟩ = some (.string ⟨#[47]⟩) := cell_of (heap_alloc wr _) rfl
              go_wp2
              go_roundg (gk - 1)
              case measure => have := HI.out.1; omega
              case rel => exact ⟨i + 1, T ++ [47], by push_cast; rfl, by have := HI.out.1; omega, by rw [← h1]; rfl, mid_slash HI.out.2.1, by rw [List.length_append, List.length_singleton]; omega, HI.out.2.2.alloc _⟩
            · have hr2 : Int.tmod (i : Int) 2 = 1 := by
                rw [show Int.tmod (i : Int) 2 = ((i % 2 : Nat) : Int) from rfl, show i % 2 = 1 by omega]; rfl
              have x0 : (wr.alloc (.cells #[.string ⟨#[47]⟩, .string ⟨#[46, 47]⟩] 9)).cell? ⟨wr.heap.size, 1, none⟩ = some (.string ⟨#[46, 47]⟩) := cell_of (heap_alloc wr _) rfl
              go_wp2
              go_roundg (gk - 1)
              case measure => have := HI.out.1; omega
              case rel => exact ⟨i + 1, T ++ [46, 47], by push_cast; rfl, by have := HI.out.1; omega, by rw [← h2]; rfl, mid_dot HI.out.2.1, by rw [List.length_append]; show T.length + 2 ≤ _; omega, HI.out.2.2.alloc _⟩
          · have hii : ¬ (i : Int) < (K : Int) := by omega
            go_wp2
            go_meet
            case rel => exact ⟨T, rfl, HI.out.2.1, by have := HI.out.1; omega, HI.out.2.2⟩
      case rest =>
        obtain ⟨T, rfl, hmid, hTl, hkc⟩ := hcut
        have hsl := slashes (a := la) (b := lb) HV1.out.2.1.symm HV2.out.2.1.symm hmid
        rw [← HV1.out.2.2, ← HV2.out.2.2, ← HV2.out.1] at hsl
        have hal : a.size = la.length := by rw [size_len, ← HL.out.1]
        have hbl : b.size = lb.length := by rw [size_len, ← HL.out.2]
        have hTs := bs_size T
        have hcat : ((a ++ bs T) ++ b).data.toList = (la ++ T) ++ lb := by rw [cat_data, cat_data, bs_dataL, ← HL.out.1, ← HL.out.2]
        have HC := Lib.hid hcat
        obtain ⟨A, hA⟩ : ∃ A, A = la.length := ⟨_, rfl⟩
        obtain ⟨B, hB⟩ : ∃ B, B = lb.length := ⟨_, rfl⟩
        obtain ⟨TL, hTL⟩ : ∃ TL, TL = T.length := ⟨_, rfl⟩
        rw [← hA, ← hB, ← hTL, ← HM1.out, ← HM2.out] at hsl
        rw [← hA] at hal
        rw [← hB] at hbl
        rw [← hTL] at hTs hTl
        have hf1 : M1 ≤ 40 := by rw [HM1.out, HV1.out.2.2]; exact parseN_few la
        have hf2 : M2 ≤ 40 := by rw [HM2.out, HV2.out.2.2]; exact parseN_few lb
        have HSL := Lib.hid hsl
        have K3 := Lib.hid (K2.out.trans hkc)
        have B1 := Lib.hid (B1a.out.keep hkc)
        have B2a := Lib.hid (B2.out.keep hkc)
        clear hsl hcat hmid hkc hA hB hTL K2 B1a B2
        go_upto_region 12 with fail
        go_wp2_with fail
        refine (parse_at ((a ++ bs T) ++ b) ((la ++ T) ++ lb) wc HC.out).mono ?_
        rintro e w5 ⟨p3, M3, c3, rfl, hM3, hm3⟩
        obtain ⟨D3, hD⟩ : ∃ D, D = parseD ((la ++ T) ++ lb) := ⟨_, rfl⟩
        obtain ⟨E3, hE⟩ : ∃ E, E = parseE ((la ++ T) ++ lb) := ⟨_, rfl⟩
        obtain ⟨ns3, hns⟩ : ∃ ns, ns = parseN ((la ++ T) ++ lb) := ⟨_, rfl⟩
        have hsl := HSL.out
        rw [← hD, ← hE, ← hns] at hsl
        rw [← hD, ← hE]
        rw [← hns] at hm3 hM3
        clear HSL
        have HSL := Lib.hid hsl
        obtain ⟨w6, b3, hw6, hb3, hB, hk⟩ := new_box D3 (hm3.from K3.out)
        have K4 := Lib.hid ((K3.out.trans hm3.2.2).trans hk)
        have B1a := Lib.hid (B1.out.keep (hm3.2.2.trans hk))
        have B2 := Lib.hid (B2a.out.keep (hm3.2.2.trans hk))
        have B3 := Lib.hid hB
        have HM3 := Lib.hid hM3
        clear hB hk hm3 hM3 K3 B1 B2a hsl hD hE hns
        go_upto_region 13 with fail
        rw [← hw6, ← hb3]
        clear hw6 hb3
        have hc0 := B1a.out.c0
        have hd0 := B2.out.c0
        by_cases hbig : 400 < A + TL + B ∨ 40 < M1 + M2
        · obtain rfl := HSL.out.1 hbig
          by_cases hb4 : 400 < A + TL + B
          · have hb5 : (400 : Int) < (A : Int) + (TL : Int) + (B : Int) := by omega
            go_wp2
            (try simp only [Exit.inBlock, Exit.then])
            go_ret
            exact ⟨rfl, K4.out⟩
          · have hb5 : ¬ (400 : Int) < (A : Int) + (TL : Int) + (B : Int) := by omega
            have hb6 : (40 : Int) < (M1 : Int) + (M2 : Int) := by omega
            go_wp2
            (try simp only [Exit.inBlock, Exit.then])
            go_ret
            exact ⟨rfl, K4.out⟩
        · obtain ⟨q1, q2, q3⟩ := HSL.out.2 hbig
          subst q1 q3
          have hb5 : ¬ (400 : Int) < (A : Int) + (TL : Int) + (B : Int) := by omega
          have hb6 : ¬ (40 : Int) < (M1 : Int) + (M2 : Int) := by omega
          have hjj := joinE_le (p := ns1) (q := ns2) (by rw [← HM1.out, ← HM2.out]; omega)
          have HJ := Lib.hid hjj
          have HQ := Lib.hid q2
          have hf3 : M3 ≤ 40 := by rw [HM3.out, q2, List.length_append, ← HM1.out, ← HM2.out]; omega
          clear HSL hjj q2 hbig
          go_upto_region 15 with fail
          have hc1 := B1a.out.c1
          have hd1 := B2.out.c1
          go_wp2_with fail
          refine (join_at _ _ ns1 ns2 D1 D3 w6 B1a.out.sg B2.out.sg (by rw [← HM1.out]; omega) (by rw [← HM2.out]; omega)).mono ?_
          rintro e w7 ⟨p4, M4, c4, rfl, hM4, hm4⟩
          rw [HJ.out.1]
          rw [HJ.out.2] at hm4 hM4
          obtain ⟨D4, hD4⟩ : ∃ D, D = joinD ns1 D1 ns2 D3 := ⟨_, rfl⟩
          rw [← hD4]
          rw [← HQ.out] at hm4 hM4
          have hM34 : M4 = M3 := by rw [hM4, HM3.out]
          subst hM34
          obtain ⟨w8, b4, hw8, hb4, hB, hk⟩ := new_box D4 (hm4.from K4.out)
          have K5 := Lib.hid ((K4.out.trans hm4.2.2).trans hk)
          have B2a := Lib.hid (B2.out.keep (hm4.2.2.trans hk))
          have B3a := Lib.hid (B3.out.keep (hm4.2.2.trans hk))
          have B4 := Lib.hid hB
          clear hB hk hm4 hM4 hD4 hc0 hc1 hd0 hd1 K4 B2 B3 B1a
          go_upto_region 16 with fail
          rw [← hw8, ← hb4]
          clear hw8 hb4
          have hc0 := B3a.out.c0
          have hc1 := B3a.out.c1
          have hd0 := B4.out.c0
          have he1 := B2a.out.c1
          have hDD : (D3 == D3) = true := by simp
          have hMM : ((M4 : Int) == (M4 : Int)) = true := by simp
          go_upto_block 2 with fail
          go_cut [] (fun wx => Keeps [] w8 wx)
          case first =>
            go_wp2_with fail
            go_loopg [111] M4 (fun m vi wx => ∃ (i : Nat), vi = .int .i64 i ∧ i + m = M4 ∧ Keeps [] w8 wx)
            case atStart => exact ⟨0, rfl, by omega, Keeps.refl _ _⟩
            case round =>
              obtain ⟨i, rfl, hi, hk⟩ := hrel
              have HI := Lib.hid (And.intro hi hk)
              clear hi hk
              by_cases hlt : i < M4
              · have hii : (i : Int) < (M4 : Int) := by omega
                obtain ⟨x, hx⟩ : ∃ x, ns3[i]? = some x := ⟨_, List.getElem?_eq_getElem (by rw [← HM3.out]; exact hlt)⟩
                obtain ⟨g1, o1, rfl, x0⟩ := sg_str B3a.out.sg hx
                obtain ⟨g2, o2, rfl, y0⟩ := sg_str B4.out.sg hx
                have hall : ∀ w', Keeps [] w8 w' → w'.cell? ⟨b3, 0, none⟩ = some (.slice (some ⟨g1, o1, none⟩) M4 c3) ∧ w'.cell? ⟨b4, 0, none⟩ = some (.slice (some ⟨g2, o2, none⟩) M4 c4) ∧
                    w'.cell? ⟨g1, o1 + i, none⟩ = some (.string (bs x)) ∧ w'.cell? ⟨g2, o2 + i, none⟩ = some (.string (bs x)) := fun w' hk =>
                  ⟨(B3a.out.keep hk).c0, (B4.out.keep hk).c0, (World.cell?_of_block (hk.block _ (Go.block_lt_of_cell x0) (by simp))).trans x0, (World.cell?_of_block (hk.block _ (Go.block_lt_of_cell y0) (by simp))).trans y0⟩
                have HALL := Lib.hid hall
                clear hall x0 y0 hx hc0 hc1 hd0 he1
                have hxx : ((bs x).toList == (bs x).toList) = true := by simp
                go_upto_region 21 with fail
                refine vp_region_all (fun w' => Keeps [] w8 w') (by kernel_rfl) (by kernel_rfl) (by intro _ d _ _ _ h; cases d <;> exact h) (HI.out.2.drew) ?_
                intro wd hwd
                repeat
                  first
                    | (refine all_free rfl (v := ?_) ?_ ?_
                       rotate_left
                       · intro w' hw'
                         obtain ⟨a0, a1, b0, b1⟩ := HALL.out w' hw'
                         go_simp
                         first | done | with_reducible rfl
                       simp only [Act.put, List.setIfInBounds_toArray, List.set_cons_zero, List.set_cons_succ])
                    | (refine all_free_g (by first | rfl | decide) (v := ?_) ?_ ?_
                       rotate_left
                       · intro w' hw'
                         obtain ⟨a0, a1, b0, b1⟩ := HALL.out w' hw'
                         go_simp
                         first | done | with_reducible rfl
                       simp only [Act.put, List.setIfInBounds_toArray, List.set_cons_zero, List.set_cons_succ])
                    | (refine all_skip (by first | rfl | decide) ?_
                       simp only [Act.put, List.setIfInBounds_toArray, List.set_cons_zero, List.set_cons_succ])
                refine all_nil ?_
                have hkd : Keeps [] w8 wd := by rw [hwd]; exact HI.out.2.drew
                have HKD := Lib.hid hkd
                clear hwd hkd
                go_wp2
                go_roundg (gk - 1)
                case measure => have := HI.out.1; omega
                case rel => exact ⟨i + 1, by push_cast; rfl, by have := HI.out.1; omega, HKD.out⟩
              · have hii : ¬ (i : Int) < (M4 : Int) := by omega
                go_wp2
                go_meet
                case rel => exact HI.out.2
          case rest =>
            have K6 := Lib.hid (K5.out.trans hcut)
            clear hcut
            go_wp2
            (try simp only [Exit.inBlock, Exit.then])
            go_ret
            exact ⟨rfl, K6.out⟩
    · have e1 : (E2 == 0) = false := by simpa using h2
      subst h1
      go_wp2
      (try simp only [Exit.inBlock, Exit.then])
      go_ret
      exact ⟨rfl, K2.out⟩
  · have e1 : (E1 == 0) = false := by simpa using h1
    go_wp2
    (try simp only [Exit.inBlock, Exit.then])
    go_ret
    exact ⟨rfl, K2.out⟩
end Go.Proofs.Ytpfmhjokcpkliaa
