/-
  PathUp, walked.
-/
import Derived.Test.YtpfmhjokcpkliaaL28
namespace Go.Proofs.Ytpfmhjokcpkliaa
open Go.RowKit Go.V Go.V.Path
def LU (w0 : World) (l : List UInt8) (m : Nat) (vw vp vi : Value) (wx : World) : Prop :=
  ∃ (i : Nat) (cur acc : List UInt8), vi = .int .i64 i ∧ i + m = l.length + 1 ∧ cur.length + acc.length ≤ i ∧ TwoR w0 vp vw cur acc wx ∧ UG l i cur acc
set_option maxHeartbeats 8000000 in
theorem up_any (s : ByteArray) (w : World) : Calls Try.prog 10 #[.string s] w (BK true w) := by
  obtain ⟨l, hl⟩ : ∃ l, l = s.data.toList := ⟨_, rfl⟩
  have HL := Lib.hid hl
  clear hl
  go_enter Try.func10, Try.ntmps10
  go_upto_region 1 with fail
  go_wp2_with fail
  refine (awake_ok w).mono ?_
  rintro e w0 ⟨rfl, hk0⟩
  have K0 := Lib.hid hk0
  clear hk0
  go_upto_region 3 with fail
  go_wp2_with fail
  refine (parse_at s l w0 HL.out.symm).mono ?_
  rintro e w1 ⟨p1, M1, c1, rfl, hM1, hm1⟩
  obtain ⟨D, hD⟩ : ∃ D, D = parseD l := ⟨_, rfl⟩
  obtain ⟨E, hE⟩ : ∃ E, E = parseE l := ⟨_, rfl⟩
  obtain ⟨ns, hns⟩ : ∃ ns, ns = parseN l := ⟨_, rfl⟩
  rw [← hD, ← hE]
  rw [← hns] at hm1 hM1
  have HV := Lib.hid (And.intro hE hns)
  clear hD hE hns
  obtain ⟨w2, b1, hw2, hb1, hB, hk⟩ := new_box D (hm1.from K0.out)
  have K1 := Lib.hid ((K0.out.trans hm1.2.2).trans hk)
  have B1 := Lib.hid hB
  have HM1 := Lib.hid hM1
  clear hB hk hm1 hM1 K0
  go_upto_region 4 with fail
  rw [← hw2, ← hb1]
  clear hw2 hb1
  by_cases h0 : E = 0
  · subst h0
    have hpar := (parseE_cases l).1 HV.out.1.symm
    have hfl : ns.flatten = flat (partsL l) := by rw [HV.out.2, parseN_ok HV.out.1.symm]; rfl
    have hM40 : M1 ≤ 40 := by rw [HM1.out, HV.out.2]; exact parseN_few l
    have hx60 : ∀ x ∈ ns, x.length ≤ 60 := fun x hx => (names_ok (l := l) (by rw [← HV.out.2]; exact hx)).2.2.2.1
    obtain ⟨N, hN⟩ : ∃ N, N = s.size := ⟨_, rfl⟩
    have hNl : N = l.length := by rw [hN, size_len, ← HL.out]
    have hN4 : N ≤ 400 := by rw [hNl]; exact hpar.len
    have HF := Lib.hid (And.intro hfl (And.intro hx60 (And.intro hN hNl)))
    clear hpar hfl hx60 hNl hN
    go_upto_block 0 with fail
    go_cut [5] (fun vw wx => ∃ acc vp cur, TwoR w2 vp vw cur acc wx ∧ acc = flat (partsL l))
    case first =>
      go_wp2_with fail
      go_loopg [5, 6, 7] (N + 1) (fun m vw vp vi wx => LU w2 l m vw vp vi wx)
      case atStart => exact ⟨0, [], [], rfl, by rw [← HF.out.2.2.2]; omega, Nat.le_refl _, TwoR.start w2, UG.start l⟩
      case round =>
        obtain ⟨i, cur, acc, rfl, hi, hlen, htw, hug⟩ := hrel
        rw [← HF.out.2.2.2] at hi
        have HT := Lib.hid htw
        have HU := Lib.hid hug
        have HI := Lib.hid hi
        obtain ⟨pp, cp, hvp, _, _⟩ := htw.p.value
        obtain ⟨pw, cw, hvw, _, _⟩ := htw.w.value
        obtain ⟨P1, hP1⟩ : ∃ P1, P1 = cur.length := ⟨_, rfl⟩
        obtain ⟨P2, hP2⟩ : ∃ P2, P2 = acc.length := ⟨_, rfl⟩
        rw [← hP1] at hvp
        rw [← hP2] at hvw
        subst hvp hvw
        have HP := Lib.hid (And.intro hP1 hP2)
        have HLEN := Lib.hid hlen
        clear htw hug hi hP1 hP2 hlen
        by_cases hin : i ≤ N
        · have hii : (i : Int) ≤ (s.size : Int) := by have := HF.out.2.2.1; omega
          have main : (i = N ∨ l[i]? = some 47) ∨ (∃ c, i < N ∧ l[i]? = some c ∧ c ≠ 47) := by
            by_cases h : i = N
            · exact Or.inl (Or.inl h)
            · obtain ⟨c, hc⟩ : ∃ c, l[i]? = some c := ⟨_, List.getElem?_eq_getElem (by have := HF.out.2.2.2; omega)⟩
              by_cases h47 : c = 47
              · exact Or.inl (Or.inr (by rw [hc, h47]))
              · exact Or.inr ⟨c, by omega, hc, h47⟩
          rcases main with hsep | ⟨c, hlt, hc, h47⟩
          · have hnx := HU.out.sep (by have := HF.out.2.2.2; omega) (hsep.imp (fun h => by rw [← HF.out.2.2.2]; exact h) id)
            have HNX := Lib.hid hnx
            clear hnx
            have hstr := row_string HT.out.p
            have hbt := bs_toList cur
            by_cases hdot : cur = [46]
            · rw [if_pos hdot, List.append_nil] at HNX
              have hd2 : (cur == [46]) = true := by rw [hdot]; rfl
              have HD := Lib.hid hdot
              clear hdot
              by_cases hend : i = N
              · have hlt2 : ¬ (i : Int) < (s.size : Int) := by have := HF.out.2.2.1; omega
                clear hsep hend
                go_wp2
                go_roundg (gk - 1)
                case measure => have := HI.out; omega
                case rel => exact ⟨i + 1, [], acc, by push_cast; rfl, by rw [← HF.out.2.2.2]; have := HI.out; omega, by have := HLEN.out; simp only [List.length_nil]; omega, HT.out.newP, HNX.out⟩
              · have hlt2 : (i : Int) < (s.size : Int) := by have := HF.out.2.2.1; omega
                have hisz : i < s.size := by omega
                have hbc : s[i]'hisz = 47 := byte_is hisz (by rw [← HL.out]; exact hsep.resolve_left hend)
                have e2 : (((s[i]'hisz).toNat : Int) == 47) = true := by rw [hbc]; rfl
                clear hsep hbc hend
                go_wp2
                go_roundg (gk - 1)
                case measure => have := HI.out; omega
                case rel => exact ⟨i + 1, [], acc, by push_cast; rfl, by rw [← HF.out.2.2.2]; have := HI.out; omega, by have := HLEN.out; simp only [List.length_nil]; omega, HT.out.newP, HNX.out⟩
            · rw [if_neg hdot] at HNX
              have hd2 : (cur == [46]) = false := by simpa using hdot
              clear hdot
              by_cases hend : i = N
              · have hlt2 : ¬ (i : Int) < (s.size : Int) := by have := HF.out.2.2.1; omega
                clear hsep hend
                go_wp2_with (first | (refine vp_append_sg (F := FU) rfl (.tmp 46) (.tmp 47) 41 rfl (.int .u8 0) 1 Try.underlying41 infoz5 rfl (by decide) _ acc rfl HT.out.w _ cur rfl HT.out.p.sg (by have := HLEN.out; omega) (by have := HLEN.out; omega) ?_; intro v6 w6 k1 k2 k3; have HM6 := Lib.hid (HT.out.appW k1 k2 k3); clear k1 k2 k3) | fail)
                go_roundg (gk - 1)
                case measure => have := HI.out; omega
                case rel => exact ⟨i + 1, [], acc ++ cur, by push_cast; rfl, by rw [← HF.out.2.2.2]; have := HI.out; omega, by have := HLEN.out; simp only [List.length_nil, List.length_append]; omega, HM6.out.newP, HNX.out⟩
              · have hlt2 : (i : Int) < (s.size : Int) := by have := HF.out.2.2.1; omega
                have hisz : i < s.size := by omega
                have hbc : s[i]'hisz = 47 := byte_is hisz (by rw [← HL.out]; exact hsep.resolve_left hend)
                have e2 : (((s[i]'hisz).toNat : Int) == 47) = true := by rw [hbc]; rfl
                clear hsep hbc hend
                go_wp2_with (first | (refine vp_append_sg (F := FU) rfl (.tmp 46) (.tmp 47) 41 rfl (.int .u8 0) 1 Try.underlying41 infoz5 rfl (by decide) _ acc rfl HT.out.w _ cur rfl HT.out.p.sg (by have := HLEN.out; omega) (by have := HLEN.out; omega) ?_; intro v6 w6 k1 k2 k3; have HM6 := Lib.hid (HT.out.appW k1 k2 k3); clear k1 k2 k3) | fail)
                go_roundg (gk - 1)
                case measure => have := HI.out; omega
                case rel => exact ⟨i + 1, [], acc ++ cur, by push_cast; rfl, by rw [← HF.out.2.2.2]; have := HI.out; omega, by have := HLEN.out; simp only [List.length_nil, List.length_append]; omega, HM6.out.newP, HNX.out⟩
          · have hlt2 : (i : Int) < (s.size : Int) := by have := HF.out.2.2.1; omega
            have hisz : i < s.size := by omega
            have hbc : s[i]'hisz = c := byte_is hisz (by rw [← HL.out]; exact hc)
            have e2 : (((s[i]'hisz).toNat : Int) == 47) = false := by
              rw [hbc, beq_eq_false_iff_ne]
              intro e
              exact h47 (UInt8.toNat_inj.1 (by show c.toNat = 47; omega))
            have HNX := Lib.hid (HU.out.byte hc h47)
            have HBC := Lib.hid hbc
            clear hc h47 hlt hbc
            go_wp2_with (first | (refine vp_append_g (F := FU) rfl (.tmp 37) (.tmp 41) 41 rfl (.int .u8 0) 1 Try.underlying41 infoz5 rfl (by decide) _ cur rfl (HT.out.keep ((Keeps.refl [] wr).alloc _)).p ⟨wr.heap.size, 0, none⟩ 1 1 [c] rfl rfl (by intro j u hj; rw [add_none, Nat.zero_add]; exact cell_of (heap_alloc wr _) (by rw [HBC.out]; simpa [FU, Form.all] using hj)) (by have := HLEN.out; omega) (by have := HLEN.out; omega) ?_; intro v6 w6 k1 k2 k3; have HM6 := Lib.hid ((HT.out.keep ((Keeps.refl [] wr).alloc _)).appP k1 k2 k3); clear k1 k2 k3) | fail)
            go_roundg (gk - 1)
            case measure => have := HI.out; omega
            case rel => exact ⟨i + 1, cur ++ [c], acc, by push_cast; rfl, by rw [← HF.out.2.2.2]; have := HI.out; omega, by have := HLEN.out; simp only [List.length_append, List.length_singleton]; omega, HM6.out, HNX.out⟩
        · have hii : ¬ (i : Int) ≤ (s.size : Int) := by have := HF.out.2.2.1; omega
          have hdn := HU.out.done (by rw [← HF.out.2.2.2]; omega)
          have HDN := Lib.hid hdn
          clear hdn
          go_wp2
          go_meet
          case rel => exact ⟨acc, _, cur, HT.out, HDN.out⟩
    case rest =>
      obtain ⟨acc, vp, cur, htw, hacc⟩ := hcut
      rw [← HF.out.1] at hacc
      obtain ⟨pw, cw, hvw, _, _⟩ := htw.w.value
      obtain ⟨P2, hP2⟩ : ∃ P2, P2 = acc.length := ⟨_, rfl⟩
      rw [← hP2] at hvw
      subst hvw
      have HT := Lib.hid htw
      have HACC := Lib.hid hacc
      have B2 := Lib.hid (B1.out.keep htw.k)
      clear htw hacc hP2
      have hc0 := (B2.out.keep ((Keeps.refl [] wc).alloc (.cells #[] 5))).c0
      go_upto_block 2 with fail
      go_cut [8] (fun vg wx => Made FU 5 wc vg acc wx)
      case first =>
        go_wp2_with fail
        go_loopg [8, 54] M1 (fun m vg vi wx => ∃ (i : Nat), vi = .int .i64 i ∧ i + m = M1 ∧ Made FU 5 wc vg (ns.take i).flatten wx)
        case atStart => exact ⟨0, rfl, by omega, Made.empty FU 5 wc⟩
        case round =>
          obtain ⟨i, rfl, hi, hm⟩ := hrel
          have HI := Lib.hid hi
          have HM := Lib.hid hm
          obtain ⟨pg, cg, hvg, _, _⟩ := hm.1.value
          obtain ⟨G, hG⟩ : ∃ G, G = (ns.take i).flatten := ⟨_, rfl⟩
          rw [← hG] at HM hvg
          obtain ⟨P3, hP3⟩ : ∃ P3, P3 = G.length := ⟨_, rfl⟩
          rw [← hP3] at hvg
          subst hvg
          have HG := Lib.hid (And.intro hG hP3)
          have hc1 := (B2.out.keep hm.2.2).c0
          clear hi hm hG hP3
          by_cases hlt : i < M1
          · have hii : (i : Int) < (M1 : Int) := by omega
            obtain ⟨x, hx⟩ : ∃ x, ns[i]? = some x := ⟨_, List.getElem?_eq_getElem (by rw [← HM1.out]; exact hlt)⟩
            obtain ⟨g, o, rfl, x0⟩ := sg_str (B2.out.keep HM.out.2.2).sg hx
            have hx60 := HF.out.2.1 x (List.mem_of_getElem? hx)
            have hGl : G.length ≤ 2400 := by
              have h1 : G.length ≤ i * 60 := by
                rw [HG.out.1]
                have : ∀ k, (ns.take k).flatten.length ≤ k * 60 := by
                  intro k
                  induction k with
                  | zero => simp
                  | succ k ih =>
                    cases hk : ns[k]? with
                    | none => rw [List.take_add_one, hk]; simp only [Option.toList_none, List.append_nil]; omega
                    | some y =>
                      rw [← take_snoc hk, List.flatten_append, List.length_append]
                      have := HF.out.2.1 y (List.mem_of_getElem? hk)
                      simp only [List.flatten_cons, List.flatten_nil, List.append_nil]
                      omega
                exact this i
              omega
            have HX := Lib.hid (show (ns.take (i + 1)).flatten = G ++ x by rw [← take_snoc hx, List.flatten_append, ← HG.out.1]; simp)
            have HGL := Lib.hid (And.intro hGl hx60)
            clear hx hGl hx60
            go_wp2_with (first | (refine vp_append_text rfl (.tmp 57) (.tmp 62) rfl wc _ G rfl HM.out x rfl (by have := HGL.out; omega) ?_; intro v6 w6 k1; have HM6 := Lib.hid k1; clear k1) | fail)
            go_roundg (gk - 1)
            case measure => have := HI.out; omega
            case rel => exact ⟨i + 1, by push_cast; rfl, by have := HI.out; omega, by rw [HX.out]; exact HM6.out⟩
          · have hii : ¬ (i : Int) < (M1 : Int) := by omega
            have hf : G = acc := by rw [HG.out.1, HACC.out, List.take_of_length_le (by rw [← HM1.out]; omega)]
            have HF2 := Lib.hid hf
            clear hf
            go_wp2
            go_meet
            case rel => rw [← HF2.out]; exact HM.out
      case rest =>
        obtain ⟨pg, cg, hvg, _, _⟩ := hcut.1.value
        obtain ⟨P3, hP3⟩ : ∃ P3, P3 = acc.length := ⟨_, rfl⟩
        rw [← hP3] at hvg
        subst hvg
        have h1 := row_string hcut.1
        have h2 := row_string (HT.out.w.keep hcut.2.2 (by simp))
        have hbt := bs_toList acc
        have K3 := Lib.hid ((K1.out.trans HT.out.k).trans hcut.2.2)
        clear hcut hP3
        go_wp2
        (try simp only [Exit.inBlock, Exit.then])
        go_ret
        exact ⟨rfl, K3.out⟩
  · have e0 : (E == 0) = false := by simpa using h0
    go_wp2
    (try simp only [Exit.inBlock, Exit.then])
    go_ret
    exact ⟨rfl, K1.out⟩
end Go.Proofs.Ytpfmhjokcpkliaa
