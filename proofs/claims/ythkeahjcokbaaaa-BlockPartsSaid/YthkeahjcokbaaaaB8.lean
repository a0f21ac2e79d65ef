import Derived.Test.YthkeahjcokbaaaaB7
namespace Go.Proofs.Ythkeahjcokbaaaa
open Go.RowKit Go.V Go.V.Block

theorem wrapU16 (x : Int) (h0 : 0 ≤ x) (h1 : x ≤ 65535) : IntKind.i64.wrap x = x := IntWalk.i64_in _ (by omega)

def CutK (k : Nat) (w : World) (v : Value) (wx : World) : Prop := v = .int .i64 k ∧ w = wx

set_option maxRecDepth 100000 in
set_option maxHeartbeats 2000000 in
theorem parts_any (off : Int) (D : Value) (data : List UInt8) (x : Int) (w : World) (hD : Reads w D (data.map bv)) (hf : Fits D) (hx0 : 0 ≤ x) (hx1 : x ≤ 65535) (hblk : 0 < data.length → ∀ g, D.ownBlock = some g → g < w.heap.size) :
    Calls Try.prog 3 #[.int .i64 off, D, .int .u16 x] w (Tells (.bool true) w) := by
  obtain ⟨p, cap, rfl, hcap, hr⟩ := hD
  have hc := hf _ _ _ rfl
  rw [List.length_map] at hcap hr hf hblk ⊢
  obtain ⟨n, hn⟩ : ∃ n, n = data.length := ⟨_, rfl⟩
  rw [← hn] at hcap hr hf hblk ⊢
  have HF := Lib.hid hf
  have HN := Lib.hid hn
  have HB := Lib.hid hblk
  have hD2 : Reads w (.slice p n cap) (data.map bv) := ⟨p, cap, by rw [List.length_map, hn], by rw [List.length_map, ← hn]; exact hcap, fun h => hr (by rw [List.length_map, ← hn] at h; exact h)⟩
  have HR := Lib.hid hD2
  clear hr hf hblk hD2 hn
  have hwx := wrapU16 x hx0 hx1
  by_cases hearly : 4096 < n ∨ off < 0 ∨ 65536 < off
  · by_cases e1 : 4096 < n
    · have e1' : (4096 : Int) < (n : Int) := by omega
      go_enter Try.func3, Try.ntmps3
      go_wp2_with fail
      refine (awake_any _).mono ?_
      rintro e w1 ⟨rfl, hk1⟩
      go_wp2
      go_ret
      exact ⟨rfl, hk1⟩
    · have e1' : (n : Int) ≤ 4096 := by omega
      by_cases e2 : off < 0
      · go_enter Try.func3, Try.ntmps3
        go_wp2_with fail
        refine (awake_any _).mono ?_
        rintro e w1 ⟨rfl, hk1⟩
        go_wp2
        go_ret
        exact ⟨rfl, hk1⟩
      · have e3 : 65536 < off := by omega
        go_enter Try.func3, Try.ntmps3
        go_wp2_with fail
        refine (awake_any _).mono ?_
        rintro e w1 ⟨rfl, hk1⟩
        go_wp2
        go_ret
        exact ⟨rfl, hk1⟩
  · obtain ⟨hn4, ho0, ho1⟩ : n ≤ 4096 ∧ 0 ≤ off ∧ off ≤ 65536 := by omega
    clear hearly
    obtain ⟨k, hk⟩ : ∃ k : Nat, k = min x.toNat n := ⟨_, rfl⟩
    have hkn : k ≤ n := by omega
    have HK := Lib.hid hk
    clear hk
    go_enter Try.func3, Try.ntmps3
    go_wp2_with fail
    refine (awake_any _).mono ?_
    rintro e w1 ⟨rfl, hk1⟩
    go_upto_region 5 with fail
    go_cut [7] (fun v wx => CutK k w1 v wx)
    case first =>
      have hkk := HK.out
      by_cases hxn : x = (k : Int)
      · subst hxn
        clear hkk
        go_wp2
        go_meet
        case rel => exact ⟨rfl, rfl⟩
      · have hxk : (n : Int) = (k : Int) := by omega
        have hxk2 : (k : Int) < x := by omega
        obtain rfl : n = k := by omega
        clear hkk hxk
        go_wp2
        go_meet
        case rel => exact ⟨rfl, rfl⟩
    case rest =>
      obtain ⟨rfl, rfl⟩ := hcut
      have hoff : off = ((off.toNat : Nat) : Int) := by omega
      obtain ⟨a, ha⟩ : ∃ a, a = off.toNat := ⟨_, rfl⟩
      rw [← ha] at hoff
      have HOff := Lib.hid hoff
      clear hoff ha
      have hD1 := Lib.hid (HR.out.keep hk1 (by simp))
      have hz1 := hk1.size
      go_wp2_with fail
      refine (new_any 65536 _ (by omega) (by omega)).mono ?_
      rintro e w2 ⟨sb, hsb, rfl, hs2, hk2⟩
      have hl2 := hs2.lt
      have hz2 := hk2.size
      go_wp2_with fail
      refine (new_any 65536 _ (by omega) (by omega)).mono ?_
      rintro e w3 ⟨tb, htb, rfl, ht3, hk3⟩
      have hs3 := hs2.keep hk3 (by simp)
      have hl3 := ht3.lt
      have hz3 := hk3.size
      go_wp2_with fail
      refine (body_any _ _).mono ?_
      rintro e w4 ⟨ab, am, hab, ham, rfl, ha4, hk4⟩
      have hs4 := hs3.keep hk4 (by simp)
      have ht4 := ht3.keep hk4 (by simp)
      have hl4 := ha4.lt
      have hz4 := hk4.size
      go_wp2_with fail
      refine (body_any _ _).mono ?_
      rintro e w5 ⟨bb, bm, hbb, hbm, rfl, hb5, hk5⟩
      have hs5 := hs4.keep hk5 (by simp)
      have ht5 := ht4.keep hk5 (by simp)
      have ha5 := ha4.keep hk5 (by simp) (by simp)
      have hl5 := hb5.lt
      have hz5 := hk5.size
      have hK5 := (((hk2.trans hk3).trans hk4).trans hk5)
      have hD5 := Lib.hid (hD1.out.keep hK5 (by simp))
      have hblk5 : Hid (0 < n → ∀ g, (Value.slice p n cap).ownBlock = some g → g < w1.heap.size) := fun h0 g hg => Nat.lt_of_lt_of_le (HB.out h0 g hg) hz1
      have hne1 : 0 < n → ∀ x ∈ [sb, ab, am], (Value.slice p n cap).ownBlock ≠ some x := fun h0 x hx h => by have := hblk5.out h0 x h; simp at hx; omega
      have hne2 : 0 < n → ∀ x ∈ [tb, bb, bm], (Value.slice p n cap).ownBlock ≠ some x := fun h0 x hx h => by have := hblk5.out h0 x h; simp at hx; omega
      have HNE := Lib.hid (And.intro hne1 hne2)
      have hKK := hk1.trans hK5
      clear hne1 hne2 hs2 hs3 hs4 ht3 ht4 ha4 hk1 hk2 hk3 hk4 hk5 hK5 hD1 hblk5
      -- the plain law
      obtain ⟨S, hS⟩ : ∃ S, S = (writeM 65536 ⟨0, 0, []⟩ off data).2.2 := ⟨_, rfl⟩
      obtain ⟨T1, hT1⟩ : ∃ T, T = (writeM 65536 ⟨0, 0, []⟩ off (data.take k)).2.2 := ⟨_, rfl⟩
      obtain ⟨T, hT⟩ : ∃ T', T' = (writeM 65536 T1 (off + k) (data.drop k)).2.2 := ⟨_, rfl⟩
      have hsame : Same S T := by
        rw [hS, hT, hT1, HOff.out]
        exact parts a data k (by rw [← HN.out]; exact hkn)
      have hTu : 0 ≤ T1.used ∧ T1.used ≤ 65536 := by rw [hT1]; exact writeM_used (by decide) (by decide)
      have HS := Lib.hid hS
      have HT1 := Lib.hid hT1
      have HT := Lib.hid hT
      have HSame := Lib.hid hsame
      clear hS hT1 hT hsame
      go_wp2_with fail
      refine (write_any sb ab am 65536 ⟨0, 0, []⟩ off data _ _ hs5 ha5 (by omega) (by decide) (by decide) (by omega) hD5.out (by rw [← HN.out]; exact HNE.out.1) HF.out).mono ?_
      rintro e w6 ⟨rfl, hs6, ha6, hk6⟩
      rw [← HS.out] at hs6 ha6
      have ht6 := ht5.keep hk6 (by simp; omega)
      have hb6 := hb5.keep hk6 (by simp; omega) (by simp; omega)
      have hD6 := Lib.hid (hD5.out.keep hk6 (by rw [List.length_map, ← HN.out]; exact HNE.out.1))
      have hK6 := hKK.trans' hk6 (fun x hx => by simp at hx; omega)
      have hz6 := hk6.size
      clear hs5 ht5 ha5 hb5 hD5 hKK hk6
      go_wp2_with (first | (refine vp_head rfl (.tmp 54) (.tmp 55) 22 rfl 5 Try.underlying22 size5 rfl hD6.out HF.out k (by rw [List.length_map, ← HN.out]; exact hkn) rfl ?_; intro v1 hv1 hb1 hf1; have hV1 := Lib.hid (And.intro hv1 (And.intro hb1 hf1)); clear hv1 hb1 hf1) | fail)
      refine (write_any tb bb bm 65536 ⟨0, 0, []⟩ off (data.take k) _ _ ht6 hb6 (by omega) (by decide) (by decide) (by omega) (by rw [List.map_take]; exact hV1.out.1) (by rw [hV1.out.2.1]; intro h0; exact HNE.out.2 (by rw [HN.out]; simp at h0; omega)) hV1.out.2.2).mono ?_
      rintro e w7 ⟨rfl, ht7, hb7, hk7⟩
      rw [← HT1.out] at ht7 hb7
      have hs7 := hs6.keep hk7 (by simp; omega)
      have ha7 := ha6.keep hk7 (by simp; omega) (by simp; omega)
      have hD7 := Lib.hid (hD6.out.keep hk7 (by rw [List.length_map, ← HN.out]; exact HNE.out.2))
      have hK7 := hK6.trans' hk7 (fun x hx => by simp at hx; omega)
      have hz7 := hk7.size
      clear hs6 ht6 ha6 hb6 hD6 hK6 hk7 hV1
      go_wp2_with (first | (refine vp_tail rfl (.tmp 63) (.tmp 64) 22 rfl 5 Try.underlying22 size5 rfl hD7.out HF.out k (by rw [List.length_map, ← HN.out]; exact hkn) rfl ?_; intro v2 hv1 hb1 hf1; have hV1 := Lib.hid (And.intro hv1 (And.intro hb1 hf1)); clear hv1 hb1 hf1) | fail)
      refine (write_any tb bb bm 65536 T1 (off + k) (data.drop k) _ _ ht7 hb7 (by omega) hTu.1 hTu.2 (by omega) (by rw [List.map_drop]; exact hV1.out.1) (by rw [hV1.out.2.1]; intro h0; exact HNE.out.2 (by rw [HN.out]; simp at h0; omega)) hV1.out.2.2).mono ?_
      rintro e w8 ⟨rfl, ht8, hb8, hk8⟩
      rw [← HT.out] at ht8 hb8
      have hs8 := hs7.keep hk8 (by simp; omega)
      have ha8 := ha7.keep hk8 (by simp; omega) (by simp; omega)
      have hK8 := hK7.trans' hk8 (fun x hx => by simp at hx; omega)
      have hz8 := hk8.size
      clear hs7 ht7 ha7 hb7 hD7 hK7 hk8 hV1
      go_wp2_with fail
      refine (read_any _ ab am S 0 65536 _ ha8).mono ?_
      rintro e w9 ⟨vx, rfl, ho9, hk9⟩
      have hs9 := hs8.keep hk9 (by simp)
      have ht9 := ht8.keep hk9 (by simp)
      have ha9 := ha8.keep hk9 (by simp) (by simp)
      have hb9 := hb8.keep hk9 (by simp) (by simp)
      have hK9 := hK8.trans hk9
      have hz9 := hk9.size
      clear hs8 ht8 ha8 hb8 hK8 hk9
      go_wp2_with fail
      refine (read_any _ bb bm T 0 65536 _ hb9).mono ?_
      rintro e w10 ⟨vy, rfl, hp10, hk10⟩
      rw [← HSame.out.read] at hp10
      have ho10 := ho9.keep hk10 (by simp)
      have hs10 := hs9.keep hk10 (by simp)
      have ht10 := ht9.keep hk10 (by simp)
      have ha10 := ha9.keep hk10 (by simp) (by simp)
      have hb10 := hb9.keep hk10 (by simp) (by simp)
      have hK10 := hK9.trans hk10
      clear hs9 ht9 ha9 hb9 hK9 hk10 ho9
      have hrx := Lib.hid ho10.reads
      have hry := Lib.hid hp10.reads
      have hc2 := chunks_any bb bm T.sz T.l w10 hb10
      have hu2 := used_ok tb 65536 T.used w10 ht10
      rw [← HSame.out.2.2.1] at hc2
      rw [← HSame.out.2.1] at hu2
      have HC := Lib.hid (And.intro hc2 hu2)
      clear hc2 hu2
      go_wp2_with (first
        | (refine vp_string (by rfl) (.tmp 79) 22 9 5 rfl Try.underlying22 Try.underlying5 Try.underlying9 rfl hrx.out ?_)
        | (refine vp_string (by rfl) (.tmp 81) 22 9 5 rfl Try.underlying22 Try.underlying5 Try.underlying9 rfl hry.out ?_)
        | (go_at_call_of 15 (Value.pointer (some ⟨ab, 0, none⟩)); refine (chunks_any ab am S.sz S.l w10 ha10).mono ?_; rintro e w' ⟨rfl, rfl⟩)
        | (go_at_call_of 15 (Value.pointer (some ⟨bb, 0, none⟩)); refine HC.out.1.mono ?_; rintro e w' ⟨rfl, rfl⟩)
        | (go_at_call_of 16 (Value.pointer (some ⟨sb, 0, none⟩)); refine (used_ok sb 65536 S.used w10 hs10).mono ?_; rintro e w' ⟨rfl, rfl⟩)
        | (go_at_call_of 16 (Value.pointer (some ⟨tb, 0, none⟩)); refine HC.out.2.mono ?_; rintro e w' ⟨rfl, rfl⟩))
      refine (holes_any ab am S.sz S.l w10 ha10).mono ?_
      rintro e w11 ⟨va, rfl, hoa, hk11⟩
      have hb11 := hb10.keep hk11 (by simp) (by simp)
      clear hs10 ht10 ha10 hb10 ho10 hp10 hrx hry HC
      go_wp2_with fail
      refine (holes_any bb bm T.sz T.l w11 hb11).mono ?_
      rintro e w12 ⟨vb, rfl, hob, hk12⟩
      rw [← HSame.out.1, ← HSame.out.holes] at hob
      have hoa2 := hoa.keep hk12 (by simp)
      have hsz : S.sz ≤ 65536 := by have := hb11.2.2.2.2; rw [HSame.out.1]; exact this
      have hnl := length_holesTo S.l ((S.sz + 15) / 16).toNat
      clear hoa hb11
      go_wp2_with fail
      refine (ints_ok va vb _ _ w12 hoa2.reads hob.reads (by omega) (by omega)).mono ?_
      rintro e w13 ⟨rfl, n13, rfl⟩
      go_wp2
      go_ret
      exact ⟨by simp, ((hK10.trans hk11).trans hk12).drewN n13⟩
end Go.Proofs.Ythkeahjcokbaaaa
