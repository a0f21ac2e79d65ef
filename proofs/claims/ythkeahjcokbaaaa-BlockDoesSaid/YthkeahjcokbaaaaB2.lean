import Derived.Test.YthkeahjcokbaaaaB1
namespace Go.Proofs.Ythkeahjcokbaaaa
open Go.RowKit Go.V Go.V.Block

theorem info5 : (Try.prog.info? 5).map (fun i => (i.zero, i.size, i.bytes)) = some (some (.int .u8 0), 1, 1) := by kernel_rfl
theorem size5 : (Try.prog.info? 5).map (·.size) = some 1 := by kernel_rfl

theorem read_bad (s b : Value) (off n : Int) (w : World) (h : off < 0 ∨ n < 0) :
    Calls Try.prog 14 #[s, b, .int .i64 off, .int .i64 n] w fun e w' => e = .returned (.tuple #[.slice none 0 0, .int .i64 22]) ∧ w = w' := by
  by_cases h0 : off < 0
  · go_enter Try.func14, Try.ntmps14
    go_wp2
    go_ret2
    exact ⟨rfl, rfl⟩
  · have h1 : n < 0 := by omega
    go_enter Try.func14, Try.ntmps14
    go_wp2
    go_ret2
    exact ⟨rfl, rfl⟩

theorem read_over (s : Value) (bb mb : Nat) (sz off n : Int) (w : World) (h0 : 0 ≤ off) (h1 : 0 ≤ n) (h : sz ≤ off) (hb : w.heap[bb]? = some (.cells #[.int .i64 sz, .map (some mb)] 68 (0, 0))) :
    Calls Try.prog 14 #[s, .pointer (some ⟨bb, 0, none⟩), .int .i64 off, .int .i64 n] w fun e w' => e = .returned (.tuple #[.slice none 0 0, .int .i64 0]) ∧ w = w' := by
  have hc : w.cell? ⟨bb, 0, none⟩ = some (.int .i64 sz) := cell_of hb rfl
  clear hb
  go_enter Try.func14, Try.ntmps14
  go_wp2
  go_ret2
  exact ⟨rfl, rfl⟩

/-- what holds at the head of a round of Read's loop -/
def RI (g _bb _mb : Nat) (_sz : Int) (l : CL) (at_ m : Nat) (w : World) (k : Nat) (v : Value) (wx : World) : Prop :=
  ∃ i : Nat, v = .int .i64 i ∧ i ≤ m ∧ m - i ≤ k ∧ wx.heap[g]? = some (.cells ((sofar l at_ i m).map bv).toArray 5 (0, 0)) ∧ Keeps [] w wx
def RPost (_bb : Nat) (l : CL) (at_ m : Nat) (w : World) (e : Ending) (w' : World) : Prop :=
  ∃ g : Nat, w.heap.size ≤ g ∧ e = .returned (.tuple #[.slice (some ⟨g, 0, none⟩) m m, .int .i64 0]) ∧ w'.heap[g]? = some (.cells ((bytesFrom l at_ m).map bv).toArray 5 (0, 0)) ∧ Keeps [] w w'

set_option maxRecDepth 100000 in
set_option maxHeartbeats 1000000 in
theorem read_main (s : Value) (bb mb : Nat) (sz off n : Int) (at_ m : Nat) (l : CL) (w : World) (h1 : 0 ≤ n) (hat : off = at_) (h : off < sz) (hsz : sz ≤ 65536) (hm : (m : Int) = min n (sz - off))
    (hb : w.heap[bb]? = some (.cells #[.int .i64 sz, .map (some mb)] 68 (0, 0))) (hmb : MapAt w mb keyV chunkV l) (h16 : Len16 l) :
    Calls Try.prog 14 #[s, .pointer (some ⟨bb, 0, none⟩), .int .i64 off, .int .i64 n] w (RPost bb l at_ m w) := by
  have hc0 : w.cell? ⟨bb, 0, none⟩ = some (.int .i64 sz) := cell_of hb rfl
  have h0 : 0 ≤ off := by omega
  have hms : (m : Int) ≤ sz - off := by omega
  have hmn : (m : Int) ≤ n := by omega
  have HM := Lib.hid hm
  have HB := Lib.hid hb
  have HMB := Lib.hid hmb
  have H16 := Lib.hid h16
  have HAT := Lib.hid hat
  clear hm hb hmb h16 hat
  go_enter Try.func14, Try.ntmps14
  go_upto_region 6 with fail
  go_cut [11] (fun v wx => ∃ g : Nat, w.heap.size ≤ g ∧ v = .slice (some ⟨g, 0, none⟩) m m ∧ wx.heap[g]? = some (.cells ((sofar l at_ 0 m).map bv).toArray 5 (0, 0)) ∧ Keeps [] w wx)
  case first =>
    have hm2 := HM.out
    by_cases he : n = (m : Int)
    · subst he
      clear hm2
      go_wp2_with (at_make; refine vp_make rfl (.tmp 34) (.tmp 34) 22 rfl 5 Try.underlying22 (.int .u8 0) 1 info5 rfl m rfl rfl (by omega) (by omega) ?_; intro w1 hw1 hk1 hz1)
      go_meet
      case rel => exact ⟨_, Nat.le_refl _, rfl, by rw [sofar_zero, map_replicate_bv]; exact hw1.out, hk1⟩
    · have hd : sz - off = (m : Int) := by omega
      have hlt : (m : Int) < n := by omega
      clear hm2 he
      go_wp2_with (at_make; (try rw [hd]); refine vp_make rfl (.tmp 34) (.tmp 34) 22 rfl 5 Try.underlying22 (.int .u8 0) 1 info5 rfl m rfl rfl (by omega) (by omega) ?_; intro w1 hw1 hk1 hz1)
      go_meet
      case rel => exact ⟨_, Nat.le_refl _, rfl, by rw [sofar_zero, map_replicate_bv]; exact hw1.out, hk1⟩
  case rest =>
    obtain ⟨g, hg, rfl, hgh, hkg⟩ := hcut
    have HGH := Lib.hid (And.intro hgh hkg)
    clear hgh hkg hc0
    go_wp2
    go_loopg [38] m (fun k v wx => RI g bb mb sz l at_ m w k v wx)
    case atStart => exact ⟨0, rfl, Nat.zero_le _, by omega, HGH.out.1, HGH.out.2⟩
    case round =>
      obtain ⟨i, rfl, him, hik, hgh, hk⟩ := hrel
      have HG := Lib.hid hgh
      have HK := Lib.hid hk
      have hbw : wr.heap[bb]? = some (.cells #[.int .i64 sz, .map (some mb)] 68 (0, 0)) := hk.get HB.out (by simp)
      have hbb1 : wr.cell? ⟨bb, 1, none⟩ = some (.map (some mb)) := cell_of hbw rfl
      have HMW := Lib.hid (HMB.out.keep hk (by simp))
      clear hgh hk hbw
      by_cases hlt : i < m
      · obtain ⟨K, hK⟩ : ∃ K : Nat, (off + (i : Int)) / 16 = K ∧ K = (at_ + i) / 16 := ⟨(at_ + i) / 16, by rw [HAT.out]; omega, rfl⟩
        obtain ⟨I, hI⟩ : ∃ I : Nat, (off + (i : Int)) % 16 = I ∧ I = (at_ + i) % 16 := ⟨(at_ + i) % 16, by rw [HAT.out]; omega, rfl⟩
        have hI16 : I < 16 := by omega
        have hK1 := hK.1
        have hI1 := hI.1
        have HKI := Lib.hid (And.intro hK.2 hI.2)
        clear hK hI
        obtain ⟨c, hc⟩ : ∃ c, (get l K).getD zero16 = c := ⟨_, rfl⟩
        have hc16 : c.length = 16 := by rw [← hc]; exact len16_chunkOf H16.out K
        have HC := Lib.hid hc
        have HC16 := Lib.hid hc16
        clear hc16 hc
        have hidx := run_index_arr (P := Try.prog) 70 5 16 Try.underlying70 size5 wr.heap.size I hI16
        go_upto_region 11 with (first | (at_lookup; rw [hK1]; refine vp_lookup_at rfl (.tmp 44) (.tmp 48) 66 rfl 3 70 Try.underlying66 kk (zero70 _) rfl K rfl HMW.out HC.out ?_) | (refine vp_store_row rfl 70 (.tmp 13) (.tmp 49) rfl wr.heap.size rfl (c.map bv).toArray rfl _ 70 (heap_alloc _ _) ?h1 ?h2 ?h3 ?_; rotate_right; intro w1 hc1 hk1 hz1; have hk1 := hk1.fresh))
        case h1 => simp only [List.size_toArray, List.length_map, HC16.out]; rfl
        case h2 => simp only [List.size_toArray, List.length_map, HC16.out]; rfl
        case h3 => rw [Array.all_eq_true_iff_forall_mem]; intro v hv; exact oneCell_bv c v (by simpa using hv)
        have hgw := hk1.get HG.out (by simp)
        have hcI : w1.cell? ⟨wr.heap.size, I, none⟩ = some (.int .u8 ((c.getD I 0).toNat : Int)) := cell_of hc1.out (by
          have hIc : I < c.length := by rw [HC16.out]; exact hI16
          simp [List.getD_eq_getElem?_getD, hIc, bv])
        have hil : i < ((sofar l at_ i m).map bv).length := by rw [List.length_map, length_sofar _ _ _ _ him]; exact hlt
        obtain ⟨v0, hv0⟩ : ∃ v0, ((sofar l at_ i m).map bv)[i]? = some v0 := ⟨_, List.getElem?_eq_getElem hil⟩
        have hcg : w1.cell? ⟨g, i, none⟩ = some v0 := cell_of hgw (by rw [List.getElem?_toArray]; exact hv0)
        clear hil hv0
        have hfg : w1.frozen? ⟨g, i, none⟩ = false := frozen_of i hgw
        have HGW := Lib.hid hgw
        have HK1 := Lib.hid hk1
        clear hgw hk1 hz1 hbb1
        go_wp2
        go_roundg (gk - 1)
        case measure => omega
        case rel =>
          refine ⟨i + 1, by push_cast; rfl, by omega, by omega, ?_, ?_⟩
          · rw [heap_setCell HGW.out, ← sofar_set _ _ _ _ hlt, map_set_bv]
            have hb : byteAt l (at_ + i) = c.getD I 0 := by
              unfold byteAt chunkOf
              rw [← HKI.out.1, ← HKI.out.2, HC.out]
            rw [hb]
            congr 2
            simp [bv]
          · exact (HK.out.trans HK1.out).setCell (Or.inr hg) _
      · go_wp2
        go_ret2
        have e : i = m := by omega
        exact ⟨g, hg, rfl, by rw [← sofar_all, ← e]; rw [← e] at HG; exact HG.out, HK.out⟩
end Go.Proofs.Ythkeahjcokbaaaa
