import Derived.Test.YthkeahjcokbaaaaB4
import Derived.Test.YthkeahjcokbaaaaB10
import Derived.Test.YthkeahjcokbaaaaV3
namespace Go.Proofs.Ythkeahjcokbaaaa
open Go.RowKit Go.V Go.V.Block

theorem cut_bad (s b : Value) (size : Int) (w : World) (h : size < 0) : Calls Try.prog 23 #[s, b, .int .i64 size] w fun e w' => e = .returned (.int .i64 22) ∧ w = w' := by
  go_enter Try.func23, Try.ntmps23
  go_wp2
  go_ret
  exact ⟨rfl, rfl⟩
theorem cut_far (s b : Value) (size : Int) (w : World) (h : 65536 < size) : Calls Try.prog 23 #[s, b, .int .i64 size] w fun e w' => e = .returned (.int .i64 27) ∧ w = w' := by
  go_enter Try.func23, Try.ntmps23
  go_wp2
  go_ret
  exact ⟨rfl, rfl⟩

/-- what holds at the head of a round of Cut's loop -/
def CInv (sb bb mb ib : Nat) (room u0 sz : Int) (n : Nat) (l : CL) (w : World) (k : Nat) (wx : World) : Prop :=
  ∃ seen : List Nat, seen.Nodup ∧ (∀ x ∈ seen, x ∈ keys l) ∧ l.length - seen.length ≤ k ∧ IterAt wx ib mb keyV chunkV (cutS n l seen) seen ∧
    wx.heap[sb]? = some (.cells #[.int .i64 room, .int .i64 (u0 - (l.length - (cutS n l seen).length : Nat))] 65 (0, 0)) ∧ wx.heap[bb]? = some (.cells #[.int .i64 sz, .map (some mb)] 68 (0, 0)) ∧ Keeps [sb, bb, mb] w wx
def CEnd (sb bb mb : Nat) (room u0 sz : Int) (n : Nat) (l : CL) (w wx : World) : Prop :=
  MapAt wx mb keyV chunkV (cutL n l) ∧ wx.heap[sb]? = some (.cells #[.int .i64 room, .int .i64 (u0 - (l.length - (cutL n l).length : Nat))] 65 (0, 0)) ∧
    wx.heap[bb]? = some (.cells #[.int .i64 sz, .map (some mb)] 68 (0, 0)) ∧ Len16 (cutL n l) ∧ Keeps [sb, bb, mb] w wx
def CPost (sb bb mb : Nat) (room u0 size : Int) (n : Nat) (l : CL) (w : World) (e : Ending) (w' : World) : Prop :=
  e = .returned (.int .i64 0) ∧ CEnd sb bb mb room u0 size n l w w'

theorem length_le_keys {l : CL} {seen : List Nat} (h : seen.Nodup) (hs : ∀ x ∈ seen, x ∈ keys l) : seen.length ≤ l.length := by
  have : ∀ (A B : List Nat), A.Nodup → (∀ x ∈ A, x ∈ B) → A.length ≤ B.length := by
    intro A
    induction A with
    | nil => intro B _ _; simp
    | cons x A ih =>
      intro B hA hB
      simp only [List.nodup_cons] at hA
      have h1 := List.length_erase_of_mem (hB x (by simp))
      have h2 := ih (B.erase x) hA.2 (fun y hy => by
        have hne : y ≠ x := fun e => hA.1 (e ▸ hy)
        exact (List.mem_erase_of_ne hne).2 (hB y (by simp [hy])))
      have h3 : 0 < B.length := List.length_pos_of_mem (hB x (by simp))
      simp only [List.length_cons]; omega
  have := this seen (keys l) h hs
  simpa [keys] using this

set_option maxRecDepth 100000 in
set_option maxHeartbeats 2000000 in
theorem cut_main (sb bb mb : Nat) (room u0 sz size : Int) (n : Nat) (l : CL) (w : World) (hs : w.heap[sb]? = some (.cells #[.int .i64 room, .int .i64 u0] 65 (0, 0))) (hb : w.heap[bb]? = some (.cells #[.int .i64 sz, .map (some mb)] 68 (0, 0)))
    (hm : MapAt w mb keyV chunkV l) (h16 : Len16 l) (hne : sb ≠ bb) (hsz : size = n) (h0 : 0 ≤ size) (h1 : size ≤ 65536) (hk : ∀ k ∈ keys l, k < 4096) (hu0 : (l.length : Int) ≤ u0) (hu1 : u0 ≤ 65536) :
    Calls Try.prog 23 #[.pointer (some ⟨sb, 0, none⟩), .pointer (some ⟨bb, 0, none⟩), .int .i64 size] w (CPost sb bb mb room u0 size n l w) := by
  have hbb1 : w.cell? ⟨bb, 1, none⟩ = some (.map (some mb)) := cell_of hb rfl
  have HS := Lib.hid hs
  have HB := Lib.hid hb
  have HM := Lib.hid hm
  have H16 := Lib.hid h16
  have HSZ := Lib.hid hsz
  have HKK := Lib.hid hk
  have HNE := Lib.hid hne
  clear hs hb hm h16 hsz hk hne
  go_enter Try.func23, Try.ntmps23
  go_upto_region 7 with (at_range; refine vp_range rfl (.tmp 21) 66 rfl 3 70 Try.underlying66 rfl HM.out ?_; intro w1 hit hk1 hz1)
  obtain ⟨ib, hib⟩ : ∃ ib, ib = w.heap.size := ⟨_, rfl⟩
  rw [← hib] at hit ⊢
  have HIT := Lib.hid hit
  have HK1 := Lib.hid hk1
  have HIB := Lib.hid hib
  clear hit hk1 hz1 hib
  go_frame
  go_loopg [] l.length (fun k wx => CInv sb bb mb ib room u0 sz n l w k wx)
  case atStart =>
    refine ⟨[], by simp, by simp, by simp, by rw [cutS_nil]; exact HIT.out, ?_, HK1.out.get HB.out (by simp), HK1.out.mono (by simp)⟩
    rw [cutS_nil, Nat.sub_self, HK1.out.get HS.out (by simp)]
    simp
  case round =>
    obtain ⟨seen, hsn, hss, hgk, hit, hsw, hbw, hkw⟩ := hrel
    have HW := Lib.hid (And.intro hsn (And.intro hss (And.intro hit (And.intro hsw (And.intro hbw hkw)))))
    clear hsn hss hit hsw hbw hkw
    go_upto_region 7 with fail
    go_step
    refine vp_next rfl (.tmp 22) rfl rfl HW.out.2.2.1 ?_ ?_ kk
    · intro hover
      have hbb0 : wr.cell? ⟨bb, 0, none⟩ = some (.int .i64 sz) := cell_of HW.out.2.2.2.2.1 rfl
      have hfb : wr.frozen? ⟨bb, 0, none⟩ = false := frozen_of 0 HW.out.2.2.2.2.1
      have HOv := Lib.hid hover
      clear hover
      go_wp2
      go_ret
      have e := cutS_over HOv.out
      obtain ⟨hsn, hss, hit, hsw, hbw, hkw⟩ := HW.out
      rw [e] at hit hsw
      have hl16 : Len16 (cutL n l) := by rw [← e]; exact cutS_len16 HM.out.nodup H16.out
      exact ⟨rfl, hit.map.of (heap_setCell_ne' (hit.map.ne_cells hbw).symm), heap_setCell_ne hsw HNE.out, heap_setCell hbw, hl16, hkw.setCell (Or.inl (by simp)) _⟩
    · intro k c w2 hmem hns hit2 hk2 hz2 hentry
      obtain ⟨hsn, hss, hit, hsw, hbw, hkw⟩ := HW.out
      have hs2 := hk2.get hsw (by simp; exact (hit.ne_cells hsw).1)
      have hb2 := hk2.get hbw (by simp; exact (hit.ne_cells hbw).1)
      have hml := cutS_mem hmem hns
      have hkl : k ∈ keys l := List.mem_map.2 ⟨_, hml, rfl⟩
      have hk4 := HKK.out k hkl
      have hc16 : c.length = 16 := H16.out k c (get_of_mem HM.out.nodup hml)
      have hsl : seen.length < l.length := by
        have := length_le_keys (l := l) (seen := k :: seen) (List.nodup_cons.2 ⟨hns, hsn⟩) (fun x hx => by rcases List.mem_cons.1 hx with rfl | hx; exact hkl; exact hss x hx)
        simpa [Nat.lt_iff_add_one_le] using this
      have hgpos : 0 < gk := by omega
      have hlen : (cutS n l seen).length ≤ l.length := by
        have := (cutS_keys (n := n) (l := l) (seen := seen)).length_le
        simpa [keys] using this
      have hkw2 : Keeps [sb, bb, mb] w w2 := hkw.trans' hk2 (fun x hx => Or.inr (by simp at hx; rw [hx, HIB.out]; omega))
      have HX := Lib.hid (And.intro hsn (And.intro hss (And.intro hmem (And.intro hns (And.intro hml (And.intro hkl (And.intro hc16 (And.intro hsl hlen))))))))
      have HY := Lib.hid (And.intro hit2 (And.intro hs2 (And.intro hb2 hkw2)))
      obtain ⟨kI, hkI⟩ : ∃ kI : Int, kI = (k : Int) := ⟨_, rfl⟩
      replace hentry : (Instr.entry (.pointer (some ⟨ib, 0, none⟩))).run Try.prog w2 = .ok (.tuple #[.int .i64 kI, chunkV c]) w2 := by rw [hkI]; exact hentry
      have hkI0 : 0 ≤ kI := by omega
      have hkI1 : kI ≤ 4095 := by omega
      have HKI := Lib.hid hkI
      clear hsn hss hmem hns hml hkl hc16 hsl hlen hit hsw hbw hkw hs2 hb2 hit2 hk4 hkI hz2 hk2 hkw2 HW
      go_upto_region 10 with (refine vp_store_row rfl 70 (.tmp 9) (.tmp 27) rfl w2.heap.size rfl (c.map bv).toArray rfl _ 70 (heap_alloc _ _) ?h1 ?h2 ?h3 ?_; rotate_right; intro w3 hc3 hk3 hz3; have hk3 := hk3.fresh)
      case h1 => simp only [List.size_toArray, List.length_map, HX.out.2.2.2.2.2.2.1]; rfl
      case h2 => simp only [List.size_toArray, List.length_map, HX.out.2.2.2.2.2.2.1]; rfl
      case h3 => rw [Array.all_eq_true_iff_forall_mem]; intro v hv; exact oneCell_bv c v (by simpa using hv)
      have hs3 := hk3.get HY.out.2.1 (by simp)
      have hb3 := hk3.get HY.out.2.2.1 (by simp)
      have hit3 := HY.out.1.keep hk3 (by simp) (by simp)
      have hkw3 := HY.out.2.2.2.trans (hk3.mono (by simp))
      have hbb1 : w3.cell? ⟨bb, 1, none⟩ = some (.map (some mb)) := cell_of hb3 rfl
      have HZ := Lib.hid (And.intro hit3 (And.intro hs3 (And.intro hb3 (And.intro hkw3 hc3.out))))
      clear hs3 hb3 hit3 hkw3 hk3 hz3 hc3
      obtain ⟨U, hU⟩ : ∃ U : Int, U = u0 - (l.length - (cutS n l seen).length : Nat) := ⟨_, rfl⟩
      have hU1 : 1 ≤ U := by
        have := List.length_pos_of_mem HX.out.2.2.1
        have := HX.out.2.2.2.2.2.2.2.2
        omega
      have hU2 : U ≤ 65536 := by omega
      have hgk := hgpos
      have HU := Lib.hid hU
      rw [← hU] at HZ
      clear hU
      have hnd : (keys (cutS n l seen)).Nodup := HZ.out.1.map.nodup
      have hkk : k ∈ keys (cutS n l seen) := List.mem_map.2 ⟨_, HX.out.2.2.1, rfl⟩
      have hst := cutS_step (n := n) HM.out.nodup HX.out.2.2.2.2.1 HX.out.2.2.2.1
      have hldel := length_del hnd hkk
      have hlput : ∀ v, (put (cutS n l seen) k v).length = (cutS n l seen).length := fun v => by rw [length_put, if_pos hkk]
      have HT := Lib.hid (And.intro hkk (And.intro hst (And.intro hldel hlput)))
      clear hnd hkk hst hldel hlput
      by_cases hA : size ≤ kI * 16
      · go_upto_region 12 with (refine vp_iter_delete rfl (.tmp 37) (.tmp 38) 66 3 rfl 3 70 Try.underlying66 kk rfl k (by show Value.int .i64 kI = keyV k; rw [HKI.out]; rfl) HZ.out.1 ?_; intro w4 hit4 hk4)
        have hs4 := hk4.get HZ.out.2.1 (by simp; exact HZ.out.1.map.ne_cells HZ.out.2.1)
        have hb4 := hk4.get HZ.out.2.2.1 (by simp; exact HZ.out.1.map.ne_cells HZ.out.2.2.1)
        have hkw4 := HZ.out.2.2.2.1.trans (hk4.mono (by simp))
        have hsb1 : w4.cell? ⟨sb, 1, none⟩ = some (.int .i64 U) := cell_of hs4 rfl
        have hfs : w4.frozen? ⟨sb, 1, none⟩ = false := frozen_of 1 hs4
        have HV := Lib.hid (And.intro hit4 (And.intro hs4 (And.intro hb4 hkw4)))
        clear hit4 hs4 hb4 hkw4 hk4 hbb1
        go_wp2
        go_roundg (gk - 1)
        case measure => omega
        case rel =>
          obtain ⟨a1, a2, a3, a4⟩ := HV.out
          obtain ⟨b1, b2, b3, b4, b5, b6, b7, b8, b9⟩ := HX.out
          obtain ⟨t1, t2, t3, t4⟩ := HT.out
          have hcond : n ≤ k * 16 := by have := HSZ.out; have := HKI.out; omega
          rw [if_pos hcond] at t2
          have c1 := (a1.of (w' := w4.setCell ⟨sb, 1, none⟩ (.int .i64 (U - 1))) (heap_setCell_ne' (a1.ne_cells a2).2.symm) (heap_setCell_ne' (a1.ne_cells a2).1.symm))
          refine ⟨k :: seen, List.nodup_cons.2 ⟨b4, b1⟩, fun x hx => by rcases List.mem_cons.1 hx with rfl | hx; exact b6; exact b2 x hx, by simp only [List.length_cons]; omega, t2 ▸ c1, ?_, heap_setCell_ne a3 (Ne.symm HNE.out), a4.setCell (Or.inl (by simp)) _⟩
          rw [heap_setCell a2, t2]
          have : u0 - ((l.length - (del (cutS n l seen) k).length : Nat) : Int) = U - 1 := by have := HU.out; omega
          rw [this]
          rfl
      · by_cases hC : size < kI * 16 + 16
        · obtain ⟨I, hI⟩ : ∃ I : Nat, size - kI * 16 = I := ⟨(size - kI * 16).toNat, by omega⟩
          have hI0 : 0 < I := by omega
          have hI16 : I < 16 := by omega
          have hsl := run_slice_arr (P := Try.prog) 70 5 16 Try.underlying70 (by kernel_rfl) w2.heap.size I hI16
          rw [← hI] at hsl
          have HI := Lib.hid hI
          clear hI
          go_upto_region 15 with (refine vp_clear rfl (.tmp 54) 22 rfl 5 Try.underlying22 (bv 0) (by kernel_rfl) rfl rfl w2.heap.size I (16 - I) (16 - I) rfl (by omega) (c.map bv) 70 HZ.out.2.2.2.2 ?hfit ?_; rotate_right; intro w4 hc4 hk4 hz4)
          case hfit =>
            have h16 : c.length = 16 := HX.out.2.2.2.2.2.2.1
            have : (c.map bv).length = 16 := by rw [List.length_map]; exact h16
            omega
          clear hsl
          have hg := lt_of_heap HZ.out.2.2.2.2
          have hs2 := lt_of_heap HY.out.2.1
          have hs4 := hk4.get HZ.out.2.1 (by simp; omega)
          have hb2 := lt_of_heap HY.out.2.2.1
          have hb4 := hk4.get HZ.out.2.2.1 (by simp; omega)
          have hi2 := HY.out.1.lt
          have hit4 := HZ.out.1.keep hk4 (by simp; omega) (by simp; omega)
          have hkw4 := HZ.out.2.2.2.1.trans' hk4 (fun x hx => Or.inr (by simp at hx; rw [hx]; exact HY.out.2.2.2.size))
          have hbb1 : w4.cell? ⟨bb, 1, none⟩ = some (.map (some mb)) := cell_of hb4 rfl
          have hce : cutC n k c = spl c I (List.replicate (16 - I) 0) := by
            unfold cutC
            have := HSZ.out; have := HKI.out; have := HI.out
            rw [if_pos (by omega), show n - k * 16 = I by omega]
          have hcl : (cutC n k c).length = 16 := by
            rw [hce, length_spl]
            · exact HX.out.2.2.2.2.2.2.1
            · rw [List.length_replicate]; have h16 : c.length = 16 := HX.out.2.2.2.2.2.2.1; omega
          have hcv : (spl (c.map bv) I (List.replicate (16 - I) (bv 0))).toArray = ((cutC n k c).map bv).toArray := by rw [hce, spl_map, List.map_replicate]
          rw [hcv] at hc4
          have HV := Lib.hid (And.intro hit4 (And.intro hs4 (And.intro hb4 (And.intro hkw4 (And.intro hc4.out hcl)))))
          clear hit4 hs4 hb4 hkw4 hk4 hs2 hb2 hi2 hg hcl hce hcv hc4 hz4
          go_still_tail 6, (by kernel_rfl)
          refine still_load_row rfl 70 (.tmp 9) rfl w2.heap.size rfl 70 ((cutC n k c).map bv).toArray _ HV.out.2.2.2.2.1 Try.underlying70 rfl (by rw [info70, List.size_toArray, List.length_map, HV.out.2.2.2.2.2]) ?_
          simp only [Act.put, List.setIfInBounds_toArray, List.set_cons_zero, List.set_cons_succ]
          refine wpStill_nil ?_
          refine vp_iter_update rfl (.tmp 58) (.tmp 59) (.tmp 60) 66 rfl 3 70 Try.underlying66 kk rfl k (by show Value.int .i64 kI = keyV k; rw [HKI.out]; rfl) (cutC n k c) rfl (HV.out.1.of rfl rfl) HT.out.1 ?_
          intro w5 hit5 hk5
          refine wpList_nil ?_
          simp only [Act.put]
          go_wp2
          go_roundg (gk - 1)
          case measure => omega
          case rel =>
            obtain ⟨a1, a2, a3, a4, _⟩ := HV.out
            obtain ⟨b1, b2, b3, b4, b5, b6, b7, b8, b9⟩ := HX.out
            obtain ⟨t1, t2, t3, t4⟩ := HT.out
            have hcond : ¬ n ≤ k * 16 := by have := HSZ.out; have := HKI.out; omega
            rw [if_neg hcond] at t2
            have hk5' := hk5
            refine ⟨k :: seen, List.nodup_cons.2 ⟨b4, b1⟩, fun x hx => by rcases List.mem_cons.1 hx with rfl | hx; exact b6; exact b2 x hx, by simp only [List.length_cons]; omega, t2 ▸ hit5, ?_, ?_, a4.drew.trans (hk5.mono (by simp))⟩
            · rw [t2, t4, ← HU.out]
              exact hk5.get a2 (by simp; exact a1.map.ne_cells a2)
            · exact hk5.get a3 (by simp; exact a1.map.ne_cells a3)
        · go_wp2
          go_roundg (gk - 1)
          case measure => omega
          case rel =>
            obtain ⟨a1, a2, a3, a4, _⟩ := HZ.out
            obtain ⟨b1, b2, b3, b4, b5, b6, b7, b8, b9⟩ := HX.out
            have e := cutS_stay (n := n) HM.out.nodup b3 b4 (by have := HSZ.out; have := HKI.out; omega)
            refine ⟨k :: seen, List.nodup_cons.2 ⟨b4, b1⟩, fun x hx => by rcases List.mem_cons.1 hx with rfl | hx; exact b6; exact b2 x hx, by simp only [List.length_cons]; omega, by rw [e]; exact a1, ?_, a3, a4⟩
            rw [e, ← HU.out]; exact a2
end Go.Proofs.Ythkeahjcokbaaaa
