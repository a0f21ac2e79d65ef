import Derived.Test.YthkeahjcokbaaaaRows
import Derived.Test.YthkeahjcokbaaaaB0
import Derived.Deep.DeepCutAuto
namespace Go.Proofs.Ythkeahjcokbaaaa
open Go.RowKit Go.V Go.V.Block

theorem kk : KeyOk Try.prog 3 keyV := ⟨⟨_, Try.underlying3, fun _ => rfl⟩, fun a b h => by simp only [keyV, Value.int.injEq] at h; omega⟩
theorem info70 : (Try.prog.info? 70).map (·.size) = some 16 := by kernel_rfl
theorem zero70 (w : World) : (zeroValue 70).run Try.prog w = .ok (chunkV zero16) w := by kernel_rfl

/-- what holds at the head of a round of Write's loop -/
def WInv (sb bb mb : Nat) (room sz : Int) (at_ : Nat) (data : List UInt8) (RES : Nat × Int × CL) (w : World) (k dn : Nat) (us : Int) (l : CL) (wx : World) : Prop :=
  dn ≤ data.length ∧ 0 ≤ us ∧ us ≤ room ∧ data.length - dn ≤ k ∧ wr room at_ data k dn us l = RES ∧ wx.heap[sb]? = some (.cells #[.int .i64 room, .int .i64 us] 65 (0, 0)) ∧
    wx.heap[bb]? = some (.cells #[.int .i64 sz, .map (some mb)] 68 (0, 0)) ∧ MapAt wx mb keyV chunkV l ∧ Len16 l ∧ Keeps [sb, bb, mb] w wx
def WI (sb bb mb : Nat) (room sz : Int) (at_ : Nat) (data : List UInt8) (RES : Nat × Int × CL) (w : World) (k : Nat) (v : Value) (wx : World) : Prop :=
  ∃ (dn : Nat) (us : Int) (l : CL), v = .int .i64 dn ∧ WInv sb bb mb room sz at_ data RES w k dn us l wx
/-- .. behind the test -/
def WM (sb bb mb g : Nat) (room sz us : Int) (ok : Bool) (c : List UInt8) (l : CL) (w wx : World) : Prop :=
  ∃ us2, us2 = (if ok = true then us else us + 1) ∧ (ok = true ∨ us ≠ room) ∧ wx.heap[g]? = some (.cells (c.map bv).toArray 70 (0, 0)) ∧ wx.heap[sb]? = some (.cells #[.int .i64 room, .int .i64 us2] 65 (0, 0)) ∧
    wx.heap[bb]? = some (.cells #[.int .i64 sz, .map (some mb)] 68 (0, 0)) ∧ MapAt wx mb keyV chunkV l ∧ Keeps [sb, bb, mb] w wx
/-- .. and behind the loop -/
def WE (sb bb mb : Nat) (room sz : Int) (RES : Nat × Int × CL) (w : World) (v : Value) (wx : World) : Prop :=
  v = .int .i64 RES.1 ∧ wx.heap[sb]? = some (.cells #[.int .i64 room, .int .i64 RES.2.1] 65 (0, 0)) ∧
    wx.heap[bb]? = some (.cells #[.int .i64 sz, .map (some mb)] 68 (0, 0)) ∧ MapAt wx mb keyV chunkV RES.2.2 ∧ Len16 RES.2.2 ∧ Keeps [sb, bb, mb] w wx

/-- what Write has done -/
def WPost (sb bb mb : Nat) (room sz off : Int) (RES : Nat × Int × CL) (w : World) (e : Ending) (w' : World) : Prop :=
  e = .returned (.tuple #[.int .i64 RES.1, .int .i64 (if RES.1 = 0 then 28 else 0)]) ∧ w'.heap[sb]? = some (.cells #[.int .i64 room, .int .i64 RES.2.1] 65 (0, 0)) ∧
    w'.heap[bb]? = some (.cells #[.int .i64 (if RES.1 = 0 then sz else max sz (off + RES.1)), .map (some mb)] 68 (0, 0)) ∧ MapAt w' mb keyV chunkV RES.2.2 ∧ Len16 RES.2.2 ∧ Keeps [sb, bb, mb] w w'

set_option maxRecDepth 100000 in
set_option maxHeartbeats 1000000 in
theorem write_main (sb bb mb : Nat) (room used sz : Int) (l : CL) (off : Int) (at_ : Nat) (data : List UInt8) (dp : Option Addr) (cap : Nat) (w : World)
    (hs : w.heap[sb]? = some (.cells #[.int .i64 room, .int .i64 used] 65 (0, 0)))
    (hb : w.heap[bb]? = some (.cells #[.int .i64 sz, .map (some mb)] 68 (0, 0)))
    (hm : MapAt w mb keyV chunkV l) (h16 : Len16 l) (hne : sb ≠ bb) (hu0 : 0 ≤ used) (hur : used ≤ room) (hroom : room ≤ 65536) (_hsz0 : 0 ≤ sz) (_hsz : sz ≤ 65536) (hat : off = at_) (ha : off < 65536) (h0 : 0 < data.length) (hcap : data.length ≤ cap) (hcap2 : cap ≤ 9223372036854775807)
    (hd : ∃ db d0, dp = some ⟨db, d0, none⟩ ∧ db ≠ sb ∧ db ≠ bb ∧ db ≠ mb ∧ ∀ j x, data[j]? = some x → w.cell? ⟨db, d0 + j, none⟩ = some (bv x)) :
    Calls Try.prog 13 #[.pointer (some ⟨sb, 0, none⟩), .pointer (some ⟨bb, 0, none⟩), .int .i64 off, .slice dp data.length cap] w (WPost sb bb mb room sz off (Block.wr room at_ (data.take (65536 - at_)) (min data.length (65536 - at_)) 0 used l) w) := by
  obtain ⟨db, d0, rfl, hd1, hd2, hd3, hd4⟩ := hd
  obtain ⟨n, hn⟩ : ∃ n, n = data.length := ⟨_, rfl⟩
  rw [← hn] at h0 hcap ⊢
  obtain ⟨m, hm1⟩ : ∃ m, m = min n (65536 - off).toNat := ⟨_, rfl⟩
  have hmn : m ≤ n := by omega
  have hmo : (m : Int) ≤ 65536 - off := by omega
  have hm0 : 0 < m := by omega
  have hm2 : m = min n (65536 - at_) := by rw [hm1]; omega
  obtain ⟨dat, hdat⟩ : ∃ dat : List UInt8, dat = data.take (65536 - at_) := ⟨_, rfl⟩
  have hdl : dat.length = m := by rw [hdat, List.length_take, hm2, hn]; omega
  obtain ⟨RES, hRES⟩ : ∃ RES, RES = Block.wr room at_ dat m 0 used l := ⟨_, rfl⟩
  rw [← hdat, ← hm2, ← hRES]
  have HDAT := Lib.hid hdat
  have HDL := Lib.hid hdl
  have HRES := Lib.hid hRES
  have HMA := Lib.hid (show m ≤ 65536 - at_ by omega)
  have HMIN := Lib.hid hm1
  clear hm1 hm2 hdat hdl hRES
  have HN := Lib.hid hn
  clear hn
  have hn0 : ((n : Int) == 0) = false := beq_eq_false_iff_ne.2 (by omega)
  have HD := Lib.hid hd4; clear hd4
  have hoff0 : 0 ≤ off := by omega
  have HAT := Lib.hid hat
  have HS := Lib.hid hs
  have HB := Lib.hid hb
  have HM := Lib.hid hm
  have H16 := Lib.hid h16
  have HNE := Lib.hid (And.intro hne (And.intro hd1 (And.intro hd2 hd3)))
  clear hs hb hm h16 hne hd1 hd2 hd3 hat
  go_enter Try.func13, Try.ntmps13
  go_upto_region 8 with fail
  go_cut [3] (fun v wx => v = .slice (some ⟨db, d0, none⟩) m cap ∧ w = wx)
  case first =>
    go_wp2
    all_goals
      go_meet
      case rel => exact ⟨by rw [HMIN.out]; congr 1; omega, rfl⟩
  case rest =>
    obtain ⟨rfl, rfl⟩ := hcut
    go_upto_block 1 with fail
    go_cut [11] (fun v wx => WE sb bb mb room sz RES w v wx)
    case first =>
      go_wp2_with fail
      go_loopg [11] m (fun k v wx => WI sb bb mb room sz at_ dat RES w k v wx)
      case atStart =>
        exact ⟨0, used, l, rfl, by omega, hu0, hur, by rw [HDL.out]; omega, by rw [HRES.out], HS.out, HB.out, HM.out, H16.out, Keeps.refl _ _⟩
      case round =>
        obtain ⟨dn, us, l1, rfl, hdn, hus0, husr, hk, hres, hs, hb, hm, h16, hkp⟩ := hrel
        have hmd := HDL.out
        rw [hmd] at hdn hk
        have HRS := Lib.hid hres
        have HS := Lib.hid hs
        have HB := Lib.hid hb
        have HM := Lib.hid hm
        have H16 := Lib.hid h16
        have HK := Lib.hid hkp
        have hsb1 : wr.cell? ⟨sb, 1, none⟩ = some (.int .i64 us) := cell_of hs rfl
        have hsb0 : wr.cell? ⟨sb, 0, none⟩ = some (.int .i64 room) := cell_of hs rfl
        have hbb1 : wr.cell? ⟨bb, 1, none⟩ = some (.map (some mb)) := cell_of hb rfl
        have hfs : wr.frozen? ⟨sb, 1, none⟩ = false := frozen_of 1 hs
        clear hres hs hb hm h16 hkp hmd
        by_cases hlt : dn < m
        · have hge : ¬ m ≤ dn := by omega
          obtain ⟨K, hK⟩ : ∃ K : Nat, (off + (dn : Int)) / 16 = K ∧ K = (at_ + dn) / 16 := ⟨(at_ + dn) / 16, by rw [HAT.out]; omega, rfl⟩
          obtain ⟨I, hI⟩ : ∃ I : Nat, (off + (dn : Int)) % 16 = I ∧ I = (at_ + dn) % 16 := ⟨(at_ + dn) % 16, by rw [HAT.out]; omega, rfl⟩
          have hI16 : I < 16 := by omega
          have hK1 := hK.1
          have hI1 := hI.1
          have HKI := Lib.hid (And.intro hK.2 hI.2)
          clear hK hI
          obtain ⟨c, hc⟩ : ∃ c, chunkOf l1 K = c := ⟨_, rfl⟩
          obtain ⟨ok, hok⟩ : ∃ ok, (get l1 K).isSome = ok := ⟨_, rfl⟩
          have hc16 : c.length = 16 := by rw [← hc]; exact len16_chunkOf H16.out K
          have HC := Lib.hid hc
          have HOK := Lib.hid hok
          have HC16 := Lib.hid hc16
          clear hc16 hc hok
          go_upto_region 12 with fail
          rw [hK1, hI1]
          clear hK1 hI1
          go_upto_if 56 with (first | (at_lookup; refine vp_lookup_ok rfl (.tmp 50) (.tmp 51) 66 rfl 3 70 Try.underlying66 kk (zero70 _) rfl K rfl HM.out HC.out HOK.out ?_) | (refine vp_store_row rfl 70 (.tmp 14) (.tmp 53) rfl wr.heap.size rfl (c.map bv).toArray rfl _ 70 (heap_alloc _ _) ?h1 ?h2 ?h3 ?_; rotate_right; intro w1 hc1 hk1 hz1; have hk1 := hk1.fresh))
          case h1 => simp only [List.size_toArray, List.length_map, HC16.out]; rfl
          case h2 => simp only [List.size_toArray, List.length_map, HC16.out]; rfl
          case h3 => rw [Array.all_eq_true_iff_forall_mem]; intro v hv; exact oneCell_bv c v (by simpa using hv)
          have hsz1 := HS.out; have hsz2 := HB.out; have hsz3 := HM.out
          have hg1 : wr.heap.size ≠ sb ∧ wr.heap.size ≠ bb ∧ wr.heap.size ≠ mb ∧ w.heap.size ≤ wr.heap.size := ⟨by have := lt_of_heap hsz1; omega, by have := lt_of_heap hsz2; omega, by have := hsz3.lt; omega, HK.out.size⟩
          have hsw := hk1.get HS.out (by simp)
          have hbw := hk1.get HB.out (by simp)
          have hmw := HM.out.keep hk1 (by simp)
          have hkw := HK.out.trans' hk1 (by simp)
          have hsb1' : w1.cell? ⟨sb, 1, none⟩ = some (.int .i64 us) := cell_of hsw rfl
          have hsb0' : w1.cell? ⟨sb, 0, none⟩ = some (.int .i64 room) := cell_of hsw rfl
          have hfs' : w1.frozen? ⟨sb, 1, none⟩ = false := frozen_of 1 hsw
          have HW := Lib.hid (And.intro hsw (And.intro hbw (And.intro hmw (And.intro hkw hg1))))
          clear hsb1 hsb0 hbb1 hfs hsz1 hsz2 hsz3 hsw hbw hmw hkw hk1 hz1 hg1
          go_cut [] (fun wx => WM sb bb mb wr.heap.size room sz us ok c l1 w wx)
          case first =>
            cases ok with
            | true =>
              go_wp2
              go_meet
              case rel => exact ⟨us, rfl, Or.inl rfl, hc1.out, HW.out.1, HW.out.2.1, HW.out.2.2.1, HW.out.2.2.2.1⟩
            | false =>
              by_cases hfull : us = room
              · have hfl : (us == room) = true := by rw [hfull]; exact beq_self_eq_true _
                go_wp2
                go_quiet (fail)
                go_wp2
                go_meet
                case rel =>
                  have hres : RES = (dn, room, l1) := by
                    rw [← HRS.out]
                    obtain ⟨k', rfl⟩ : ∃ k', gk = k' + 1 := ⟨gk - 1, by omega⟩
                    rw [hfull]
                    exact wr_full (by rw [HDL.out]; exact hlt) (by have h := HOK.out; rw [HKI.out.1] at h; cases hq : get l1 ((at_ + dn) / 16) with | none => rfl | some x => rw [hq] at h; cases h)
                  rw [hres]
                  exact ⟨rfl, hfull ▸ HW.out.1, HW.out.2.1, HW.out.2.2.1, H16.out, HW.out.2.2.2.1.drewN nq⟩
              · have hfl : (us == room) = false := beq_eq_false_iff_ne.2 hfull
                go_wp2
                go_quiet (fail)
                go_wp2
                go_meet
                case rel =>
                  obtain ⟨a1, a2, a3, a4, a5, a6, a7, a8⟩ := HW.out
                  have hne := HNE.out.1
                  exact ⟨us + 1, rfl, Or.inr hfull, heap_setCell_ne (w := w1.drewN nq) hc1.out a5, heap_setCell (w := w1.drewN nq) a1, heap_setCell_ne (w := w1.drewN nq) a2 (Ne.symm hne),
                    a3.of (heap_setCell_ne' (w := w1.drewN nq) (fun e => by have := a3.heap; rw [e, a1] at this; obtain ⟨_, _, h⟩ := this; cases h)), (a4.drewN nq).setCell (Or.inl (by simp)) _⟩
          case rest =>
            obtain ⟨us2, hu2, hfull, hc2, hs2, hb2, hm2, hk2⟩ := hcut
            have HC2 := Lib.hid hc2
            have HS2 := Lib.hid hs2
            have HB2 := Lib.hid hb2
            have HM2 := Lib.hid hm2
            have HK2 := Lib.hid hk2
            have HU2 := Lib.hid (And.intro hu2 hfull)
            have hbb1 : wc.cell? ⟨bb, 1, none⟩ = some (.map (some mb)) := cell_of hb2 rfl
            clear hc2 hs2 hb2 hm2 hk2 hu2 hfull hsb1' hsb0' hfs'
            have hcd : ¬ cap = dn := by omega
            go_upto_region 16 with fail
            have hsl := run_slice_arr (P := Try.prog) 70 5 16 Try.underlying70 (by kernel_rfl) wr.heap.size I hI16
            obtain ⟨q, hq⟩ : ∃ q, q = min (m - dn) (16 - I) := ⟨_, rfl⟩
            have hqm : q ≤ m - dn := by omega
            have hqi : q ≤ 16 - I := by omega
            have hq0 : 0 < q := by omega
            obtain ⟨xs, hxs⟩ : ∃ xs, xs = (dat.drop dn).take (16 - I) := ⟨_, rfl⟩
            have hxl : xs.length = q := by rw [hxs, List.length_take, List.length_drop, HDL.out]; omega
            have HX := Lib.hid (And.intro hxs (And.intro hxl hq))
            clear hxs hxl hq
            have HY : Hid ((xs.map bv).length = q ∧ q = Nat.min (m - dn) (16 - I) ∧ (∀ j v, (xs.map bv)[j]? = some v → wc.cell? ((⟨db, d0 + dn, none⟩ : Addr).add j) = some v) ∧ I + (xs.map bv).length ≤ (c.map bv).length) := by
              obtain ⟨hx1, hx2, hq⟩ := HX.out
              refine ⟨by rw [List.length_map, hx2], by rw [hq], fun j v hv => ?_, by rw [List.length_map, List.length_map, hx2, HC16.out]; omega⟩
              rw [List.getElem?_map] at hv
              cases hxj : xs[j]? with
              | none => rw [hxj] at hv; cases hv
              | some x =>
                rw [hxj] at hv
                cases hv
                have hjq : j < q := by have := (List.getElem?_eq_some_iff.1 hxj).1; omega
                have hadd : (⟨db, d0 + dn, none⟩ : Addr).add j = ⟨db, d0 + (dn + j), none⟩ := by rw [add_none, Nat.add_assoc]
                have hdj : data[dn + j]? = some x := by
                  have h1 : (dat.drop dn)[j]? = some x := by rw [hx1, List.getElem?_take] at hxj; rw [if_pos (by omega)] at hxj; exact hxj
                  rw [List.getElem?_drop, HDAT.out, List.getElem?_take, if_pos (by have := HMA.out; omega)] at h1
                  exact h1
                have hcell := HD.out _ _ hdj
                rw [hadd]
                have hb : wc.heap[db]? = w.heap[db]? := by
                  obtain ⟨_, e1, e2, e3⟩ := HNE.out
                  exact HK2.out.block db (Go.block_lt_of_cell hcell) (by simp [e1, e2, e3])
                rw [World.cell?_of_block (w := w) hb]; exact hcell
            refine vp_region (fun _ => True) [(0, true), (1, true), (2, true), (3, true), (4, true), (5, true), (6, false), (7, true), (8, true)] (by kernel_rfl) (by kernel_rfl) (by intro _ d _ _ _ h; cases d <;> exact h) trivial ?_
            intro w2 hw2
            simp only [pick, List.map_cons, List.map_nil, List.getD_cons_zero, List.getD_cons_succ]
            repeat
              refine ord_free rfl (v := ?_) ?_ ?_
              rotate_left
              · intro w' _
                go_simp
                with_reducible rfl
              simp only [Act.put, List.setIfInBounds_toArray, List.set_cons_zero, List.set_cons_succ]
            have HW2 := Lib.hid hw2
            clear hw2
            refine ord_eff ?_
            refine vp_copy rfl (.tmp 75) (.tmp 78) 22 22 rfl 5 Try.underlying22 (by kernel_rfl) wr.heap.size I (16 - I) (16 - I) ⟨db, d0 + dn, none⟩ (m - dn) (cap - dn) rfl rfl (c.map bv) 70 (by rw [HW2.out]; exact HC2.out) (xs.map bv) q HY.out.1 HY.out.2.1 (by rw [HW2.out]; exact HY.out.2.2.1) HY.out.2.2.2 (oneCell_bv xs) ?_
            intro w3 hc3 hk3 hz3
            have hkc := hk3
            have hk3 := (HK2.out.drew).trans' (HW2.out ▸ hk3) (fun x hx => Or.inr (by simp at hx; rw [hx]; exact HW.out.2.2.2.2.2.2.2))
            refine ord_next trivial ?_
            simp only [Act.put, List.setIfInBounds_toArray, List.set_cons_zero, List.set_cons_succ]
            have hwrap : IntKind.i64.wrap ((dn : Int) + (q : Int)) = (dn : Int) + (q : Int) := IntWalk.i64_in _ (by omega)
            repeat
              refine ord_free rfl (v := ?_) ?_ ?_
              rotate_left
              · intro w' _
                go_simp
                with_reducible rfl
              simp only [Act.put, List.setIfInBounds_toArray, List.set_cons_zero, List.set_cons_succ]
            refine ord_nil ?_
            clear hwrap hsl
            go_upto_region 17 with fail
            obtain ⟨_, _, _, _, hg1, hg2, hg3, _⟩ := HW.out
            have hc3' := hc3.out
            have hs3 : w3.heap[sb]? = some (.cells #[.int .i64 room, .int .i64 us2] 65 (0, 0)) := hkc.get (HW2.out ▸ HS2.out) (by simp; exact Ne.symm hg1)
            have hb3 : w3.heap[bb]? = some (.cells #[.int .i64 sz, .map (some mb)] 68 (0, 0)) := hkc.get (HW2.out ▸ HB2.out) (by simp; exact Ne.symm hg2)
            have hm3 : MapAt w3 mb keyV chunkV l1 := (HM2.out.of (w' := w2) (by rw [HW2.out]; rfl)).keep hkc (by simp; exact Ne.symm hg3)
            have hbb3 : w3.cell? ⟨bb, 1, none⟩ = some (.map (some mb)) := cell_of hb3 rfl
            have HZ := Lib.hid (And.intro hs3 (And.intro hb3 hm3))
            clear hs3 hb3 hm3 hc3' hg1 hg2 hg3
            go_still_tail 6, (by kernel_rfl)
            refine still_load_row rfl 70 (.tmp 14) rfl wr.heap.size rfl 70 (spl (c.map bv) I (xs.map bv)).toArray _ hc3.out Try.underlying70 rfl (by rw [info70, List.size_toArray, length_spl _ _ _ HY.out.2.2.2, List.length_map, HC16.out]) ?_
            simp only [Act.put, List.setIfInBounds_toArray, List.set_cons_zero, List.set_cons_succ]
            refine wpStill_nil ?_
            refine vp_update rfl (.tmp 84) (.tmp 85) (.tmp 86) 66 rfl 3 70 Try.underlying66 kk rfl K rfl (spl c I xs) (chunkV_spl c I xs).symm (HZ.out.2.2.of rfl) ?_
            intro w4 hm4 hk4
            refine wpList_nil ?_
            simp only [Act.put]
            have hpos : 0 < gk := by omega
            go_wp2
            go_roundg (gk - 1)
            case measure => omega
            case rel =>
              have hne := HNE.out.1
              obtain ⟨hx1, hx2, hq⟩ := HX.out
              obtain ⟨k', rfl⟩ : ∃ k', gk = k' + 1 := ⟨gk - 1, by omega⟩
              obtain ⟨hu2, hfull⟩ := HU2.out
              have hl2 : put l1 K (spl c I xs) = stepL at_ dat dn l1 := by
                unfold stepL
                rw [← HKI.out.1, ← HKI.out.2, HC.out, ← hx1]
              have hst : dn + q = dn + stepN at_ dat dn := by
                unfold stepN
                rw [← HKI.out.2, HDL.out, hq, Nat.min_comm]
              have hres : Block.wr room at_ dat k' (dn + q) us2 (put l1 K (spl c I xs)) = RES := by
                rw [← HRS.out, hl2, hst, hu2]
                have hok := HOK.out
                rw [HKI.out.1] at hok
                have hlt' : dn < dat.length := by rw [HDL.out]; exact hlt
                cases hgt : get l1 ((at_ + dn) / 16) with
                | some x =>
                  rw [hgt] at hok
                  rw [wr_in hlt' hgt, if_pos (by rw [← hok]; rfl)]
                | none =>
                  rw [hgt] at hok
                  have hokf : ok = false := by rw [← hok]; rfl
                  rw [hokf] at hfull
                  rw [wr_new hlt' hgt (by rcases hfull with h | h; cases h; exact h), if_neg (by rw [hokf]; simp)]
              refine ⟨dn + q, us2, put l1 K (spl c I xs), by push_cast; rfl, by rw [HDL.out]; omega, ?_, ?_, by rw [HDL.out]; simp; omega, hres, ?_, ?_, hm4, ?_, ?_⟩
              · rw [hu2]; split <;> omega
              · rw [hu2]; split
                · omega
                · rcases hfull with h | h
                  · simp_all
                  · omega
              · exact hk4.get (HZ.out.1) (by simp; exact fun e => by have := HZ.out.2.2.heap; rw [← e, HZ.out.1] at this; obtain ⟨_, _, h⟩ := this; cases h)
              · exact hk4.get (HZ.out.2.1) (by simp; exact fun e => by have := HZ.out.2.2.heap; rw [← e, HZ.out.2.1] at this; obtain ⟨_, _, h⟩ := this; cases h)
              · exact len16_put H16.out (by rw [length_spl]; exact HC16.out; rw [hx2, HC16.out]; omega)
              · exact hk3.drew.trans (hk4.mono (by simp))
        · go_wp2
          go_meet
          case rel =>
            have hres := HRS.out
            rw [wr_over (by rw [HDL.out]; omega)] at hres
            rw [← hres]
            exact ⟨rfl, HS.out, HB.out, HM.out, H16.out, HK.out⟩
    case rest =>
      obtain ⟨rfl, hs, hb, hm, h16, hk⟩ := hcut
      have hdm : RES.1 ≤ m := by rw [HRES.out, ← HDL.out]; exact wr_le (Nat.zero_le _)
      clear HRES
      obtain ⟨d, us, l2⟩ := RES
      dsimp only at hs hb hm h16 hdm ⊢
      have HP := Lib.hid (And.intro hs (And.intro hb (And.intro hm (And.intro h16 hk))))
      have hbb0 : wc.cell? ⟨bb, 0, none⟩ = some (.int .i64 sz) := cell_of hb rfl
      have hfb : wc.frozen? ⟨bb, 0, none⟩ = false := frozen_of 0 hb
      clear hs hb hm h16 hk
      by_cases hd0 : d = 0
      · subst hd0
        go_wp2
        go_ret2
        obtain ⟨hs, hb, hm, h16, hk⟩ := HP.out
        exact ⟨rfl, hs, hb, hm, h16, hk⟩
      · have hd0' : ((d : Int) == 0) = false := beq_eq_false_iff_ne.2 (by omega)
        go_wp2
        all_goals
          go_ret2
          obtain ⟨hs, hb, hm, h16, hk⟩ := HP.out
          have hne := HNE.out.1
          refine ⟨by show _ = Ending.returned (.tuple #[.int .i64 d, .int .i64 (if d = 0 then 28 else 0)]); rw [if_neg hd0]; rfl, heap_setCell_ne hs hne, ?_, hm.of (heap_setCell_ne' (fun e => by have := hm.heap; rw [e, hb] at this; obtain ⟨_, _, h⟩ := this; cases h)), h16, hk.setCell (Or.inl (by simp)) _⟩
          rw [heap_setCell hb, if_neg hd0]
          dsimp only
          first | (rw [show max sz (off + (d : Int)) = off + (d : Int) by omega]; rfl) | (rw [show max sz (off + (d : Int)) = sz by omega]; rfl)
end Go.Proofs.Ythkeahjcokbaaaa
