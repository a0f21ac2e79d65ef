/-
  Package veneerref03: Cut.
-/
import Derived.Test.YthkeahjcokbaaaaB25
namespace Go.V.Block
open Go Go.V
theorem sofar_cut {sz : Int} {l : CL} (h : OkB sz l) (n : Nat) : sofar l 0 (min n sz.toNat) n = bytesFrom (cutL n l) 0 n := by
  refine List.ext_getElem? (fun q => ?_)
  by_cases hq : q < n
  · have e1 : (bytesFrom (cutL n l) 0 n)[q]? = some (byteAt (cutL n l) q) := by
      simp only [bytesFrom, List.getElem?_map, List.getElem?_range hq, Option.map_some, Nat.zero_add]
    rw [e1, cutL_byte h.1.2.2, if_pos hq]
    unfold sofar
    by_cases hs : q < min n sz.toNat
    · rw [List.getElem?_append_left (by rw [length_bytesFrom]; exact hs)]
      simp only [bytesFrom, List.getElem?_map, List.getElem?_range hs, Option.map_some, Nat.zero_add]
    · rw [List.getElem?_append_right (by rw [length_bytesFrom]; omega), length_bytesFrom, List.getElem?_replicate, if_pos (by omega), h.2.2.1 q (by omega)]
  · rw [List.getElem?_eq_none (by rw [length_sofar _ _ _ _ (by omega)]; omega), List.getElem?_eq_none (by rw [length_bytesFrom]; omega)]
end Go.V.Block
namespace Go.Proofs.Ythkeahjcokbaaaa
open Go.RowKit Go.V Go.V.Block
def RCPost (rs rb : Nat) (F : List Nat) (room : Int) (r : Int × BS) (w : World) (e : Ending) (w' : World) : Prop :=
  e = .returned (.int .i64 r.1) ∧ RAt w' rs room r.2.used ∧ ∃ F', Grew w F F' ∧ RB w' rb F' r.2.sz r.2.l ∧ Keeps ([rs, rb] ++ F) w w'
theorem rcut_neg (s b : Value) (size : Int) (w : World) (h : size < 0) :
    Calls Try.prog 24 #[s, b, .int .i64 size] w fun e w' => e = .returned (.int .i64 22) ∧ w = w' := by
  go_enter Try.func24, Try.ntmps24
  go_wp2
  go_ret
  exact ⟨rfl, rfl⟩
theorem rcut_over (s b : Value) (size : Int) (w : World) (h : 65536 < size) :
    Calls Try.prog 24 #[s, b, .int .i64 size] w fun e w' => e = .returned (.int .i64 27) ∧ w = w' := by
  go_enter Try.func24, Try.ntmps24
  go_wp2
  go_ret
  exact ⟨rfl, rfl⟩
def RC1 (g : Nat) (l : CL) (n m : Nat) (w : World) (k : Nat) (v : Value) (wx : World) : Prop :=
  ∃ i : Nat, v = .int .i64 i ∧ i ≤ m ∧ m - i ≤ k ∧ wx.heap[g]? = some (.cells ((sofar l 0 i n).map bv).toArray 5 (0, 0)) ∧ Keeps [] w wx
def RCE (g : Nat) (l : CL) (n m : Nat) (w wx : World) : Prop := wx.heap[g]? = some (.cells ((sofar l 0 m n).map bv).toArray 5 (0, 0)) ∧ Keeps [] w wx
def RC2 (rs rb : Nat) (F : List Nat) (room used : Int) (bs : List UInt8) (th : List Bool) (n : Nat) (w : World) (m : Nat) (v : Value) (wx : World) : Prop :=
  ∃ (k : Nat) (u : Int) (th' : List Bool), v = .int .i64 k ∧ k ≤ th.length ∧ th.length - k ≤ m ∧ RBody wx rb F bs th' ∧ (∀ j, th'.getD j false = if j < k ∧ n ≤ j * 16 then false else th.getD j false) ∧ th'.length = th.length ∧
    RAt wx rs room u ∧ u - (cnt1 th' : Int) = used - (cnt1 th : Int) ∧ Keeps ([rs, rb] ++ F) w wx
theorem cnt1_le (th : List Bool) : cnt1 th ≤ th.length := List.length_filter_le _ _
set_option maxRecDepth 100000 in
set_option maxHeartbeats 2000000 in
theorem rcut_main (rs rb : Nat) (F : List Nat) (room used sz : Int) (l : CL) (n : Nat) (size : Int) (w : World) (hs : RAt w rs room used) (hb : RB w rb F sz l) (hF : rs ∉ F ∧ rb ∉ F ∧ ∀ x ∈ F, x < w.heap.size)
    (hu0 : (l.length : Int) ≤ used) (hu1 : used ≤ 65536) (hsz : size = n) (hn : size ≤ 65536) :
    Calls Try.prog 24 #[.pointer (some ⟨rs, 0, none⟩), .pointer (some ⟨rb, 0, none⟩), .int .i64 size] w (RCPost rs rb F room (cutM ⟨used, sz, l⟩ size) w) := by
  obtain ⟨R, hR⟩ : ∃ R, R = cutM ⟨used, sz, l⟩ size := ⟨_, rfl⟩
  rw [← hR]
  have hR2 : R = (0, (⟨used - (l.length - (cutL n l).length : Nat), size, cutL n l⟩ : BS)) := by
    rw [hR]; unfold cutM
    rw [if_neg (by omega), if_neg (by omega)]
    have : size.toNat = n := by omega
    rw [this]
  have HR := Lib.hid hR2
  have hrsb : rs ≠ rb := by
    obtain ⟨Bv, Tv, hbl⟩ := hb.block
    intro e
    rw [← e, hs] at hbl
    simp at hbl
  obtain ⟨bs, th, ⟨Bv, Tv, hp⟩, hrel⟩ := hb
  have hok := hrel.2.2.2
  have hcnt := cnt1_keys hok.1.1 hrel.2.1
  have hnn6 : n ≤ 65536 := by omega
  obtain ⟨pb, cb, hBv, hcb⟩ := own_value hp.2.1
  rw [List.length_map, hrel.1, length_bytesFrom] at hBv hcb
  obtain ⟨nb, hnb⟩ : ∃ nb, nb = sz.toNat := ⟨_, rfl⟩
  rw [← hnb] at hBv hcb
  have c1 : w.cell? ⟨rb, 0, none⟩ = some (.slice pb nb cb) := by rw [← hBv]; exact cell_of hp.1 rfl
  have HP := Lib.hid hp
  have HBV := Lib.hid hBv
  have HREL := Lib.hid (And.intro hrel (And.intro hcnt (And.intro hnb hsz)))
  have HS := Lib.hid hs
  have HF := Lib.hid hF
  have HRB := Lib.hid hrsb
  have HU := Lib.hid (And.intro hu0 hu1)
  have hs0 : 0 ≤ size := by omega
  clear hR hR2 hrel hp hBv hnb hs hF hrsb hok hcnt hu0 hu1 hsz
  obtain ⟨m, hm⟩ : ∃ m, m = min n nb := ⟨_, rfl⟩
  have HM := Lib.hid hm
  obtain ⟨g, hg⟩ : ∃ g, g = w.heap.size := ⟨_, rfl⟩
  have HG := Lib.hid hg
  clear hm hg
  have hsn : size = (n : Int) := HREL.out.2.2.2
  subst hsn
  go_enter Try.func24, Try.ntmps24
  go_upto_block 0 with (at_make; refine vp_make rfl (.tmp 14) (.tmp 14) 22 rfl 5 Try.underlying22 (.int .u8 0) 1 info5 rfl n rfl rfl (by omega) (by omega) ?_; intro w1 hw1 hk1 hz1)
  rw [← HG.out]
  have HW1 := Lib.hid (show RC1 g l n m w m (.int .i64 ((0 : Nat) : Int)) w1 from ⟨0, rfl, Nat.zero_le _, by omega, by rw [HG.out, sofar_zero, map_replicate_bv]; exact hw1.out, hk1⟩)
  clear hw1 hk1 hz1 c1
  go_cut [8] (fun _ wx => RCE g l n m w wx)
  case first =>
    go_wp2_with fail
    go_loopg [8] m (fun k v wx => RC1 g l n m w k v wx)
    case atStart => exact HW1.out
    case round =>
      obtain ⟨i, rfl, him, hik, hg, hk⟩ := hrel
      have c1 : wr.cell? ⟨rb, 0, none⟩ = some (.slice pb nb cb) := by rw [← HBV.out]; exact cell_of (hk.get HP.out.1 (by simp)) rfl
      have HGW := Lib.hid hg
      have HK := Lib.hid hk
      clear hg hk
      by_cases hlt : i < m
      · have h1 : i < n := by have := HM.out; omega
        have h2 : i < nb := by have := HM.out; omega
        obtain ⟨b, o, rfl, hr⟩ : ∃ b o, pb = some ⟨b, o, none⟩ ∧ ∀ j u, (bs.map bv)[j]? = some u → w.cell? ⟨b, o + j, none⟩ = some u := by
          obtain ⟨p', c', hv, _, hr⟩ := HP.out.2.1.reads
          rw [HBV.out] at hv
          simp only [Value.slice.injEq] at hv
          obtain ⟨b, o, hp', hr2⟩ := hr (by rw [List.length_map, HREL.out.1.1, length_bytesFrom, ← HREL.out.2.2.1]; omega)
          exact ⟨b, o, hv.1.trans hp', hr2⟩
        obtain ⟨z, hz⟩ : ∃ z, z = byteAt l (0 + i) := ⟨_, rfl⟩
        have c2 : w.cell? ⟨b, o + i, none⟩ = some (bv z) := by
          refine hr _ _ ?_
          have : i < sz.toNat := by rw [← HREL.out.2.2.1]; exact h2
          rw [HREL.out.1.1, hz]
          simp only [bytesFrom, List.getElem?_map, List.getElem?_range this, Option.map_some]
        have c3 : wr.cell? ⟨b, o + i, none⟩ = some (.int .u8 (z.toNat : Int)) := by
          rw [World.cell?_of_block (w := w) (HK.out.block b (Go.block_lt_of_cell c2) (by simp))]; exact c2
        obtain ⟨zi, hzi⟩ : ∃ zi : Int, zi = (z.toNat : Int) := ⟨_, rfl⟩
        rw [← hzi] at c3
        have c4 : wr.frozen? ⟨g, i, none⟩ = false := frozen_of i HGW.out
        obtain ⟨y, c5⟩ : ∃ y, wr.cell? ⟨g, i, none⟩ = some y := by
          refine ⟨_, cell_of HGW.out (Array.getElem?_eq_getElem (by rw [List.size_toArray, List.length_map, length_sofar _ _ _ _ (by omega)]; exact h1))⟩
        have HZ := Lib.hid (And.intro hz hzi)
        clear hz hzi c2 hr
        go_wp2
        go_roundg (gk - 1)
        case measure => omega
        case rel =>
          refine ⟨i + 1, by push_cast; rfl, by omega, by omega, ?_, HK.out.setCell (Or.inr (by show w.heap.size ≤ g; rw [HG.out]; exact Nat.le_refl _)) _⟩
          rw [heap_setCell HGW.out, ← sofar_set l 0 i n h1, map_set_bv, ← HZ.out.1]
          have e5 : bv z = .int .u8 zi := by rw [HZ.out.2]; rfl
          rw [e5]
          simp
      · have e : i = m := by omega
        subst e
        by_cases h1 : i < n
        · have h2 : ¬ i < nb := by have := HM.out; omega
          go_wp2
          go_meet
          case rel => exact ⟨HGW.out, HK.out⟩
        · go_wp2
          go_meet
          case rel => exact ⟨HGW.out, HK.out⟩
  case rest =>
    have HC := Lib.hid hcut
    have q1 := hcut.2.get HP.out.1 (by simp)
    have f1 : wc.frozen? ⟨rb, 0, none⟩ = false := frozen_of 0 q1
    have f2 : wc.cell? ⟨rb, 0, none⟩ = some Bv := cell_of q1 rfl
    clear hcut q1 HW1
    have hgrb : g ≠ rb := by have := lt_of_heap HP.out.1; have := HG.out; omega
    have hgrs : g ≠ rs := by have := lt_of_heap HS.out; have := HG.out; omega
    obtain ⟨W2, hW2⟩ : ∃ W2, W2 = wc.setCell ⟨rb, 0, none⟩ (.slice (some ⟨g, 0, none⟩) n n) := ⟨_, rfl⟩
    obtain ⟨bs2, hbs2⟩ : ∃ bs2, bs2 = bytesFrom (cutL n l) 0 n := ⟨_, rfl⟩
    have HQ : RC2 rs rb (F ++ [g]) room used bs2 th n w th.length (.int .i64 ((0 : Nat) : Int)) W2 := by
      obtain ⟨e1, e2⟩ := HC.out
      obtain ⟨p1, p2, p3, p4, p5⟩ := HP.out
      have hkc : Keeps [rb] wc W2 := by rw [hW2]; exact (Keeps.refl _ _).setCell (Or.inl (by simp)) _
      refine ⟨0, used, th, rfl, Nat.zero_le _, by omega, ⟨.slice (some ⟨g, 0, none⟩) n n, Tv, ?_, ?_, ?_, ?_, ?_⟩, fun j => by rw [if_neg (by omega)], rfl, hkc.get (e2.get HS.out (by simp)) (by simp; exact HRB.out), rfl, ?_⟩
      · rw [hW2]; exact heap_setCell (e2.get p1 (by simp))
      · have := Own.row (xs := (sofar l 0 m n).map bv) 0 (Nat.zero_le _) (hkc.get e1 (by simp; exact hgrb)) (by rw [List.length_map, length_sofar _ _ _ _ (by have := HM.out; omega)]; omega)
        rw [List.length_map, length_sofar _ _ _ _ (by have := HM.out; omega)] at this
        rw [hbs2, ← sofar_cut HREL.out.1.2.2.2 n, ← HREL.out.2.2.1, ← HM.out]
        exact this
      · exact (p3.keep e2 (by simp)).keep hkc (by simp; exact own_ne_row (p3.keep e2 (by simp)) (e2.get p1 (by simp)) (by decide))
      · intro x hx; cases hx; simp
      · intro x hx; exact List.mem_append.2 (Or.inl (p5 x hx))
      · exact (e2.mono (by simp)).trans (hkc.mono (by simp))
    have HQ := Lib.hid HQ
    have HBS := Lib.hid hbs2
    clear hbs2
    obtain ⟨tl, htl⟩ : ∃ tl, tl = th.length := ⟨_, rfl⟩
    have HTL := Lib.hid (And.intro htl (show th.length ≤ 4096 from HREL.out.1.2.2.1))
    have htl4 : tl ≤ 4096 := by have := HTL.out; omega
    clear htl hgrb hgrs
    have HW2 := Lib.hid hW2
    clear hW2
    go_wp2_with fail
    rw [← HW2.out]
    clear f1 f2
    go_loopg [9] tl (fun m v wx => RC2 rs rb (F ++ [g]) room used bs2 th n w m v wx)
    case atStart => rw [HTL.out.1]; exact HQ.out
    case round =>
      obtain ⟨k, u, th', rfl, hk, hkm, ⟨Bv', Tv', hp⟩, hth, hlen, hrs, hu, hkp⟩ := hrel
      obtain ⟨pt, ct, hTv, hct⟩ := own_value hp.2.2.1
      rw [List.length_map, hlen, ← HTL.out.1] at hTv hct
      have c1 : wr.cell? ⟨rb, 1, none⟩ = some (.slice pt tl ct) := by rw [← hTv]; exact cell_of hp.1 rfl
      have r1 : wr.cell? ⟨rs, 1, none⟩ = some (.int .i64 u) := cell_of hrs rfl
      have hu6 : -65536 ≤ u ∧ u ≤ 131072 := by
        have h1 := cnt1_le th
        have h2 := cnt1_le th'
        have h3 := HU.out
        have h4 := HTL.out
        have h5 := HREL.out.2.1
        omega
      have HPP := Lib.hid hp
      have HTV := Lib.hid hTv
      have HX := Lib.hid (And.intro hth (And.intro hlen (And.intro hrs (And.intro hu hkp))))
      rw [← HTL.out.1] at hk hkm
      clear hp hTv hth hlen hrs hu hkp
      by_cases hlt : k < tl
      · obtain ⟨x, hx⟩ : ∃ x, x = th'.getD k false := ⟨_, rfl⟩
        obtain ⟨g2, c2, hv, q1, q2, ⟨y, q3⟩, q4⟩ := HPP.out.setT (k := k) (by rw [HX.out.2.1, ← HTL.out.1]; exact hlt) false
        have hv2 := HTV.out.symm.trans hv
        simp only [Value.slice.injEq] at hv2
        obtain ⟨rfl, _, _⟩ := hv2
        have hcx : wr.cell? ⟨g2, k, none⟩ = some (.bool x) := by
          have h3 := HPP.out.2.2.1.reads
          obtain ⟨p', c', hv', _, hr⟩ := h3
          obtain ⟨b, o, hp', hr2⟩ := hr (by rw [List.length_map, HX.out.2.1, ← HTL.out.1]; omega)
          rw [HTV.out] at hv'
          simp only [Value.slice.injEq] at hv'
          have h4 := hr2 k (.bool x) (by rw [hx, List.getElem?_map, List.getD_eq_getElem?_getD, List.getElem?_eq_getElem (by rw [HX.out.2.1, ← HTL.out.1]; exact hlt)]; rfl)
          have h5 := hv'.1.trans hp'
          simp only [Option.some.injEq, Addr.mk.injEq] at h5
          obtain ⟨rfl, rfl, _⟩ := h5
          rw [Nat.zero_add] at h4
          exact h4
        have Q := Lib.hid (And.intro q1 q4)
        have HXX := Lib.hid hx
        have hgx : x = th.getD k false := by rw [hx, HX.out.1 k, if_neg (by omega)]
        have HGX := Lib.hid hgx
        clear q1 q4 hv hx hgx q3
        cases x with
        | false =>
          go_wp2
          go_roundg (gk - 1)
          case measure => omega
          case rel =>
            obtain ⟨h1, h2, h3, h4, h5⟩ := HX.out
            refine ⟨k + 1, u, th', by push_cast; rfl, by rw [← HTL.out.1]; omega, by rw [← HTL.out.1]; omega, ⟨_, _, HPP.out⟩, fun j => ?_, h2, h3, h4, h5⟩
            rw [h1 j]
            by_cases e : j = k
            · subst e
              rw [if_neg (by omega), ← HGX.out]
              split <;> rfl
            · by_cases c : j < k ∧ n ≤ j * 16
              · rw [if_pos c, if_pos (by omega)]
              · rw [if_neg c, if_neg (by omega)]
        | true =>
          by_cases hnk : (n : Int) ≤ (k : Int) * 16
          · have hrf : (wr.setCell ⟨g2, k, none⟩ (.bool false)).frozen? ⟨rs, 1, none⟩ = false := by
              have h4 := Q.out.2
              refine frozen_of 1 (h4.get HX.out.2.2.1 ?_)
              simp only [List.cons_append, List.nil_append, List.mem_cons, List.mem_append, not_or]
              refine ⟨HRB.out, HF.out.1, ?_, by simp⟩
              have := lt_of_heap HS.out; have := HG.out; omega
            have hrc : (wr.setCell ⟨g2, k, none⟩ (.bool false)).cell? ⟨rs, 1, none⟩ = some (.int .i64 u) := by
              have h4 := Q.out.2
              refine cell_of (h4.get HX.out.2.2.1 ?_) rfl
              simp only [List.cons_append, List.nil_append, List.mem_cons, List.mem_append, not_or]
              refine ⟨HRB.out, HF.out.1, ?_, by simp⟩
              have := lt_of_heap HS.out; have := HG.out; omega
            go_wp2
            go_roundg (gk - 1)
            case measure => omega
            case rel =>
              obtain ⟨h1, h2, h3, h4, h5⟩ := HX.out
              have hrsF : rs ∉ F ++ [g] := by
                simp only [List.mem_append, List.mem_singleton, not_or]
                exact ⟨HF.out.1, by have := lt_of_heap HS.out; have := HG.out; omega⟩
              have hk1 := Q.out.2
              have hks : Keeps [rs] (wr.setCell ⟨g2, k, none⟩ (.bool false)) ((wr.setCell ⟨g2, k, none⟩ (.bool false)).setCell ⟨rs, 1, none⟩ (.int .i64 (u - 1))) := (Keeps.refl _ _).setCell (Or.inl (by simp)) _
              have hc1 := cnt1_set th' k HXX.out.symm
              refine ⟨k + 1, u - 1, th'.set k false, by push_cast; rfl, by rw [← HTL.out.1]; omega, by rw [← HTL.out.1]; omega, ⟨_, _, Q.out.1.keep hks (by simp; exact Ne.symm HRB.out) (by simp only [List.mem_singleton, forall_eq]; exact hrsF)⟩, fun j => ?_, by rw [List.length_set]; exact h2, ?_, by omega, ?_⟩
              · by_cases e : j = k
                · subst e
                  rw [if_pos (by omega)]
                  simp only [List.getD_eq_getElem?_getD, List.getElem?_set]
                  rw [if_pos trivial, if_pos (show j < th'.length by have := HTL.out.1; omega)]
                  rfl
                · have e2 : (th'.set k false).getD j false = th'.getD j false := by
                    simp only [List.getD_eq_getElem?_getD]
                    rw [List.getElem?_set_ne (fun h => e h.symm)]
                  rw [e2, h1 j]
                  by_cases c : j < k ∧ n ≤ j * 16
                  · rw [if_pos c, if_pos (by omega)]
                  · rw [if_neg c, if_neg (by omega)]
              · refine heap_setCell (hk1.get h3 ?_)
                simp only [List.cons_append, List.nil_append, List.mem_cons, not_or]
                exact ⟨HRB.out, hrsF⟩
              · refine (h5.trans (hk1.mono (T := [rs, rb] ++ (F ++ [g])) (fun x hx => ?_))).trans (hks.mono (by simp))
                simp only [List.cons_append, List.nil_append, List.mem_cons] at hx ⊢
                exact Or.inr hx
          · go_wp2
            go_roundg (gk - 1)
            case measure => omega
            case rel =>
              obtain ⟨h1, h2, h3, h4, h5⟩ := HX.out
              refine ⟨k + 1, u, th', by push_cast; rfl, by rw [← HTL.out.1]; omega, by rw [← HTL.out.1]; omega, ⟨_, _, HPP.out⟩, fun j => ?_, h2, h3, h4, h5⟩
              rw [h1 j]
              by_cases c : j < k ∧ n ≤ j * 16
              · rw [if_pos c, if_pos (by omega)]
              · rw [if_neg c, if_neg (by omega)]
      · go_wp2
        go_ret
        obtain ⟨h1, h2, h3, h4, h5⟩ := HX.out
        obtain ⟨⟨b1, b2, b3, b4⟩, e1, e2, e3⟩ := HREL.out
        have hcg := cut_gen b4 n (by omega)
        have hgt : ∀ j, th'.getD j false = (get (cutL n l) j).isSome := fun j => by
          rw [h1 j, get_cutL]
          by_cases c : n ≤ j * 16
          · rw [if_pos c]
            by_cases d : j < k
            · rw [if_pos ⟨d, c⟩]; rfl
            · rw [if_neg (fun h => d h.1), List.getD_eq_getElem?_getD, List.getElem?_eq_none (by have := HTL.out.1; omega)]; rfl
          · rw [if_neg c, if_neg (fun h => c h.2), b2 j]
            cases get l j <;> rfl
        have hc2 := cnt1_keys hcg.1.1 hgt
        have hle := cutL_length (n := n) (l := l)
        rw [HR.out]
        refine ⟨rfl, ?_, F ++ [g], fun x hx => ?_, ⟨bs2, th', ⟨_, _, HPP.out⟩, ?_, hgt, by rw [h2]; exact b3, hcg⟩, (Keeps.refl _ w).trans' h5 (fun x hx => ?_)⟩
        · have : used - ((l.length - (cutL n l).length : Nat) : Int) = u := by omega
          show RAt _ rs room (used - ((l.length - (cutL n l).length : Nat) : Int))
          rw [this]; exact h3
        · simp only [List.mem_append, List.mem_singleton] at hx
          rcases hx with hx | hx
          · exact Or.inl hx
          · exact Or.inr (by have := HG.out; omega)
        · show bs2 = bytesFrom (cutL n l) 0 ((n : Int)).toNat
          rw [HBS.out, Int.toNat_natCast]
        · simp only [List.cons_append, List.nil_append, List.mem_cons, List.mem_append] at hx ⊢
          rcases hx with hx | hx | hx | hx | hx
          · exact Or.inl (Or.inl hx)
          · exact Or.inl (Or.inr (Or.inl hx))
          · exact Or.inl (Or.inr (Or.inr hx))
          · exact Or.inr (by have := HG.out; omega)
          · cases hx
theorem rcut_any (rs rb : Nat) (F : List Nat) (room : Int) (s : BS) (size : Int) (w : World) (hs : RAt w rs room s.used) (hb : RB w rb F s.sz s.l) (hF : rs ∉ F ∧ rb ∉ F ∧ ∀ x ∈ F, x < w.heap.size)
    (hu0 : (s.l.length : Int) ≤ s.used) (hu1 : s.used ≤ 65536) :
    Calls Try.prog 24 #[.pointer (some ⟨rs, 0, none⟩), .pointer (some ⟨rb, 0, none⟩), .int .i64 size] w (RCPost rs rb F room (cutM s size) w) := by
  have none : ∀ e : Int, ∀ w', w = w' → RCPost rs rb F room (e, s) w (.returned (.int .i64 e)) w' := fun e w' hw => by
    subst hw
    exact ⟨rfl, hs, F, Grew.refl _ _, hb, Keeps.refl _ _⟩
  by_cases h0 : size < 0
  · unfold cutM
    rw [if_pos h0]
    exact (rcut_neg _ _ size w h0).mono fun e w' ⟨he, hw⟩ => he ▸ none 22 w' hw
  · by_cases h1 : 65536 < size
    · unfold cutM
      rw [if_neg h0, if_pos h1]
      exact (rcut_over _ _ size w h1).mono fun e w' ⟨he, hw⟩ => he ▸ none 27 w' hw
    · exact rcut_main rs rb F room s.used s.sz s.l size.toNat size w hs hb hF hu0 hu1 (by omega) (by omega)
end Go.Proofs.Ythkeahjcokbaaaa
