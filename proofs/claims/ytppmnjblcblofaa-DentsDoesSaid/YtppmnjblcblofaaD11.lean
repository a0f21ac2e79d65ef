/-
  Package veneerlaw04: a directory that the law holds; awake.
-/
import Derived.Test.YtppmnjblcblofaaD10
namespace Go.Proofs.Ytppmnjblcblofaa
open Go.RowKit Go.V Go.V.Path Go.V.Dents
/-- a directory that the call has made -/
def DI (W : World) (db : Nat) (v : Value) (l : List Ent) (wx : World) : Prop :=
  W.heap.size ≤ db ∧ (∀ g, v.ownBlock = some g → W.heap.size ≤ g) ∧ DirAt wx db v l ∧ Srt l ∧ Keeps [] W wx
theorem DI.keep {W wx w' : World} {db : Nat} {v : Value} {l : List Ent} (h : DI W db v l wx) (hk : Keeps [] wx w') : DI W db v l w' :=
  ⟨h.1, h.2.1, h.2.2.1.keep hk, h.2.2.2.1, h.2.2.2.2.trans hk⟩
theorem DI.chg {W wx w' : World} {db : Nat} {v : Value} {l l' : List Ent} (h : DI W db v l wx) (hs : Srt l') (hc : Chg db v l' wx w') : ∃ v', DI W db v' l' w' := by
  obtain ⟨v', hd, hg, hk⟩ := hc
  refine ⟨v', h.1, fun g hq => ?_, hd, hs, h.2.2.2.2.trans' hk (fun z hz => Or.inr ?_)⟩
  · rcases hg g hq with q | q
    · exact h.2.1 g q
    · exact Nat.le_trans h.2.2.2.2.size q
  · simp only [List.mem_cons, Option.mem_toList] at hz
    rcases hz with rfl | hz
    · exact h.1
    · exact h.2.1 z hz
set_option maxHeartbeats 4000000 in
theorem awake_ok (w : World) : Calls Try.prog 8 #[] w (BK true w) := by
  go_enter Try.func8, Try.ntmps8
  go_wp2_with fail
  refine (dnew_ok w).mono ?_
  rintro e w1 ⟨db, rfl, hdb, hd0, hk0⟩
  have D0 : Hid (DI w db (.slice none 0 0) [] w1) := Lib.hid ⟨hdb, (fun g hg => by cases hg), hd0, Srt.nil, hk0⟩
  clear hdb hd0 hk0
  unfold PT
  go_wp2_with fail
  refine (dset_ok db (.slice none 0 0) ([] : List Ent) [98] 7 w1 D0.out.2.2.1 D0.out.2.2.2.1 (by decide)).mono ?_
  rw [show setE [98] 7 = 0 by kernel_rfl, show setL ([] : List Ent) [98] 7 = ([⟨[98], 7⟩] : List Ent) by kernel_rfl]
  rintro e w2 ⟨rfl, hc⟩
  obtain ⟨v1, hd⟩ := D0.out.chg (by rw [show ([⟨[98], 7⟩] : List Ent) = setL ([] : List Ent) [98] 7 by kernel_rfl]; exact D0.out.2.2.2.1.set _ _) hc
  have D1 := Lib.hid hd
  clear hc hd
  go_wp2_with fail
  refine (dset_ok db v1 ([⟨[98], 7⟩] : List Ent) [97] 8 w2 D1.out.2.2.1 D1.out.2.2.2.1 (by decide)).mono ?_
  rw [show setE [97] 8 = 0 by kernel_rfl, show setL ([⟨[98], 7⟩] : List Ent) [97] 8 = ([⟨[97], 8⟩, ⟨[98], 7⟩] : List Ent) by kernel_rfl]
  rintro e w3 ⟨rfl, hc⟩
  obtain ⟨v2, hd⟩ := D1.out.chg (by rw [show ([⟨[97], 8⟩, ⟨[98], 7⟩] : List Ent) = setL ([⟨[98], 7⟩] : List Ent) [97] 8 by kernel_rfl]; exact D1.out.2.2.2.1.set _ _) hc
  have D2 := Lib.hid hd
  clear hc hd
  go_wp2_with fail
  refine (dset_ok db v2 ([⟨[97], 8⟩, ⟨[98], 7⟩] : List Ent) [98] 9 w3 D2.out.2.2.1 D2.out.2.2.2.1 (by decide)).mono ?_
  rw [show setE [98] 9 = 0 by kernel_rfl, show setL ([⟨[97], 8⟩, ⟨[98], 7⟩] : List Ent) [98] 9 = ([⟨[97], 8⟩, ⟨[98], 9⟩] : List Ent) by kernel_rfl]
  rintro e w4 ⟨rfl, hc⟩
  obtain ⟨v3, hd⟩ := D2.out.chg (by rw [show ([⟨[97], 8⟩, ⟨[98], 9⟩] : List Ent) = setL ([⟨[97], 8⟩, ⟨[98], 7⟩] : List Ent) [98] 9 by kernel_rfl]; exact D2.out.2.2.2.1.set _ _) hc
  have D3 := Lib.hid hd
  clear hc hd
  go_wp2_with fail
  refine (dset_ok db v3 ([⟨[97], 8⟩, ⟨[98], 9⟩] : List Ent) [46, 46] 1 w4 D3.out.2.2.1 D3.out.2.2.2.1 (by decide)).mono ?_
  rw [show setE [46, 46] 1 = 22 by kernel_rfl, show setL ([⟨[97], 8⟩, ⟨[98], 9⟩] : List Ent) [46, 46] 1 = ([⟨[97], 8⟩, ⟨[98], 9⟩] : List Ent) by kernel_rfl]
  rintro e w5 ⟨rfl, hc⟩
  obtain ⟨v4, hd⟩ := D3.out.chg (by rw [show ([⟨[97], 8⟩, ⟨[98], 9⟩] : List Ent) = setL ([⟨[97], 8⟩, ⟨[98], 9⟩] : List Ent) [46, 46] 1 by kernel_rfl]; exact D3.out.2.2.2.1.set _ _) hc
  have D4 := Lib.hid hd
  clear hc hd
  go_wp2_with fail
  refine (dall_ok db v4 ([⟨[97], 8⟩, ⟨[98], 9⟩] : List Ent) w5 D4.out.2.2.1 (by decide)).mono ?_
  rintro e w6 ⟨va, rfl, hm⟩
  obtain ⟨pa, Ma, ca, rfl, hMa⟩ := ent_shape hm.1
  obtain rfl : Ma = 2 := hMa
  have ND := Lib.hid (show ∀ x, v4.ownBlock = some x → (Value.slice pa 2 ca).ownBlock ≠ some x from fun x hx e => by have h1 := D4.out.2.2.1.2.lt hx; have h2 := hm.2.1 x e; omega)
  have D5 := Lib.hid (D4.out.keep hm.2.2)
  have M5 := Lib.hid hm
  clear hm D4
  go_wp2_with fail
  refine (dnext_ok db v4 ([⟨[97], 8⟩, ⟨[98], 9⟩] : List Ent) [97] w6 D5.out.2.2.1 D5.out.2.2.2.1 (by decide)).mono ?_
  rw [show nextO ([⟨[97], 8⟩, ⟨[98], 9⟩] : List Ent) [97] = some ⟨[98], 9⟩ by kernel_rfl]
  rintro e w7 ⟨rfl, hk7⟩
  obtain ⟨w8, nb, hw8, hnb, hb8, hk8⟩ : ∃ w8 nb, w8 = w7.alloc (.cells #[.string (bs [98]), .int .i64 9] 37) ∧ nb = w7.heap.size ∧ w8.heap[nb]? = some (.cells #[.string (bs [98]), .int .i64 9] 37 (0, 0)) ∧ Keeps [] w7 w8 := ⟨_, _, rfl, rfl, heap_alloc w7 _, (Keeps.refl _ _).alloc _⟩
  have D8 := Lib.hid (D5.out.keep (hk7.trans hk8))
  have M8 := Lib.hid (M5.out.keep (hk7.trans hk8))
  have B8 := Lib.hid hb8
  have NB := Lib.hid (show nb ∉ db :: v4.ownBlock.toList from fun hx => by
    have h1 := D5.out.keep hk7
    simp only [List.mem_cons, Option.mem_toList] at hx
    rcases hx with hx | hx
    · have := lt_of_heap h1.2.2.1.1; omega
    · have := h1.2.2.1.2.lt hx; omega)
  clear hb8 hk7 hk8 D5 M5
  unfold entV
  go_upto_region 10 with fail
  rw [← hw8, ← hnb]
  clear hw8 hnb
  go_wp2_with fail
  refine (ddel_ok db v4 ([⟨[97], 8⟩, ⟨[98], 9⟩] : List Ent) [97] w8 D8.out.2.2.1 D8.out.2.2.2.1 (by decide)).mono ?_
  rw [show getI ([⟨[97], 8⟩, ⟨[98], 9⟩] : List Ent) [97] = 8 by kernel_rfl, show getE ([⟨[97], 8⟩, ⟨[98], 9⟩] : List Ent) [97] = 0 by kernel_rfl, show delL ([⟨[97], 8⟩, ⟨[98], 9⟩] : List Ent) [97] = ([⟨[98], 9⟩] : List Ent) by kernel_rfl]
  rintro e w9 ⟨rfl, hc⟩
  have hkc : Keeps (db :: v4.ownBlock.toList) w8 w9 := by obtain ⟨_, _, _, hk⟩ := hc; exact hk
  obtain ⟨v9, hd9⟩ := D8.out.chg (by rw [show ([⟨[98], 9⟩] : List Ent) = delL ([⟨[97], 8⟩, ⟨[98], 9⟩] : List Ent) [97] by kernel_rfl]; exact D8.out.2.2.2.1.del _) hc
  have D9 := Lib.hid hd9
  have M9 := Lib.hid (M8.out.1.keep hkc (fun x hx => by
    simp only [List.mem_cons, Option.mem_toList] at hx
    rcases hx with rfl | hx
    · exact M8.out.1.ne D8.out.2.2.1.1 (by decide)
    · exact ND.out x hx))
  have B9 := Lib.hid (hkc.get B8.out NB.out)
  clear hc hkc hd9
  go_wp2_with fail
  refine (dget_ok db v9 ([⟨[98], 9⟩] : List Ent) [97] w9 D9.out.2.2.1 D9.out.2.2.2.1 (by decide)).mono ?_
  rw [show getI ([⟨[98], 9⟩] : List Ent) [97] = 0 by kernel_rfl, show getE ([⟨[98], 9⟩] : List Ent) [97] = 2 by kernel_rfl]
  rintro e wa ⟨rfl, hka⟩
  have DA := Lib.hid (D9.out.keep hka)
  have BA := Lib.hid (hka.get B9.out (by simp))
  obtain ⟨g, o, rfl, x0, x1⟩ := sg_ent (M9.out.keep hka (by simp)).sg (i := 1) (x := ⟨[98], 9⟩) rfl
  have n0 : wa.cell? ⟨nb, 0, none⟩ = some (.string (bs [98])) := cell_of BA.out rfl
  have hb98 := bs_toList [98]
  clear hka D9
  go_wp2_with fail
  refine (dlen_ok db v9 ([⟨[98], 9⟩] : List Ent) wa DA.out.2.2.1).mono ?_
  rintro e wb ⟨rfl, hkb⟩
  have KB := Lib.hid (DA.out.2.2.2.2.trans hkb)
  clear hkb
  rw [show (((([⟨[98], 9⟩] : List Ent)).length : Nat) : Int) = 1 from rfl]
  go_wp2
  (try simp only [Exit.inBlock, Exit.then])
  go_ret
  exact ⟨rfl, KB.out⟩
end Go.Proofs.Ytppmnjblcblofaa
