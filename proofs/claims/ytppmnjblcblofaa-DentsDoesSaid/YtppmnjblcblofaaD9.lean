/-
  Package dents: Del, walked.
-/
import Derived.Test.YtppmnjblcblofaaD8
namespace Go.Proofs.Ytppmnjblcblofaa
open Go.RowKit Go.V Go.V.Path Go.V.Dents
def DelD (db : Nat) (v : Value) (l' : List Ent) (n k : Int) (w : World) (e : Ending) (w' : World) : Prop := e = .returned (.tuple #[.int .i64 n, .int .i64 k]) ∧ Chg db v l' w w'
set_option maxHeartbeats 8000000 in
theorem ddel_ok (db : Nat) (v : Value) (l : List Ent) (t : List UInt8) (w : World) (h : DirAt w db v l) (hs : Srt l) (hl : l.length ≤ 1000) :
    Calls Try.prog 12 #[PT db, .string (bs t)] w (DelD db v (delL l t) (getI l t) (getE l t) w) := by
  have HA := Lib.hid (And.intro h (And.intro hs hl))
  obtain ⟨p, M, c, rfl, hM⟩ := ent_shape h.2
  have hM1 : M ≤ 1000 := by rw [hM]; exact hl
  have HM := Lib.hid hM
  clear h hs hl hM
  obtain ⟨q, hq⟩ : ∃ q, q = pos l t := ⟨_, rfl⟩
  obtain ⟨r, hr⟩ : ∃ r, r = has l t := ⟨_, rfl⟩
  have HQ := Lib.hid (And.intro hq hr)
  have hff : FindPost l t = fun w e w' => e = .returned (.tuple #[.int .i64 (q : Nat), .bool r]) ∧ Keeps [] w w' := by
    funext w e w'; unfold FindPost; rw [hq, hr]
  have HFF := Lib.hid hff
  clear hq hr hff
  unfold PT
  go_enter Try.func12, Try.ntmps12
  go_wp2_with fail
  refine (find_ok db _ l t w HA.out.1 HA.out.2.1 HA.out.2.2).mono ?_
  rw [HFF.out]
  rintro e w2 ⟨rfl, hk2⟩
  have H2 := Lib.hid (HA.out.1.keep hk2)
  have K2 := Lib.hid hk2
  have c0 := H2.out.c0
  clear hk2
  cases r with
  | false =>
    go_wp2
    go_ret2
    have h1 : has l t = false := HQ.out.2.symm
    refine ⟨by unfold getI getE getO; rw [h1]; rfl, ?_⟩
    unfold delL
    rw [h1, if_neg (by decide)]
    exact Chg.same HA.out.1 K2.out
  | true =>
    obtain ⟨x, hx, hxn⟩ := (HA.out.2.1.has_iff t).1 HQ.out.2.symm
    rw [← HQ.out.1] at hx
    obtain ⟨g, o, rfl, x0, x1⟩ := sg_ent H2.out.2.sg hx
    have hqlt : q < M := by rw [HM.out]; exact (List.getElem?_eq_some_iff.1 hx).1
    have HX := Lib.hid hx
    have HC := Lib.hid (delete_ok _ l q w2 H2.out.2 (by rw [← HM.out]; exact hqlt) HA.out.2.2)
    clear hx hxn
    go_upto_region 5 with fail
    clear x0 x1
    go_wp2_with fail
    refine HC.out.mono ?_
    rintro e w4 ⟨v6, rfl, hrow, hown, hk4⟩
    obtain ⟨p6, M6, c6, rfl, hM6⟩ := ent_shape hrow
    clear hM6
    have hdb4 : w4.heap[db]? = some (.cells #[.slice (some ⟨g, o, none⟩) M c] 53 (0, 0)) := hk4.get H2.out.1 (fun hx => H2.out.2.ne H2.out.1 (by decide) (by simpa using hx))
    have d0 : w4.cell? ⟨db, 0, none⟩ = some (.slice (some ⟨g, o, none⟩) M c) := cell_of hdb4 rfl
    have z0 : w4.frozen? ⟨db, 0, none⟩ = false := frozen_of 0 hdb4
    obtain ⟨w5, hw5⟩ : ∃ w5, w5 = w4.setCell ⟨db, 0, none⟩ (.slice p6 M6 c6) := ⟨_, rfl⟩
    have hdb5 : w5.heap[db]? = some (.cells #[.slice p6 M6 c6] 53 (0, 0)) := by rw [hw5]; exact heap_setCell hdb4
    have hk5 : Keeps [db] w4 w5 := by rw [hw5]; exact (Keeps.refl _ _).setCell (Or.inl (by simp)) _
    have hrow5 := hrow.keep hk5 (fun z hz => by obtain rfl := List.mem_singleton.1 hz; exact hrow.ne hdb4 (by decide))
    have hkf : Keeps (db :: (Value.slice (some ⟨g, o, none⟩) M c).ownBlock.toList) w w5 :=
      ((K2.out.mono (by simp)).trans (hk4.mono (fun z hz => List.mem_cons_of_mem _ hz))).trans (hk5.mono (by simp))
    have HFIN := Lib.hid (And.intro hdb5 (And.intro hrow5 (And.intro hkf hown)))
    clear hdb5 hrow5 hkf hk5 hdb4 hk4 hown hrow c0
    go_upto_region 6 with fail
    rw [← hw5]
    clear hw5 d0 z0
    go_wp2
    go_ret2
    have h1 : has l t = true := HQ.out.2.symm
    refine ⟨by unfold getI getE getO; rw [h1, if_pos rfl, ← HQ.out.1, HX.out]; rfl, _, ⟨HFIN.out.1, ?_⟩, fun b hb => Or.inl (by rw [← HFIN.out.2.2.2]; exact hb), HFIN.out.2.2.1⟩
    unfold delL
    rw [h1, if_pos rfl, ← HQ.out.1]
    exact HFIN.out.2.1
end Go.Proofs.Ytppmnjblcblofaa
