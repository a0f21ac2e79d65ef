/-
  Package dents: Set, Del, walked.
-/
import Derived.Test.YtppmnjblcblofaaD7
namespace Go.V.Dents
open Go Go.V Go.V.Path
def setE (t : List UInt8) (ino : Int) : Int := if nameF t ≠ 0 then nameF t else if t = [46] ∨ t = [46, 46] ∨ ino < 1 then 22 else 0
def putL (l : List Ent) (t : List UInt8) (ino : Int) : List Ent := if has l t = true then l.set (pos l t) ⟨t, ino⟩ else l.take (pos l t) ++ ⟨t, ino⟩ :: l.drop (pos l t)
def setL (l : List Ent) (t : List UInt8) (ino : Int) : List Ent := if setE t ino = 0 then putL l t ino else l
def delL (l : List Ent) (t : List UInt8) : List Ent := if has l t = true then l.take (pos l t) ++ l.drop (pos l t + 1) else l
end Go.V.Dents
namespace Go.Proofs.Ytppmnjblcblofaa
open Go.RowKit Go.V Go.V.Path Go.V.Dents
def Chg (db : Nat) (v : Value) (l' : List Ent) (w w' : World) : Prop :=
  ∃ v', DirAt w' db v' l' ∧ (∀ g, v'.ownBlock = some g → v.ownBlock = some g ∨ w.heap.size ≤ g) ∧ Keeps (db :: v.ownBlock.toList) w w'
theorem Chg.same {db : Nat} {v : Value} {l : List Ent} {w w' : World} (h : DirAt w db v l) (hk : Keeps [] w w') : Chg db v l w w' :=
  ⟨v, h.keep hk, fun _ h => Or.inl h, hk.mono (by simp)⟩
def SetD (db : Nat) (v : Value) (l' : List Ent) (n : Int) (w : World) (e : Ending) (w' : World) : Prop := e = .returned (.int .i64 n) ∧ Chg db v l' w w'
theorem insert_ok (v : Value) (l : List Ent) (i : Nat) (x : Ent) (vb : Nat) (w : World) (hv : RowG FE 37 w v l) (hi : i ≤ l.length) (hb : w.heap[vb]? = some (.cells (FE.cs x).toArray 37 (0, 0))) (hne : v.ownBlock ≠ some vb) (hl : l.length ≤ 1000) :
    Calls Try.prog 25 #[v, .int .i64 (i : Nat), .slice (some ⟨vb, 0, none⟩) 1 1] w (InsPost v (l.take i ++ x :: l.drop i) w) := by
  by_cases h : i = l.length
  · subst h
    rw [List.take_length, List.drop_length]
    exact insert_end v l x vb w hv hb hl
  · exact insert_mid v l i x vb w hv (by omega) hb hne hl
/-- one inode set in the row -/
theorem ent_set {w : World} {p : Option Addr} {n c q : Nat} {l : List Ent} {x : Ent} (h : RowG FE 37 w (.slice p n c) l) (hx : l[q]? = some x) (k : Int) :
    ∃ g, p = some ⟨g, 0, none⟩ ∧ w.cell? ⟨g, q * 2 + 1, none⟩ = some (.int .i64 x.ino) ∧ w.frozen? ⟨g, q * 2 + 1, none⟩ = false ∧
      RowG FE 37 (w.setCell ⟨g, q * 2 + 1, none⟩ (.int .i64 k)) (.slice p n c) (l.set q ⟨x.name, k⟩) ∧ Keeps [g] w (w.setCell ⟨g, q * 2 + 1, none⟩ (.int .i64 k)) := by
  have hb : ∃ g, p = some ⟨g, 0, none⟩ := by
    obtain ⟨_, h2⟩ := id h
    rcases h2 with ⟨h2, h3⟩ | ⟨g, cap, cur, hv, _⟩
    · have : l = [] := List.eq_nil_of_length_eq_zero h3
      rw [this] at hx; simp at hx
    · simp only [Value.slice.injEq] at hv
      exact ⟨g, hv.1⟩
  obtain ⟨g, rfl⟩ := hb
  obtain ⟨b, o, h1, _, h2⟩ := sg_ent h.sg hx
  simp only [Option.some.injEq, Addr.mk.injEq] at h1
  obtain ⟨rfl, rfl, _⟩ := h1
  rw [Nat.zero_add] at h2
  obtain ⟨k1, k2, k3⟩ := h.setc (i := q) (j := 1) (x' := ⟨x.name, k⟩) (u := .int .i64 k) hx (by decide) rfl
  exact ⟨g, rfl, h2, k3, k1, k2⟩
set_option maxHeartbeats 8000000 in
theorem dset_ok (db : Nat) (v : Value) (l : List Ent) (t : List UInt8) (ino : Int) (w : World) (h : DirAt w db v l) (hs : Srt l) (hl : l.length ≤ 999) :
    Calls Try.prog 10 #[PT db, .string (bs t), .int .i64 ino] w (SetD db v (setL l t ino) (setE t ino) w) := by
  have HA := Lib.hid (And.intro h (And.intro hs hl))
  have hbt := bs_toList t
  clear h hs hl
  obtain ⟨F, hF⟩ : ∃ F, F = nameF t := ⟨_, rfl⟩
  have HF := Lib.hid hF
  clear hF
  unfold PT
  by_cases hf0 : F = 0
  · by_cases hbad : t = [46] ∨ t = [46, 46] ∨ ino < 1
    · have he : setE t ino = 22 := by unfold setE; rw [← HF.out, if_neg (by simpa using hf0), if_pos hbad]
      have hL : setL l t ino = l := by unfold setL; rw [he, if_neg (by decide)]
      rw [he, hL]
      clear he hL
      subst hf0
      go_enter Try.func10, Try.ntmps10
      go_wp2_with fail
      refine (name_ok (bs t) w).mono ?_
      rintro e w1 ⟨rfl, hw1⟩
      subst hw1
      rw [bs_dataL, ← HF.out]
      by_cases h1 : t = [46]
      · have e1 : (t == [46]) = true := by simpa using h1
        clear hbad h1
        go_wp2
        (try simp only [Exit.inBlock, Exit.then])
        go_ret
        exact ⟨rfl, Chg.same HA.out.1 (Keeps.refl _ _)⟩
      · have e1 : (t == [46]) = false := by simpa using h1
        by_cases h2 : t = [46, 46]
        · have e2 : (t == [46, 46]) = true := by simpa using h2
          clear hbad h1 h2
          go_wp2
          (try simp only [Exit.inBlock, Exit.then])
          go_ret
          exact ⟨rfl, Chg.same HA.out.1 (Keeps.refl _ _)⟩
        · have e2 : (t == [46, 46]) = false := by simpa using h2
          have h3 : ino < 1 := by rcases hbad with q | q | q <;> first | exact absurd q h1 | exact absurd q h2 | exact q
          clear hbad h1 h2
          go_wp2
          (try simp only [Exit.inBlock, Exit.then])
          go_ret
          exact ⟨rfl, Chg.same HA.out.1 (Keeps.refl _ _)⟩
    · have he : setE t ino = 0 := by unfold setE; rw [← HF.out, if_neg (by simpa using hf0), if_neg hbad]
      have hL : setL l t ino = putL l t ino := by unfold setL; rw [he, if_pos rfl]
      rw [he, hL]
      have e1 : (t == [46]) = false := by simpa using fun e => hbad (Or.inl e)
      have e2 : (t == [46, 46]) = false := by simpa using fun e => hbad (Or.inr (Or.inl e))
      have h3 : ¬ ino < 1 := fun e => hbad (Or.inr (Or.inr e))
      clear he hL hbad
      subst hf0
      obtain ⟨p, M, c, rfl, hM⟩ := ent_shape HA.out.1.2
      have hM1 : M ≤ 999 := by rw [hM]; exact HA.out.2.2
      have HM := Lib.hid hM
      obtain ⟨q, hq⟩ : ∃ q, q = pos l t := ⟨_, rfl⟩
      obtain ⟨r, hr⟩ : ∃ r, r = has l t := ⟨_, rfl⟩
      have hqM : q ≤ M := by rw [hq, hM]; exact pos_le l t
      have HQ := Lib.hid (And.intro hq hr)
      have hff : FindPost l t = fun w e w' => e = .returned (.tuple #[.int .i64 (q : Nat), .bool r]) ∧ Keeps [] w w' := by
        funext w e w'; unfold FindPost; rw [hq, hr]
      have HFF := Lib.hid hff
      clear hq hr hff hM
      go_enter Try.func10, Try.ntmps10
      go_wp2_with fail
      refine (name_ok (bs t) w).mono ?_
      rintro e w1 ⟨rfl, hw1⟩
      subst hw1
      rw [bs_dataL, ← HF.out]
      go_wp2_with fail
      refine (find_ok db _ l t w1 HA.out.1 HA.out.2.1 (by have := HA.out.2.2; omega)).mono ?_
      rw [HFF.out]
      rintro e w2 ⟨rfl, hk2⟩
      have H2 := Lib.hid (HA.out.1.keep hk2)
      have K2 := Lib.hid hk2
      have c0 := H2.out.c0
      clear hk2
      cases r with
      | true =>
        obtain ⟨x, hx, hxn⟩ := (HA.out.2.1.has_iff t).1 HQ.out.2.symm
        rw [← HQ.out.1] at hx
        obtain ⟨g, rfl, x1, z1, hrow, hkg⟩ := ent_set H2.out.2 hx ino
        have hqlt : q < M := by rw [HM.out]; exact (List.getElem?_eq_some_iff.1 hx).1
        have hput : putL l t ino = l.set q ⟨x.name, ino⟩ := by unfold putL; rw [← HQ.out.2, if_pos rfl, ← HQ.out.1, hxn]
        have hdb : (w2.setCell ⟨g, q * 2 + 1, none⟩ (.int .i64 ino)).heap[db]? = some (.cells #[.slice (some ⟨g, 0, none⟩) M c] 53 (0, 0)) :=
          hkg.get H2.out.1 (fun hx => H2.out.2.ne H2.out.1 (by decide) (by obtain rfl := List.mem_singleton.1 hx; rfl))
        have hkf : Keeps (db :: (Value.slice (some ⟨g, 0, none⟩) M c).ownBlock.toList) w1 (w2.setCell ⟨g, q * 2 + 1, none⟩ (.int .i64 ino)) :=
          (K2.out.mono (by simp)).trans (hkg.mono (fun z hz => by obtain rfl := List.mem_singleton.1 hz; simp [Value.ownBlock]))
        have HFIN := Lib.hid (And.intro hrow (And.intro hput (And.intro hdb hkf)))
        clear hrow hput hdb hkf hkg hx hxn
        go_wp2
        (try simp only [Exit.inBlock, Exit.then])
        go_ret
        exact ⟨rfl, _, ⟨HFIN.out.2.2.1, by rw [HFIN.out.2.1]; exact HFIN.out.1⟩, fun _ h => Or.inl h, HFIN.out.2.2.2⟩
      | false =>
        have hk3 : Keeps [] w2 (w2.alloc (.cells #[.string (bs t), .int .i64 0] 37)) := (Keeps.refl _ _).alloc _
        have H3 := Lib.hid (H2.out.keep hk3)
        have hvb := heap_alloc w2 (.cells #[.string (bs t), .int .i64 0] 37)
        have hne3 : (Value.slice p M c).ownBlock ≠ some w2.heap.size := fun e => by have := H2.out.2.lt e; omega
        have HC := Lib.hid (insert_ok (.slice p M c) l q ⟨t, 0⟩ w2.heap.size _ H3.out.2 (by rw [← HM.out]; exact hqM) hvb hne3 (by have := HA.out.2.2; omega))
        have K3 := Lib.hid (K2.out.trans hk3)
        clear hk3 hvb hne3
        go_wp2_with fail
        refine HC.out.mono ?_
        rintro e w4 ⟨v6, rfl, hrow, hown, hk4⟩
        obtain ⟨p6, M6, c6, rfl, hM6⟩ := ent_shape hrow
        have hM6q : q < M6 := by rw [hM6, List.length_append, List.length_cons, List.length_take, List.length_drop, ← HM.out]; omega
        have hM6b : M6 ≤ 1000 := by rw [hM6, List.length_append, List.length_cons, List.length_take, List.length_drop, ← HM.out]; omega
        have hdb4 : w4.heap[db]? = some (.cells #[.slice p M c] 53 (0, 0)) := hk4.get H3.out.1 (fun hx => H3.out.2.ne H3.out.1 (by decide) (by simpa using hx))
        have d0 : w4.cell? ⟨db, 0, none⟩ = some (.slice p M c) := cell_of hdb4 rfl
        have z0 : w4.frozen? ⟨db, 0, none⟩ = false := frozen_of 0 hdb4
        obtain ⟨w5, hw5⟩ : ∃ w5, w5 = w4.setCell ⟨db, 0, none⟩ (.slice p6 M6 c6) := ⟨_, rfl⟩
        have hdb5 : w5.heap[db]? = some (.cells #[.slice p6 M6 c6] 53 (0, 0)) := by rw [hw5]; exact heap_setCell hdb4
        have hk5 : Keeps [db] w4 w5 := by rw [hw5]; exact (Keeps.refl _ _).setCell (Or.inl (by simp)) _
        have hrow5 : RowG FE 37 w5 (.slice p6 M6 c6) (l.take q ++ ⟨t, 0⟩ :: l.drop q) := hrow.keep hk5 (fun z hz => by obtain rfl := List.mem_singleton.1 hz; exact hrow.ne hdb4 (by decide))
        have hx6 : (l.take q ++ (⟨t, 0⟩ : Ent) :: l.drop q)[q]? = some ⟨t, 0⟩ := by
          have hlq : (l.take q).length = q := by rw [List.length_take, ← HM.out]; omega
          rw [List.getElem?_append_right (by omega), hlq, Nat.sub_self]; rfl
        obtain ⟨g, rfl, x1, z1, hrow6, hk6⟩ := ent_set hrow5 hx6 ino
        have hput : putL l t ino = (l.take q ++ (⟨t, 0⟩ : Ent) :: l.drop q).set q ⟨t, ino⟩ := by
          have hlq : (l.take q).length = q := by rw [List.length_take, ← HM.out]; omega
          unfold putL
          rw [← HQ.out.2, if_neg (by decide), ← HQ.out.1, List.set_append_right _ _ (by omega), hlq, Nat.sub_self]
          rfl
        have hdb6 : (w5.setCell ⟨g, q * 2 + 1, none⟩ (.int .i64 ino)).heap[db]? = some (.cells #[.slice (some ⟨g, 0, none⟩) M6 c6] 53 (0, 0)) :=
          hk6.get hdb5 (fun hx => hrow5.ne hdb5 (by decide) (by obtain rfl := List.mem_singleton.1 hx; rfl))
        have hgf : ∀ b, (Value.slice (some ⟨g, 0, none⟩) M6 c6).ownBlock = some b → (Value.slice p M c).ownBlock = some b ∨ w1.heap.size ≤ b := fun b hb => by
          rcases hown b hb with h | h
          · exact Or.inl h
          · exact Or.inr (Nat.le_trans K3.out.size h)
        have hkf : Keeps (db :: (Value.slice p M c).ownBlock.toList) w1 (w5.setCell ⟨g, q * 2 + 1, none⟩ (.int .i64 ino)) := by
          have k1 : Keeps (db :: (Value.slice p M c).ownBlock.toList) w1 w5 :=
            ((K3.out.mono (by simp)).trans (hk4.mono (fun z hz => List.mem_cons_of_mem _ hz))).trans (hk5.mono (by simp))
          refine k1.trans' hk6 (fun z hz => ?_)
          obtain rfl := List.mem_singleton.1 hz
          rcases hgf z rfl with h | h
          · exact Or.inl (List.mem_cons_of_mem _ (by rw [h]; simp))
          · exact Or.inr h
        have e0 : w5.cell? ⟨db, 0, none⟩ = some (.slice (some ⟨g, 0, none⟩) M6 c6) := cell_of hdb5 rfl
        have HFIN := Lib.hid (And.intro hrow6 (And.intro hput (And.intro hdb6 (And.intro hkf hgf))))
        have HM6 := Lib.hid hM6
        clear hrow6 hput hdb6 hkf hgf hk6 hx6 hrow5 hk5 hdb5 hdb4 hk4 hown hrow hM6 c0
        go_upto_region 9 with fail
        rw [← hw5]
        clear hw5 d0 z0
        go_wp2
        (try simp only [Exit.inBlock, Exit.then])
        go_ret
        exact ⟨rfl, _, ⟨HFIN.out.2.2.1, by rw [HFIN.out.2.1]; exact HFIN.out.1⟩, HFIN.out.2.2.2.2, HFIN.out.2.2.2.1⟩
  · have he : setE t ino = F := by unfold setE; rw [← HF.out, if_pos (by simpa using hf0)]
    have hL : setL l t ino = l := by unfold setL; rw [he, if_neg hf0]
    rw [he, hL]
    have e0 : (F == 0) = false := by simpa using hf0
    clear he hL
    go_enter Try.func10, Try.ntmps10
    go_wp2_with fail
    refine (name_ok (bs t) w).mono ?_
    rintro e w1 ⟨rfl, hw1⟩
    subst hw1
    rw [bs_dataL, ← HF.out]
    go_wp2
    (try simp only [Exit.inBlock, Exit.then])
    go_ret
    exact ⟨rfl, Chg.same HA.out.1 (Keeps.refl _ _)⟩
end Go.Proofs.Ytppmnjblcblofaa
