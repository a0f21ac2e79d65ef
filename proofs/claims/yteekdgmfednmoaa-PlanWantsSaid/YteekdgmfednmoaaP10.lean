/-
  The laws' own and same, walked.
-/
import Derived.Test.YteekdgmfednmoaaP9
import Derived.Test.YteekdgmfednmoaaV1
namespace Go.Proofs.Yteekdgmfednmoaa
open Go.RowKit Go.V Go.V.Queue
theorem infoz48 : (Try.prog.info? 48).map (fun i => (i.zero, i.size, i.bytes)) = some (some (.agg #[.int .i64 0, .int .i64 0, .bool false]), F3.s, 24) := by kernel_rfl
def XS (b o : Nat) (x : It) (w : World) : Prop := w.cell? ⟨b, o, none⟩ = some (.int .i64 x.key) ∧ w.cell? ⟨b, o + 1, none⟩ = some (.int .i64 x.push) ∧ w.cell? ⟨b, o + 2, none⟩ = some (.bool x.n)
theorem SG.xs {w : World} {b o n c : Nat} {l : List It} (h : SG F3 w (.slice (some ⟨b, o, none⟩) n c) l) {i : Nat} {x : It} (hx : l[i]? = some x) : XS b (o + i * 3) x w :=
  ⟨h.item rfl hx (j := 0) rfl, h.item rfl hx (j := 1) rfl, h.item rfl hx (j := 2) rfl⟩
theorem XS.keep {b o : Nat} {x : It} {w w' : World} (h : XS b o x w) (hk : Keeps [] w w') : XS b o x w' := by
  obtain ⟨h0, h1, h2⟩ := h
  have f : ∀ {a : Addr} {v : Value}, w.cell? a = some v → w'.cell? a = some v := fun {a v} ha => (World.cell?_of_block (hk.block _ (Go.block_lt_of_cell ha) (by simp))).trans ha
  exact ⟨f h0, f h1, f h2⟩
def W1 (w : World) (l : List It) (m : Nat) (va vi : Value) (wx : World) : Prop := ∃ i : Nat, vi = .int .i64 i ∧ i + m = l.length ∧ Made F3 48 w va (l.take i) wx
def OwnPost (l : List It) (w : World) (e : Ending) (w' : World) : Prop := ∃ va, e = .returned va ∧ Made F3 48 w va l w'
set_option maxHeartbeats 4000000 in
theorem own_ok (A : Value) (l : List It) (w : World) (hA : SG F3 w A l) (hl : l.length ≤ 1000000) : Calls Try.prog 12 #[A] w (OwnPost l w) := by
  have hA2 := hA
  obtain ⟨pa, ca, rfl, hca, hca2, _⟩ := hA2
  obtain ⟨N, hN⟩ : ∃ N, N = l.length := ⟨_, rfl⟩
  rw [← hN] at hca hA hl ⊢
  have HA := Lib.hid hA
  have HN := Lib.hid hN
  have HE := Lib.hid (Made.empty F3 48 w)
  clear hA hN
  go_enter Try.func12, Try.ntmps12
  go_wp2_with fail
  go_loopg [3, 8] N (fun m va vi wx => W1 w l m va vi wx)
  case atStart => exact ⟨0, rfl, by rw [← HN.out, Nat.zero_add], HE.out⟩
  case round =>
    obtain ⟨i, rfl, hi, hm⟩ := hrel
    rw [← HN.out] at hi
    have HM := Lib.hid hm
    clear HE
    by_cases hlt : i < N
    · obtain ⟨x, hx⟩ : ∃ x, l[i]? = some x := ⟨_, List.getElem?_eq_getElem (by rw [← HN.out]; exact hlt)⟩
      obtain ⟨ab, ao, cap', hv⟩ := HA.out.shape (by rw [← HN.out]; omega)
      simp only [Value.slice.injEq] at hv
      obtain ⟨rfl, hv1, hv2⟩ := hv
      clear hv1 hv2
      have hxs := SG.xs (HA.out.keep hm.2.2 (by simp)) hx
      have htk : l.take (i + 1) = l.take i ++ [x] := by rw [List.take_add_one, hx]; rfl
      obtain ⟨acc, hacc⟩ : ∃ acc, acc = l.take i := ⟨_, rfl⟩
      rw [← hacc] at htk
      have hal : acc.length ≤ i := by rw [hacc, List.length_take]; omega
      rw [← hacc] at hm
      obtain ⟨pv, cv, hv, _, _⟩ := hm.1.value
      subst hv
      have HM := Lib.hid hm
      have HT := Lib.hid htk
      have HX := Lib.hid hx
      have HS := Lib.hid (hxs.keep (show Keeps [] wr wr.drew from (Keeps.refl [] wr).drew))
      have HM2 := Lib.hid (hm.keep (show Keeps [] wr wr.drew from (Keeps.refl [] wr).drew))
      clear hm hxs hx htk hacc
      have hii : (i : Int) < (N : Int) := by omega
      go_upto_region 5 with fail
      refine vp_region (XS ab (ao + i * 3) x) [(0, true), (1, true), (2, true), (3, true), (4, true), (5, true), (6, true), (7, true), (8, true), (9, true), (10, true), (11, true), (12, true), (13, true), (14, true), (15, true), (16, true), (17, false), (18, false), (19, true)] (by kernel_rfl) (by kernel_rfl) (by intro _ d _ _ _ h; cases d <;> exact h) HS.out ?_
      intro w5 hw5
      simp only [pick, List.map_cons, List.map_nil, List.getD_cons_zero, List.getD_cons_succ]
      repeat
        refine ord_free rfl (v := ?_) ?_ ?_
        rotate_left
        · intro w' hw'
          obtain ⟨c0, c1, c2⟩ := hw'
          go_simp
          with_reducible rfl
        simp only [Act.put, List.setIfInBounds_toArray, List.set_cons_zero, List.set_cons_succ]
      subst hw5
      refine ord_eff ?_
      go_wp2_with fail
      refine ⟨HS.out.keep ((Keeps.refl [] _).alloc _), ?_⟩
      refine ord_eff ?_
      refine vp_append_g (F := F3) rfl (.tmp 11) (.tmp 28) 26 rfl (.agg #[.int .i64 0, .int .i64 0, .bool false]) 24 Try.underlying26 infoz48 rfl (by decide) _ acc rfl (HM2.out.1.keep ((Keeps.refl [] wr.drew).alloc _) (by simp)) ⟨wr.drew.heap.size, 0, none⟩ 1 1 [x] rfl rfl (by intro j u hj; rw [add_none, Nat.zero_add]; exact cell_of (heap_alloc wr.drew _) (by simpa [F3, It.cells, Form.all] using hj)) (by omega) (by omega) ?_
      intro v6 w6 k1 k2 k3
      have hm6 := (HM2.out.keep ((Keeps.refl [] wr.drew).alloc _)).app k1 k2 k3
      refine ord_next (SG.xs (HA.out.keep hm6.2.2 (by simp)) HX.out) ?_
      have HM6 := Lib.hid hm6
      clear k1 k2 k3 hm6
      simp only [Act.put, List.setIfInBounds_toArray, List.set_cons_zero, List.set_cons_succ]
      refine ord_free rfl (v := ?_) ?_ ?_
      rotate_left
      · intro w' hw'
        go_simp
        with_reducible rfl
      simp only [Act.put, List.setIfInBounds_toArray, List.set_cons_zero, List.set_cons_succ]
      refine ord_nil ?_
      go_wp2
      go_roundg (gk - 1)
      case measure => omega
      case rel => exact ⟨i + 1, by push_cast; rfl, by rw [← HN.out]; omega, by rw [HT.out]; exact HM6.out⟩
    · have htk : l.take i = l := List.take_of_length_le (by rw [← HN.out]; omega)
      have HT := Lib.hid htk
      obtain ⟨pv, cv, hv, _, _⟩ := hm.1.value
      subst hv
      clear htk hm
      go_wp2
      go_ret
      have h := HM.out
      rw [HT.out] at h
      refine ⟨_, rfl, ?_⟩
      show Made F3 48 w (.slice pv (l.take i).length cv) l wr
      rw [HT.out]
      exact h
def SameI (w : World) (l : List It) (m : Nat) (vi : Value) (wx : World) : Prop := ∃ i : Nat, vi = .int .i64 i ∧ i + m = l.length ∧ Keeps [] w wx
set_option maxHeartbeats 4000000 in
theorem same_ok (A B : Value) (l : List It) (w : World) (hA : SG F3 w A l) (hB : SG F3 w B l) (hl : l.length ≤ 1000000) : Calls Try.prog 10 #[A, B] w (BPost true w) := by
  have hA2 := hA
  obtain ⟨pa, ca, rfl, hca, hca2, _⟩ := hA2
  have hB2 := hB
  obtain ⟨pb, cb, rfl, hcb, hcb2, _⟩ := hB2
  obtain ⟨N, hN⟩ : ∃ N, N = l.length := ⟨_, rfl⟩
  rw [← hN] at hca hA hl hB hcb ⊢
  have HA := Lib.hid hA
  have HB := Lib.hid hB
  have HN := Lib.hid hN
  have hnn : ((N : Int) != (N : Int)) = false := by simp
  clear hA hN hB
  go_enter Try.func10, Try.ntmps10
  go_wp2_with fail
  go_loopg [13] N (fun m vi wx => SameI w l m vi wx)
  case atStart => exact ⟨0, rfl, by rw [← HN.out, Nat.zero_add], Keeps.refl _ _⟩
  case round =>
    obtain ⟨i, rfl, hi, hk⟩ := hrel
    rw [← HN.out] at hi
    by_cases hlt : i < N
    · obtain ⟨x, hx⟩ : ∃ x, l[i]? = some x := ⟨_, List.getElem?_eq_getElem (by rw [← HN.out]; exact hlt)⟩
      obtain ⟨ab, ao, cap', hv⟩ := HA.out.shape (by rw [← HN.out]; omega)
      simp only [Value.slice.injEq] at hv
      obtain ⟨rfl, hv1, hv2⟩ := hv
      clear hv1 hv2
      obtain ⟨bb, bo, cap', hv⟩ := HB.out.shape (by rw [← HN.out]; omega)
      simp only [Value.slice.injEq] at hv
      obtain ⟨rfl, hv1, hv2⟩ := hv
      clear hv1 hv2
      obtain ⟨c0, c1, c2⟩ := SG.xs (HA.out.keep hk (by simp)) hx
      obtain ⟨d0, d1, d2⟩ := SG.xs (HB.out.keep hk (by simp)) hx
      obtain ⟨xk, xp, xn⟩ := x
      simp only at c0 c1 c2 d0 d1 d2
      have e1 : (xk != xk) = false := by simp
      have e2 : (xp != xp) = false := by simp
      have e3 : (xn != xn) = false := by simp
      have hii : (i : Int) < (N : Int) := by omega
      have HK := Lib.hid hk
      clear hx hk
      go_wp2
      go_quiet (fail)
      go_wp2
      go_roundg (gk - 1)
      case measure => omega
      case rel => exact ⟨i + 1, by push_cast; rfl, by rw [← HN.out]; omega, HK.out.drewN _⟩
    · have HK := Lib.hid hk
      clear hk
      go_wp2
      go_ret
      exact ⟨rfl, HK.out⟩
end Go.Proofs.Yteekdgmfednmoaa
