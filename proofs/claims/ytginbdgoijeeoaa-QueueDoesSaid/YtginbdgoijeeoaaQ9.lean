/-
  Package queue: Push, Pop, Has, Drop.
-/
import Derived.Test.YtginbdgoijeeoaaQ8
import Derived.Laws.EntriesVeiled
namespace Go.Proofs.Ytginbdgoijeeoaa
open Go.RowKit Go.V Go.V.Queue
theorem QL.x {w : World} {qb : Nat} {v x y : Value} {l : List It} (h : QL w qb v x l) : QL (w.setCell ⟨qb, 1, none⟩ y) qb v y l :=
  ⟨heap_setCell h.1, h.2.keep ((Keeps.refl _ _).setCell (p := ⟨qb, 1, none⟩) (S := [qb]) (Or.inl (by simp)) _) (fun z hz => by obtain rfl := List.mem_singleton.1 hz; exact row_ne h.2 h.1 (by decide))⟩
def QPushPost (qb : Nat) (v : Value) (l : List It) (p : Int) (w : World) (e : Ending) (w' : World) : Prop :=
  e = .returned (.tuple #[]) ∧ ∃ v', From w v v' ∧ QL w' qb v' (.int .i64 p) l ∧ Keeps (qb :: v.ownBlock.toList) w w'
def SP (qb : Nat) (p : Int) (w : World) : Prop := w.cell? ⟨qb, 1, none⟩ = some (.int .i64 p)
theorem qpush_ok (qb : Nat) (v : Value) (l : List It) (p key n : Int) (w : World) (h : QL w qb v (.int .i64 p) l) (hl : l.length ≤ 1000000) (hp : 0 ≤ p) (hp2 : p ≤ 1000000) :
    Calls Try.prog 10 #[P qb, .int .i64 key, .int .i64 n] w (QPushPost qb v (pushL l ⟨key, n, p⟩) (p + 1) w) := by
  have hq : QL w.drew qb v (.int .i64 p) l := h.keep ((Keeps.refl [] w).drew) (by simp) (by simp)
  have HP := Lib.hid (hpush_ok qb v (.int .i64 p) l ⟨key, n, p⟩ w.drew hq hl)
  have HS := Lib.hid (show SP qb p w.drew from cell_of h.1 rfl)
  clear h hq
  unfold P
  go_enter Try.func10, Try.ntmps10
  go_upto_region 0 with fail
  refine vp_region (SP qb p) [(0, true), (1, true), (2, true), (3, true), (4, true), (5, true), (6, true), (7, true), (8, true), (9, true), (10, true), (11, true), (12, false)] (by kernel_rfl) (by kernel_rfl) (by intro _ d _ _ _ h; cases d <;> exact h) HS.out ?_
  intro w6 hw6
  simp only [pick, List.map_cons, List.map_nil, List.getD_cons_zero, List.getD_cons_succ]
  repeat
    refine ord_free rfl (v := ?_) ?_ ?_
    rotate_left
    · intro w' hw'
      have c0 : w'.cell? ⟨qb, 1, none⟩ = some (.int .i64 p) := hw'
      go_simp
      with_reducible rfl
    simp only [Act.put, List.setIfInBounds_toArray, List.set_cons_zero, List.set_cons_succ]
  subst hw6
  refine ord_eff ?_
  go_wp2_with fail
  rename_i KK hKK
  refine HP.out.mono ?_
  rintro e w1 ⟨rfl, v', k1, k2, k3⟩
  refine hKK _ _ ?_
  have c1 : w1.cell? ⟨qb, 1, none⟩ = some (.int .i64 p) := cell_of k2.1 rfl
  have f1 : w1.frozen? ⟨qb, 1, none⟩ = false := frozen_of 1 k2.1
  refine ord_next c1 ?_
  refine ord_nil ?_
  have HK := Lib.hid (And.intro k1 (And.intro k2 k3))
  clear k1 k2 k3 hKK KK
  go_wp2
  go_end0
  obtain ⟨k1, k2, k3⟩ := HK.out
  refine ⟨rfl, v', k1, k2.x, ?_⟩
  exact (Keeps.mk k3.os k3.tape k3.output k3.size k3.block : Keeps (qb :: v.ownBlock.toList) w w1).setCell (Or.inl (by simp)) _
def QPopPost (qb : Nat) (v x : Value) (l : List It) (w : World) (e : Ending) (w' : World) : Prop :=
  e = .returned (.tuple #[.int .i64 (at_ (popL l) (l.length - 1)).key, .int .i64 (at_ (popL l) (l.length - 1)).n, .bool true]) ∧ ∃ v', v'.ownBlock = v.ownBlock ∧ QL w' qb v' x ((popL l).take (l.length - 1)) ∧ Keeps (qb :: v.ownBlock.toList) w w'
theorem qpop_nil (qb : Nat) (v x : Value) (w : World) (h : QL w qb v x []) : Calls Try.prog 12 #[P qb] w fun e w' => e = .returned (.tuple #[.int .i64 0, .int .i64 0, .bool false]) ∧ w = w' := by
  have HL := Lib.hid (qlen_ok qb v x [] w h)
  clear h
  unfold P at *
  go_enter Try.func12, Try.ntmps12
  go_wp2_with fail
  refine HL.out.mono ?_
  rintro e w' ⟨rfl, rfl⟩
  go_wp2
  go_ret3
  exact ⟨rfl, rfl⟩
theorem qpop_ok (qb : Nat) (v x : Value) (l : List It) (w : World) (h : QL w qb v x l) (h0 : 0 < l.length) (hl : l.length ≤ 1000000) : Calls Try.prog 12 #[P qb] w (QPopPost qb v x l w) := by
  have HL := Lib.hid (qlen_ok qb v x l w h)
  have HP := Lib.hid (hpop_ok qb v x l w h h0 hl)
  obtain ⟨n, hn⟩ : ∃ n, n = l.length := ⟨_, rfl⟩
  have hnz : ((l.length : Int) == 0) = false := beq_eq_false_iff_ne.2 (by omega)
  obtain ⟨y, hy⟩ : ∃ y, y = at_ (popL l) (l.length - 1) := ⟨_, rfl⟩
  have HY := Lib.hid hy
  clear h hn h0 hl hy
  unfold P at *
  go_enter Try.func12, Try.ntmps12
  go_wp2_with fail
  refine HL.out.mono ?_
  rintro e w' ⟨rfl, rfl⟩
  go_wp2_with fail
  refine HP.out.mono ?_
  rintro e w1 ⟨rfl, v', k1, k2, k3⟩
  have HK := Lib.hid (And.intro k1 (And.intro k2 k3))
  clear k1 k2 k3
  rw [← HY.out]
  obtain ⟨yk, yn, yp⟩ := y
  unfold It.val
  have hta : ∀ w, (Instr.typeAssert (.iface 52 (.agg #[.int .i64 yk, .int .i64 yn, .int .i64 yp])) 20 52 false).run Try.prog w = .ok (.agg #[.int .i64 yk, .int .i64 yn, .int .i64 yp]) w := fun w => by kernel_rfl
  go_wp2
  go_quiet (fail)
  go_wp2
  go_ret3
  obtain ⟨k1, k2, k3⟩ := HK.out
  have hka : Keeps [] w1 ((w1.alloc (.cells #[.int .i64 yk, .int .i64 yn, .int .i64 yp] 52)).drewN nq) := ((Keeps.refl _ _).alloc _).drewN nq
  refine ⟨?_, v', k1, k2.keep hka (by simp) (by simp), k3.trans' hka (by simp)⟩
  rw [← HY.out]
  rfl
def QHasPost (b : Bool) (w : World) (e : Ending) (w' : World) : Prop := e = .returned (.bool b) ∧ Keeps [] w w'
theorem qhas_ok (qb : Nat) (v x : Value) (l : List It) (n : Int) (w : World) (h : QL w qb v x l) : Calls Try.prog 19 #[P qb, .int .i64 n] w (QHasPost (decide (0 ≤ idxV (idxL n l 0))) w) := by
  obtain ⟨p, c, rfl, _, _⟩ := h.2.value
  obtain ⟨wa, hwa⟩ : ∃ wa, wa = (w.alloc (.cells #[.int .i64 n] 3)).alloc (.cells #[.func (.func 23) #[] #[]] 56) := ⟨_, rfl⟩
  have hka : Keeps [] w wa := by rw [hwa]; exact ((Keeps.refl _ _).alloc _).alloc _
  have hs : (w.alloc (.cells #[.int .i64 n] 3)).heap.size = w.heap.size + 1 := by show (w.heap.push _).size = _; simp
  have hcap : Cap wa (w.heap.size + 1) w.heap.size n := by
    rw [hwa]
    refine ⟨?_, heap_alloc_ne _ _ (heap_alloc w _)⟩
    have := heap_alloc (w.alloc (.cells #[.int .i64 n] 3)) (.cells #[.func (.func 23) #[] #[]] 56)
    rw [hs] at this
    exact this
  have hq := h.keep hka (by simp) (by simp)
  have c0 : ((w.alloc (.cells #[.int .i64 n] 3)).alloc (.cells #[.func (.func 23) #[] #[]] 56)).cell? ⟨qb, 0, none⟩ = some (.slice p l.length c) := by rw [← hwa]; exact cell_of hq.1 rfl
  have hct := contains29_ok (.slice p l.length c) l (w.heap.size + 1) w.heap.size n wa hq.2 hcap
  rw [hwa] at hct hka
  have HC := Lib.hid hct
  have HK := Lib.hid hka
  obtain ⟨r, hr⟩ : ∃ r, r = decide (0 ≤ idxV (idxL n l 0)) := ⟨_, rfl⟩
  rw [← hr] at HC ⊢
  clear h hwa hka hs hcap hq hct hr
  unfold P at *
  go_enter Try.func19, Try.ntmps19
  go_wp2_with fail
  refine HC.out.mono ?_
  rintro e w1 ⟨rfl, hk⟩
  go_wp2
  go_ret
  exact ⟨rfl, HK.out.trans hk⟩
end Go.Proofs.Ytginbdgoijeeoaa
