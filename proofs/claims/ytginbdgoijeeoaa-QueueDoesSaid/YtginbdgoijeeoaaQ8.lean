/-
  Package queue: its methods.
-/
import Derived.Test.YtginbdgoijeeoaaQ7
namespace Go.Proofs.Ytginbdgoijeeoaa
open Go.RowKit Go.V Go.V.Queue
def NewPost (w : World) (e : Ending) (w' : World) : Prop := ∃ qb, w.heap.size ≤ qb ∧ e = .returned (P qb) ∧ QL w' qb (.slice none 0 0) (.int .i64 0) [] ∧ Keeps [] w w'
theorem qnew_ok (w : World) : Calls Try.prog 9 #[] w (NewPost w) := by
  go_enter Try.func9, Try.ntmps9
  go_wp2
  go_ret
  exact ⟨w.heap.size, Nat.le_refl _, rfl, ⟨heap_alloc w _, ⟨rfl, Or.inl ⟨rfl, rfl⟩⟩⟩, (Keeps.refl _ _).alloc _⟩
theorem qlen_ok (qb : Nat) (v x : Value) (l : List It) (w : World) (h : QL w qb v x l) : Calls Try.prog 18 #[P qb] w fun e w' => e = .returned (.int .i64 l.length) ∧ w = w' := by
  obtain ⟨p, c, rfl, _, _⟩ := h.2.value
  have c0 : w.cell? ⟨qb, 0, none⟩ = some (.slice p l.length c) := cell_of h.1 rfl
  clear h
  unfold P
  go_enter Try.func18, Try.ntmps18
  go_wp2_with fail
  refine (len_ok p l.length c w).mono ?_
  rintro e w' ⟨rfl, rfl⟩
  go_wp2
  go_ret
  exact ⟨rfl, rfl⟩
def PkPost (l : List It) (w : World) (e : Ending) (w' : World) : Prop := e = .returned (.tuple #[.int .i64 (if l.length = 0 then 0 else (at_ l 0).key), .int .i64 (if l.length = 0 then 0 else (at_ l 0).n), .bool (decide (0 < l.length))]) ∧ ∃ k, w' = w.drewN k
theorem qpeek_ok (qb : Nat) (v x : Value) (l : List It) (w : World) (h : QL w qb v x l) : Calls Try.prog 16 #[P qb] w (PkPost l w) := by
  have HL := Lib.hid (qlen_ok qb v x l w h)
  by_cases h0 : l.length = 0
  · have hl : l = [] := List.eq_nil_of_length_eq_zero h0
    subst hl
    clear h h0
    unfold P at *
    go_enter Try.func16, Try.ntmps16
    go_wp2_with fail
    refine HL.out.mono ?_
    rintro e w' ⟨rfl, rfl⟩
    go_wp2
    go_ret3
    exact ⟨rfl, 0, rfl⟩
  · obtain ⟨g, c, cur, rfl, _⟩ := h.2.shape (by omega)
    obtain ⟨d0, d1, _⟩ := h.2.item rfl (at_get (l := l) (i := 0) (by omega))
    obtain ⟨n, hn⟩ : ∃ n, n = l.length := ⟨_, rfl⟩
    rw [← hn] at h h0 HL
    have c0 : w.cell? ⟨qb, 0, none⟩ = some (.slice (some ⟨g, 0, none⟩) n c) := cell_of h.1 rfl
    have HN := Lib.hid hn
    have hnz : ((n : Int) == 0) = false := beq_eq_false_iff_ne.2 (by omega)
    have hn0 : (0 : Int) < (n : Int) := by omega
    obtain ⟨K, hK⟩ : ∃ K, K = (at_ l 0).key := ⟨_, rfl⟩
    obtain ⟨M, hM⟩ : ∃ M, M = (at_ l 0).n := ⟨_, rfl⟩
    rw [← hK] at d0
    rw [← hM] at d1
    have HKM := Lib.hid (And.intro hK hM)
    have H0 := Lib.hid h0
    rw [Nat.zero_mul] at d0 d1
    clear h hn hK hM h0
    unfold P at *
    go_enter Try.func16, Try.ntmps16
    go_wp2_with fail
    refine HL.out.mono ?_
    rintro e w' ⟨rfl, rfl⟩
    go_wp2
    go_quiet (fail)
    go_wp2
    go_ret3
    refine ⟨?_, _, rfl⟩
    rw [HKM.out.1, HKM.out.2, if_neg (by rw [← HN.out]; exact H0.out), if_neg (by rw [← HN.out]; exact H0.out), decide_eq_true (by have := H0.out; have := HN.out; omega)]
    rfl
end Go.Proofs.Ytginbdgoijeeoaa
