/-
  Package queue: numbers looked for: is, the closures, slices.IndexFunc, slices.ContainsFunc.
-/
import Derived.Test.YtginbdgoijeeoaaQ4
namespace Go.V.Queue
open Go Go.V
/-- the first item of a number, from i on -/
def idxL (n : Int) : List It → Nat → Option Nat
  | [], _ => none
  | x :: l, i => if x.n = n then some i else idxL n l (i + 1)
theorem idxL_none {n : Int} : ∀ (l : List It) (i : Nat), idxL n l i = none ↔ ∀ x ∈ l, x.n ≠ n
  | [], _ => by simp [idxL]
  | x :: l, i => by
    unfold idxL
    by_cases h : x.n = n
    · rw [if_pos h]; simp [h]
    · rw [if_neg h, idxL_none l (i + 1)]; simp [h]
theorem idxL_some {n : Int} : ∀ (l : List It) (i k : Nat), idxL n l i = some k → ∃ j, k = i + j ∧ j < l.length ∧ (at_ l j).n = n ∧ ∀ m, m < j → (at_ l m).n ≠ n
  | [], _, _, h => by simp [idxL] at h
  | x :: l, i, k, h => by
    unfold idxL at h
    by_cases hx : x.n = n
    · rw [if_pos hx] at h
      exact ⟨0, by simpa using h.symm, by simp, hx, fun m hm => by omega⟩
    · rw [if_neg hx] at h
      obtain ⟨j, h1, h2, h3, h4⟩ := idxL_some l (i + 1) k h
      refine ⟨j + 1, by omega, by simp; omega, by simpa [at_] using h3, fun m hm => ?_⟩
      cases m with
      | zero => exact hx
      | succ m => simpa [at_] using h4 m (by omega)
theorem idxL_from {n : Int} (l : List It) (i : Nat) (hi : i < l.length) : idxL n (l.drop i) i = if (at_ l i).n = n then some i else idxL n (l.drop (i + 1)) (i + 1) := by
  have : l.drop i = at_ l i :: l.drop (i + 1) := by
    rw [List.drop_eq_getElem_cons hi]
    unfold at_
    rw [List.getD_eq_getElem?_getD, List.getElem?_eq_getElem hi]; rfl
  rw [this]; rfl
def idxV : Option Nat → Int
  | none => -1
  | some k => k
end Go.V.Queue
namespace Go.Proofs.Ytginbdgoijeeoaa
open Go.RowKit Go.V Go.V.Queue
theorem is_ok (x : It) (n : Int) (w : World) : Calls Try.prog 23 #[x.val, .int .i64 n] w (BPost (x.n == n) w) := by
  obtain ⟨a, b, c⟩ := x
  unfold It.val
  go_enter Try.func23, Try.ntmps23
  go_wp2
  go_ret
  exact ⟨rfl, (Keeps.refl _ _).alloc _⟩
/-- what a closure that looks for n captures -/
def Cap (w : World) (ca cb : Nat) (n : Int) : Prop := w.heap[ca]? = some (.cells #[.func (.func 23) #[] #[]] 56 (0, 0)) ∧ w.heap[cb]? = some (.cells #[.int .i64 n] 3 (0, 0))
theorem Cap.keep {S : List Nat} {w w' : World} {ca cb : Nat} {n : Int} (h : Cap w ca cb n) (hk : Keeps S w w') (h1 : ca ∉ S) (h2 : cb ∉ S) : Cap w' ca cb n := ⟨hk.get h.1 h1, hk.get h.2 h2⟩
def P (i : Nat) : Value := .pointer (some ⟨i, 0, none⟩)
theorem clos25_ok (x : It) (ca cb : Nat) (n : Int) (w : World) (h : Cap w ca cb n) : Calls Try.prog 25 #[x.val, P ca, P cb] w (BPost (x.n == n) w) := by
  have H := Lib.hid h
  have hx := is_ok x n
  clear h
  obtain ⟨a, b, c⟩ := x
  unfold It.val P at *
  have hk : Keeps [] w (w.alloc (.cells #[.int .i64 a, .int .i64 b, .int .i64 c] 52)) := (Keeps.refl _ _).alloc _
  have H2 := H.out.keep hk (by simp) (by simp)
  have c1 : (w.alloc (.cells #[.int .i64 a, .int .i64 b, .int .i64 c] 52)).cell? ⟨ca, 0, none⟩ = some (.func (.func 23) #[] #[]) := cell_of H2.1 rfl
  have c2 : (w.alloc (.cells #[.int .i64 a, .int .i64 b, .int .i64 c] 52)).cell? ⟨cb, 0, none⟩ = some (.int .i64 n) := cell_of H2.2 rfl
  have HX := Lib.hid hx
  clear hx
  go_enter Try.func25, Try.ntmps25
  go_wp2_with fail
  refine (HX.out _).mono ?_
  rintro e w2 ⟨rfl, hk2⟩
  go_wp2
  go_ret
  exact ⟨rfl, hk.trans hk2⟩
theorem clos29_ok (x : It) (ca cb : Nat) (n : Int) (w : World) (h : Cap w ca cb n) : Calls Try.prog 29 #[x.val, P ca, P cb] w (BPost (x.n == n) w) := by
  have H := Lib.hid h
  have hx := is_ok x n
  clear h
  obtain ⟨a, b, c⟩ := x
  unfold It.val P at *
  have hk : Keeps [] w (w.alloc (.cells #[.int .i64 a, .int .i64 b, .int .i64 c] 52)) := (Keeps.refl _ _).alloc _
  have H2 := H.out.keep hk (by simp) (by simp)
  have c1 : (w.alloc (.cells #[.int .i64 a, .int .i64 b, .int .i64 c] 52)).cell? ⟨ca, 0, none⟩ = some (.func (.func 23) #[] #[]) := cell_of H2.1 rfl
  have c2 : (w.alloc (.cells #[.int .i64 a, .int .i64 b, .int .i64 c] 52)).cell? ⟨cb, 0, none⟩ = some (.int .i64 n) := cell_of H2.2 rfl
  have HX := Lib.hid hx
  clear hx
  go_enter Try.func29, Try.ntmps29
  go_wp2_with fail
  refine (HX.out _).mono ?_
  rintro e w2 ⟨rfl, hk2⟩
  go_wp2
  go_ret
  exact ⟨rfl, hk.trans hk2⟩
def FI (_v : Value) (l : List It) (n : Int) (RES : Option Nat) (w : World) (k : Nat) (vi : Value) (wx : World) : Prop :=
  ∃ i : Nat, vi = .int .i64 i ∧ i ≤ l.length ∧ l.length - i ≤ k ∧ idxL n (l.drop i) i = RES ∧ Keeps [] w wx
def IPost (r : Option Nat) (w : World) (e : Ending) (w' : World) : Prop := e = .returned (.int .i64 (idxV r)) ∧ Keeps [] w w'
theorem index25_ok (v : Value) (l : List It) (ca cb : Nat) (n : Int) (w : World) (h : Row w v l) (hc : Cap w ca cb n) : Calls Try.prog 32 #[v, .func (.func 25) #[] #[P ca, P cb]] w (IPost (idxL n l 0) w) := by
  obtain ⟨p, c, rfl, hlc, hc63⟩ := h.value
  obtain ⟨RES, hR⟩ : ∃ RES, RES = idxL n l 0 := ⟨_, rfl⟩
  obtain ⟨m, hm⟩ : ∃ m, m = l.length := ⟨_, rfl⟩
  rw [← hR]
  rw [← hm] at h hlc ⊢
  have H := Lib.hid (And.intro h hc)
  have HR := Lib.hid hR
  have HM := Lib.hid hm
  clear h hR hm hc
  go_enter Try.func32, Try.ntmps32
  go_wp2_with fail
  go_loopg [8] m (fun k vi wx => FI (.slice p m c) l n RES w k vi wx)
  case atStart => exact ⟨0, rfl, Nat.zero_le _, by rw [← HM.out]; omega, by rw [List.drop_zero]; exact HR.out.symm, Keeps.refl _ _⟩
  case round =>
    obtain ⟨i, rfl, hi, hik, hres, hk⟩ := hrel
    rw [← HM.out] at hi hik
    have HX := Lib.hid (And.intro hres hk)
    clear hres hk
    by_cases hlt : i < m
    · have hrow := H.out.1.keep HX.out.2 (by simp)
      obtain ⟨g, cap, cur, hv, _⟩ := hrow.shape (by rw [← HM.out]; omega)
      rw [← HM.out] at hv
      simp only [Value.slice.injEq] at hv
      obtain ⟨rfl, _, rfl⟩ := hv
      obtain ⟨d0, d1, d2⟩ := hrow.item rfl (at_get (l := l) (i := i) (by rw [← HM.out]; exact hlt))
      have HC := Lib.hid (clos25_ok (at_ l i) ca cb n wr (H.out.2.keep HX.out.2 (by simp) (by simp)))
      have hfr := HX.out.1
      rw [idxL_from l i (by rw [← HM.out]; exact hlt)] at hfr
      have HF := Lib.hid hfr
      clear hrow hfr
      go_wp2_with fail
      refine HC.out.mono ?_
      rintro e w2 ⟨rfl, hk2⟩
      have HK2 := Lib.hid (HX.out.2.trans hk2)
      clear hk2 d0 d1 d2
      by_cases hn : (at_ l i).n = n
      · have hb : ((at_ l i).n == n) = true := by simp [hn]
        rw [hb]
        go_wp2
        go_ret
        have hf := HF.out
        rw [if_pos hn] at hf
        rw [← hf]
        exact ⟨rfl, HK2.out⟩
      · have hb : ((at_ l i).n == n) = false := by simp [hn]
        rw [hb]
        go_wp2
        go_roundg (gk - 1)
        case measure => omega
        case rel =>
          have hf := HF.out
          rw [if_neg hn] at hf
          exact ⟨i + 1, by push_cast; rfl, by rw [← HM.out]; omega, by rw [← HM.out]; omega, hf, HK2.out⟩
    · go_wp2
      go_ret
      have hf := HX.out.1
      rw [List.drop_of_length_le (by rw [← HM.out]; omega)] at hf
      rw [← hf]
      exact ⟨rfl, HX.out.2⟩
end Go.Proofs.Ytginbdgoijeeoaa
