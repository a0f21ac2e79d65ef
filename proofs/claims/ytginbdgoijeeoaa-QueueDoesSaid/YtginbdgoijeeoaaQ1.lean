/-
  container/heap's up and down over a queue's items.
-/
import Derived.Test.YtginbdgoijeeoaaQ0
namespace Go.V.Queue
open Go Go.V
def at_ (l : List It) (i : Nat) : It := l.getD i default
def swapL (l : List It) (i j : Nat) : List It := (l.set i (at_ l j)).set j (at_ l i)
theorem length_swapL (l : List It) (i j : Nat) : (swapL l i j).length = l.length := by simp [swapL]
def upL : Nat → List It → Nat → List It
  | 0, l, _ => l
  | f + 1, l, j => if j = 0 then l else if aheadB (at_ l j) (at_ l ((j - 1) / 2)) = true then upL f (swapL l ((j - 1) / 2) j) ((j - 1) / 2) else l
def downL (n : Nat) : Nat → List It → Nat → List It × Nat
  | 0, l, i => (l, i)
  | f + 1, l, i =>
    if n ≤ 2 * i + 1 then (l, i)
    else if 2 * i + 2 < n ∧ aheadB (at_ l (2 * i + 2)) (at_ l (2 * i + 1)) = true then
      (if aheadB (at_ l (2 * i + 2)) (at_ l i) = true then downL n f (swapL l i (2 * i + 2)) (2 * i + 2) else (l, i))
    else (if aheadB (at_ l (2 * i + 1)) (at_ l i) = true then downL n f (swapL l i (2 * i + 1)) (2 * i + 1) else (l, i))
theorem at_get {l : List It} {i : Nat} (h : i < l.length) : l[i]? = some (at_ l i) := by
  unfold at_; rw [List.getD_eq_getElem?_getD, List.getElem?_eq_getElem h]; rfl
end Go.V.Queue
namespace Go.Proofs.Ytginbdgoijeeoaa
open Go.RowKit Go.V Go.V.Queue
/-- a queue's items in memory -/
def QL (w : World) (qb : Nat) (v x : Value) (l : List It) : Prop := w.heap[qb]? = some (.cells #[v, x] 48 (0, 0)) ∧ Row w v l
theorem QL.keep {S : List Nat} {w w' : World} {qb : Nat} {v x : Value} {l : List It} (h : QL w qb v x l) (hk : Keeps S w w') (h1 : qb ∉ S) (h2 : ∀ y ∈ S, v.ownBlock ≠ some y) : QL w' qb v x l := ⟨hk.get h.1 h1, h.2.keep hk h2⟩
theorem QL.swap {w w' : World} {qb : Nat} {v x : Value} {l l' : List It} (h : QL w qb v x l) (hr : Row w' v l') (hk : Keeps v.ownBlock.toList w w') : QL w' qb v x l' :=
  ⟨hk.get h.1 (fun q => row_ne h.2 h.1 (by decide) (by simpa using q)), hr⟩
def IF (qb : Nat) : Value := .iface 50 (.pointer (some ⟨qb, 0, none⟩))
def UI (qb : Nat) (vs x : Value) (m : Nat) (RES : List It) (w : World) (k : Nat) (v : Value) (wx : World) : Prop :=
  ∃ (j : Nat) (l : List It), v = .int .i64 j ∧ j < m ∧ l.length = m ∧ j ≤ k ∧ upL k l j = RES ∧ QL wx qb vs x l ∧ Keeps vs.ownBlock.toList w wx
def UPost (qb : Nat) (vs x : Value) (RES : List It) (w : World) (e : Ending) (w' : World) : Prop := e = .returned (.tuple #[]) ∧ QL w' qb vs x RES ∧ Keeps vs.ownBlock.toList w w'
theorem upL_zero (k : Nat) (l : List It) : upL k l 0 = l := by cases k <;> simp [upL]
theorem up_ok (qb : Nat) (vs x : Value) (l : List It) (j : Nat) (w : World) (h : QL w qb vs x l) (hj : j < l.length) : Calls Try.prog 30 #[IF qb, .int .i64 j] w (UPost qb vs x (upL j l j) w) := by
  obtain ⟨RES, hR⟩ : ∃ RES, RES = upL j l j := ⟨_, rfl⟩
  obtain ⟨p, c, rfl, hmc, hc63⟩ := h.2.value
  obtain ⟨m, hm⟩ : ∃ m, m = l.length := ⟨_, rfl⟩
  rw [← hR]
  rw [← hm] at hj hmc h ⊢
  have H := Lib.hid h
  have HR := Lib.hid hR
  have HM := Lib.hid hm
  have hm63 : m ≤ 9223372036854775807 := by omega
  clear h hR hm
  unfold IF
  go_enter Try.func30, Try.ntmps30
  go_wp2_with fail
  go_loopg [1] j (fun k v wx => UI qb (.slice p m c) x m RES w k v wx)
  case atStart => exact ⟨j, l, rfl, hj, HM.out.symm, Nat.le_refl _, HR.out.symm, H.out, Keeps.refl _ _⟩
  case round =>
    obtain ⟨j, l, rfl, hj, hl, hjk, hres, hq, hk⟩ := hrel
    have c0 : wr.cell? ⟨qb, 0, none⟩ = some (.slice p m c) := cell_of hq.1 rfl
    have HQ := Lib.hid hq
    have HRS := Lib.hid (And.intro hres (And.intro hl hk))
    clear hq hres hk hl
    by_cases hj0 : j = 0
    · subst hj0
      go_wp2
      go_end0
      have h := HRS.out.1
      rw [upL_zero] at h
      exact ⟨rfl, h ▸ HQ.out, HRS.out.2.2⟩
    · obtain ⟨i, hi⟩ : ∃ i : Nat, i = (j - 1) / 2 := ⟨_, rfl⟩
      have hi1 : ((j : Int) - 1) / 2 = (i : Int) := by omega
      have hij : i < j := by omega
      have hijb : ((i : Int) == (j : Int)) = false := by simp; omega
      have hm1 := method_of m_less 186 qb wr p m c c0
      have hl1 := less_ok (.slice p m c) l j i (at_ l j) (at_ l i) wr HQ.out.2 (at_get (by rw [HRS.out.2.1]; exact hj)) (at_get (by rw [HRS.out.2.1]; omega))
      obtain ⟨b, hb⟩ : ∃ b, b = aheadB (at_ l j) (at_ l i) := ⟨_, rfl⟩
      rw [← hb] at hl1
      have HL := Lib.hid hl1
      have HB := Lib.hid (And.intro hb hi)
      clear hl1 hb hi
      go_wp2_with fail
      refine HL.out.mono ?_
      rintro e w1 ⟨rfl, hk1⟩
      have hq1 := HQ.out.keep hk1 (by simp) (by simp)
      have c1 : w1.cell? ⟨qb, 0, none⟩ = some (.slice p m c) := cell_of hq1.1 rfl
      have hm2 := method_of m_swap 186 qb w1 p m c c1
      have hsw := swap_ok (.slice p m c) l i j (at_ l i) (at_ l j) w1 hq1.2 (at_get (by rw [HRS.out.2.1]; omega)) (at_get (by rw [HRS.out.2.1]; exact hj))
      have HSW := Lib.hid hsw
      have HQ1 := Lib.hid hq1
      have HK1 := Lib.hid (HRS.out.2.2.trans' hk1 (by simp))
      clear hk1 hq1 hsw hm1 c0
      obtain ⟨k', hk'⟩ : ∃ k', gk = k' + 1 := ⟨gk - 1, by omega⟩
      cases b with
      | false =>
        go_wp2
        go_end0
        have h := HRS.out.1
        rw [hk', upL, if_neg hj0, ← HB.out.2, ← HB.out.1, if_neg (by simp)] at h
        exact ⟨rfl, h ▸ HQ1.out, HK1.out⟩
      | true =>
        go_wp2_with fail
        refine HSW.out.mono ?_
        rintro e w2 ⟨rfl, r1, r2⟩
        have HR2 := Lib.hid (And.intro r1 r2)
        clear r1 r2 hm2 c1
        go_wp2
        go_roundg (gk - 1)
        case measure => omega
        case rel =>
          have h := HRS.out.1
          rw [hk', upL, if_neg hj0, ← HB.out.2, ← HB.out.1, if_pos rfl] at h
          exact ⟨i, swapL l i j, rfl, by omega, by rw [length_swapL]; exact HRS.out.2.1, by omega, by rw [hk']; exact h, HQ1.out.swap HR2.out.1 HR2.out.2, HK1.out.trans HR2.out.2⟩
end Go.Proofs.Ytginbdgoijeeoaa
