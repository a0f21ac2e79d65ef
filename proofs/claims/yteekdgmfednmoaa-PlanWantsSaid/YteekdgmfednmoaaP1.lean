/-
  container/heap's down over wants.
-/
import Derived.Test.YteekdgmfednmoaaP0
namespace Go.V.Queue
open Go Go.V
def at_ (l : List It) (i : Nat) : It := l.getD i default
def swapL (l : List It) (i j : Nat) : List It := (l.set i (at_ l j)).set j (at_ l i)
theorem length_swapL (l : List It) (i j : Nat) : (swapL l i j).length = l.length := by simp [swapL]
def downL (n : Nat) : Nat → List It → Nat → List It × Nat
  | 0, l, i => (l, i)
  | f + 1, l, i =>
    if n ≤ 2 * i + 1 then (l, i)
    else if 2 * i + 2 < n ∧ aheadB (at_ l (2 * i + 2)) (at_ l (2 * i + 1)) = true then
      (if aheadB (at_ l (2 * i + 2)) (at_ l i) = true then downL n f (swapL l i (2 * i + 2)) (2 * i + 2) else (l, i))
    else (if aheadB (at_ l (2 * i + 1)) (at_ l i) = true then downL n f (swapL l i (2 * i + 1)) (2 * i + 1) else (l, i))
theorem at_get {l : List It} {i : Nat} (h : i < l.length) : l[i]? = some (at_ l i) := by
  unfold at_; rw [List.getD_eq_getElem?_getD, List.getElem?_eq_getElem h]; rfl
end Go.V.Queue
namespace Go.Proofs.Yteekdgmfednmoaa
open Go.RowKit Go.V Go.V.Queue
/-- wants in memory -/
def QL (w : World) (qb : Nat) (v _x : Value) (l : List It) : Prop := w.heap[qb]? = some (.cells #[v] 43 (0, 0)) ∧ Row w v l
theorem QL.keep {S : List Nat} {w w' : World} {qb : Nat} {v x : Value} {l : List It} (h : QL w qb v x l) (hk : Keeps S w w') (h1 : qb ∉ S) (h2 : ∀ y ∈ S, v.ownBlock ≠ some y) : QL w' qb v x l := ⟨hk.get h.1 h1, h.2.keep hk h2⟩
theorem QL.swap {w w' : World} {qb : Nat} {v x : Value} {l l' : List It} (h : QL w qb v x l) (hr : Row w' v l') (hk : Keeps v.ownBlock.toList w w') : QL w' qb v x l' :=
  ⟨hk.get h.1 (fun q => row_ne h.2 h.1 (by decide) (by simpa using q)), hr⟩
def IF (qb : Nat) : Value := .iface 45 (.pointer (some ⟨qb, 0, none⟩))
def UPost (qb : Nat) (vs x : Value) (RES : List It) (w : World) (e : Ending) (w' : World) : Prop := e = .returned (.tuple #[]) ∧ QL w' qb vs x RES ∧ Keeps vs.ownBlock.toList w w'
end Go.Proofs.Yteekdgmfednmoaa
