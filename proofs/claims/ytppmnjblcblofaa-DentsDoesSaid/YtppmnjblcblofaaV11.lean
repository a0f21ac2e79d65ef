/-
  A region that draws its order: a tree of the orders that may come up.
-/
import Derived.Test.YtppmnjblcblofaaV7
namespace Go.V
open Go Go.RowKit
/-- orders: 'take': a free operation, taken first; 'one': the one that may come; 'two': either of two -/
inductive Tr (α : Type) where
  | nil
  | take (i : α) (t : Tr α)
  | one (i : α) (t : Tr α)
  | two (i : α) (t : Tr α) (j : α) (u : Tr α)
def Tr.pick (l : List Oper) : Tr Nat → Tr Oper
  | .nil => .nil
  | .take i t => .take (l.getD i default) (t.pick l)
  | .one i t => .one (l.getD i default) (t.pick l)
  | .two i t j u => .two (l.getD i default) (t.pick l) (l.getD j default) (u.pick l)
section
variable {P : Program} {ops : Array Oper} {Q : Exit → Act → World → Prop} {md : Region.Mode} {S : World → Prop}
/-- how many operations; both sides alike -/
def treeB (md : Region.Mode) (ops : Array Oper) : Tr Nat → Nat → Array Bool → Bool
  | .nil, n, listed => decide (n = 0) && (Region.ready md ops listed).isEmpty
  | .take i t, n, listed => decide (0 < n) && decide (i < ops.size) && (Region.ready md ops listed).contains i && Region.free md ops listed i && treeB md ops t (n - 1) (listed.setIfInBounds i true)
  | .one i t, n, listed => decide (0 < n) && decide (i < ops.size) && decide (Region.ready md ops listed = [i]) && treeB md ops t (n - 1) (listed.setIfInBounds i true)
  | .two i t j u, n, listed => decide (0 < n) && decide (i < ops.size) && decide (j < ops.size) && decide (Region.ready md ops listed = [i, j]) && treeB md ops t (n - 1) (listed.setIfInBounds i true) && treeB md ops u (n - 1) (listed.setIfInBounds j true)
def wpTr (P : Program) (ops : Array Oper) (S : World → Prop) (Q : Exit → Act → World → Prop) : Tr Oper → Act → World → Prop
  | .nil, a, w => Q .normal a w
  | .take o t, a, w => ∃ v, YieldsIf P ops S o v a ∧ wpTr P ops S Q t (a.put o.dst v) w
  | .one o t, a, w => wpList P ops (Then S (wpTr P ops S Q t) Q) [o] a w
  | .two o t o' u, a, w => wpList P ops (Then S (wpTr P ops S Q t) Q) [o] a w ∧ wpList P ops (Then S (wpTr P ops S Q u) Q) [o'] a w
theorem wpTr_step {R K : Act → World → Prop} {j : Nat} {a : Act} {w : World} (hj : j < ops.size) (hK : ∀ a w, S w → R a w → K a w)
    (h : wpList P ops (Then S R Q) [ops.toList.getD j default] a w) : wpOp P ops Q j K a w := by
  obtain ⟨o, ho, hoD⟩ : ∃ o, ops[j]? = some o ∧ ops.toList.getD j default = o := ⟨ops[j], by simp [hj], by simp [List.getD_eq_getElem?_getD, hj]⟩
  rw [hoD] at h
  have key : ∀ a' w', wpList P ops (Then S R Q) [] a' w' → K a' w' := fun a' w' hh => hK a' w' hh.1 hh.2
  unfold wpOp
  simp only [ho]
  unfold wpList at h
  split
  · rename_i hw
    rw [if_pos hw] at h
    rcases h with h | ⟨h1, h2⟩
    · left
      unfold Oper.wp at h ⊢
      generalize (execOp a.eval o).run P w = res at h
      cases res with
      | ok n w' =>
        cases n <;> simp only [Oper.upon] at h ⊢ <;>
          first
            | exact key _ _ h
            | exact Calls.mono h (fun e w'' he => by cases e <;> first | exact key _ _ he | exact he)
            | exact Rows.mono h (fun _ _ he => key _ _ he)
      | halt x w' => cases x <;> simp only [Oper.upon] at h ⊢ <;> exact h
    · exact .inr ⟨h1, h2⟩
  · rename_i hw
    rw [if_neg hw] at h
    exact key _ _ h
theorem wpTr_sound (hs : Region.noSelect ops = true) (hQ : ∀ c d v (a : Act) w, Q (.panic c) (a.put d v) w → Q (.panic c) a w) :
    ∀ (t : Tr Nat) (n : Nat) (listed : Array Bool) (a : Act) (w : World), treeB md ops t n listed = true → S w → wpTr P ops S Q (t.pick ops.toList) a w → wpAnyH P md ops Q S n listed a w
  | .nil, n, listed, a, w, hB, _, h => by
    simp only [treeB, Bool.and_eq_true, decide_eq_true_eq] at hB
    obtain ⟨rfl, h2⟩ := hB
    exact ⟨by simpa using h2, h⟩
  | .take i t, n, listed, a, w, hB, hS, h => by
    simp only [treeB, Bool.and_eq_true, decide_eq_true_eq] at hB
    obtain ⟨⟨⟨⟨h1, hi⟩, h3⟩, h4⟩, h5⟩ := hB
    obtain ⟨m, rfl⟩ : ∃ m, n = m + 1 := ⟨n - 1, by omega⟩
    obtain ⟨o, ho, hoD⟩ : ∃ o, ops[i]? = some o ∧ ops.toList.getD i default = o := ⟨ops[i], by simp [hi], by simp [List.getD_eq_getElem?_getD, hi]⟩
    simp only [Tr.pick, hoD] at h
    obtain ⟨v, hy, h⟩ := h
    exact wpAnyH_take ho hs h4 h3 (fun c a w => hQ c _ _ a w) hy hS (wpTr_sound hs hQ t m _ _ w h5 hS h)
  | .one i t, n, listed, a, w, hB, hS, h => by
    simp only [treeB, Bool.and_eq_true, decide_eq_true_eq] at hB
    obtain ⟨⟨⟨h1, hi⟩, h3⟩, h5⟩ := hB
    obtain ⟨m, rfl⟩ : ∃ m, n = m + 1 := ⟨n - 1, by omega⟩
    refine wpAnyH_all h3 (by simp) ?_
    intro j hj
    obtain rfl : j = i := by simpa using hj
    exact wpTr_step hi (fun a' w' h1 h2 => ⟨h1, wpTr_sound hs hQ t m _ a' w' h5 h1 h2⟩) h
  | .two i t j u, n, listed, a, w, hB, hS, h => by
    simp only [treeB, Bool.and_eq_true, decide_eq_true_eq] at hB
    obtain ⟨⟨⟨⟨⟨h1, hi⟩, hj⟩, h3⟩, h5⟩, h6⟩ := hB
    obtain ⟨m, rfl⟩ : ∃ m, n = m + 1 := ⟨n - 1, by omega⟩
    refine wpAnyH_all h3 (by simp) ?_
    intro k hk
    simp only [List.mem_cons, List.not_mem_nil, or_false] at hk
    rcases hk with rfl | rfl
    · exact wpTr_step hi (fun a' w' h1 h2 => ⟨h1, wpTr_sound hs hQ t m _ a' w' h5 h1 h2⟩) h.1
    · exact wpTr_step hj (fun a' w' h1 h2 => ⟨h1, wpTr_sound hs hQ u m _ a' w' h6 h1 h2⟩) h.2
theorem vp_region_tree {id : Nat} {l : List Oper} {a : Act} {w : World} (S : World → Prop) (t : Tr Nat) (hm : P.follows .mixedOrders = true)
    (hB : (Region.noSelect l.toArray && treeB .any l.toArray t l.length (Array.replicate l.length false)) = true)
    (hQ : ∀ c d v (a : Act) w, Q (.panic c) (a.put d v) w → Q (.panic c) a w) (hS : S w.drew)
    (h : ∀ w', w' = w.drew → wpTr P l.toArray S Q (t.pick l) a w') : (Code.region id l.toArray true).wp P Q a w := by
  simp only [Bool.and_eq_true] at hB
  refine wp_region_held (S := S) hm ?_
  have := wpTr_sound (P := P) (md := .any) (S := S) hB.1 hQ t l.length (Array.replicate l.toArray.size false) a w.drew (by simpa using hB.2) hS (h _ rfl)
  simpa using this
theorem tr_free {t : Tr Oper} {o : Oper} {a : Act} {w : World} {v : Value} (hg : o.guard = none)
    (hv : ∀ w', S w' → (execOp a.eval o).run P w' = .ok (.value v) w') (h : wpTr P ops S Q t (a.put o.dst v) w) : wpTr P ops S Q (.take o t) a w :=
  ⟨v, .inl ⟨by simp [Region.wanted, hg], hv⟩, h⟩
theorem tr_free_g {t : Tr Oper} {o : Oper} {a : Act} {w : World} {v : Value} (hg : Region.wanted o (yielded ops a.tmps) = true)
    (hv : ∀ w', S w' → (execOp a.eval o).run P w' = .ok (.value v) w') (h : wpTr P ops S Q t (a.put o.dst v) w) : wpTr P ops S Q (.take o t) a w :=
  ⟨v, .inl ⟨hg, hv⟩, h⟩
theorem tr_skip {t : Tr Oper} {o : Oper} {a : Act} {w : World} (hg : Region.wanted o (yielded ops a.tmps) = false) (h : wpTr P ops S Q t (a.put o.dst undef) w) : wpTr P ops S Q (.take o t) a w :=
  ⟨undef, .inr ⟨hg, rfl⟩, h⟩
theorem tr_one {t : Tr Oper} {o : Oper} {a : Act} {w : World} (h : wpList P ops (Then S (wpTr P ops S Q t) Q) [o] a w) : wpTr P ops S Q (.one o t) a w := h
theorem tr_two {t u : Tr Oper} {o o' : Oper} {a : Act} {w : World} (h : wpList P ops (Then S (wpTr P ops S Q t) Q) [o] a w) (h' : wpList P ops (Then S (wpTr P ops S Q u) Q) [o'] a w) : wpTr P ops S Q (.two o t o' u) a w := ⟨h, h'⟩
theorem tr_next {R : Act → World → Prop} {a : Act} {w : World} (hS : S w) (h : R a w) : wpList P ops (Then S R Q) [] a w := ⟨hS, h⟩
theorem tr_nil {a : Act} {w : World} (h : Q .normal a w) : wpTr P ops S Q .nil a w := h
end
end Go.V
