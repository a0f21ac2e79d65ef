/-
  A region that draws its order: operations that are free first, then two that may come in either order, then the rest in one order.
-/
import Derived.Test.YtppmnjblcblofaaV1
namespace Go.V
open Go Go.RowKit
section
variable {P : Program} {ops : Array Oper} {Q : Exit → Act → World → Prop} {md : Region.Mode} {S : World → Prop}
/-- free operations, then X -/
def wpPre (P : Program) (ops : Array Oper) (S : World → Prop) (X : Act → World → Prop) : List Oper → Act → World → Prop
  | [], a, w => X a w
  | o :: r, a, w => ∃ v, YieldsIf P ops S o v a ∧ wpPre P ops S X r (a.put o.dst v) w
/-- either of two first -/
def wpFork (P : Program) (ops : Array Oper) (S : World → Prop) (Q : Exit → Act → World → Prop) (oi oj : Oper) (r1 r2 : List (Oper × Bool)) (a : Act) (w : World) : Prop :=
  wpList P ops (Then S (wpOrd P ops S Q r1) Q) [oi] a w ∧ wpList P ops (Then S (wpOrd P ops S Q r2) Q) [oj] a w
def forkB (md : Region.Mode) (ops : Array Oper) (i j : Nat) (r1 r2 : List (Nat × Bool)) (listed : Array Bool) : Bool :=
  decide (Region.ready md ops listed = [i, j]) && orderB md ops r1 (listed.setIfInBounds i true) && orderB md ops r2 (listed.setIfInBounds j true) && decide (r1.length = r2.length)
def preB (md : Region.Mode) (ops : Array Oper) (i j : Nat) (r1 r2 : List (Nat × Bool)) : List Nat → Array Bool → Bool
  | [], listed => forkB md ops i j r1 r2 listed
  | k :: r, listed => (Region.ready md ops listed).contains k && Region.free md ops listed k && preB md ops i j r1 r2 r (listed.setIfInBounds k true)
theorem wpFork_step (hs : Region.noSelect ops = true) (hQ : ∀ c d v (a : Act) w, Q (.panic c) (a.put d v) w → Q (.panic c) a w)
    {r : List (Nat × Bool)} {listed : Array Bool} {j : Nat} {a : Act} {w : World} (hj : j < ops.size) (hr : ∀ p ∈ r, p.1 < ops.size) (hB : orderB md ops r (listed.setIfInBounds j true) = true)
    (h : wpList P ops (Then S (wpOrd P ops S Q (pick ops.toList r)) Q) [ops.toList.getD j default] a w) : wpOp P ops Q j (fun a w => S w ∧ wpAnyH P md ops Q S r.length (listed.setIfInBounds j true) a w) a w := by
  obtain ⟨o, ho, hoD⟩ : ∃ o, ops[j]? = some o ∧ ops.toList.getD j default = o := ⟨ops[j], by simp [hj], by simp [List.getD_eq_getElem?_getD, hj]⟩
  rw [hoD] at h
  have key : ∀ a' w', wpList P ops (Then S (wpOrd P ops S Q (pick ops.toList r)) Q) [] a' w' → S w' ∧ wpAnyH P md ops Q S r.length (listed.setIfInBounds j true) a' w' := fun a' w' hh =>
    ⟨hh.1, wpOrd_sound hs hQ r _ a' w' hB hh.1 hr hh.2⟩
  unfold wpOp
  simp only [ho]
  unfold wpList at h
  split
  · rename_i hw
    rw [if_pos hw] at h
    rcases h with h | ⟨h1, h2⟩
    · left
      unfold Oper.wp at h ⊢
      generalize (execOp a.eval o).run P w = res at h
      cases res with
      | ok n w' =>
        cases n <;> simp only [Oper.upon] at h ⊢ <;>
          first
            | exact key _ _ h
            | exact Calls.mono h (fun e w'' he => by cases e <;> first | exact key _ _ he | exact he)
            | exact Rows.mono h (fun _ _ he => key _ _ he)
      | halt x w' => cases x <;> simp only [Oper.upon] at h ⊢ <;> exact h
    · exact .inr ⟨h1, h2⟩
  · rename_i hw
    rw [if_neg hw] at h
    exact key _ _ h
theorem wpPre_sound (hs : Region.noSelect ops = true) (hQ : ∀ c d v (a : Act) w, Q (.panic c) (a.put d v) w → Q (.panic c) a w) {i j : Nat} {r1 r2 : List (Nat × Bool)} (hi : i < ops.size) (hj : j < ops.size)
    (h1 : ∀ p ∈ r1, p.1 < ops.size) (h2 : ∀ p ∈ r2, p.1 < ops.size) :
    ∀ (l : List Nat) (listed : Array Bool) (a : Act) (w : World), preB md ops i j r1 r2 l listed = true → S w → (∀ k ∈ l, k < ops.size) →
      wpPre P ops S (wpFork P ops S Q (ops.toList.getD i default) (ops.toList.getD j default) (pick ops.toList r1) (pick ops.toList r2)) (l.map fun k => ops.toList.getD k default) a w → wpAnyH P md ops Q S (l.length + (r1.length + 1)) listed a w
  | [], listed, a, w, hB, hS, _, h => by
    simp only [preB, forkB, Bool.and_eq_true, decide_eq_true_eq] at hB
    obtain ⟨⟨⟨e1, e2⟩, e3⟩, e4⟩ := hB
    rw [List.length_nil, Nat.zero_add]
    refine wpAnyH_all e1 (by simp) ?_
    intro k hk
    simp only [List.mem_cons, List.not_mem_nil, or_false] at hk
    rcases hk with rfl | rfl
    · exact wpFork_step hs hQ hi h1 e2 h.1
    · have := wpFork_step (P := P) (S := S) hs hQ hj h2 e3 h.2
      rw [← e4] at this
      exact this
  | k :: r, listed, a, w, hB, hS, hl, h => by
    have hk : k < ops.size := hl _ (.head _)
    have hr : ∀ p ∈ r, p < ops.size := fun p hp => hl p (.tail _ hp)
    obtain ⟨o, ho, hoD⟩ : ∃ o, ops[k]? = some o ∧ ops.toList.getD k default = o := ⟨ops[k], by simp [hk], by simp [List.getD_eq_getElem?_getD, hk]⟩
    simp only [List.map_cons, hoD] at h
    obtain ⟨v, hy, h⟩ := h
    simp only [preB, Bool.and_eq_true] at hB
    rw [List.length_cons, show r.length + 1 + (r1.length + 1) = (r.length + (r1.length + 1)) + 1 by omega]
    exact wpAnyH_take ho hs hB.1.2 hB.1.1 (fun c a w => hQ c _ _ a w) hy hS (wpPre_sound hs hQ hi hj h1 h2 r _ _ w hB.2 hS hr h)
theorem vp_region_fork {id : Nat} {l : List Oper} {a : Act} {w : World} (S : World → Prop) (pre : List Nat) (i j : Nat) (r1 r2 : List (Nat × Bool)) (hm : P.follows .mixedOrders = true)
    (hB : (Region.noSelect l.toArray && decide (pre.length + (r1.length + 1) = l.length) && pre.all (fun k => decide (k < l.length)) && (r1 ++ r2).all (fun p => decide (p.1 < l.length)) && decide (i < l.length) && decide (j < l.length) && preB .any l.toArray i j r1 r2 pre (Array.replicate l.length false)) = true)
    (hQ : ∀ c d v (a : Act) w, Q (.panic c) (a.put d v) w → Q (.panic c) a w) (hS : S w.drew)
    (h : ∀ w', w' = w.drew → wpPre P l.toArray S (wpFork P l.toArray S Q (l.getD i default) (l.getD j default) (pick l r1) (pick l r2)) (pre.map fun k => l.getD k default) a w') : (Code.region id l.toArray true).wp P Q a w := by
  simp only [Bool.and_eq_true, decide_eq_true_eq] at hB
  obtain ⟨⟨⟨⟨⟨⟨b1, b2⟩, b3⟩, b4⟩, b5⟩, b6⟩, b7⟩ := hB
  refine wp_region_held (S := S) hm ?_
  have hall := List.all_eq_true.1 b4
  have := wpPre_sound (P := P) (md := .any) (S := S) b1 hQ (i := i) (j := j) (r1 := r1) (r2 := r2) (by simpa using b5) (by simpa using b6) (fun p hp => by simpa using hall p (List.mem_append.2 (Or.inl hp))) (fun p hp => by simpa using hall p (List.mem_append.2 (Or.inr hp)))
    pre (Array.replicate l.toArray.size false) a w.drew (by simpa using b7) hS (fun k hk => by simpa using List.all_eq_true.1 b3 k hk) (h _ rfl)
  rw [b2] at this
  simpa using this
theorem pre_free {X : Act → World → Prop} {o : Oper} {r : List Oper} {a : Act} {w : World} {v : Value} (hg : o.guard = none)
    (hv : ∀ w', S w' → (execOp a.eval o).run P w' = .ok (.value v) w') (h : wpPre P ops S X r (a.put o.dst v) w) : wpPre P ops S X (o :: r) a w :=
  ⟨v, .inl ⟨by simp [Region.wanted, hg], hv⟩, h⟩
theorem pre_nil {X : Act → World → Prop} {a : Act} {w : World} (h : X a w) : wpPre P ops S X [] a w := h
theorem fork_mk {oi oj : Oper} {r1 r2 : List (Oper × Bool)} {a : Act} {w : World} (h1 : wpList P ops (Then S (wpOrd P ops S Q r1) Q) [oi] a w) (h2 : wpList P ops (Then S (wpOrd P ops S Q r2) Q) [oj] a w) : wpFork P ops S Q oi oj r1 r2 a w := ⟨h1, h2⟩
end
end Go.V
