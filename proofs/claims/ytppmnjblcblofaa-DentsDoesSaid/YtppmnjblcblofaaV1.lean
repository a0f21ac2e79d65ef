/-
  A region that draws its order, carried out in an order that the prover names.
-/
import Derived.Test.YtppmnjblcblofaaV0
namespace Go.V
open Go Go.RowKit

section
variable {P : Program} {ops : Array Oper} {Q : Exit → Act → World → Prop} {md : Region.Mode} {S : World → Prop}

/-- Q, but behind this operation S holds and the rest follows -/
def Then (S : World → Prop) (R : Act → World → Prop) (Q : Exit → Act → World → Prop) : Exit → Act → World → Prop
  | .normal, a, w => S w ∧ R a w
  | e, a, w => Q e a w

def orderB (md : Region.Mode) (ops : Array Oper) : List (Nat × Bool) → Array Bool → Bool
  | [], listed => (Region.ready md ops listed).isEmpty
  | (i, true) :: r, listed => (Region.ready md ops listed).contains i && Region.free md ops listed i && orderB md ops r (listed.setIfInBounds i true)
  | (i, false) :: r, listed => decide (Region.ready md ops listed = [i]) && orderB md ops r (listed.setIfInBounds i true)

def wpOrd (P : Program) (ops : Array Oper) (S : World → Prop) (Q : Exit → Act → World → Prop) : List (Oper × Bool) → Act → World → Prop
  | [], a, w => Q .normal a w
  | (o, true) :: r, a, w => ∃ v, YieldsIf P ops S o v a ∧ wpOrd P ops S Q r (a.put o.dst v) w
  | (o, false) :: r, a, w => wpList P ops (Then S (wpOrd P ops S Q r) Q) [o] a w

/-- the operations in the order named -/
def pick (l : List Oper) (ord : List (Nat × Bool)) : List (Oper × Bool) := ord.map fun p => (l.getD p.1 default, p.2)

theorem wpOrd_sound (hs : Region.noSelect ops = true) (hQ : ∀ c d v (a : Act) w, Q (.panic c) (a.put d v) w → Q (.panic c) a w) :
    ∀ (l : List (Nat × Bool)) (listed : Array Bool) (a : Act) (w : World), orderB md ops l listed = true → S w → (∀ p ∈ l, p.1 < ops.size) → wpOrd P ops S Q (pick ops.toList l) a w → wpAnyH P md ops Q S l.length listed a w
  | [], listed, a, w, hB, _, _, h => ⟨by simpa [orderB] using hB, h⟩
  | (i, true) :: r, listed, a, w, hB, hS, hl, h => by
    have hi : i < ops.size := hl _ (.head _)
    have hr : ∀ p ∈ r, p.1 < ops.size := fun p hp => hl p (.tail _ hp)
    obtain ⟨o, ho, hoD⟩ : ∃ o, ops[i]? = some o ∧ ops.toList.getD i default = o := ⟨ops[i], by simp [hi], by simp [List.getD_eq_getElem?_getD, hi]⟩
    simp only [pick, List.map_cons, hoD] at h
    obtain ⟨v, hy, h⟩ := h
    simp only [orderB, Bool.and_eq_true] at hB
    exact wpAnyH_take ho hs hB.1.2 hB.1.1 (fun c a w => hQ c _ _ a w) hy hS (wpOrd_sound hs hQ r _ _ w hB.2 hS hr h)
  | (i, false) :: r, listed, a, w, hB, hS, hl, h => by
    have hi : i < ops.size := hl _ (.head _)
    have hr : ∀ p ∈ r, p.1 < ops.size := fun p hp => hl p (.tail _ hp)
    obtain ⟨o, ho, hoD⟩ : ∃ o, ops[i]? = some o ∧ ops.toList.getD i default = o := ⟨ops[i], by simp [hi], by simp [List.getD_eq_getElem?_getD, hi]⟩
    simp only [pick, List.map_cons, hoD] at h
    simp only [wpOrd] at h
    simp only [orderB, Bool.and_eq_true, decide_eq_true_eq] at hB
    refine wpAnyH_all hB.1 (by simp) ?_
    intro j hj
    obtain rfl : j = i := by simpa using hj
    have key : ∀ a' w', wpList P ops (Then S (wpOrd P ops S Q (pick ops.toList r)) Q) [] a' w' → S w' ∧ wpAnyH P md ops Q S r.length (listed.setIfInBounds j true) a' w' := fun a' w' hh =>
      ⟨hh.1, wpOrd_sound hs hQ r _ a' w' hB.2 hh.1 hr hh.2⟩
    unfold wpOp
    simp only [ho]
    unfold wpList at h
    split
    · rename_i hw
      rw [if_pos hw] at h
      rcases h with h | ⟨h1, h2⟩
      · left
        unfold Oper.wp at h ⊢
        generalize (execOp a.eval o).run P w = res at h
        cases res with
        | ok n w' =>
          cases n <;> simp only [Oper.upon] at h ⊢ <;>
            first
              | exact key _ _ h
              | exact Calls.mono h (fun e w'' he => by cases e <;> first | exact key _ _ he | exact he)
              | exact Rows.mono h (fun _ _ he => key _ _ he)
        | halt x w' => cases x <;> simp only [Oper.upon] at h ⊢ <;> exact h
      · exact .inr ⟨h1, h2⟩
    · rename_i hw
      rw [if_neg hw] at h
      exact key _ _ h

/-- a region that draws its order, in the order l: '(i, true)' yields its value in every world that meets S; '(i, false)' does something, and nothing else may come up where it stands -/
theorem vp_region {id : Nat} {l : List Oper} {a : Act} {w : World} (S : World → Prop) (ord : List (Nat × Bool)) (hm : P.follows .mixedOrders = true)
    (hB : (Region.noSelect l.toArray && decide (ord.length = l.length) && ord.all (fun p => decide (p.1 < l.length)) && orderB .any l.toArray ord (Array.replicate l.length false)) = true)
    (hQ : ∀ c d v (a : Act) w, Q (.panic c) (a.put d v) w → Q (.panic c) a w) (hS : S w.drew)
    (h : ∀ w', w' = w.drew → wpOrd P l.toArray S Q (pick l ord) a w') : (Code.region id l.toArray true).wp P Q a w := by
  simp only [Bool.and_eq_true, decide_eq_true_eq] at hB
  refine wp_region_held (S := S) hm ?_
  have := wpOrd_sound (md := .any) hB.1.1.1 hQ ord (Array.replicate l.toArray.size false) a w.drew (by simpa using hB.2) hS (fun p hp => by simpa using List.all_eq_true.1 hB.1.2 p hp) (h _ rfl)
  rw [hB.1.1.2] at this
  simpa using this

theorem ord_nil {a : Act} {w : World} (h : Q .normal a w) : wpOrd P ops S Q [] a w := h
theorem ord_free {o : Oper} {r : List (Oper × Bool)} {a : Act} {w : World} {v : Value} (hg : o.guard = none)
    (hv : ∀ w', S w' → (execOp a.eval o).run P w' = .ok (.value v) w') (h : wpOrd P ops S Q r (a.put o.dst v) w) : wpOrd P ops S Q ((o, true) :: r) a w :=
  ⟨v, .inl ⟨by simp [Region.wanted, hg], hv⟩, h⟩
theorem ord_eff {o : Oper} {r : List (Oper × Bool)} {a : Act} {w : World} (h : wpList P ops (Then S (wpOrd P ops S Q r) Q) [o] a w) : wpOrd P ops S Q ((o, false) :: r) a w := h
theorem ord_next {r : List (Oper × Bool)} {a : Act} {w : World} (hS : S w) (h : wpOrd P ops S Q r a w) : wpList P ops (Then S (wpOrd P ops S Q r) Q) [] a w := ⟨hS, h⟩
theorem still_val {w : World} {a : Act} {o : Oper} {rest : List Oper} {R : Act → Prop} (hg : o.guard = none) {v : Value} (hv : (execOp a.eval o).run P w = .ok (.value v) w) (h : wpStill P ops w R rest (a.put o.dst v)) : wpStill P ops w R (o :: rest) a := by
  unfold wpStill
  rw [if_pos (by simp [Region.wanted, hg])]
  unfold Oper.still
  rw [hv]
  exact ⟨rfl, h⟩
theorem still_load_row {w : World} {a : Act} {o : Oper} {rest : List Oper} {R : Act → Prop} (hg : o.guard = none) (ty : TypeId) (x : Operand) (ho : o.op = .load ty x) (g : Nat) (hx : a.eval x = .pointer (some ⟨g, 0, none⟩)) (t : TypeId) (cs : Array Value) (d : TypeDesc)
    (hh : w.heap[g]? = some (.cells cs t (0, 0))) (hu : P.underlying ty = some d) (hd : (match d with | .struct _ | .array _ _ => true | _ => false) = true) (hi : (P.info? ty).map (·.size) = some cs.size)
    (h : wpStill P ops w R rest (a.put o.dst (.agg cs))) : wpStill P ops w R (o :: rest) a :=
  still_val hg (by
    unfold execOp
    simp only [ho, hx, Instr.loadAt, Instr.sureAddr, Sem.run_bind, Sem.run_pure, Result.andThen_ok, run_loadVar_row w g t ty cs (0, 0) d hh hu hd hi]) h
end
end Go.V
