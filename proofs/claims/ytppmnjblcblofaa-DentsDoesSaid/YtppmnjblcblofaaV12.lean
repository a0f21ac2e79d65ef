/-
  A region that draws its order and whose operations are all free: carried out as they stand.
-/
import Derived.Test.YtppmnjblcblofaaV11
import Derived.Test.YtppmnjblcblofaaV9
namespace Go.V
open Go Go.RowKit
section
variable {P : Program} {ops : Array Oper} {Q : Exit → Act → World → Prop} {md : Region.Mode} {S : World → Prop}
def wpAll (P : Program) (ops : Array Oper) (S : World → Prop) (Q : Exit → Act → World → Prop) : List Oper → Act → World → Prop
  | [], a, w => Q .normal a w
  | o :: r, a, w => ∃ v, YieldsIf P ops S o v a ∧ wpAll P ops S Q r (a.put o.dst v) w
/-- i, i + 1, .., n of them -/
def seqN : Nat → Nat → List (Nat × Bool)
  | _, 0 => []
  | i, n + 1 => (i, true) :: seqN (i + 1) n
theorem seqN_mem : ∀ (n i : Nat), ∀ p ∈ seqN i n, p.1 < i + n
  | 0, _, p, h => by cases h
  | n + 1, i, p, h => by
    rcases List.mem_cons.1 h with rfl | h
    · show i < _; omega
    · have := seqN_mem n (i + 1) p h; omega
theorem seqN_length : ∀ (n i : Nat), (seqN i n).length = n
  | 0, _ => rfl
  | n + 1, i => by simp [seqN, seqN_length n]
theorem wpAll_ord (l : List Oper) : ∀ (r : List Oper) (i : Nat) (a : Act) (w : World), l.drop i = r → wpAll P ops S Q r a w → wpOrd P ops S Q (pick l (seqN i r.length)) a w
  | [], _, _, _, _, h => h
  | o :: r, i, a, w, hd, h => by
    obtain ⟨v, hy, h⟩ := h
    have hi : l.getD i default = o := by
      have : (l.drop i)[0]? = some o := by rw [hd]; rfl
      rw [List.getElem?_drop] at this
      simp [List.getD_eq_getElem?_getD] at this ⊢
      rw [this]; rfl
    simp only [List.length_cons, seqN, pick, List.map_cons, hi]
    refine ⟨v, hy, ?_⟩
    have := wpAll_ord l r (i + 1) (a.put o.dst v) w (by rw [← List.drop_drop, hd]; rfl) h
    exact this
theorem vp_region_all {id : Nat} {l : List Oper} {a : Act} {w : World} (S : World → Prop) (hm : P.follows .mixedOrders = true)
    (hB : (Region.noSelect l.toArray && orderB .any l.toArray (seqN 0 l.length) (Array.replicate l.length false)) = true)
    (hQ : ∀ c d v (a : Act) w, Q (.panic c) (a.put d v) w → Q (.panic c) a w) (hS : S w.drew)
    (h : ∀ w', w' = w.drew → wpAll P l.toArray S Q l a w') : (Code.region id l.toArray true).wp P Q a w := by
  simp only [Bool.and_eq_true] at hB
  refine vp_region S (seqN 0 l.length) hm ?_ hQ hS (fun w' hw' => wpAll_ord l l 0 a w' rfl (h w' hw'))
  simp only [Bool.and_eq_true, decide_eq_true_eq]
  refine ⟨⟨⟨hB.1, seqN_length _ _⟩, ?_⟩, hB.2⟩
  rw [List.all_eq_true]
  intro p hp
  have := seqN_mem _ _ p hp
  simpa using this
theorem all_free {o : Oper} {r : List Oper} {a : Act} {w : World} {v : Value} (hg : o.guard = none)
    (hv : ∀ w', S w' → (execOp a.eval o).run P w' = .ok (.value v) w') (h : wpAll P ops S Q r (a.put o.dst v) w) : wpAll P ops S Q (o :: r) a w :=
  ⟨v, .inl ⟨by simp [Region.wanted, hg], hv⟩, h⟩
theorem all_free_g {o : Oper} {r : List Oper} {a : Act} {w : World} {v : Value} (hg : Region.wanted o (yielded ops a.tmps) = true)
    (hv : ∀ w', S w' → (execOp a.eval o).run P w' = .ok (.value v) w') (h : wpAll P ops S Q r (a.put o.dst v) w) : wpAll P ops S Q (o :: r) a w :=
  ⟨v, .inl ⟨hg, hv⟩, h⟩
theorem all_skip {o : Oper} {r : List Oper} {a : Act} {w : World} (hg : Region.wanted o (yielded ops a.tmps) = false) (h : wpAll P ops S Q r (a.put o.dst undef) w) : wpAll P ops S Q (o :: r) a w :=
  ⟨undef, .inr ⟨hg, rfl⟩, h⟩
theorem all_nil {a : Act} {w : World} (h : Q .normal a w) : wpAll P ops S Q [] a w := h
end
end Go.V
