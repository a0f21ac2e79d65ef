/-
  A drawn region's guarded operations: carried out, passed over.
-/
import Derived.Test.YtppmnjblcblofaaV1
namespace Go.V
open Go
section
variable {P : Program} {ops : Array Oper} {Q : Exit → Act → World → Prop} {S : World → Prop}
theorem ord_skip {o : Oper} {r : List (Oper × Bool)} {a : Act} {w : World} (hg : Region.wanted o (yielded ops a.tmps) = false) (h : wpOrd P ops S Q r (a.put o.dst undef) w) : wpOrd P ops S Q ((o, true) :: r) a w :=
  ⟨undef, .inr ⟨hg, rfl⟩, h⟩
theorem ord_free_g {o : Oper} {r : List (Oper × Bool)} {a : Act} {w : World} {v : Value} (hg : Region.wanted o (yielded ops a.tmps) = true)
    (hv : ∀ w', S w' → (execOp a.eval o).run P w' = .ok (.value v) w') (h : wpOrd P ops S Q r (a.put o.dst v) w) : wpOrd P ops S Q ((o, true) :: r) a w :=
  ⟨v, .inl ⟨hg, hv⟩, h⟩
theorem ord_skip_eff {o : Oper} {r : List (Oper × Bool)} {a : Act} {w : World} (hg : Region.wanted o (yielded ops a.tmps) = false) (hS : S w) (h : wpOrd P ops S Q r (a.put o.dst undef) w) : wpOrd P ops S Q ((o, false) :: r) a w := by
  refine ord_eff ?_
  unfold wpList
  rw [if_neg (by rw [hg]; simp)]
  exact ord_next hS h
end
end Go.V
