/-
  Strings at operations.
-/
import Derived.Test.YtppmnjblcblofaaV1
namespace Go.V
open Go Go.RowKit Go.MapKept
section
variable {P : Program} {ops : Array Oper} {Q : Exit → Act → World → Prop} {rest : List Oper} {o : Oper} {a : Act} {w : World}
theorem vp_strne (hw : Region.wanted o (yielded ops a.tmps) = true) (x y : Operand) (t u : TypeId) (ho : o.op = .binOp .neq t x y u) {s r : ByteArray} (hx : a.eval x = .string s) (hy : a.eval y = .string r)
    (hK : wpList P ops Q rest (a.put o.dst (.bool (!decide (s = r)))) w) : wpList P ops Q (o :: rest) a w := by
  have hb : (s == r) = decide (s = r) := by
    by_cases e : s = r
    · rw [decide_eq_true e, (bytes_beq s r).2 e]
    · rw [decide_eq_false e]
      cases h : s == r with
      | false => rfl
      | true => exact absurd ((bytes_beq s r).1 h) e
  unfold wpList
  rw [if_pos hw]
  left
  unfold Oper.wp
  simp [execOp, ho, hx, hy, eqGuard, binOp, Op.stringOp]
  rw [← beq_toListBytes, hb]
  exact hK
theorem vp_strcat (hw : Region.wanted o (yielded ops a.tmps) = true) (x y : Operand) (t u : TypeId) (ho : o.op = .binOp .add t x y u) {s r : ByteArray} (hx : a.eval x = .string s) (hy : a.eval y = .string r) (hs : s.size + r.size ≤ 9223372036854775807)
    (hK : wpList P ops Q rest (a.put o.dst (.string (s ++ r))) w) : wpList P ops Q (o :: rest) a w := by
  unfold wpList
  rw [if_pos hw]
  left
  unfold Oper.wp
  have hs' : ¬ (9223372036854775807 : Int) < (s.size : Int) + (r.size : Int) := by omega
  simp [execOp, ho, hx, hy, eqGuard, binOp, Op.stringOp, hs']
  exact hK
theorem bytes_cat (a b : List UInt8) : (⟨a.toArray⟩ : ByteArray) ++ ⟨b.toArray⟩ = ⟨(a ++ b).toArray⟩ := by
  apply ByteArray.ext
  simp [ByteArray.data_append]
end
end Go.V
