/-
  Rows of structs: copies within and between rows.
-/
import Derived.Test.YtppmnjblcblofaaV8
import Derived.Laws.CopyRow
namespace Go.V
open Go
variable {α : Type} {F : Form α} {e : TypeId} {P : Program}
theorem run_copy_rowK (w : World) (dT sT ty elem : TypeId) (s g o dLen dCap : Nat) (a : Addr) (sLen sCap : Nat) (cur : Array Value) (t : TypeId) (cs : List Value)
    (hu : P.underlying dT = some (.slice elem)) (hs : (P.info? elem).map (·.size) = some s)
    (hg : w.heap[g]? = some (.cells cur t (0, 0))) (hn : cs.length = Nat.min sLen dLen * s)
    (hsrc : ∀ j v, cs[j]? = some v → w.cell? (a.add j) = some v) (hfit : o + cs.length ≤ cur.size) (h1 : ∀ v ∈ cs, v.oneCell' = true) :
    (Builtin.copy_ #[dT, sT] ty #[.slice (some ⟨g, o, none⟩) dLen dCap, .slice (some a) sLen sCap]).run P w =
      .ok (goInt (Nat.min sLen dLen)) (w.setRow g (cur.toList.take o ++ cs ++ cur.toList.drop (o + cs.length)).toArray) := by
  have hl := run_loadCells_list (P := P) w a cs hsrc
  have hst := run_storeCells_at P g o t cs 0 cur w hg (by simpa using hfit) h1
  cases hq : P.info? elem with
  | none => simp [hq] at hs
  | some i =>
    have hi : i.size = s := by simpa [hq] using hs
    simp [Builtin.copy_, run_underlying hu, Builtin.lenOf, Builtin.firstCells, sizeOf, typeInfo, hq, hi, ← hn, hl, hst]
theorem ins_splice {β : Type} (C A B X : List β) (k : Nat) (hA : A.length = k) (hC : C.take k = A) (hlen : k + X.length + B.length ≤ C.length) :
    ((C.take (k + X.length) ++ B ++ C.drop (k + X.length + B.length)).take k ++ X ++ (C.take (k + X.length) ++ B ++ C.drop (k + X.length + B.length)).drop (k + X.length)) = A ++ X ++ B ++ C.drop (k + X.length + B.length) := by
  have h1 : (C.take (k + X.length)).length = k + X.length := by rw [List.length_take]; omega
  have h2 : (C.take (k + X.length) ++ B ++ C.drop (k + X.length + B.length)).take k = A := by
    rw [List.append_assoc, List.take_append_of_le_length (by omega), List.take_take, Nat.min_eq_left (by omega), hC]
  have h3 : (C.take (k + X.length) ++ B ++ C.drop (k + X.length + B.length)).drop (k + X.length) = B ++ C.drop (k + X.length + B.length) := by
    rw [List.append_assoc, List.drop_append, h1, List.drop_eq_nil_of_le (by omega), List.nil_append, Nat.sub_self, List.drop_zero]
  rw [h2, h3]
  simp only [List.append_assoc]
theorem ins_splice2 {β : Type} (C A B X : List β) (k : Nat) (hA : A.length = k) (hC : C.take k = A) (hlen : k + X.length + B.length ≤ C.length) :
    ((C.take k ++ X ++ C.drop (k + X.length)).take (k + X.length) ++ B ++ (C.take k ++ X ++ C.drop (k + X.length)).drop (k + X.length + B.length)) = A ++ X ++ B ++ C.drop (k + X.length + B.length) := by
  have h0 : (A ++ X).length = k + X.length := by rw [List.length_append, hA]
  have h2 : (C.take k ++ X ++ C.drop (k + X.length)).take (k + X.length) = A ++ X := by
    rw [hC, ← h0, List.take_left]
  have h3 : (C.take k ++ X ++ C.drop (k + X.length)).drop (k + X.length + B.length) = C.drop (k + X.length + B.length) := by
    rw [hC, List.drop_append, h0, List.drop_eq_nil_of_le (by omega), List.nil_append, List.drop_drop]
    congr 1
    omega
  rw [h2, h3]
theorem RowG.of_row {w : World} {g n c : Nat} {cs : Array Value} {l : List α} (hh : w.heap[g]? = some (.cells cs e (0, 0))) (hn : n = l.length) (hc : l.length ≤ c) (hm : c ≤ maxLen) (hs : cs.size = c * F.s) (ht : cs.toList.take (l.length * F.s) = F.all l) :
    RowG F e w (.slice (some ⟨g, 0, none⟩) n c) l := by
  subst hn
  exact ⟨F.length_all l, Or.inr ⟨g, c, cs, rfl, Nat.zero_le _, hh, hc, hm, hs, ht⟩⟩
end Go.V
