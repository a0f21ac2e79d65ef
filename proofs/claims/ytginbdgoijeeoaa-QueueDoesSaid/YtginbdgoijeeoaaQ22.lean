/-
  How often a number stands in a row of pairs.
-/
import Derived.Test.YtginbdgoijeeoaaQ21
namespace Go.V.Queue
open Go Go.V
def cnt (N : Int) (r : List Pr) : Int := (r.countP (fun x => x.2 == N) : Nat)
theorem cnt_nil (N : Int) : cnt N [] = 0 := rfl
theorem cnt_cons (N : Int) (x : Pr) (r : List Pr) : cnt N (x :: r) = if x.2 = N then cnt N r + 1 else cnt N r := by
  unfold cnt
  rw [List.countP_cons]
  by_cases h : x.2 = N
  · simp [h]
  · simp [h]
theorem cnt_perm {N : Int} {a b : List Pr} (h : a.Perm b) : cnt N a = cnt N b := by
  unfold cnt; rw [h.countP_eq]
theorem cnt_ins (N : Int) (x : Pr) (r : List Pr) : cnt N (insP x r) = if x.2 = N then cnt N r + 1 else cnt N r := by
  rw [cnt_perm (insP_perm x r), cnt_cons]
theorem cnt_bound (N : Int) (r : List Pr) : 0 ≤ cnt N r ∧ cnt N r ≤ r.length := by
  have : r.countP (fun x => x.2 == N) ≤ r.length := List.countP_le_length
  unfold cnt; omega
theorem cnt_many (N : Int) (r : List Pr) : (r.length : Int) - (keepP N r).length = cnt N r := by
  induction r with
  | nil => rfl
  | cons x r ih =>
    rw [cnt_cons]
    by_cases h : x.2 = N
    · have e1 : keepP N (x :: r) = keepP N r := by unfold keepP; rw [List.filter_cons_of_neg (by simp [h])]
      rw [e1, if_pos h, ← ih, List.length_cons]; push_cast; omega
    · have e1 : keepP N (x :: r) = x :: keepP N r := by unfold keepP; rw [List.filter_cons_of_pos (by simp [h])]
      rw [e1, if_neg h, ← ih, List.length_cons, List.length_cons]; push_cast; omega
theorem cnt_keep (N M : Int) (r : List Pr) : cnt M (keepP N r) = if N = M then 0 else cnt M r := by
  induction r with
  | nil => simp [keepP, cnt]
  | cons x r ih =>
    by_cases h : x.2 = N
    · have e1 : keepP N (x :: r) = keepP N r := by unfold keepP; rw [List.filter_cons_of_neg (by simp [h])]
      rw [e1, ih]
      by_cases e : N = M
      · rw [if_pos e, if_pos e]
      · rw [if_neg e, if_neg e, cnt_cons, if_neg (by rw [h]; exact e)]
    · have e1 : keepP N (x :: r) = x :: keepP N r := by unfold keepP; rw [List.filter_cons_of_pos (by simp [h])]
      rw [e1, cnt_cons, ih]
      by_cases e : N = M
      · rw [if_pos e, if_pos e, if_neg (by rw [← e]; exact h)]
      · rw [if_neg e, if_neg e, cnt_cons]
theorem any_cnt (N : Int) (r : List Pr) : r.any (fun x => x.2 == N) = decide (0 < cnt N r) := by
  rw [Bool.eq_iff_iff, List.any_eq_true, decide_eq_true_eq]
  unfold cnt
  rw [show (0 : Int) < ((r.countP (fun x => x.2 == N) : Nat) : Int) ↔ 0 < r.countP (fun x => x.2 == N) by omega, List.countP_pos_iff]
end Go.V.Queue
namespace Go.V
open Go
section
variable {P : Program} {ops : Array Oper} {o : Oper} {a : Act} {Q : Exit → Act → World → Prop} {w : World} {S : World → Prop}
theorem ord_free_g {o : Oper} {r : List (Oper × Bool)} {a : Act} {w : World} {v : Value} (hg : Region.wanted o (yielded ops a.tmps) = true)
    (hv : ∀ w', S w' → (execOp a.eval o).run P w' = .ok (.value v) w') (h : wpOrd P ops S Q r (a.put o.dst v) w) : wpOrd P ops S Q ((o, true) :: r) a w :=
  ⟨v, .inl ⟨hg, hv⟩, h⟩
end
end Go.V
namespace Go.Proofs.Ytginbdgoijeeoaa
open Go.RowKit Go.V Go.V.Queue
def Many (mb : Nat) (r : List Pr) (w : World) : Prop := ∃ many : List (Int × Int), MapAt w mb keyI keyI many ∧ ∀ k, (get many k).getD 0 = cnt k r
theorem Many.keep {S : List Nat} {mb : Nat} {r : List Pr} {w w' : World} (h : Many mb r w) (hk : Keeps S w w') (hm : mb ∉ S) : Many mb r w' := by
  obtain ⟨m, h1, h2⟩ := h
  exact ⟨m, h1.keep hk hm, h2⟩
theorem Many.lk {mb : Nat} {r : List Pr} {w : World} (h : Many mb r w) (k : Int) : (Instr.lookup 43 (.map (some mb)) (.int .i64 k) false).run Try.prog w = .ok (.int .i64 (cnt k r)) w := by
  obtain ⟨m, h1, h2⟩ := h
  have hlk := h1.lookup kI Try.underlying43 (z := .int .i64 0) (et := 3) (show (zeroValue 3).run Try.prog w = .ok (.int .i64 0) w by kernel_rfl) k false
  have h2 := h2 k
  refine hlk.trans ?_
  cases hg : get m k with
  | none => rw [hg] at h2; rw [← h2]; rfl
  | some x => rw [hg] at h2; rw [← h2]; rfl
theorem Many.lt {mb : Nat} {r : List Pr} {w : World} (h : Many mb r w) : mb < w.heap.size := by obtain ⟨m, h1, _⟩ := h; exact h1.lt
theorem Many.ne {mb x : Nat} {r : List Pr} {w : World} (h : Many mb r w) {cs : Array Value} {t : TypeId} {fr : Nat × Nat} (hx : w.heap[x]? = some (.cells cs t fr)) : x ≠ mb := by
  obtain ⟨m, h1, _⟩ := h; exact h1.ne_cells hx
/-- a queue and how often each number stands in it -/
def PQ (W : World) (qb : Nat) (v : Value) (p : Int) (r : List Pr) (mb : Nat) (wx : World) : Prop :=
  QS W qb v p r wx ∧ Many mb r wx ∧ W.heap.size ≤ mb
theorem PQ.ne {W wx : World} {qb mb : Nat} {v : Value} {p : Int} {r : List Pr} (h : PQ W qb v p r mb wx) : mb ∉ Foot qb v := by
  obtain ⟨h1, ⟨m, hm, _⟩, _⟩ := h
  exact h1.ne_map hm
theorem PQ.keep {W wx w' : World} {qb mb : Nat} {v : Value} {p : Int} {r : List Pr} (h : PQ W qb v p r mb wx) (hk : Keeps [] wx w') : PQ W qb v p r mb w' :=
  ⟨h.1.keep hk (by simp) (by simp), h.2.1.keep hk (by simp), h.2.2⟩
end Go.Proofs.Ytginbdgoijeeoaa
