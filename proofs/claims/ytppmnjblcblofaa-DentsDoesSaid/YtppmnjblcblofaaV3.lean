/-
  More laws at operations.
-/
import Derived.Test.YtppmnjblcblofaaV1
namespace Go.V
open Go Go.RowKit
section
variable {P : Program} {ops : Array Oper} {Q : Exit → Act → World → Prop}

theorem IterAt.ne_cells {κ β : Type} {w : World} {ke : κ → Value} {ve : β → Value} {l : List (κ × β)} {ib mb x : Nat} {seen : List κ} {cs : Array Value} {t : TypeId} {fr : Nat × Nat} (h : IterAt w ib mb ke ve l seen)
    (hx : w.heap[x]? = some (.cells cs t fr)) : x ≠ ib ∧ x ≠ mb := by
  obtain ⟨es, clk, sn, a, b, c, d, e, f, g⟩ := h
  exact ⟨(fun q => by subst q; rw [hx] at f; cases f), (fun q => by subst q; rw [hx] at a; cases a)⟩
theorem MapAt.ne_cells {κ β : Type} {w : World} {ke : κ → Value} {ve : β → Value} {l : List (κ × β)} {mb x : Nat} {cs : Array Value} {t : TypeId} {fr : Nat × Nat} (h : MapAt w mb ke ve l)
    (hx : w.heap[x]? = some (.cells cs t fr)) : x ≠ mb := by
  obtain ⟨es, clk, a, _⟩ := h
  exact fun q => by subst q; rw [hx] at a; cases a

/-- 'clear(s)', s the tail from i on of a row that is known whole -/
theorem vp_clear {rest : List Oper} {o : Oper} {a : Act} {w : World} (hgd : o.guard = none) (x : Operand) (t : TypeId) (ho : o.op = .call { callee := .builtin .clear, args := #[x], argTypes := #[t] }) (e : TypeId) (ht : P.underlying t = some (.slice e)) (z : Value)
    (hz : (zeroValue e).run P w = .ok z w) (hzc : z.cells = #[z]) (h1 : z.oneCell' = true) (g i n cap : Nat) (hx : a.eval x = .slice (some ⟨g, i, none⟩) n cap) (hn : 0 < n) (cur : List Value) (t' : TypeId) (hg : w.heap[g]? = some (.cells cur.toArray t' (0, 0))) (hfit : i + n ≤ cur.length)
    (h : ∀ w', Hid (w'.heap[g]? = some (.cells (spl cur i (List.replicate n z)).toArray t' (0, 0))) → Keeps [g] w w' → w'.heap.size = w.heap.size → wpList P ops Q rest (a.put o.dst (.tuple #[])) w') : wpList P ops Q (o :: rest) a w := by
  have h := h (w.setRow g (spl cur i (List.replicate n z)).toArray) (heap_setRow hg) ((Keeps.refl _ _).setRow (Or.inl (by simp)) _) (by simp [World.setRow])
  refine wpList_plain hgd fun K' hK' => ?_
  have hzl : (Builtin.zeroCells z.cells n).toList = List.replicate n z := by
    rw [hzc]
    apply List.ext_getElem
    · simp [Builtin.zeroCells]
    · intro j h1 h2
      simp [Builtin.zeroCells, Nat.mod_one]
  have hst := run_storeCells_at (P := P) g i t' (List.replicate n z) 0 cur.toArray w hg (by simp; omega) (by intro v hv; rw [(List.mem_replicate.1 hv).2]; exact h1)
  simp only [Nat.add_zero, List.length_replicate, List.append_assoc] at hst
  have hrun : (Builtin.clear_ #[t] o.type #[.slice (some ⟨g, i, none⟩) n cap]).run P w = .ok (.tuple #[]) (w.setRow g (spl cur i (List.replicate n z)).toArray) := by
    obtain ⟨m, rfl⟩ : ∃ m, n = m + 1 := ⟨n - 1, by omega⟩
    simp [Builtin.clear_, run_underlying ht, Sem.run_bind, Result.andThen, hz, hzl, hst, spl]
  unfold Oper.wp
  simp [execOp, ho, resolve, invoke, builtin, hx, hrun, Result.andThen]
  exact hK' _ _ h

/-- 'm[k] = v' while m is ranged over, k a key that is there -/
theorem vp_iter_update {κ β : Type} [DecidableEq κ] {rest : List Oper} {o : Oper} {a : Act} {w : World} {ke : κ → Value} {ve : β → Value} {l : List (κ × β)} {ib mb : Nat} {seen : List κ} (hg : o.guard = none) (m x v : Operand) (t : TypeId) (hop : o.op = Op.mapUpdate t m x v) (kt et : TypeId)
    (ht : P.underlying t = some (.map kt et)) (K : KeyOk P kt ke) (hm : a.eval m = .map (some mb)) (k : κ) (hx : a.eval x = ke k) (b : β) (hv : a.eval v = ve b) (h : IterAt w ib mb ke ve l seen) (hk : k ∈ keys l)
    (hK : ∀ w', IterAt w' ib mb ke ve (put l k b) seen → Keeps [mb] w w' → wpList P ops Q rest (a.put o.dst undef) w') : wpList P ops Q (o :: rest) a w := by
  refine wpList_plain hg fun K' hK' => ?_
  obtain ⟨w', hrun, r1, r2⟩ := h.update K ht k hk b
  unfold Oper.wp
  simp [execOp, hop, hm, hx, hv, hrun, Result.andThen]
  exact hK' _ _ (hK w' r1 r2)
theorem vp_iter_delete {κ β : Type} [DecidableEq κ] {rest : List Oper} {o : Oper} {a : Act} {w : World} {ke : κ → Value} {ve : β → Value} {l : List (κ × β)} {ib mb : Nat} {seen : List κ} (hg : o.guard = none) (m x : Operand) (t kt' : TypeId)
    (hop : o.op = Op.call { callee := Callee.builtin Builtin.delete, args := #[m, x], argTypes := #[t, kt'] }) (kt et : TypeId) (ht : P.underlying t = some (.map kt et)) (K : KeyOk P kt ke) (hm : a.eval m = .map (some mb)) (k : κ) (hx : a.eval x = ke k) (h : IterAt w ib mb ke ve l seen)
    (hK : ∀ w', IterAt w' ib mb ke ve (del l k) seen → Keeps [mb] w w' → wpList P ops Q rest (a.put o.dst (.tuple #[])) w') : wpList P ops Q (o :: rest) a w := by
  refine wpList_plain hg fun K' hK' => ?_
  obtain ⟨w', hrun, r1, r2⟩ := h.delete K ht k kt' o.type
  unfold Oper.wp
  simp [execOp, hop, resolve, invoke, builtin, hm, hx, hrun, Result.andThen]
  exact hK' _ _ (hK w' r1 r2)
end
end Go.V
