/-
  Laws for BlockDoes' walk.
-/
import Derived.Test.YthkeahjcokbaaaaB28
import Derived.Deep.Upon
namespace Go.V
open Go
section
variable {P : Program} {ops : Array Oper} {rest : List Oper} {o : Oper} {a : Act} {Q : Exit → Act → World → Prop} {w : World} {S : World → Prop}
theorem vp_append_nothing (hgd : o.guard = none) (s x : Operand) (t : TypeId) (ho : o.op = .call { callee := .builtin .append, args := #[s, x], argTypes := #[t, t] })
    (e : TypeId) (z : Value) (bytes : Nat) (ht : P.underlying t = some (.slice e)) (hi : (P.info? e).map (fun i => (i.zero, i.size, i.bytes)) = some (some z, 1, bytes))
    (base : Option Addr) (n cap : Nat) (hle : n ≤ cap) (hs : a.eval s = .slice base n cap) (p : Option Addr) (c : Nat) (hx : a.eval x = .slice p 0 c)
    (h : wpList P ops Q rest (a.put o.dst (.slice base n cap)) w) : wpList P ops Q (o :: rest) a w := by
  obtain ⟨i0, g1, g2, g3, g4⟩ := info_parts hi
  have hr : (Builtin.append_ #[t, t] o.type #[.slice base n cap, .slice p 0 c]).run P w = .ok (.slice base n cap) w := by
    refine run_append_nothing w t t o.type e i0 ht g1 base n cap hle _ ⟨.inl ⟨e, ht⟩, fun w' => ?_, ?_, ?_, by simp, by simp⟩
    · simp [Builtin.lenOf]
    · cases p <;> simp [Builtin.firstCells, loadCells, loadCellsFrom]
    · cases p <;> simp [Builtin.firstCells, loadCells, loadCellsFrom]
  refine wpList_plain hgd fun _ hK => ?_
  unfold Oper.wp execOp
  simp only [ho, resolve, invoke, builtin, Sem.run_bind, Sem.run_pure, Result.andThen_ok, List.map_toArray, List.map_cons, List.map_nil, hs, hx, hr]
  exact hK _ _ h
theorem own_fits {b : Nat} {e : TypeId} {v : Value} {xs : List Value} (h : Own w b e v xs) : Fits v := by
  intro p n c hv
  rcases h.2 with ⟨rfl, _⟩ | ⟨g, cap, cur, rfl, _, _, _, hm, _⟩
  · cases hv; omega
  · cases hv
    unfold maxLen at hm
    omega
theorem ord_free_g {o : Oper} {r : List (Oper × Bool)} {a : Act} {w : World} {v : Value} (hg : Region.wanted o (yielded ops a.tmps) = true)
    (hv : ∀ w', S w' → (execOp a.eval o).run P w' = .ok (.value v) w') (h : wpOrd P ops S Q r (a.put o.dst v) w) : wpOrd P ops S Q ((o, true) :: r) a w :=
  ⟨v, .inl ⟨hg, hv⟩, h⟩
end
end Go.V
namespace Go.Proofs.Ythkeahjcokbaaaa
open Go.RowKit Go.V Go.V.Block
theorem SD.keep {ab cb : Nat} {ad : Ad} {rd : Nat → Nat} {kk xb : Nat} {O N : Int} {vb : Value} {w w' : World} {S : List Nat} (h : SD ab cb ad rd kk xb O N vb w) (hk : Keeps S w w') (h1 : ab ∉ S) (h2 : cb ∉ S) (h3 : xb ∉ S) : SD ab cb ad rd kk xb O N vb w' := by
  obtain ⟨a, b, c, d, e⟩ := h
  have f : ∀ {x : Addr} {v : Value}, w.cell? x = some v → x.block ∉ S → w'.cell? x = some v := fun {x v} hx hn => (World.cell?_of_block (hk.block _ (Go.block_lt_of_cell hx) hn)).trans hx
  exact ⟨f a h1, f b h2, f c h3, f d h3, f e h3⟩
theorem fixed_p {W : World} {ab sb : Nat} {ad : Ad} {cb rs : Nat} {rd : Nat → Nat} (hs : Sep W ab sb ad) (hs2 : Sep2 W ab sb ad cb rs rd) {k : Nat} (hk : k < 4) : ab ∉ [sb, (ad k).1, (ad k).2] ∧ cb ∉ [sb, (ad k).1, (ad k).2] := by
  obtain ⟨d1, d2, d3, d4, d5, d6, d7⟩ := hs.2.2.2.1 k hk
  refine ⟨fun q => ?_, fun q => ?_⟩
  · simp only [List.mem_cons, List.not_mem_nil, or_false] at q
    have := hs.2.2.1
    omega
  · simp only [List.mem_cons, List.not_mem_nil, or_false] at q
    refine hs2.1 cb ?_ (Or.inl rfl)
    rcases q with q | q | q
    · exact Or.inr (Or.inl q)
    · exact Or.inr (Or.inr ⟨k, hk, Or.inl q⟩)
    · exact Or.inr (Or.inr ⟨k, hk, Or.inr q⟩)
theorem fixed_q {W wx : World} {ab sb : Nat} {ad : Ad} {cb rs : Nat} {rd : Nat → Nat} {F : Nat → List Nat} (hs2 : Sep2 W ab sb ad cb rs rd) (hf : Feet ab sb ad cb rs rd F W wx) {k : Nat} (hk : k < 4) : ab ∉ [rs, rd k] ++ F k ∧ cb ∉ [rs, rd k] ++ F k := by
  refine ⟨fun q => ?_, fun q => ?_⟩
  · simp only [List.cons_append, List.nil_append, List.mem_cons] at q
    rcases q with q | q | q
    · exact hs2.1 ab (Or.inl rfl) (Or.inr (Or.inl q))
    · exact hs2.1 ab (Or.inl rfl) (Or.inr (Or.inr ⟨k, hk, q⟩))
    · exact (hf.1 k hk _ q).2.2.1 (Or.inl rfl)
  · simp only [List.cons_append, List.nil_append, List.mem_cons] at q
    rcases q with q | q | q
    · exact hs2.2.2.2.1 q
    · exact (hs2.2.2.2.2.1 k hk).1 q.symm
    · exact (hf.1 k hk _ q).2.2.2 (Or.inl rfl)
/-- numbers of a byte each -/
def un (z : Int) : Value := .int .u8 z
def XI (g m base : Nat) (v0 : Value) (w : World) (k : Nat) (v : Value) (wx : World) : Prop :=
  ∃ (i : Nat) (ys : List Int), v = .int .i64 i ∧ i ≤ m ∧ m - i ≤ k ∧ ys.length = m ∧ Own wx base 5 v0 (ys.map un) ∧ Keeps [g] w wx
theorem bytes_un (l : List UInt8) : l.map bv = (l.map (fun x => (x.toNat : Int))).map un := by
  rw [List.map_map]; rfl
end Go.Proofs.Ythkeahjcokbaaaa
