/-
  Rows of structs: one cell set; heads and tails taken in a drawn region.
-/
import Derived.Test.YtppmnjblcblofaaV8
import Derived.Test.YtppmnjblcblofaaV9
namespace Go.V
open Go
variable {α : Type} {F : Form α} {e : TypeId}
theorem Form.all_set (F : Form α) : ∀ (l : List α) (i j : Nat) (x x' : α) (u : Value), l[i]? = some x → j < F.s → F.cs x' = (F.cs x).set j u → F.all (l.set i x') = (F.all l).set (i * F.s + j) u
  | [], _, _, _, _, _, h, _, _ => by simp at h
  | y :: l, 0, j, x, x', u, h, hj, hx => by
    obtain rfl : y = x := by simpa using h
    rw [List.set_cons_zero, F.all_cons, F.all_cons, hx, Nat.zero_mul, Nat.zero_add, List.set_append_left _ _ (by rw [F.len]; exact hj)]
  | y :: l, i + 1, j, x, x', u, h, hj, hx => by
    rw [List.set_cons_succ, F.all_cons, F.all_cons, F.all_set l i j x x' u (by simpa using h) hj hx, List.set_append_right _ _ (by rw [F.len, Nat.add_mul]; omega), F.len]
    have : (i + 1) * F.s + j - F.s = i * F.s + j := by rw [Nat.add_mul]; omega
    rw [this]
theorem RowG.setc {w : World} {g n c : Nat} {l : List α} (h : RowG F e w (.slice (some ⟨g, 0, none⟩) n c) l) {i j : Nat} {x x' : α} {u : Value} (hx : l[i]? = some x) (hj : j < F.s) (hx' : F.cs x' = (F.cs x).set j u) :
    RowG F e (w.setCell ⟨g, i * F.s + j, none⟩ u) (.slice (some ⟨g, 0, none⟩) n c) (l.set i x') ∧ Keeps [g] w (w.setCell ⟨g, i * F.s + j, none⟩ u) ∧ w.frozen? ⟨g, i * F.s + j, none⟩ = false := by
  obtain ⟨h1, h2⟩ := h
  rcases h2 with ⟨h2, _⟩ | ⟨g', cap, cur, hv, hb, hh, hc, hm, hs, ht⟩
  · cases h2
  · simp only [Value.slice.injEq, Option.some.injEq, Addr.mk.injEq] at hv
    obtain ⟨⟨rfl, _, _⟩, hn, rfl⟩ := hv
    refine ⟨⟨F.length_all _, Or.inr ⟨g, c, cur.setIfInBounds (i * F.s + j) u, by rw [List.length_set, hn], hb, heap_setCell hh, by rw [List.length_set]; exact hc, hm, by simpa using hs, ?_⟩⟩, (Keeps.refl _ _).setCell (Or.inl (by simp)) _, frozen_of _ hh⟩
    rw [List.length_set, F.all_set l i j x x' u hx hj hx', ← ht, Array.toList_setIfInBounds, List.take_set]
theorem Made.setc {w wx : World} {g n c : Nat} {l : List α} (h : Made F e w (.slice (some ⟨g, 0, none⟩) n c) l wx) {i j : Nat} {x x' : α} {u : Value} (hx : l[i]? = some x) (hj : j < F.s) (hx' : F.cs x' = (F.cs x).set j u) :
    Made F e w (.slice (some ⟨g, 0, none⟩) n c) (l.set i x') (wx.setCell ⟨g, i * F.s + j, none⟩ u) ∧ wx.frozen? ⟨g, i * F.s + j, none⟩ = false := by
  obtain ⟨h1, h2, h3⟩ := h.1.setc hx hj hx'
  exact ⟨⟨h1, h.2.1, h.2.2.trans' h2 (fun z hz => Or.inr (by obtain rfl := List.mem_singleton.1 hz; exact h.2.1 _ rfl))⟩, h3⟩
section
variable {P : Program}
theorem slice_head_g {t : TypeId} (ht : P.underlying t = some (.slice e)) (hsz : (P.info? e).map (·.size) = some F.s) {w : World} {v : Value} {l : List α} (hv : SG F w v l) (k : Nat) (hk : k ≤ l.length) :
    ∃ v', (∀ w', (Instr.sliceAt t v none (some (.int .i64 k)) none).run P w' = .ok v' w') ∧ (∀ w', SG F w' v l → SG F w' v' (l.take k)) ∧ v'.ownBlock = v.ownBlock := by
  obtain ⟨p, cap, rfl, hc, hm, _⟩ := hv
  have hel : P.elem t = e := by simp [Program.elem, ht]
  refine ⟨sliced p 0 k cap F.s, fun w' => ?_, fun w' hv => ?_, ownBlock_sliced ..⟩
  · rw [run_sliceAt_slice w' t _ _ _ _ (by rw [hel]; exact ht), run_slice_h (P := P) w' t p l.length cap (by rw [hel]; exact ht) .i64 (k : Int) (by omega) (by omega), hel]
    cases hq : P.info? e with
    | none => simp [hq] at hsz
    | some inf =>
      have h2 : inf.size = F.s := by simpa [hq] using hsz
      simp [sizeOf, typeInfo, hq, Sem.run_bind, Result.andThen, h2]
  · obtain ⟨p2, cap2, hv2, _, _, hr⟩ := hv
    simp only [Value.slice.injEq, true_and] at hv2
    obtain ⟨rfl, rfl⟩ := hv2
    refine ⟨if cap = 0 then p else p.map (·.add (0 * F.s)), cap - 0, by simp only [sliced, List.length_take]; rw [Nat.min_eq_left hk, Nat.sub_zero], by rw [List.length_take]; omega, by omega, fun h0 => ?_⟩
    rw [List.length_take] at h0
    obtain ⟨b, o', rfl, h2⟩ := hr (by omega)
    refine ⟨b, o', ?_, fun j u hu => ?_⟩
    · simp only [Option.map_some]
      split
      · rfl
      · rw [add_none, Nat.zero_mul, Nat.add_zero]
    · rw [F.all_take, List.getElem?_take] at hu
      split at hu
      · exact h2 _ _ hu
      · cases hu
theorem slice_tail_g {t : TypeId} (ht : P.underlying t = some (.slice e)) (hsz : (P.info? e).map (·.size) = some F.s) {w : World} {v : Value} {l : List α} (hv : SG F w v l) (k : Nat) (hk : k ≤ l.length) :
    ∃ v', (∀ w', (Instr.sliceAt t v (some (.int .i64 k)) none none).run P w' = .ok v' w') ∧ (∀ w', SG F w' v l → SG F w' v' (l.drop k)) ∧ v'.ownBlock = v.ownBlock := by
  obtain ⟨p, cap, rfl, hc, hm, _⟩ := hv
  have hel : P.elem t = e := by simp [Program.elem, ht]
  refine ⟨sliced p k l.length cap F.s, fun w' => ?_, fun w' hv => ?_, ownBlock_sliced ..⟩
  · rw [run_sliceAt_slice w' t _ _ _ _ (by rw [hel]; exact ht), run_slice_l (P := P) w' t p l.length cap (by rw [hel]; exact ht) .i64 (k : Int) (by omega) (by omega), hel]
    cases hq : P.info? e with
    | none => simp [hq] at hsz
    | some inf =>
      have h2 : inf.size = F.s := by simpa [hq] using hsz
      simp [sizeOf, typeInfo, hq, Sem.run_bind, Result.andThen, h2]
  · obtain ⟨p2, cap2, hv2, _, _, hr⟩ := hv
    simp only [Value.slice.injEq, true_and] at hv2
    obtain ⟨rfl, rfl⟩ := hv2
    refine ⟨if cap = k then p else p.map (·.add (k * F.s)), cap - k, by simp only [sliced, List.length_drop], by rw [List.length_drop]; omega, by omega, fun h0 => ?_⟩
    rw [List.length_drop] at h0
    obtain ⟨b, o', rfl, h2⟩ := hr (by omega)
    refine ⟨b, o' + k * F.s, ?_, fun j u hu => ?_⟩
    · simp only [Option.map_some]
      rw [if_neg (by omega), add_none]
    · rw [F.all_drop, List.getElem?_drop] at hu
      rw [Nat.add_assoc]
      exact h2 _ _ hu
variable {ops : Array Oper} {Q : Exit → Act → World → Prop} {S : World → Prop} {o : Oper} {r : List (Oper × Bool)} {a : Act} {w : World}
theorem ord_head {v v' : Value} {k : Int} (hg : o.guard = none) (x hi : Operand) (t : TypeId) (ho : o.op = .slice t x none (some hi) none) (hx : a.eval x = v) (hhi : a.eval hi = .int .i64 k)
    (hrun : ∀ w', (Instr.sliceAt t v none (some (.int .i64 k)) none).run P w' = .ok v' w') (h : wpOrd P ops S Q r (a.put o.dst v') w) : wpOrd P ops S Q ((o, true) :: r) a w :=
  ord_free hg (fun w' _ => by simp [execOp, ho, hx, hhi, hrun, Result.andThen]) h
theorem ord_tail {v v' : Value} {k : Int} (hg : o.guard = none) (x lo : Operand) (t : TypeId) (ho : o.op = .slice t x (some lo) none none) (hx : a.eval x = v) (hlo : a.eval lo = .int .i64 k)
    (hrun : ∀ w', (Instr.sliceAt t v (some (.int .i64 k)) none none).run P w' = .ok v' w') (h : wpOrd P ops S Q r (a.put o.dst v') w) : wpOrd P ops S Q ((o, true) :: r) a w :=
  ord_free hg (fun w' _ => by simp [execOp, ho, hx, hlo, hrun, Result.andThen]) h
end
end Go.V
