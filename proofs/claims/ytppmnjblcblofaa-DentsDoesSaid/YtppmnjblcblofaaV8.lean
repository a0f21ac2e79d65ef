/-
  Rows of structs of the call's own, whatever their size.
-/
import Derived.Test.YtppmnjblcblofaaV6
import Derived.Test.YtppmnjblcblofaaV3
import Derived.Test.YtppmnjblcblofaaV4
import Derived.Deep.MidRow
import Derived.Deep.Upon
namespace Go.V
open Go
/-- how a value lies in cells: each takes 's' cells, none of them an aggregate -/
structure Form (α : Type) where
  s : Nat
  cs : α → List Value
  len : ∀ x, (cs x).length = s
  one : ∀ x, ∀ u ∈ cs x, u.oneCell' = true
def Form.all {α : Type} (F : Form α) (l : List α) : List Value := l.flatMap F.cs
variable {α : Type} {F : Form α} {e : TypeId}
theorem Form.length_all (F : Form α) : ∀ l : List α, (F.all l).length = l.length * F.s
  | [] => by simp [Form.all]
  | x :: l => by
    have := F.length_all l
    simp only [Form.all, List.flatMap_cons, List.length_append, F.len, List.length_cons] at this ⊢
    rw [this, Nat.add_mul]
    omega
theorem Form.all_append (F : Form α) (a b : List α) : F.all (a ++ b) = F.all a ++ F.all b := by simp [Form.all]
theorem Form.all_one (F : Form α) (x : α) : F.all [x] = F.cs x := by simp [Form.all]
theorem Form.all_cons (F : Form α) (x : α) (l : List α) : F.all (x :: l) = F.cs x ++ F.all l := by simp [Form.all]
theorem Form.all_get (F : Form α) : ∀ (l : List α) (i j : Nat) (x : α), l[i]? = some x → j < F.s → (F.all l)[i * F.s + j]? = (F.cs x)[j]?
  | [], _, _, _, h, _ => by simp at h
  | y :: l, 0, j, x, h, hj => by
    obtain rfl : y = x := by simpa using h
    rw [F.all_cons, Nat.zero_mul, Nat.zero_add, List.getElem?_append_left (by rw [F.len]; exact hj)]
  | y :: l, i + 1, j, x, h, hj => by
    rw [F.all_cons, List.getElem?_append_right (by rw [F.len, Nat.add_mul]; omega), F.len]
    have : (i + 1) * F.s + j - F.s = i * F.s + j := by rw [Nat.add_mul]; omega
    rw [this]
    exact F.all_get l i j x (by simpa using h) hj
theorem Form.all_take (F : Form α) (l : List α) (k : Nat) : F.all (l.take k) = (F.all l).take (k * F.s) := by
  induction l generalizing k with
  | nil => simp [Form.all]
  | cons x l ih =>
    cases k with
    | zero => simp [Form.all]
    | succ k =>
      rw [List.take_succ_cons, F.all_cons, F.all_cons, ih, List.take_append, F.len]
      have h1 : (k + 1) * F.s - F.s = k * F.s := by rw [Nat.add_mul]; omega
      rw [h1, List.take_of_length_le (i := (k + 1) * F.s) (by rw [F.len, Nat.add_mul]; omega)]
theorem Form.all_drop (F : Form α) (l : List α) (k : Nat) : F.all (l.drop k) = (F.all l).drop (k * F.s) := by
  induction l generalizing k with
  | nil => simp [Form.all]
  | cons x l ih =>
    cases k with
    | zero => simp [Form.all]
    | succ k =>
      rw [List.drop_succ_cons, F.all_cons, ih, List.drop_append, F.len]
      have h1 : (k + 1) * F.s - F.s = k * F.s := by rw [Nat.add_mul]; omega
      rw [h1, List.drop_eq_nil_of_le (as := F.cs x) (by rw [F.len, Nat.add_mul]; omega), List.nil_append]
/-- a row of structs of one's own -/
def RowG (F : Form α) (e : TypeId) (w : World) (v : Value) (l : List α) : Prop := w.ownsRow 0 e F.s v l.length (F.all l)
theorem RowG.nil (F : Form α) (e : TypeId) (w : World) : RowG F e w (.slice none 0 0) [] := World.ownsRow_nil w 0 e F.s
theorem RowG.keep {S : List Nat} {w w' : World} {v : Value} {l : List α} (h : RowG F e w v l) (hk : Keeps S w w') (hS : ∀ x ∈ S, v.ownBlock ≠ some x) : RowG F e w' v l := by
  obtain ⟨h1, h2⟩ := h
  refine ⟨h1, ?_⟩
  rcases h2 with h2 | ⟨g, cap, cur, hv, hg, hh, r⟩
  · exact Or.inl h2
  · subst hv
    exact Or.inr ⟨g, cap, cur, rfl, hg, hk.get hh (fun hx => hS g hx rfl), r⟩
theorem RowG.shape {w : World} {v : Value} {l : List α} (h : RowG F e w v l) (hl : 0 < l.length) :
    ∃ g cap cur, v = .slice (some ⟨g, 0, none⟩) l.length cap ∧ w.heap[g]? = some (.cells cur e (0, 0)) ∧ l.length ≤ cap ∧ cur.size = cap * F.s ∧ cur.toList.take (l.length * F.s) = F.all l := by
  obtain ⟨h1, h2⟩ := h
  rcases h2 with ⟨_, h3⟩ | ⟨g, cap, cur, hv, _, hh, hc, _, hs, ht⟩
  · omega
  · exact ⟨g, cap, cur, hv, hh, hc, hs, ht⟩
theorem RowG.value {w : World} {v : Value} {l : List α} (h : RowG F e w v l) : ∃ p c, v = .slice p l.length c ∧ l.length ≤ c ∧ c ≤ 9223372036854775807 := by
  obtain ⟨h1, h2⟩ := h
  rcases h2 with ⟨h2, h3⟩ | ⟨g, cap, cur, hv, _, hh, hc, hm, _⟩
  · exact ⟨none, 0, by rw [h2, h3], by omega, by omega⟩
  · exact ⟨_, _, hv, hc, by unfold maxLen at hm; omega⟩
theorem RowG.item {w : World} {v : Value} {l : List α} (h : RowG F e w v l) {g cap n : Nat} (hv : v = .slice (some ⟨g, 0, none⟩) n cap) {i : Nat} {x : α} (hx : l[i]? = some x)
    {j : Nat} {u : Value} (hu : (F.cs x)[j]? = some u) : w.cell? ⟨g, i * F.s + j, none⟩ = some u := by
  have hi : i < l.length := (List.getElem?_eq_some_iff.1 hx).1
  have hj : j < F.s := by have := (List.getElem?_eq_some_iff.1 hu).1; rwa [F.len] at this
  obtain ⟨g', cap', cur, hv', hh, hc, hs, ht⟩ := h.shape (by omega)
  rw [hv] at hv'
  simp only [Value.slice.injEq, Option.some.injEq, Addr.mk.injEq] at hv'
  obtain ⟨⟨rfl, _, _⟩, _, _⟩ := hv'
  refine cell_of hh ?_
  rw [← F.all_get l i j x hx hj, ← ht, List.getElem?_take] at hu
  split at hu
  · simpa using hu
  · cases hu
theorem RowG.lt {w : World} {v : Value} {l : List α} (h : RowG F e w v l) {g : Nat} (hg : v.ownBlock = some g) : g < w.heap.size := by
  rcases h.2 with ⟨rfl, _⟩ | ⟨g1, _, _, rfl, _, q1, _⟩
  · cases hg
  · cases hg
    exact lt_of_heap q1
theorem RowG.ne {w : World} {v : Value} {l : List α} (h : RowG F e w v l) {rb : Nat} {cs : Array Value} {t : TypeId} {fr : Nat × Nat} (hb : w.heap[rb]? = some (.cells cs t fr)) (hne : e ≠ t) : v.ownBlock ≠ some rb := by
  intro hg
  rcases h.2 with ⟨rfl, _⟩ | ⟨g1, _, _, rfl, _, q1, _⟩
  · cases hg
  · cases hg
    rw [q1] at hb
    simp only [Option.some.injEq, Obj.cells.injEq] at hb
    exact hne hb.2.1
theorem RowG.ne_map {w : World} {v : Value} {l : List α} (h : RowG F e w v l) {mb : Nat} {κ β : Type} {ke : κ → Value} {ve : β → Value} {m : List (κ × β)} (hm : MapAt w mb ke ve m) : v.ownBlock ≠ some mb := by
  intro hg
  rcases h.2 with ⟨rfl, _⟩ | ⟨g1, _, _, rfl, _, q1, _⟩
  · cases hg
  · cases hg
    exact hm.ne_cells q1 rfl
theorem RowG.ne_row {β : Type} {G : Form β} {e' : TypeId} {w : World} {v v' : Value} {l : List α} {l' : List β} (h : RowG F e w v l) (h' : RowG G e' w v' l') (hne : e ≠ e') {g : Nat} (hg : v.ownBlock = some g) : v'.ownBlock ≠ some g := by
  intro hg'
  rcases h'.2 with ⟨rfl, _⟩ | ⟨g1, _, _, rfl, _, q1, _⟩
  · cases hg'
  · cases hg'
    exact h.ne q1 hne hg
section
variable {P : Program} {ops : Array Oper} {rest : List Oper} {o : Oper} {a : Act} {Q : Exit → Act → World → Prop} {w : World}
/-- 'append(s, x...)', s of one's own, x anything of that form -/
theorem vp_append_g (hgd : o.guard = none) (s x : Operand) (t : TypeId) (ho : o.op = .call { callee := .builtin .append, args := #[s, x], argTypes := #[t, t] })
    (z : Value) (bytes : Nat) (ht : P.underlying t = some (.slice e)) (hi : (P.info? e).map (fun i => (i.zero, i.size, i.bytes)) = some (some z, F.s, bytes)) (hzs : z.cells.size = F.s) (hs0 : 0 < F.s)
    (v : Value) (l : List α) (hs : a.eval s = v) (hown : RowG F e w v l)
    (ad : Addr) (m c : Nat) (ys : List α) (hx : a.eval x = .slice (some ad) m c) (hm : ys.length = m) (hnews : ∀ j u, (F.all ys)[j]? = some u → w.cell? (ad.add j) = some u)
    (hbytes : (l.length + m) * bytes ≤ 140737488355328) (h63 : l.length + m ≤ 9223372036854775807)
    (h : ∀ v' w', RowG F e w' v' (l ++ ys) → (∀ g, v'.ownBlock = some g → v.ownBlock = some g ∨ w.heap.size ≤ g) → w.grownBy w' v.ownBlock → wpList P ops Q rest (a.put o.dst v') w') : wpList P ops Q (o :: rest) a w := by
  obtain ⟨i0, g1, g2, g3, g4⟩ : ∃ i0, P.info? e = some i0 ∧ i0.zero = some z ∧ i0.size = F.s ∧ i0.bytes = bytes := by
    cases hq : P.info? e with
    | none => rw [hq] at hi; cases hi
    | some i =>
      rw [hq] at hi
      simp only [Option.map_some, Option.some.injEq, Prod.mk.injEq] at hi
      exact ⟨i, rfl, hi.1, hi.2.1, hi.2.2⟩
  have h63' : l.length + m ≤ maxLen := by unfold maxLen; omega
  have hyc : (F.all ys).length = m * F.s := by rw [F.length_all, hm]
  have h1 : ∀ u ∈ F.all ys, u.oneCell' = true := by
    intro u hu
    obtain ⟨y, _, hy⟩ := List.mem_flatMap.1 hu
    exact F.one y u hy
  have fin : ∀ {v' : Value} {w' : World} {base : Nat}, w'.ownsRow base e F.s v' (l.length + m) (F.all l ++ F.all ys) → RowG F e w' v' (l ++ ys) := by
    intro v' w' base k1
    unfold RowG
    rw [List.length_append, F.all_append, hm]
    obtain ⟨k2, k3⟩ := k1
    refine ⟨k2, ?_⟩
    rcases k3 with k3 | ⟨g, cap, cur, q1, _, q3⟩
    · exact Or.inl k3
    · exact Or.inr ⟨g, cap, cur, q1, Nat.zero_le _, q3⟩
  have hown2 := hown
  obtain ⟨hx1, hcase⟩ := hown2
  rcases hcase with ⟨rfl, hn⟩ | ⟨g, cap, cur, rfl, _, hg, hnc, hcm, hcs, htake⟩
  · have hl0 : l = [] := List.eq_nil_of_length_eq_zero hn
    subst hl0
    refine wpList_append_own w hgd s x t ho w.heap.size e i0 z F.s bytes ht g1 g2 g3 g4 hzs hs0 _ 0 [] hs (World.ownsRow_nil w w.heap.size e F.s) ad m c (F.all ys) hx hyc hnews h1 (by simpa using h63') (by simpa using hbytes) (Nat.le_refl _) ?_
    intro v' w' k1 k2 _
    refine h v' w' (fin (by simpa [Form.all] using k1)) (fun g hg => Or.inr ?_) k2
    exact (World.ownsRow.lt k1 g hg).1
  · by_cases hroom : l.length + m ≤ cap
    · refine wpList_append_own_spare w hgd s x t ho 0 e i0 F.s ht g1 g3 g l.length cap (F.all l) hs hown ad m c (F.all ys) hx hyc hnews h1 hroom ?_
      intro w' k1 k2
      exact h _ w' (fin k1) (fun g' hg' => Or.inl hg') k2
    · obtain ⟨v', w', hr, k1, k2, _⟩ := run_append_own (P := P) (w := w) 0 t o.type e i0 z F.s bytes ht g1 g2 g3 g4 hzs hs0 _ l.length (F.all l) hown ad m c (F.all ys) hyc hnews h1 h63' hbytes (Nat.zero_le _)
      have holds : ∀ j u, (F.all l)[j]? = some u → w.cell? ((⟨g, 0, none⟩ : Addr).add j) = some u := World.ownsRow.cells (g := g) hown rfl
      have hr2 := run_append_grow (P := P) w t o.type e i0 z ht g1 g2 ⟨g, 0, none⟩ l.length cap (F.all l) (by rw [g3]; exact F.length_all l) holds ad m c (F.all ys) (by rw [g3]; exact hyc) hnews (by omega) (by omega) (growslice_fits (by omega) (by rw [g4]; exact hbytes))
      rw [hr] at hr2
      injection hr2 with hv hw
      refine wpList_plain hgd fun _ hK => ?_
      unfold Oper.wp execOp
      simp only [ho, resolve, invoke, builtin, Sem.run_bind, Sem.run_pure, Result.andThen_ok, List.map_toArray, List.map_cons, List.map_nil, hs, hx, hr]
      refine hK _ _ (h v' w' (fin k1) (fun g' hg' => Or.inr ?_) k2)
      rw [hv] at hg'
      simp only [Value.ownBlock, Option.some.injEq] at hg'
      omega
end
/-- a slice, anybody's, that holds structs of that form -/
def SG (F : Form α) (w : World) (v : Value) (l : List α) : Prop :=
  ∃ p cap, v = .slice p l.length cap ∧ l.length ≤ cap ∧ cap ≤ 9223372036854775807 ∧ (0 < l.length → ∃ b o, p = some ⟨b, o, none⟩ ∧ ∀ j u, (F.all l)[j]? = some u → w.cell? ⟨b, o + j, none⟩ = some u)
theorem RowG.sg {w : World} {v : Value} {l : List α} (h : RowG F e w v l) : SG F w v l := by
  obtain ⟨p, c, hv, hc, hm⟩ := h.value
  refine ⟨p, c, hv, hc, hm, fun h0 => ?_⟩
  obtain ⟨g, cap, cur, hv', hh, _, hs, ht⟩ := h.shape h0
  rw [hv] at hv'
  simp only [Value.slice.injEq] at hv'
  obtain ⟨rfl, _, _⟩ := hv'
  refine ⟨g, 0, rfl, fun j u hu => cell_of hh ?_⟩
  rw [Nat.zero_add]
  rw [← ht, List.getElem?_take] at hu
  split at hu
  · simpa using hu
  · cases hu
theorem SG.keep {S : List Nat} {w w' : World} {v : Value} {l : List α} (h : SG F w v l) (hk : Keeps S w w') (hS : ∀ x ∈ S, v.ownBlock ≠ some x) : SG F w' v l := by
  obtain ⟨p, cap, rfl, hc, hm, hr⟩ := h
  refine ⟨p, cap, rfl, hc, hm, fun h0 => ?_⟩
  obtain ⟨b, o, rfl, hx⟩ := hr h0
  refine ⟨b, o, rfl, fun j u hu => ?_⟩
  have := hx j u hu
  exact (World.cell?_of_block (hk.block _ (Go.block_lt_of_cell this) (fun hb => hS b hb rfl))).trans this
theorem SG.fresh {w : World} {v : Value} {l : List α} (hs0 : 0 < F.s) (h : SG F w v l) (h0 : 0 < l.length) : ∃ b, v.ownBlock = some b ∧ b < w.heap.size := by
  obtain ⟨p, cap, rfl, hc, hm, hr⟩ := h
  obtain ⟨b, o, rfl, hx⟩ := hr h0
  refine ⟨b, rfl, ?_⟩
  have hl : 0 < (F.all l).length := by rw [F.length_all]; exact Nat.mul_pos h0 hs0
  exact Go.block_lt_of_cell (hx 0 _ (List.getElem?_eq_getElem hl))
theorem SG.item {w : World} {v : Value} {l : List α} (h : SG F w v l) {b o n cap : Nat} (hv : v = .slice (some ⟨b, o, none⟩) n cap) {i : Nat} {x : α} (hx : l[i]? = some x)
    {j : Nat} {u : Value} (hu : (F.cs x)[j]? = some u) : w.cell? ⟨b, o + i * F.s + j, none⟩ = some u := by
  have hi : i < l.length := (List.getElem?_eq_some_iff.1 hx).1
  have hj : j < F.s := by have := (List.getElem?_eq_some_iff.1 hu).1; rwa [F.len] at this
  obtain ⟨p, cap', hv', _, _, hr⟩ := h
  obtain ⟨b', o', rfl, hc⟩ := hr (by omega)
  rw [hv] at hv'
  simp only [Value.slice.injEq, Option.some.injEq, Addr.mk.injEq] at hv'
  obtain ⟨⟨rfl, rfl, _⟩, _, _⟩ := hv'
  rw [Nat.add_assoc]
  exact hc _ _ (by rw [F.all_get l i j x hx hj]; exact hu)
theorem SG.shape {w : World} {v : Value} {l : List α} (h : SG F w v l) (h0 : 0 < l.length) : ∃ b o cap, v = .slice (some ⟨b, o, none⟩) l.length cap := by
  obtain ⟨p, cap, rfl, _, _, hr⟩ := h
  obtain ⟨b, o, rfl, _⟩ := hr h0
  exact ⟨b, o, cap, rfl⟩
theorem SG.of {R : World → List Value → α → Prop} (hR : ∀ w cs x, R w cs x → cs = F.cs x) {w : World} {v : Value} {l : List α} (hs0 : 0 < F.s) (h : SliceOf F.s R w v l) : SG F w v l := by
  obtain ⟨p, cap, rfl, h1, h2, h3⟩ := h
  refine ⟨p, cap, rfl, h1, h2, fun h0 => ?_⟩
  obtain ⟨b, o, rfl, _, he⟩ := h3 h0
  refine ⟨b, o, rfl, fun j u hu => ?_⟩
  have hj : j < l.length * F.s := by have := (List.getElem?_eq_some_iff.1 hu).1; rwa [F.length_all] at this
  have hdm : j / F.s * F.s + j % F.s = j := by rw [Nat.mul_comm]; exact Nat.div_add_mod j F.s
  have hm : j % F.s < F.s := Nat.mod_lt _ hs0
  have hd : j / F.s < l.length := Nat.div_lt_of_lt_mul (by rw [Nat.mul_comm]; exact hj)
  obtain ⟨x, hx⟩ : ∃ x, l[j / F.s]? = some x := ⟨_, List.getElem?_eq_getElem hd⟩
  obtain ⟨cs, _, c2, c3⟩ := he _ x hx
  have hc := hR _ _ _ c3
  subst hc
  rw [← hdm, F.all_get l _ _ x hx hm] at hu
  have := c2 _ _ hu
  rw [Nat.add_assoc, hdm] at this
  exact this
/-- a row that the call has made behind w -/
def Made (F : Form α) (e : TypeId) (w : World) (v : Value) (l : List α) (wx : World) : Prop := RowG F e wx v l ∧ (∀ g, v.ownBlock = some g → w.heap.size ≤ g) ∧ Keeps [] w wx
theorem Made.nil (F : Form α) (e : TypeId) (w : World) : Made F e w (.slice none 0 0) [] w := ⟨RowG.nil F e w, fun g hg => (by cases hg), Keeps.refl _ _⟩
theorem RowG.empty (F : Form α) (e : TypeId) (w : World) : RowG F e (w.alloc (.cells #[] e)) (.slice (some ⟨w.heap.size, 0, none⟩) 0 0) [] :=
  ⟨by simp [Form.all], Or.inr ⟨w.heap.size, 0, #[], rfl, Nat.zero_le _, heap_alloc w _, Nat.le_refl _, Nat.zero_le _, by simp, by simp [Form.all]⟩⟩
theorem Made.empty (F : Form α) (e : TypeId) (w : World) : Made F e w (.slice (some ⟨w.heap.size, 0, none⟩) 0 0) [] (w.alloc (.cells #[] e)) :=
  ⟨RowG.empty F e w, fun g hg => (by simp only [Value.ownBlock, Option.some.injEq] at hg; omega), (Keeps.refl _ _).alloc _⟩
theorem Made.keep {w wb w' : World} {v : Value} {l : List α} (h : Made F e w v l wb) (hk : Keeps [] wb w') : Made F e w v l w' := ⟨h.1.keep hk (by simp), h.2.1, h.2.2.trans hk⟩
theorem Made.from {w0 w wx : World} {v : Value} {l : List α} (h : Made F e w v l wx) (hk : Keeps [] w0 w) : Made F e w0 v l wx := ⟨h.1, fun g hg => Nat.le_trans hk.size (h.2.1 g hg), hk.trans h.2.2⟩
theorem Made.app {w wb w' : World} {v v' : Value} {l l' : List α} (h : Made F e w v l wb) (k1 : RowG F e w' v' l') (k2 : ∀ g, v'.ownBlock = some g → v.ownBlock = some g ∨ wb.heap.size ≤ g) (k3 : wb.grownBy w' v.ownBlock) : Made F e w v' l' w' :=
  ⟨k1, fun g hg => (k2 g hg).elim (h.2.1 g) (fun q => Nat.le_trans h.2.2.size q), h.2.2.trans' (keeps_grown (S := v.ownBlock.toList) k3 (fun k hk => by rw [hk]; simp)) (fun x hx => Or.inr (h.2.1 x (by simpa using hx)))⟩
section
variable {P : Program} {ops : Array Oper} {rest : List Oper} {o : Oper} {a : Act} {Q : Exit → Act → World → Prop} {w : World}
/-- 'append(s, x...)', x any slice of that form, nil too -/
theorem vp_append_sg (hgd : o.guard = none) (s x : Operand) (t : TypeId) (ho : o.op = .call { callee := .builtin .append, args := #[s, x], argTypes := #[t, t] })
    (z : Value) (bytes : Nat) (ht : P.underlying t = some (.slice e)) (hi : (P.info? e).map (fun i => (i.zero, i.size, i.bytes)) = some (some z, F.s, bytes)) (hzs : z.cells.size = F.s) (hs0 : 0 < F.s)
    (v : Value) (l : List α) (hs : a.eval s = v) (hown : RowG F e w v l)
    (vx : Value) (ys : List α) (hx : a.eval x = vx) (hy : SG F w vx ys)
    (hbytes : (l.length + ys.length) * bytes ≤ 140737488355328) (h63 : l.length + ys.length ≤ 9223372036854775807)
    (h : ∀ v' w', RowG F e w' v' (l ++ ys) → (∀ g, v'.ownBlock = some g → v.ownBlock = some g ∨ w.heap.size ≤ g) → w.grownBy w' v.ownBlock → wpList P ops Q rest (a.put o.dst v') w') : wpList P ops Q (o :: rest) a w := by
  obtain ⟨p, c, rfl, hc, hm, hr⟩ := hy
  cases p with
  | some ad =>
    obtain ⟨b, off, sp⟩ := ad
    refine vp_append_g hgd s x t ho z bytes ht hi hzs hs0 v l hs hown ⟨b, off, sp⟩ ys.length c ys hx rfl (fun j u hu => ?_) hbytes h63 h
    by_cases h0 : 0 < ys.length
    · obtain ⟨b', o', hp, hcl⟩ := hr h0
      simp only [Option.some.injEq, Addr.mk.injEq] at hp
      obtain ⟨rfl, rfl, rfl⟩ := hp
      rw [add_none]
      exact hcl j u hu
    · have : ys = [] := List.eq_nil_of_length_eq_zero (by omega)
      subst this
      simp [Form.all] at hu
  | none =>
    have h0 : ¬ 0 < ys.length := fun h0 => by obtain ⟨_, _, hp, _⟩ := hr h0; cases hp
    have : ys = [] := List.eq_nil_of_length_eq_zero (by omega)
    subst this
    obtain ⟨i0, g1⟩ : ∃ i0, P.info? e = some i0 := by
      cases hq : P.info? e with
      | none => rw [hq] at hi; cases hi
      | some i => exact ⟨i, rfl⟩
    obtain ⟨p', c', hv, hc', _⟩ := hown.value
    subst hv
    have hrun := run_append_nothing (P := P) w t t o.type e i0 ht g1 p' l.length c' hc' (.slice none ([] : List α).length c) (Src.ofNil w ht c)
    refine wpList_plain hgd fun _ hK => ?_
    unfold Oper.wp execOp
    simp only [ho, resolve, invoke, builtin, Sem.run_bind, Sem.run_pure, Result.andThen_ok, List.map_toArray, List.map_cons, List.map_nil, hs, hx, hrun]
    refine hK _ _ (h _ w (by rw [List.append_nil]; exact hown) (fun g hg => Or.inl hg) ?_)
    exact ⟨rfl, rfl, rfl, Nat.le_refl _, fun _ _ _ => rfl⟩
/-- 's[k:]' -/
theorem vp_tail_g (hgd : o.guard = none) (x lo : Operand) (t : TypeId) (ho : o.op = .slice t x (some lo) none none) (ht : P.underlying t = some (.slice e)) (hsz : (P.info? e).map (·.size) = some F.s)
    (v : Value) (l : List α) (hx : a.eval x = v) (hv : SG F w v l) (k : Nat) (hk : k ≤ l.length) (hlo : a.eval lo = .int .i64 k)
    (h : ∀ v', SG F w v' (l.drop k) → v'.ownBlock = v.ownBlock → wpList P ops Q rest (a.put o.dst v') w) : wpList P ops Q (o :: rest) a w := by
  obtain ⟨p, cap, rfl, hc, hm, hr⟩ := hv
  have hel : P.elem t = e := by simp [Program.elem, ht]
  have hrun : (Instr.sliceAt t (.slice p l.length cap) (some (.int .i64 k)) none none).run P w = .ok (sliced p k l.length cap F.s) w := by
    rw [run_sliceAt_slice w t _ _ _ _ (by rw [hel]; exact ht), run_slice_l (P := P) w t p l.length cap (by rw [hel]; exact ht) .i64 (k : Int) (by omega) (by omega), hel]
    cases hq : P.info? e with
    | none => simp [hq] at hsz
    | some inf =>
      have h2 : inf.size = F.s := by simpa [hq] using hsz
      simp [sizeOf, typeInfo, hq, Sem.run_bind, Result.andThen, h2]
  refine wpList_plain hgd fun K' hK' => ?_
  unfold Oper.wp
  simp [execOp, ho, hx, hlo, hrun, Result.andThen]
  refine hK' _ _ (h _ ?_ (ownBlock_sliced ..))
  refine ⟨if cap = k then p else p.map (·.add (k * F.s)), cap - k, by simp only [sliced, List.length_drop], by rw [List.length_drop]; omega, by omega, fun h0 => ?_⟩
  rw [List.length_drop] at h0
  obtain ⟨b, o', rfl, h2⟩ := hr (by omega)
  refine ⟨b, o' + k * F.s, ?_, fun j u hu => ?_⟩
  · simp only [Option.map_some]
    rw [if_neg (by omega), add_none]
  · rw [F.all_drop, List.getElem?_drop] at hu
    rw [Nat.add_assoc]
    exact h2 _ _ hu
/-- 's[:k]' -/
theorem vp_head_g (hgd : o.guard = none) (x hi : Operand) (t : TypeId) (ho : o.op = .slice t x none (some hi) none) (ht : P.underlying t = some (.slice e)) (hsz : (P.info? e).map (·.size) = some F.s)
    (v : Value) (l : List α) (hx : a.eval x = v) (hv : SG F w v l) (k : Nat) (hk : k ≤ l.length) (hhi : a.eval hi = .int .i64 k)
    (h : ∀ v', SG F w v' (l.take k) → v'.ownBlock = v.ownBlock → wpList P ops Q rest (a.put o.dst v') w) : wpList P ops Q (o :: rest) a w := by
  obtain ⟨p, cap, rfl, hc, hm, hr⟩ := hv
  have hel : P.elem t = e := by simp [Program.elem, ht]
  have hrun : (Instr.sliceAt t (.slice p l.length cap) none (some (.int .i64 k)) none).run P w = .ok (sliced p 0 k cap F.s) w := by
    rw [run_sliceAt_slice w t _ _ _ _ (by rw [hel]; exact ht), run_slice_h (P := P) w t p l.length cap (by rw [hel]; exact ht) .i64 (k : Int) (by omega) (by omega), hel]
    cases hq : P.info? e with
    | none => simp [hq] at hsz
    | some inf =>
      have h2 : inf.size = F.s := by simpa [hq] using hsz
      simp [sizeOf, typeInfo, hq, Sem.run_bind, Result.andThen, h2]
  refine wpList_plain hgd fun K' hK' => ?_
  unfold Oper.wp
  simp [execOp, ho, hx, hhi, hrun, Result.andThen]
  refine hK' _ _ (h _ ?_ (ownBlock_sliced ..))
  refine ⟨if cap = 0 then p else p.map (·.add (0 * F.s)), cap - 0, by simp only [sliced, List.length_take]; rw [Nat.min_eq_left hk, Nat.sub_zero], by rw [List.length_take]; omega, by omega, fun h0 => ?_⟩
  rw [List.length_take] at h0
  obtain ⟨b, o', rfl, h2⟩ := hr (by omega)
  refine ⟨b, o', ?_, fun j u hu => ?_⟩
  · simp only [Option.map_some]
    split
    · rfl
    · rw [add_none, Nat.zero_mul, Nat.add_zero]
  · rw [F.all_take, List.getElem?_take] at hu
    split at hu
    · exact h2 _ _ hu
    · cases hu
end
end Go.V
