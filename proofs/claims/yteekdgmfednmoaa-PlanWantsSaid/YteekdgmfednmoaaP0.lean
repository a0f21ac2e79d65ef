/-
  Package plan: items in memory; ahead, Len, Less.
-/
import Derived.Test.YteekdgmfednmoaaV6
import Derived.Test.YteekdgmfednmoaaRows
import Derived.Test.YteekdgmfednmoaaV7
import Derived.Deep.MidRow
import Derived.Deep.DeepCutAuto
namespace Go.V.Queue
open Go Go.V
/-- a want: how deep (key), its number (push), whether to write (n) -/
structure It where
  key : Int
  push : Int
  n : Bool
instance : Inhabited It := ⟨⟨0, 0, false⟩⟩
def It.cells (x : It) : List Value := [.int .i64 x.key, .int .i64 x.push, .bool x.n]
def It.val (x : It) : Value := .agg #[.int .i64 x.key, .int .i64 x.push, .bool x.n]
def cellsOf : List It → List Value
  | [] => []
  | x :: l => x.cells ++ cellsOf l
theorem length_cellsOf : ∀ l : List It, (cellsOf l).length = l.length * 3
  | [] => rfl
  | x :: l => by simp only [cellsOf, List.length_append, length_cellsOf l, It.cells, List.length_cons, List.length_nil]; omega
theorem cellsOf_append : ∀ a b : List It, cellsOf (a ++ b) = cellsOf a ++ cellsOf b
  | [], _ => rfl
  | x :: a, b => by simp only [List.cons_append, cellsOf, cellsOf_append a b, List.append_assoc]
theorem cellsOf_get : ∀ (l : List It) (i j : Nat) (x : It), l[i]? = some x → j < 3 → (cellsOf l)[i * 3 + j]? = x.cells[j]?
  | [], _, _, _, h, _ => by simp at h
  | y :: l, 0, j, x, h, hj => by
    obtain rfl : y = x := by simpa using h
    simp only [cellsOf, Nat.zero_mul, Nat.zero_add]
    rw [List.getElem?_append_left (by simp [It.cells]; omega)]
  | y :: l, i + 1, j, x, h, hj => by
    simp only [cellsOf]
    rw [List.getElem?_append_right (by simp [It.cells]; omega)]
    have : (i + 1) * 3 + j - y.cells.length = i * 3 + j := by simp only [It.cells, List.length_cons, List.length_nil]; omega
    rw [this]
    exact cellsOf_get l i j x (by simpa using h) hj
def aheadB (a b : It) : Bool := if a.key = b.key then decide (a.push < b.push) else decide (a.key < b.key)
/-- a row of items of one's own -/
def Row (w : World) (v : Value) (l : List It) : Prop := w.ownsRow 0 39 3 v l.length (cellsOf l)
theorem Row.keep {S : List Nat} {w w' : World} {v : Value} {l : List It} (h : Row w v l) (hk : Keeps S w w') (hS : ∀ x ∈ S, v.ownBlock ≠ some x) : Row w' v l := by
  obtain ⟨h1, h2⟩ := h
  refine ⟨h1, ?_⟩
  rcases h2 with h2 | ⟨g, cap, cur, hv, hg, hh, r⟩
  · exact Or.inl h2
  · subst hv
    exact Or.inr ⟨g, cap, cur, rfl, hg, hk.get hh (fun hx => hS g hx rfl), r⟩
theorem Row.shape {w : World} {v : Value} {l : List It} (h : Row w v l) (hl : 0 < l.length) :
    ∃ g cap cur, v = .slice (some ⟨g, 0, none⟩) l.length cap ∧ w.heap[g]? = some (.cells cur 39 (0, 0)) ∧ l.length ≤ cap ∧ cur.size = cap * 3 ∧ cur.toList.take (l.length * 3) = cellsOf l := by
  obtain ⟨h1, h2⟩ := h
  rcases h2 with ⟨_, h3⟩ | ⟨g, cap, cur, hv, _, hh, hc, _, hs, ht⟩
  · omega
  · exact ⟨g, cap, cur, hv, hh, hc, hs, ht⟩
theorem Row.value {w : World} {v : Value} {l : List It} (h : Row w v l) : ∃ p c, v = .slice p l.length c ∧ l.length ≤ c ∧ c ≤ 9223372036854775807 := by
  obtain ⟨h1, h2⟩ := h
  rcases h2 with ⟨h2, h3⟩ | ⟨g, cap, cur, hv, _, hh, hc, hm, _⟩
  · exact ⟨none, 0, by rw [h2, h3], by omega, by omega⟩
  · exact ⟨_, _, hv, hc, by unfold maxLen at hm; omega⟩
theorem Row.item {w : World} {v : Value} {l : List It} (h : Row w v l) {g cap n : Nat} (hv : v = .slice (some ⟨g, 0, none⟩) n cap) {i : Nat} {x : It} (hx : l[i]? = some x) :
    w.cell? ⟨g, i * 3, none⟩ = some (.int .i64 x.key) ∧ w.cell? ⟨g, i * 3 + 1, none⟩ = some (.int .i64 x.push) ∧ w.cell? ⟨g, i * 3 + 2, none⟩ = some (.bool x.n) := by
  have hi : i < l.length := (List.getElem?_eq_some_iff.1 hx).1
  obtain ⟨g', cap', cur, hv', hh, hc, hs, ht⟩ := h.shape (by omega)
  rw [hv] at hv'
  simp only [Value.slice.injEq, Option.some.injEq, Addr.mk.injEq] at hv'
  obtain ⟨⟨rfl, _, _⟩, _, _⟩ := hv'
  have key : ∀ j, j < 3 → ∀ u, x.cells[j]? = some u → w.cell? ⟨g, i * 3 + j, none⟩ = some u := by
    intro j hj u hu
    refine cell_of hh ?_
    rw [← cellsOf_get l i j x hx hj, ← ht, List.getElem?_take] at hu
    split at hu
    · simpa using hu
    · cases hu
  exact ⟨key 0 (by omega) _ rfl, key 1 (by omega) _ rfl, key 2 (by omega) _ rfl⟩
theorem row_ne {w : World} {v : Value} {l : List It} (h : Row w v l) {rb : Nat} {cs : Array Value} {t : TypeId} {fr : Nat × Nat} (hb : w.heap[rb]? = some (.cells cs t fr)) (hne : 39 ≠ t) : v.ownBlock ≠ some rb := by
  intro hg
  rcases h.2 with ⟨rfl, _⟩ | ⟨g1, _, _, rfl, _, q1, _⟩
  · cases hg
  · cases hg
    rw [q1] at hb
    simp only [Option.some.injEq, Obj.cells.injEq] at hb
    exact hne hb.2.1
theorem cellsOf_set : ∀ (l : List It) (i : Nat) (x : It), i < l.length → cellsOf (l.set i x) = (((cellsOf l).set (i * 3) (.int .i64 x.key)).set (i * 3 + 1) (.int .i64 x.push)).set (i * 3 + 2) (.bool x.n)
  | [], _, _, h => by simp at h
  | y :: l, 0, x, _ => by simp [cellsOf, It.cells]
  | y :: l, i + 1, x, h => by
    have ih := cellsOf_set l i x (by simpa using h)
    have hl : y.cells.length = 3 := rfl
    have key : ∀ (k : Nat) (v : Value) (L : List Value), (y.cells ++ L).set (k + 3) v = y.cells ++ L.set k v := by
      intro k v L
      rw [List.set_append_right _ _ (by omega), hl, Nat.add_sub_cancel]
    simp only [List.set_cons_succ, cellsOf]
    rw [ih, show (i + 1) * 3 = i * 3 + 3 by omega, show i * 3 + 3 + 1 = (i * 3 + 1) + 3 by omega, show i * 3 + 3 + 2 = (i * 3 + 2) + 3 by omega, key, key, key]
theorem Row.set {w : World} {v : Value} {l : List It} (h : Row w v l) {g cap n : Nat} (hv : v = .slice (some ⟨g, 0, none⟩) n cap) {i : Nat} (hi : i < l.length) (x : It) :
    w.there g (i * 3) 3 ∧ Row (w.setCells g (i * 3) x.cells) v (l.set i x) ∧ Keeps [g] w (w.setCells g (i * 3) x.cells) := by
  have h0 := h
  obtain ⟨h1, h2⟩ := h
  rcases h2 with ⟨_, h3⟩ | ⟨g', cap', cur, hv', hb, hh, hc, hm, hs, ht⟩
  · omega
  · rw [hv] at hv'
    simp only [Value.slice.injEq, Option.some.injEq, Addr.mk.injEq] at hv'
    obtain ⟨⟨rfl, _, _⟩, hn, rfl⟩ := hv'
    have hk : Keeps [g] w (w.setCells g (i * 3) x.cells) := (((Keeps.refl [g] w).setCell (p := ⟨g, i * 3, none⟩) (Or.inl (by simp)) _).setCell (p := ⟨g, i * 3 + 1, none⟩) (Or.inl (by simp)) _).setCell (p := ⟨g, i * 3 + 1 + 1, none⟩) (Or.inl (by simp)) _
    refine ⟨fun j hj => ⟨?_, frozen_of _ hh⟩, ⟨?_, Or.inr ⟨g, cap, ((cur.setIfInBounds (i * 3) (.int .i64 x.key)).setIfInBounds (i * 3 + 1) (.int .i64 x.push)).setIfInBounds (i * 3 + 1 + 1) (.bool x.n), ?_, Nat.zero_le _, heap_setCell (heap_setCell (heap_setCell hh)), ?_, hm, by simpa using hs, ?_⟩⟩, hk⟩
    · rw [cell_of hh (Array.getElem?_eq_getElem (by omega))]; rfl
    · rw [length_cellsOf]
    · rw [hv, hn, List.length_set]
    · rw [List.length_set]; exact hc
    · rw [List.length_set, cellsOf_set l i x hi, ← ht]
      simp only [Array.toList_setIfInBounds, List.take_set]
end Go.V.Queue
namespace Go.Proofs.Yteekdgmfednmoaa
open Go.RowKit Go.V Go.V.Queue
def BPost (b : Bool) (w : World) (e : Ending) (w' : World) : Prop := e = .returned (.bool b) ∧ Keeps [] w w'
theorem ahead_ok (a b : It) (w : World) : Calls Try.prog 42 #[a.val, b.val] w (BPost (aheadB a b) w) := by
  obtain ⟨ak, an, ap⟩ := a
  obtain ⟨bk, bn, bp⟩ := b
  unfold It.val
  by_cases hk : ak = bk
  · subst hk
    have hkk : (ak != ak) = false := by simp
    go_enter Try.func42, Try.ntmps42
    go_wp2
    go_ret
    exact ⟨by simp only [aheadB, if_pos]; rfl, ((Keeps.refl _ _).alloc _).alloc _⟩
  · have hkk : (ak != bk) = true := by simp [hk]
    go_enter Try.func42, Try.ntmps42
    go_wp2
    go_ret
    exact ⟨by simp only [aheadB, if_neg hk]; rfl, ((Keeps.refl _ _).alloc _).alloc _⟩
theorem len_ok (p : Option Addr) (n c : Nat) (w : World) : Calls Try.prog 21 #[.slice p n c] w fun e w' => e = .returned (.int .i64 n) ∧ w = w' := by
  go_enter Try.func21, Try.ntmps21
  go_wp2
  go_ret
  exact ⟨rfl, rfl⟩
def S2 (g i j : Nat) (a b : It) (w : World) : Prop :=
  (w.cell? ⟨g, i * 3, none⟩ = some (.int .i64 a.key) ∧ w.cell? ⟨g, i * 3 + 1, none⟩ = some (.int .i64 a.push) ∧ w.cell? ⟨g, i * 3 + 2, none⟩ = some (.bool a.n)) ∧
  (w.cell? ⟨g, j * 3, none⟩ = some (.int .i64 b.key) ∧ w.cell? ⟨g, j * 3 + 1, none⟩ = some (.int .i64 b.push) ∧ w.cell? ⟨g, j * 3 + 2, none⟩ = some (.bool b.n))
theorem S2.keep {g i j : Nat} {a b : It} {w w' : World} (h : S2 g i j a b w) (hk : Keeps [] w w') : S2 g i j a b w' := by
  obtain ⟨⟨c0, c1, c2⟩, d0, d1, d2⟩ := h
  have f : ∀ {x : Addr} {v : Value}, w.cell? x = some v → w'.cell? x = some v := fun {x v} hx => (World.cell?_of_block (hk.block _ (Go.block_lt_of_cell hx) (by simp))).trans hx
  exact ⟨⟨f c0, f c1, f c2⟩, f d0, f d1, f d2⟩
theorem less_ok (v : Value) (l : List It) (i j : Nat) (a b : It) (w : World) (h : Row w v l) (hi : l[i]? = some a) (hj : l[j]? = some b) : Calls Try.prog 43 #[v, .int .i64 i, .int .i64 j] w (BPost (aheadB a b) w) := by
  have hil : i < l.length := (List.getElem?_eq_some_iff.1 hi).1
  have hjl : j < l.length := (List.getElem?_eq_some_iff.1 hj).1
  obtain ⟨g, cap, cur, rfl, _⟩ := h.shape (by omega)
  have hs2 : S2 g i j a b w := ⟨h.item rfl hi, h.item rfl hj⟩
  obtain ⟨n, hn⟩ : ∃ n, n = l.length := ⟨_, rfl⟩
  rw [← hn] at hil hjl ⊢
  have HS := Lib.hid hs2
  have hii : (i : Int) < (n : Int) := by omega
  have hjj : (j : Int) < (n : Int) := by omega
  clear h hi hj hs2 hn
  go_enter Try.func43, Try.ntmps43
  go_upto_region 1 with fail
  refine vp_region (S2 g i j a b) [(0, true), (1, true), (2, true), (3, true), (4, true), (5, true), (6, true), (7, true), (8, false), (9, true)] (by kernel_rfl) (by kernel_rfl) (by intro _ d _ _ _ h; cases d <;> exact h) HS.out ?_
  intro w6 hw6
  simp only [pick, List.map_cons, List.map_nil, List.getD_cons_zero, List.getD_cons_succ]
  repeat
    refine ord_free rfl (v := ?_) ?_ ?_
    rotate_left
    · intro w' hw'
      obtain ⟨⟨c0, c1, c2⟩, d0, d1, d2⟩ := hw'
      go_simp
      with_reducible rfl
    simp only [Act.put, List.setIfInBounds_toArray, List.set_cons_zero, List.set_cons_succ]
  subst hw6
  refine ord_eff ?_
  go_wp2_with fail
  rename_i KK hKK
  refine (ahead_ok a b w.drew).mono ?_
  rintro e w6 ⟨rfl, k6⟩
  refine hKK _ _ ?_
  refine ord_next (HS.out.keep ⟨k6.os, k6.tape, k6.output, k6.size, k6.block⟩) ?_
  clear hKK KK
  obtain ⟨ab, hab⟩ : ∃ ab, ab = aheadB a b := ⟨_, rfl⟩
  rw [← hab]
  refine ord_free rfl (v := ?_) ?_ ?_
  rotate_left
  · intro w' hw'
    go_simp
    with_reducible rfl
  simp only [Act.put, List.setIfInBounds_toArray, List.set_cons_zero, List.set_cons_succ]
  refine ord_nil ?_
  go_wp2
  go_ret
  exact ⟨rfl, k6.os, k6.tape, k6.output, k6.size, k6.block⟩
def SwapPost (v : Value) (l : List It) (w : World) (e : Ending) (w' : World) : Prop := e = .returned (.tuple #[]) ∧ Row w' v l ∧ Keeps v.ownBlock.toList w w'
theorem info39 : (Try.prog.info? 39).map (·.size) = some 3 := by kernel_rfl
theorem swap_ok (v : Value) (l : List It) (i j : Nat) (a b : It) (w : World) (h : Row w v l) (hi : l[i]? = some a) (hj : l[j]? = some b) :
    Calls Try.prog 44 #[v, .int .i64 i, .int .i64 j] w (SwapPost v ((l.set i b).set j a) w) := by
  have hil : i < l.length := (List.getElem?_eq_some_iff.1 hi).1
  have hjl : j < l.length := (List.getElem?_eq_some_iff.1 hj).1
  obtain ⟨g, cap, cur, hv, _⟩ := h.shape (by omega)
  obtain ⟨s1, s2, s3⟩ := h.set hv hil b
  obtain ⟨s4, s5, s6⟩ := s2.set hv (i := j) (by rw [List.length_set]; exact hjl) a
  obtain ⟨a0, a1, a2⟩ := h.item hv hi
  obtain ⟨b0, b1, b2⟩ := h.item hv hj
  obtain ⟨n, hn⟩ : ∃ n, n = l.length := ⟨_, rfl⟩
  rw [← hn] at hil hjl hv
  subst hv
  have hii : (i : Int) < (n : Int) := by omega
  have hjj : (j : Int) < (n : Int) := by omega
  have HS := Lib.hid (And.intro s1 (And.intro s4 (And.intro s5 (s3.trans s6))))
  have c0 : w.drew.cell? ⟨g, i * 3, none⟩ = some (.int .i64 a.key) := a0
  have c1 : w.drew.cell? ⟨g, i * 3 + 1, none⟩ = some (.int .i64 a.push) := a1
  have c2 : w.drew.cell? ⟨g, i * 3 + 2, none⟩ = some (.bool a.n) := a2
  have d0 : w.drew.cell? ⟨g, j * 3, none⟩ = some (.int .i64 b.key) := b0
  have d1 : w.drew.cell? ⟨g, j * 3 + 1, none⟩ = some (.int .i64 b.push) := b1
  have d2 : w.drew.cell? ⟨g, j * 3 + 2, none⟩ = some (.bool b.n) := b2
  clear h hi hj hn s1 s2 s3 s4 s5 s6 a0 a1 a2 b0 b1 b2
  go_enter Try.func44, Try.ntmps44
  go_upto_region 0 with fail
  refine vp_region_fork (fun _ => True) [0, 1, 2, 3, 4, 5, 6, 8, 9, 10] 7 11 [(11, false), (12, true), (13, false), (14, true), (15, false)] [(7, false), (12, true), (13, false), (14, true), (15, false)] (by kernel_rfl) (by kernel_rfl) (by intro _ d _ _ _ h; cases d <;> exact h) trivial ?_
  intro w6 hw6
  simp only [pick, List.map_cons, List.map_nil, List.getD_cons_zero, List.getD_cons_succ]
  repeat
    refine pre_free rfl (v := ?_) ?_ ?_
    rotate_left
    · intro w' hw'
      go_simp
      with_reducible rfl
    simp only [Act.put, List.setIfInBounds_toArray, List.set_cons_zero, List.set_cons_succ]
  subst hw6
  refine pre_nil ?_
  refine fork_mk ?_ ?_
  all_goals
    go_wp2_with fail
    refine ⟨trivial, ?_⟩
    refine ord_eff ?_
    go_wp2_with fail
    refine ⟨trivial, ?_⟩
    refine ord_free rfl (v := ?_) ?_ ?_
    rotate_left
    · intro w' hw'
      go_simp
      with_reducible rfl
    simp only [Act.put, List.setIfInBounds_toArray, List.set_cons_zero, List.set_cons_succ]
    refine ord_eff ?_
    refine wpList_store_mid rfl 39 (.tmp 18) (.tmp 13) rfl g (i * 3) #[.int .i64 b.key, .int .i64 b.push, .bool b.n] rfl rfl HS.out.1 info39 (by simp [Value.oneCell']) ?_
    refine ord_next trivial ?_
    simp only [Act.put]
    refine ord_free rfl (v := ?_) ?_ ?_
    rotate_left
    · intro w' hw'
      go_simp
      with_reducible rfl
    simp only [Act.put, List.setIfInBounds_toArray, List.set_cons_zero, List.set_cons_succ]
    refine ord_eff ?_
    refine wpList_store_mid rfl 39 (.tmp 19) (.tmp 17) rfl g (j * 3) #[.int .i64 a.key, .int .i64 a.push, .bool a.n] rfl rfl HS.out.2.1 info39 (by simp [Value.oneCell']) ?_
    refine ord_next trivial ?_
    simp only [Act.put]
    refine ord_nil ?_
    go_wp2
    go_end0
    exact ⟨rfl, HS.out.2.2.1, HS.out.2.2.2.os, HS.out.2.2.2.tape, HS.out.2.2.2.output, HS.out.2.2.2.size, HS.out.2.2.2.block⟩
theorem load43 (w : World) (a : Addr) (p : Option Addr) (n c : Nat) (hc : w.cell? a = some (.slice p n c)) : (loadVar 43 a).run Try.prog w = .ok (.slice p n c) w := by
  go_simp
theorem wrapnil (ts : Array TypeId) (t : TypeId) (a : Addr) (s m : String) : Builtin.ssaWrapNilChk_ ts t #[.pointer (some a), strVal s, strVal m] = pure (.pointer (some a)) := rfl
theorem under45 : Try.prog.underlying 45 = some (.pointer 43) := by kernel_rfl
/-- a method on the value, called through a pointer in an interface -/
theorem method_of {name : String} {f : FuncId} (hm : ((Try.prog.info? 45).bind fun i => (i.methods.find? (fun m => m.name == name)).map fun m => (m.path.toList, m.func)) = some ([], some (f, false))) (k qb : Nat) (w : World) (p : Option Addr) (n c : Nat)
    (hc : w.cell? ⟨qb, 0, none⟩ = some (.slice p n c)) : (method (k + 1) 45 (.pointer (some ⟨qb, 0, none⟩)) name).run Try.prog w = .ok (f, .slice p n c) w := by
  have hl := load43 w _ p n c hc
  cases hi : Try.prog.info? 45 with
  | none => rw [hi] at hm; cases hm
  | some i =>
    rw [hi] at hm
    simp only [Option.bind_some] at hm
    cases hf : i.methods.find? (fun m => m.name == name) with
    | none => rw [hf] at hm; cases hm
    | some m =>
      rw [hf] at hm
      simp only [Option.map_some, Option.some.injEq, Prod.mk.injEq] at hm
      obtain ⟨hp, hfn⟩ := hm
      have hpa : m.path = #[] := Array.toList_eq_nil_iff.1 hp
      simp [method, typeInfo, hi, hf, hpa, hfn, follow, receiverAt, run_underlying under45, Place.get, wrapnil, asAddr, hl]
theorem m_less : ((Try.prog.info? 45).bind fun i => (i.methods.find? (fun m => m.name == "Less")).map fun m => (m.path.toList, m.func)) = some ([], some (43, false)) := by kernel_rfl
theorem m_swap : ((Try.prog.info? 45).bind fun i => (i.methods.find? (fun m => m.name == "Swap")).map fun m => (m.path.toList, m.func)) = some ([], some (44, false)) := by kernel_rfl
theorem m_len : ((Try.prog.info? 45).bind fun i => (i.methods.find? (fun m => m.name == "Len")).map fun m => (m.path.toList, m.func)) = some ([], some (21, false)) := by kernel_rfl
end Go.Proofs.Yteekdgmfednmoaa
