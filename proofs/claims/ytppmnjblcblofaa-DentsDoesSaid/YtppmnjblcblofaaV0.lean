/-
  Plain words for walks over this program: what a call leaves alone ('Keeps'); a map as an association list ('MapAt'); whole rows.
-/
import Derived.WalkKit
import Derived.WalkSpells
import Derived.WalkLawsBesides
import Derived.Maps.OwnSet
import Derived.Maps.RangeWalk
import Derived.Deep.QuietTactic
import Derived.BigQuiet
import Derived.StillTailTactics
import Derived.Deep.LoopGhost
import Derived.Deep.CutBlock
import Derived.Deep.DeepFit
import Derived.Lib.Hide
import Derived.IntWalk
import Derived.Laws.StructEq
import Derived.Laws.CopyOwn
import Derived.Deep.DeepCutAuto
import Derived.Deep.RegionHeld3
namespace Go.V
open Go Go.RowKit Go.MapKept
open Go.ChangeMaps (setBlock)

/-! ### frames -/
/-- All blocks of w but those in S stand in w'. -/
structure Keeps (S : List Nat) (w w' : World) : Prop where
  os : w'.os = w.os
  tape : w'.tape = w.tape
  output : w'.output = w.output
  size : w.heap.size ≤ w'.heap.size
  block : ∀ k, k < w.heap.size → k ∉ S → w'.heap[k]? = w.heap[k]?

theorem add_none (b o j : Nat) : (⟨b, o, none⟩ : Addr).add j = ⟨b, o + j, none⟩ := by unfold Addr.add; split <;> simp_all
theorem lt_of_heap {w : World} {k : Nat} {o : Obj} (h : w.heap[k]? = some o) : k < w.heap.size := (Array.getElem?_eq_some_iff.1 h).1

namespace Keeps
variable {S T : List Nat} {a b c w : World}
theorem refl (S : List Nat) (w : World) : Keeps S w w := ⟨rfl, rfl, rfl, Nat.le_refl _, fun _ _ _ => rfl⟩
theorem trans (h : Keeps S a b) (k : Keeps S b c) : Keeps S a c :=
  ⟨k.os.trans h.os, k.tape.trans h.tape, k.output.trans h.output, Nat.le_trans h.size k.size, fun i hi hn => (k.block i (Nat.lt_of_lt_of_le hi h.size) hn).trans (h.block i hi hn)⟩
theorem mono (h : Keeps S a b) (hs : ∀ x ∈ S, x ∈ T) : Keeps T a b := ⟨h.os, h.tape, h.output, h.size, fun k hk hn => h.block k hk (fun hx => hn (hs k hx))⟩
/-- what the second step may write is in S, or was laid by the first one -/
theorem trans' (h : Keeps S a b) (k : Keeps T b c) (hs : ∀ x ∈ T, x ∈ S ∨ a.heap.size ≤ x) : Keeps S a c :=
  ⟨k.os.trans h.os, k.tape.trans h.tape, k.output.trans h.output, Nat.le_trans h.size k.size, fun i hi hn =>
    (k.block i (Nat.lt_of_lt_of_le hi h.size) (fun hx => by rcases hs i hx with h' | h' <;> first | exact hn h' | omega)).trans (h.block i hi hn)⟩
theorem get (h : Keeps S a b) {k : Nat} {o : Obj} (hk : a.heap[k]? = some o) (hn : k ∉ S) : b.heap[k]? = some o := (h.block k (lt_of_heap hk) hn).trans hk
theorem below (h : Keeps S a b) {B : Nat} (hB : B ≤ a.heap.size) (hs : ∀ x ∈ S, B ≤ x) : Below B a b :=
  ⟨h.os, h.tape, h.output, h.size, fun k hk => h.block k (by omega) (fun hx => by have := hs k hx; omega)⟩
theorem ofBelow {B : Nat} (h : Below B a b) (hB : a.heap.size ≤ B) : Keeps S a b := ⟨h.os, h.tape, h.output, h.size, fun k hk _ => h.block k (by omega)⟩
theorem alloc (h : Keeps S a b) (o : Obj) : Keeps S a (b.alloc o) :=
  h.trans ⟨rfl, rfl, rfl, by show _ ≤ (b.heap.push o).size; simp, fun k hk _ => by show (b.heap.push o)[k]? = _; rw [Array.getElem?_push, if_neg (by omega)]⟩
theorem drew (h : Keeps S a b) : Keeps S a b.drew := ⟨h.os, h.tape, h.output, h.size, h.block⟩
theorem drewN (h : Keeps S a b) (n : Nat) : Keeps S a (b.drewN n) := ⟨h.os, h.tape, h.output, h.size, h.block⟩
theorem setRow (h : Keeps S a b) {g : Nat} (hg : g ∈ S ∨ a.heap.size ≤ g) (cs : Array Value) : Keeps S a (b.setRow g cs) :=
  h.trans' (T := [g]) ⟨rfl, rfl, rfl, by simp [World.setRow], fun k _ hn => by
    simp only [World.setRow, Array.getElem?_modify]; rw [if_neg (fun e => hn (by simp [e]))]⟩ (fun x hx => by simp at hx; subst hx; exact hg)
theorem setCell (h : Keeps S a b) {p : Addr} (hg : p.block ∈ S ∨ a.heap.size ≤ p.block) (v : Value) : Keeps S a (b.setCell p v) :=
  h.trans' (T := [p.block]) ⟨rfl, rfl, rfl, by simp [World.setCell], fun k _ hn => by
    simp only [World.setCell, Array.getElem?_modify]; rw [if_neg (fun e => hn (by simp [e]))]⟩ (fun x hx => by simp at hx; subst hx; exact hg)
theorem setBlock (h : Keeps S a b) {g : Nat} (hg : g ∈ S ∨ a.heap.size ≤ g) (o : Obj) : Keeps S a (setBlock b g o) :=
  h.trans' (T := [g]) ⟨rfl, rfl, rfl, by simp [Go.ChangeMaps.setBlock], fun k _ hn => by
    simp only [Go.ChangeMaps.setBlock, Array.getElem?_setIfInBounds]; rw [if_neg (fun e => hn (by simp [e]))]⟩ (fun x hx => by simp at hx; subst hx; exact hg)
theorem fresh {o : Obj} (h : Keeps [a.heap.size] (a.alloc o) b) : Keeps [] a b := ((Keeps.refl [] a).alloc o).trans' h (fun x hx => by simp at hx; omega)
theorem grown {row : Option Nat} (h : Keeps S a b) (hg : b.grownBy c row) (hr : ∀ k, row = some k → k ∈ S ∨ a.heap.size ≤ k) : Keeps S a c :=
  h.trans' (T := row.toList) ⟨hg.os, hg.tape, hg.output, hg.size, fun k hk hn => hg.block k hk (fun e => hn (by simp [← e]))⟩ (fun x hx => hr x (by simpa using hx))
end Keeps

theorem heap_alloc (w : World) (o : Obj) : (w.alloc o).heap[w.heap.size]? = some o := by show (w.heap.push o)[w.heap.size]? = _; simp
theorem heap_alloc_ne (w : World) (o : Obj) {k : Nat} {u : Obj} (h : w.heap[k]? = some u) : (w.alloc o).heap[k]? = some u := by
  show (w.heap.push o)[k]? = _; rw [Array.getElem?_push, if_neg (by have := lt_of_heap h; omega)]; exact h
theorem heap_setRow {w : World} {g : Nat} {old cs : Array Value} {t : TypeId} {fr : Nat × Nat} (hg : w.heap[g]? = some (.cells old t fr)) : (w.setRow g cs).heap[g]? = some (.cells cs t fr) := setRow_heap w g old cs t fr hg
theorem heap_setRow_ne {w : World} {g k : Nat} {cs : Array Value} {u : Obj} (h : w.heap[k]? = some u) (hn : k ≠ g) : (w.setRow g cs).heap[k]? = some u := by
  simp only [World.setRow, Array.getElem?_modify]; rw [if_neg (fun e => hn e.symm)]; exact h
theorem heap_setCell {w : World} {g i : Nat} {cs : Array Value} {t : TypeId} {v : Value} {fr : Nat × Nat} (hg : w.heap[g]? = some (.cells cs t fr)) : (w.setCell ⟨g, i, none⟩ v).heap[g]? = some (.cells (cs.setIfInBounds i v) t fr) := by
  simp [World.setCell, Array.getElem?_modify, hg]
theorem heap_setCell_ne {w : World} {p : Addr} {k : Nat} {v : Value} {u : Obj} (h : w.heap[k]? = some u) (hn : k ≠ p.block) : (w.setCell p v).heap[k]? = some u := by
  simp only [World.setCell, Array.getElem?_modify]; rw [if_neg (fun e => hn e.symm)]; exact h
theorem heap_setCell_ne' {w : World} {p : Addr} {k : Nat} {v : Value} (hn : k ≠ p.block) : (w.setCell p v).heap[k]? = w.heap[k]? := by
  simp only [World.setCell, Array.getElem?_modify]; rw [if_neg (fun e => hn e.symm)]
theorem cell_of {w : World} {g j : Nat} {cs : Array Value} {t : TypeId} {fr : Nat × Nat} {v : Value} (hg : w.heap[g]? = some (.cells cs t fr)) (hv : cs[j]? = some v) : w.cell? ⟨g, j, none⟩ = some v := by
  rw [Go.cell_of_row w g j cs t fr hg]; exact hv
theorem frozen_of {w : World} {g : Nat} (j : Nat) {cs : Array Value} {t : TypeId} (hg : w.heap[g]? = some (.cells cs t (0, 0))) : w.frozen? ⟨g, j, none⟩ = false := frozen_of_row w g j cs t hg

/-! ### association lists -/
section alist
variable {κ β : Type} [DecidableEq κ]
def get : List (κ × β) → κ → Option β
  | [], _ => none
  | (a, b) :: l, k => if a = k then some b else get l k
def put : List (κ × β) → κ → β → List (κ × β)
  | [], k, v => [(k, v)]
  | (a, b) :: l, k, v => if a = k then (a, v) :: l else (a, b) :: put l k v
def del (l : List (κ × β)) (k : κ) : List (κ × β) := l.filter (fun p => decide (p.1 ≠ k))
def keys (l : List (κ × β)) : List κ := l.map Prod.fst

theorem get_none {l : List (κ × β)} {k : κ} : get l k = none ↔ k ∉ keys l := by
  induction l with
  | nil => simp [get, keys]
  | cons p l ih =>
    obtain ⟨a, b⟩ := p
    simp only [get, keys, List.map_cons, List.mem_cons, not_or]
    by_cases h : a = k
    · simp [h]
    · rw [if_neg h, ih]
      have h' : ¬ k = a := fun e => h e.symm
      simp only [keys, h', not_false_eq_true, true_and]
theorem get_isSome {l : List (κ × β)} {k : κ} : (get l k).isSome = true ↔ k ∈ keys l := by
  have := @get_none κ β _ l k
  cases h : get l k with
  | none => simp [this.1 h]
  | some v => simp; exact Decidable.byContradiction fun hn => by rw [this.2 hn] at h; cases h
theorem mem_of_get {l : List (κ × β)} {k : κ} {v : β} (h : get l k = some v) : (k, v) ∈ l := by
  induction l with
  | nil => simp [get] at h
  | cons p l ih =>
    obtain ⟨a, b⟩ := p
    simp only [get] at h
    by_cases e : a = k
    · rw [if_pos e] at h; cases h; simp [e]
    · rw [if_neg e] at h; exact List.mem_cons_of_mem _ (ih h)
theorem get_of_mem {l : List (κ × β)} {k : κ} {v : β} (hn : (keys l).Nodup) (h : (k, v) ∈ l) : get l k = some v := by
  induction l with
  | nil => simp at h
  | cons p l ih =>
    obtain ⟨a, b⟩ := p
    simp only [keys, List.map_cons, List.nodup_cons] at hn
    rcases List.mem_cons.1 h with h | h
    · cases h; simp [get]
    · have : k ∈ l.map Prod.fst := List.mem_map.2 ⟨_, h, rfl⟩
      simp only [get]; rw [if_neg (fun e : a = k => hn.1 (by rw [e]; exact this))]; exact ih hn.2 h
theorem get_put {l : List (κ × β)} {k x : κ} {v : β} : get (put l k v) x = if k = x then some v else get l x := by
  induction l with
  | nil => simp [put, get]
  | cons p l ih =>
    obtain ⟨a, b⟩ := p
    simp only [put, get]
    by_cases e : a = k
    · rw [if_pos e]; simp only [get]; subst e; by_cases h : a = x <;> simp [h]
    · rw [if_neg e]; simp only [get, ih]
      by_cases h : a = x
      · subst h; rw [if_pos rfl, if_pos rfl, if_neg (fun h => e h.symm)]
      · rw [if_neg h, if_neg h]
theorem keys_put {l : List (κ × β)} {k : κ} {v : β} : keys (put l k v) = if k ∈ keys l then keys l else keys l ++ [k] := by
  induction l with
  | nil => simp [put, keys]
  | cons p l ih =>
    obtain ⟨a, b⟩ := p
    simp only [put]
    by_cases e : a = k
    · simp [e, keys]
    · rw [if_neg e]
      simp only [keys, List.map_cons, List.mem_cons] at ih ⊢
      rw [ih]
      by_cases h : k ∈ l.map Prod.fst
      · simp [h]
      · have e' : ¬ k = a := fun q => e q.symm
        simp only [h, e', or_self, if_false, List.cons_append]
theorem nodup_put {l : List (κ × β)} {k : κ} {v : β} (h : (keys l).Nodup) : (keys (put l k v)).Nodup := by
  rw [keys_put]; split
  · exact h
  · rename_i hn; rw [List.nodup_append]; exact ⟨h, by simp, fun a ha b hb => by simp at hb; subst hb; exact fun e => hn (e ▸ ha)⟩
theorem length_put {l : List (κ × β)} {k : κ} {v : β} : (put l k v).length = if k ∈ keys l then l.length else l.length + 1 := by
  have e : ∀ m : List (κ × β), m.length = (keys m).length := fun m => by simp [keys]
  rw [e (put l k v), keys_put, e l]; split <;> simp
theorem keys_del {l : List (κ × β)} {k : κ} : keys (del l k) = (keys l).filter (fun x => decide (x ≠ k)) := by
  simp only [keys, del, List.filter_map]; rfl
theorem mem_keys_del {l : List (κ × β)} {k x : κ} : x ∈ keys (del l k) ↔ x ∈ keys l ∧ x ≠ k := by rw [keys_del]; simp
theorem nodup_del {l : List (κ × β)} {k : κ} (h : (keys l).Nodup) : (keys (del l k)).Nodup := by rw [keys_del]; exact h.filter _
theorem get_del {l : List (κ × β)} {k x : κ} : get (del l k) x = if x = k then none else get l x := by
  induction l with
  | nil => simp [del, get]
  | cons p l ih =>
    obtain ⟨a, b⟩ := p
    simp only [del, List.filter_cons] at ih ⊢
    by_cases e : a = k
    · subst e
      simp only [ne_eq, not_true_eq_false, decide_false, Bool.false_eq_true, if_false, get]
      rw [ih]; by_cases h : x = a
      · simp [h]
      · have h' : ¬ a = x := fun q => h q.symm
        simp only [h, h', if_false]
    · simp only [ne_eq, e, not_false_eq_true, decide_true, if_true, get]
      rw [ih]; by_cases h : a = x
      · subst h; simp [e]
      · simp [h]
theorem length_del {l : List (κ × β)} {k : κ} (h : (keys l).Nodup) (hk : k ∈ keys l) : (del l k).length + 1 = l.length := by
  induction l with
  | nil => simp [keys] at hk
  | cons p l ih =>
    obtain ⟨a, b⟩ := p
    simp only [keys, List.map_cons, List.nodup_cons, List.mem_cons] at h hk
    simp only [del, List.filter_cons]
    by_cases e : a = k
    · subst e
      have : del l a = l := by
        refine List.filter_eq_self.2 fun p hp => ?_
        simp only [ne_eq, decide_not, Bool.not_eq_true', decide_eq_false_iff_not]
        exact fun q => h.1 (q ▸ List.mem_map.2 ⟨p, hp, rfl⟩)
      simp only [ne_eq, not_true_eq_false, decide_false, Bool.false_eq_true, if_false, List.length_cons]
      have := congrArg List.length this
      simp only [del] at this; rw [this]
    · simp only [ne_eq, e, not_false_eq_true, decide_true, if_true, List.length_cons]
      have hk' : k ∈ keys l := by rcases hk with q | q; exact absurd q.symm e; exact q
      have := ih h.2 hk'
      simp only [del, ne_eq] at this; omega
theorem del_not_mem {l : List (κ × β)} {k : κ} (hk : k ∉ keys l) : del l k = l := by
  refine List.filter_eq_self.2 fun p hp => ?_
  simp only [ne_eq, decide_not, Bool.not_eq_true', decide_eq_false_iff_not]
  exact fun q => hk (q ▸ List.mem_map.2 ⟨p, hp, rfl⟩)
end alist

theorem nodup_map_inj {α γ : Type} (f : α → γ) : ∀ {L : List α}, (L.map f).Nodup → ∀ {x y : α}, x ∈ L → y ∈ L → f x = f y → x = y
  | [], _, _, _, hx, _, _ => by cases hx
  | z :: L, hL, x, y, hx, hy, hxy => by
    simp only [List.map_cons, List.nodup_cons] at hL
    rcases List.mem_cons.1 hx with rfl | hx' <;> rcases List.mem_cons.1 hy with rfl | hy'
    · rfl
    · exact absurd (List.mem_map.2 ⟨y, hy', hxy.symm⟩) hL.1
    · exact absurd (List.mem_map.2 ⟨x, hx', hxy⟩) hL.1
    · exact nodup_map_inj f hL.2 hx' hy' hxy

/-! ### a map in memory -/
section maps
variable {κ β : Type} {P : Program}

/-- keys of a plain kind, told apart by what they are -/
structure KeyOk (P : Program) (kt : TypeId) (ke : κ → Value) : Prop where
  d : ∃ d, P.underlying kt = some d ∧ ∀ a, IsKey d (ke a)
  inj : ∀ a b, ke a = ke b → a = b

def pairs (es : Array MapEntry) : List (Value × Value) := es.toList.map fun e => (e.key, e.val)
def raw (ke : κ → Value) (ve : β → Value) (l : List (κ × β)) : List (Value × Value) := l.map fun p => (ke p.1, ve p.2)

/-- Block mb is a map that holds l, in the order in which its keys came. -/
def MapAt (w : World) (mb : Nat) (ke : κ → Value) (ve : β → Value) (l : List (κ × β)) : Prop :=
  ∃ es clk, w.heap[mb]? = some (.map es clk) ∧ pairs es = raw ke ve l ∧ (∀ e ∈ es.toList, e.born < clk) ∧ (es.toList.map (·.born)).Nodup ∧ (keys l).Nodup

theorem MapAt.nodup {w : World} {mb : Nat} {ke : κ → Value} {ve : β → Value} {l : List (κ × β)} (h : MapAt w mb ke ve l) : (keys l).Nodup := by
  obtain ⟨_, _, _, _, _, _, h⟩ := h; exact h
theorem MapAt.of {w w' : World} {mb : Nat} {ke : κ → Value} {ve : β → Value} {l : List (κ × β)} (h : MapAt w mb ke ve l) (hb : w'.heap[mb]? = w.heap[mb]?) : MapAt w' mb ke ve l := by
  obtain ⟨es, clk, a, b, c, d, e⟩ := h; exact ⟨es, clk, hb.trans a, b, c, d, e⟩
theorem MapAt.lt {w : World} {mb : Nat} {ke : κ → Value} {ve : β → Value} {l : List (κ × β)} (h : MapAt w mb ke ve l) : mb < w.heap.size := by
  obtain ⟨es, clk, a, _⟩ := h; exact lt_of_heap a
theorem MapAt.heap {w : World} {mb : Nat} {ke : κ → Value} {ve : β → Value} {l : List (κ × β)} (h : MapAt w mb ke ve l) : ∃ es clk, w.heap[mb]? = some (.map es clk) := by
  obtain ⟨es, clk, a, _⟩ := h; exact ⟨es, clk, a⟩
theorem MapAt.keep {S : List Nat} {w w' : World} {mb : Nat} {ke : κ → Value} {ve : β → Value} {l : List (κ × β)} (h : MapAt w mb ke ve l) (hk : Keeps S w w') (hn : mb ∉ S) : MapAt w' mb ke ve l :=
  h.of (hk.block mb h.lt hn)
theorem MapAt.made (w : World) (ke : κ → Value) (ve : β → Value) : MapAt (w.alloc (.map #[] 0)) w.heap.size ke ve [] :=
  ⟨#[], 0, heap_alloc w _, rfl, by simp, by simp, by simp [keys]⟩

/-- where a key stands -/
theorem find_raw [DecidableEq κ] {d : TypeDesc} {ke : κ → Value} {ve : β → Value} (hd : ∀ a, IsKey d (ke a)) (hi : ∀ a b, ke a = ke b → a = b) (k : κ) : ∀ (L : List MapEntry) (l : List (κ × β)) (i : Nat),
    L.map (fun e => (e.key, e.val)) = raw ke ve l →
    (get l k = none ∧ Instr.findNow d (ke k) L i = some none) ∨
    ∃ j v, get l k = some v ∧ j < L.length ∧ Instr.findNow d (ke k) L i = some (some (i + j, ve v)) ∧ (∃ e, L[j]? = some e ∧ e.key = ke k) ∧
      (∀ v', (L.modify j fun e => { e with key := ke k, val := ve v' }).map (fun e => (e.key, e.val)) = raw ke ve (put l k v')) ∧
      ((keys l).Nodup → (L.eraseIdx j).map (fun e => (e.key, e.val)) = raw ke ve (del l k))
  | [], [], i, _ => .inl ⟨rfl, rfl⟩
  | [], _ :: _, _, h => by simp [raw] at h
  | _ :: _, [], _, h => by simp [raw] at h
  | e :: L, (a, b) :: l, i, h => by
    simp only [List.map_cons, raw, List.cons.injEq, Prod.mk.injEq] at h
    obtain ⟨⟨hk, hv⟩, hL⟩ := h
    obtain ⟨r, hr, hiff⟩ := sameNow_of_keys (hd k) (by rw [hk]; exact hd a : IsKey d e.key)
    by_cases hak : a = k
    · subst hak
      have : r = true := hiff.2 hk.symm
      subst this
      refine .inr ⟨0, b, by simp [get], by simp, by simp [Instr.findNow, hr, hv], ⟨e, rfl, hk⟩, fun v' => ?_, fun hn => ?_⟩
      · simp [put, raw, hL]
      · simp only [keys, List.map_cons, List.nodup_cons] at hn
        simp only [List.eraseIdx_zero, List.tail_cons, hL, del, List.filter_cons]
        simp only [ne_eq, not_true_eq_false, decide_false, Bool.false_eq_true, if_false]
        have : l.filter (fun p => decide (¬p.1 = a)) = l := del_not_mem (l := l) (k := a) hn.1
        rw [this]; rfl
    · have : r = false := by
        cases r with
        | false => rfl
        | true => exact absurd (hi _ _ ((hiff.1 rfl).trans hk)).symm hak
      subst this
      rcases find_raw hd hi k L l (i + 1) hL with ⟨h1, h2⟩ | ⟨j, v, h1, hj, h2, h3, h4, h5⟩
      · exact .inl ⟨by simp [get, hak, h1], by simp [Instr.findNow, hr, h2]⟩
      · refine .inr ⟨j + 1, v, by simp [get, hak, h1], by simpa using hj, by simp [Instr.findNow, hr, h2]; omega, by simpa using h3, fun v' => ?_, fun hn => ?_⟩
        · have := h4 v'
          simp only [List.modify_succ_cons, List.map_cons, put, if_neg hak, raw, List.map_cons] at this ⊢
          rw [this, hk, hv]
        · simp only [keys, List.map_cons, List.nodup_cons] at hn
          have := h5 hn.2
          simp only [List.eraseIdx_cons_succ, List.map_cons, del, List.filter_cons, ne_eq, hak, not_false_eq_true, decide_true, if_true, raw, List.map_cons] at this ⊢
          rw [this, hk, hv]

def look (ok : Bool) (z : Value) (ve : β → Value) (r : Option β) : Value := if ok then .tuple #[r.elim z ve, .bool r.isSome] else r.elim z ve

variable {w : World} {mb : Nat} {ke : κ → Value} {ve : β → Value} {l : List (κ × β)} {t kt et : TypeId}

theorem MapAt.lookup [DecidableEq κ] (h : MapAt w mb ke ve l) (K : KeyOk P kt ke) (ht : P.underlying t = some (.map kt et)) {z : Value} (hz : (zeroValue et).run P w = .ok z w) (k : κ) (ok : Bool) :
    (Instr.lookup t (.map (some mb)) (ke k) ok).run P w = .ok (look ok z ve (get l k)) w := by
  obtain ⟨es, clk, hb, hp, _, _, hn⟩ := h
  obtain ⟨d, hd, hk⟩ := K.d
  simp only [Instr.lookup, Sem.run_bind, run_underlying ht, Result.andThen, Go.MapKept.run_getObj_map hb, run_checkKey hd (hk k)]
  rcases find_raw hk K.inj k es.toList l 0 hp with ⟨h1, h2⟩ | ⟨j, v, h1, _, h2, _⟩
  · simp [run_findKey hd h2, h1, hz, Result.andThen, look]
  · simp [run_findKey hd h2, h1, look]

theorem MapAt.update [DecidableEq κ] (h : MapAt w mb ke ve l) (K : KeyOk P kt ke) (ht : P.underlying t = some (.map kt et)) (k : κ) (v : β) :
    ∃ w', (Instr.mapUpdate t (.map (some mb)) (ke k) (ve v)).run P w = .ok () w' ∧ MapAt w' mb ke ve (put l k v) ∧ Keeps [mb] w w' := by
  obtain ⟨es, clk, hb, hp, hc, hnb, hn⟩ := h
  obtain ⟨d, hd, hk⟩ := K.d
  simp only [Instr.mapUpdate, Sem.run_bind, run_underlying ht, Result.andThen, Go.MapKept.run_getObj_map hb, run_checkKey hd (hk k)]
  rcases find_raw hk K.inj k es.toList l 0 hp with ⟨h1, h2⟩ | ⟨j, v0, h1, hj, h2, ⟨e0, h3, h3'⟩, h4, _⟩
  · simp only [run_findKey hd h2]
    refine ⟨_, run_setObj_map _ hb, ⟨_, _, (heap_set hb).1, ?_, ?_, ?_, nodup_put hn⟩, (Keeps.refl _ w).setBlock (Or.inl (by simp)) _⟩
    · have hput : ∀ l : List (κ × β), get l k = none → raw ke ve (put l k v) = raw ke ve l ++ [(ke k, ve v)] := by
        intro l hl
        induction l with
        | nil => rfl
        | cons p l ih =>
          obtain ⟨a, b⟩ := p
          simp only [get] at hl
          by_cases e : a = k
          · simp [e] at hl
          · rw [if_neg e] at hl; simp only [put, if_neg e, raw, List.map_cons, List.cons_append] at ih ⊢; rw [ih hl]
      rw [hput l h1, ← hp]; simp [pairs]
    · intro e he
      simp only [Array.toList_push, List.mem_append, List.mem_singleton] at he
      rcases he with he | rfl
      · have := hc e he; omega
      · simp
    · simp only [Array.toList_push, List.map_append, List.map_cons, List.map_nil]
      rw [List.nodup_append]
      refine ⟨hnb, by simp, fun a ha b hb' => ?_⟩
      obtain ⟨e, he, rfl⟩ := List.mem_map.1 ha
      simp at hb'; subst hb'
      have := hc e he; omega
  · simp only [run_findKey hd h2, Nat.zero_add]
    have hkk : ((es[j]?).map (·.key)).getD (ke k) = ke k := by
      have : es[j]? = some e0 := by simpa using h3
      simp [this, h3']
    simp only [hkk, Sem.run_bind, run_keyThatStays (hk k), Result.andThen]
    refine ⟨_, run_setObj_map _ hb, ⟨_, _, (heap_set hb).1, ?_, ?_, ?_, nodup_put hn⟩, (Keeps.refl _ w).setBlock (Or.inl (by simp)) _⟩
    · have := h4 v; simp only [pairs, Array.toList_modify]; exact this
    · intro e he
      simp only [Array.toList_modify] at he
      obtain ⟨i, hi, rfl⟩ := List.mem_iff_getElem.1 he
      have hi' : i < es.toList.length := by simpa using hi
      have hci := hc _ (List.getElem_mem hi')
      simp only [List.getElem_modify]
      split <;> exact hci
    · have : (es.toList.modify j fun e => { e with key := ke k, val := ve v }).map (·.born) = es.toList.map (·.born) := by
        apply List.ext_getElem?; intro i
        simp only [List.getElem?_map, List.getElem?_modify]
        by_cases e : j = i
        · subst e; simp [Option.map_map]; cases es.toList[j]? <;> rfl
        · simp [e]
      simp only [Array.toList_modify, this]; exact hnb

theorem MapAt.delete [DecidableEq κ] (h : MapAt w mb ke ve l) (K : KeyOk P kt ke) (ht : P.underlying t = some (.map kt et)) (k : κ) (at2 ty : TypeId) :
    ∃ w', (Builtin.delete_ #[t, at2] ty #[.map (some mb), ke k]).run P w = .ok (.tuple #[]) w' ∧ MapAt w' mb ke ve (del l k) ∧ Keeps [mb] w w' := by
  obtain ⟨es, clk, hb, hp, hc, hnb, hn⟩ := h
  obtain ⟨d, hd, hk⟩ := K.d
  simp only [Builtin.delete_, Sem.run_bind, run_underlying ht, Result.andThen, Go.MapKept.run_getObj_map hb, run_checkKey hd (hk k), List.getElem?_toArray, List.getElem?_cons_zero, List.getElem?_cons_succ]
  rcases find_raw hk K.inj k es.toList l 0 hp with ⟨h1, h2⟩ | ⟨j, v0, h1, hj, h2, _, _, h5⟩
  · simp only [run_findKey hd h2, Sem.run_bind, run_setObj_map _ hb, Result.andThen, Sem.run_pure]
    exact ⟨_, rfl, ⟨es, clk, (heap_set hb).1, by rw [del_not_mem (get_none.1 h1)]; exact hp, hc, hnb, nodup_del hn⟩, (Keeps.refl _ w).setBlock (Or.inl (by simp)) _⟩
  · simp only [run_findKey hd h2, Nat.zero_add, Sem.run_bind, run_setObj_map _ hb, Result.andThen, Sem.run_pure]
    have hsz : j < es.size := by simpa using hj
    have hes : (es.eraseIdxIfInBounds j).toList = es.toList.eraseIdx j := by simp [Array.eraseIdxIfInBounds, hsz]
    have hsub : (es.toList.eraseIdx j).Sublist es.toList := List.eraseIdx_sublist _ _
    refine ⟨_, rfl, ⟨_, clk, (heap_set hb).1, ?_, ?_, ?_, nodup_del hn⟩, (Keeps.refl _ w).setBlock (Or.inl (by simp)) _⟩
    · simp only [pairs, hes]; exact h5 hn
    · intro e he; rw [hes] at he; exact hc e (hsub.subset he)
    · rw [hes]; exact (hsub.map _).nodup hnb

theorem MapAt.len (h : MapAt w mb ke ve l) (ht : P.underlying t = some (.map kt et)) (ty : TypeId) :
    (Builtin.len_ #[t] ty #[.map (some mb)]).run P w = .ok (.int .i64 l.length) w := by
  obtain ⟨es, clk, hb, hp, hc, hnb, hn⟩ := h
  have hl : es.size = l.length := by have := congrArg List.length hp; simpa [pairs, raw] using this
  simp [Builtin.len_, run_underlying ht, Go.MapKept.run_getObj_map hb, Sem.run_bind, Result.andThen, hl]; rfl

/-! at the operation -/
variable {ops : Array Oper} {rest : List Oper} {o : Oper} {a : Act} {Q : Exit → Act → World → Prop}

theorem vp_lookup [DecidableEq κ] (hg : o.guard = none) (m x : Operand) (t : TypeId) (ok : Bool) (hop : o.op = Op.lookup t m x ok) (kt et : TypeId) (ht : P.underlying t = some (.map kt et)) (K : KeyOk P kt ke) {z : Value} (hz : (zeroValue et).run P w = .ok z w)
    (hm : a.eval m = .map (some mb)) (k : κ) (hx : a.eval x = ke k) (h : MapAt w mb ke ve l) (hK : wpList P ops Q rest (a.put o.dst (look ok z ve (get l k))) w) : wpList P ops Q (o :: rest) a w := by
  refine wpList_plain hg fun K' hK' => ?_
  unfold Oper.wp
  simp [execOp, hop, hm, hx, h.lookup K ht hz k ok, Result.andThen]
  exact hK' _ _ hK

theorem vp_lookup_some [DecidableEq κ] (hg : o.guard = none) (m x : Operand) (t : TypeId) (hop : o.op = Op.lookup t m x true) (kt et : TypeId) (ht : P.underlying t = some (.map kt et)) (K : KeyOk P kt ke) {z : Value} (hz : (zeroValue et).run P w = .ok z w)
    (hm : a.eval m = .map (some mb)) (k : κ) (hx : a.eval x = ke k) (h : MapAt w mb ke ve l) {b : β} (hb : get l k = some b) (hK : wpList P ops Q rest (a.put o.dst (.tuple #[ve b, .bool true])) w) : wpList P ops Q (o :: rest) a w :=
  vp_lookup hg m x t true hop kt et ht K hz hm k hx h (by rw [hb]; exact hK)
theorem vp_lookup_none [DecidableEq κ] (hg : o.guard = none) (m x : Operand) (t : TypeId) (hop : o.op = Op.lookup t m x true) (kt et : TypeId) (ht : P.underlying t = some (.map kt et)) (K : KeyOk P kt ke) {z : Value} (hz : (zeroValue et).run P w = .ok z w)
    (hm : a.eval m = .map (some mb)) (k : κ) (hx : a.eval x = ke k) (h : MapAt w mb ke ve l) (hb : get l k = none) (hK : wpList P ops Q rest (a.put o.dst (.tuple #[z, .bool false])) w) : wpList P ops Q (o :: rest) a w :=
  vp_lookup hg m x t true hop kt et ht K hz hm k hx h (by rw [hb]; exact hK)

/-- 'v, ok := m[k]' where the zero value is some b0's -/
theorem vp_lookup_ok [DecidableEq κ] (hg : o.guard = none) (m x : Operand) (t : TypeId) (hop : o.op = Op.lookup t m x true) (kt et : TypeId) (ht : P.underlying t = some (.map kt et)) (K : KeyOk P kt ke) {b0 : β} (hz : (zeroValue et).run P w = .ok (ve b0) w)
    (hm : a.eval m = .map (some mb)) (k : κ) (hx : a.eval x = ke k) (h : MapAt w mb ke ve l) {b : β} {ok : Bool} (hb : (get l k).getD b0 = b) (hok : (get l k).isSome = ok) (hK : wpList P ops Q rest (a.put o.dst (.tuple #[ve b, .bool ok])) w) : wpList P ops Q (o :: rest) a w :=
  vp_lookup hg m x t true hop kt et ht K hz hm k hx h (by
    cases hg : get l k with
    | none => rw [hg] at hb hok; subst hb; subst hok; exact hK
    | some v => rw [hg] at hb hok; subst hb; subst hok; exact hK)
/-- 'm[k]' where the zero value is some b0's -/
theorem vp_lookup_at [DecidableEq κ] (hg : o.guard = none) (m x : Operand) (t : TypeId) (hop : o.op = Op.lookup t m x false) (kt et : TypeId) (ht : P.underlying t = some (.map kt et)) (K : KeyOk P kt ke) {b0 : β} (hz : (zeroValue et).run P w = .ok (ve b0) w)
    (hm : a.eval m = .map (some mb)) (k : κ) (hx : a.eval x = ke k) (h : MapAt w mb ke ve l) {b : β} (hb : (get l k).getD b0 = b) (hK : wpList P ops Q rest (a.put o.dst (ve b)) w) : wpList P ops Q (o :: rest) a w :=
  vp_lookup hg m x t false hop kt et ht K hz hm k hx h (by
    cases hg : get l k with
    | none => rw [hg] at hb; subst hb; exact hK
    | some v => rw [hg] at hb; subst hb; exact hK)

theorem vp_update [DecidableEq κ] (hg : o.guard = none) (m x v : Operand) (t : TypeId) (hop : o.op = Op.mapUpdate t m x v) (kt et : TypeId) (ht : P.underlying t = some (.map kt et)) (K : KeyOk P kt ke)
    (hm : a.eval m = .map (some mb)) (k : κ) (hx : a.eval x = ke k) (b : β) (hv : a.eval v = ve b) (h : MapAt w mb ke ve l)
    (hK : ∀ w', MapAt w' mb ke ve (put l k b) → Keeps [mb] w w' → wpList P ops Q rest (a.put o.dst undef) w') : wpList P ops Q (o :: rest) a w := by
  refine wpList_plain hg fun K' hK' => ?_
  obtain ⟨w', hrun, r1, r2⟩ := h.update K ht k b
  unfold Oper.wp
  simp [execOp, hop, hm, hx, hv, hrun, Result.andThen]
  exact hK' _ _ (hK w' r1 r2)

theorem vp_delete [DecidableEq κ] (hg : o.guard = none) (m x : Operand) (t kt' : TypeId) (hop : o.op = Op.call { callee := Callee.builtin Builtin.delete, args := #[m, x], argTypes := #[t, kt'] }) (kt et : TypeId) (ht : P.underlying t = some (.map kt et)) (K : KeyOk P kt ke)
    (hm : a.eval m = .map (some mb)) (k : κ) (hx : a.eval x = ke k) (h : MapAt w mb ke ve l)
    (hK : ∀ w', MapAt w' mb ke ve (del l k) → Keeps [mb] w w' → wpList P ops Q rest (a.put o.dst (.tuple #[])) w') : wpList P ops Q (o :: rest) a w := by
  refine wpList_plain hg fun K' hK' => ?_
  obtain ⟨w', hrun, r1, r2⟩ := h.delete K ht k kt' o.type
  unfold Oper.wp
  simp [execOp, hop, resolve, invoke, builtin, hm, hx, hrun, Result.andThen]
  exact hK' _ _ (hK w' r1 r2)

theorem vp_len (hg : o.guard = none) (m : Operand) (t : TypeId) (hop : o.op = Op.call { callee := Callee.builtin Builtin.len, args := #[m], argTypes := #[t] }) (kt et : TypeId) (ht : P.underlying t = some (.map kt et))
    (hm : a.eval m = .map (some mb)) (h : MapAt w mb ke ve l) (hK : wpList P ops Q rest (a.put o.dst (.int .i64 l.length)) w) : wpList P ops Q (o :: rest) a w := by
  refine wpList_plain hg fun K' hK' => ?_
  unfold Oper.wp
  simp [execOp, hop, resolve, invoke, builtin, hm, h.len ht o.type, Result.andThen]
  exact hK' _ _ hK

/-! ranging -/
/-- Block ib is an iterator over the map in block mb, which holds l; 'seen': the keys that have come. -/
def IterAt (w : World) (ib mb : Nat) (ke : κ → Value) (ve : β → Value) (l : List (κ × β)) (seen : List κ) : Prop :=
  ∃ es clk sn, w.heap[mb]? = some (.map es clk) ∧ pairs es = raw ke ve l ∧ (∀ e ∈ es.toList, e.born < clk) ∧ (es.toList.map (·.born)).Nodup ∧ (keys l).Nodup ∧
    w.heap[ib]? = some (.mapIter (some mb) clk sn clk) ∧ ∀ e ∈ es.toList, ∀ k, e.key = ke k → (sn.contains e.born = true ↔ k ∈ seen)

theorem IterAt.map {ib : Nat} {seen : List κ} (h : IterAt w ib mb ke ve l seen) : MapAt w mb ke ve l := by
  obtain ⟨es, clk, sn, a, b, c, d, e, _⟩ := h; exact ⟨es, clk, a, b, c, d, e⟩
theorem IterAt.of {w' : World} {ib : Nat} {seen : List κ} (h : IterAt w ib mb ke ve l seen) (hb : w'.heap[mb]? = w.heap[mb]?) (hi : w'.heap[ib]? = w.heap[ib]?) : IterAt w' ib mb ke ve l seen := by
  obtain ⟨es, clk, sn, a, b, c, d, e, f, g⟩ := h; exact ⟨es, clk, sn, hb.trans a, b, c, d, e, hi.trans f, g⟩
theorem IterAt.lt {ib : Nat} {seen : List κ} (h : IterAt w ib mb ke ve l seen) : ib < w.heap.size ∧ mb < w.heap.size ∧ ib ≠ mb := by
  obtain ⟨es, clk, sn, a, b, c, d, e, f, g⟩ := h
  exact ⟨lt_of_heap f, lt_of_heap a, fun q => by subst q; rw [a] at f; cases f⟩
theorem IterAt.keep {S : List Nat} {w' : World} {ib : Nat} {seen : List κ} (h : IterAt w ib mb ke ve l seen) (hk : Keeps S w w') (hn : mb ∉ S) (hi : ib ∉ S) : IterAt w' ib mb ke ve l seen :=
  h.of (hk.block _ h.lt.2.1 hn) (hk.block _ h.lt.1 hi)

/-- the current key's element is written anew -/
theorem IterAt.update [DecidableEq κ] {ib : Nat} {seen : List κ} (h : IterAt w ib mb ke ve l seen) (K : KeyOk P kt ke) (ht : P.underlying t = some (.map kt et)) (k : κ) (hk : k ∈ keys l) (v : β) :
    ∃ w', (Instr.mapUpdate t (.map (some mb)) (ke k) (ve v)).run P w = .ok () w' ∧ IterAt w' ib mb ke ve (put l k v) seen ∧ Keeps [mb] w w' := by
  have hne := h.lt.2.2
  obtain ⟨es, clk, sn, hb, hp, hc, hnb, hn, hib, hs⟩ := h
  obtain ⟨d, hd, hkk⟩ := K.d
  simp only [Instr.mapUpdate, Sem.run_bind, run_underlying ht, Result.andThen, Go.MapKept.run_getObj_map hb, run_checkKey hd (hkk k)]
  rcases find_raw hkk K.inj k es.toList l 0 hp with ⟨h1, h2⟩ | ⟨j, v0, h1, hj, h2, ⟨e0, h3, h3'⟩, h4, _⟩
  · exact absurd hk (get_none.1 h1)
  · simp only [run_findKey hd h2, Nat.zero_add]
    have hkey : ((es[j]?).map (·.key)).getD (ke k) = ke k := by
      have : es[j]? = some e0 := by simpa using h3
      simp [this, h3']
    simp only [hkey, Sem.run_bind, run_keyThatStays (hkk k), Result.andThen]
    refine ⟨_, run_setObj_map _ hb, ⟨_, _, sn, (heap_set hb).1, ?_, ?_, ?_, nodup_put hn, ((heap_set hb).2 ib hne).trans hib, ?_⟩, (Keeps.refl _ w).setBlock (Or.inl (by simp)) _⟩
    · have := h4 v; simp only [pairs, Array.toList_modify]; exact this
    · intro e he
      simp only [Array.toList_modify] at he
      obtain ⟨i, hi, rfl⟩ := List.mem_iff_getElem.1 he
      have hi' : i < es.toList.length := by simpa using hi
      have hci := hc _ (List.getElem_mem hi')
      simp only [List.getElem_modify]
      split <;> exact hci
    · have : (es.toList.modify j fun e => { e with key := ke k, val := ve v }).map (·.born) = es.toList.map (·.born) := by
        apply List.ext_getElem?; intro i
        simp only [List.getElem?_map, List.getElem?_modify]
        by_cases e : j = i
        · subst e; simp [Option.map_map]; cases es.toList[j]? <;> rfl
        · simp [e]
      simp only [Array.toList_modify, this]; exact hnb
    · intro e he x hx
      simp only [Array.toList_modify] at he
      obtain ⟨i, hi, rfl⟩ := List.mem_iff_getElem.1 he
      simp only [List.getElem_modify] at hx ⊢
      by_cases q : j = i
      · subst q
        simp only [if_true] at hx ⊢
        have hje : es.toList[j]'(by simpa using hi) = e0 := by
          have := List.getElem?_eq_getElem (l := es.toList) (i := j) (by simpa using hi)
          rw [this] at h3; exact Option.some.inj h3
        rw [hje]
        have hxk := K.inj _ _ hx
        subst hxk
        exact hs e0 (hje ▸ List.getElem_mem _) _ h3'
      · simp only [q, if_false] at hx ⊢
        exact hs _ (List.getElem_mem _) x hx

theorem IterAt.delete [DecidableEq κ] {ib : Nat} {seen : List κ} (h : IterAt w ib mb ke ve l seen) (K : KeyOk P kt ke) (ht : P.underlying t = some (.map kt et)) (k : κ) (at2 ty : TypeId) :
    ∃ w', (Builtin.delete_ #[t, at2] ty #[.map (some mb), ke k]).run P w = .ok (.tuple #[]) w' ∧ IterAt w' ib mb ke ve (del l k) seen ∧ Keeps [mb] w w' := by
  have hne := h.lt.2.2
  obtain ⟨es, clk, sn, hb, hp, hc, hnb, hn, hib, hs⟩ := h
  obtain ⟨d, hd, hk⟩ := K.d
  simp only [Builtin.delete_, Sem.run_bind, run_underlying ht, Result.andThen, Go.MapKept.run_getObj_map hb, run_checkKey hd (hk k), List.getElem?_toArray, List.getElem?_cons_zero, List.getElem?_cons_succ]
  rcases find_raw hk K.inj k es.toList l 0 hp with ⟨h1, h2⟩ | ⟨j, v0, h1, hj, h2, _, _, h5⟩
  · simp only [run_findKey hd h2, Sem.run_bind, run_setObj_map _ hb, Result.andThen, Sem.run_pure]
    exact ⟨_, rfl, ⟨es, clk, sn, (heap_set hb).1, by rw [del_not_mem (get_none.1 h1)]; exact hp, hc, hnb, nodup_del hn, ((heap_set hb).2 ib hne).trans hib, hs⟩, (Keeps.refl _ w).setBlock (Or.inl (by simp)) _⟩
  · simp only [run_findKey hd h2, Nat.zero_add, Sem.run_bind, run_setObj_map _ hb, Result.andThen, Sem.run_pure]
    have hsz : j < es.size := by simpa using hj
    have hes : (es.eraseIdxIfInBounds j).toList = es.toList.eraseIdx j := by simp [Array.eraseIdxIfInBounds, hsz]
    have hsub : (es.toList.eraseIdx j).Sublist es.toList := List.eraseIdx_sublist _ _
    refine ⟨_, rfl, ⟨_, clk, sn, (heap_set hb).1, ?_, ?_, ?_, nodup_del hn, ((heap_set hb).2 ib hne).trans hib, ?_⟩, (Keeps.refl _ w).setBlock (Or.inl (by simp)) _⟩
    · simp only [pairs, hes]; exact h5 hn
    · intro e he; rw [hes] at he; exact hc e (hsub.subset he)
    · rw [hes]; exact (hsub.map _).nodup hnb
    · intro e he; rw [hes] at he; exact hs e (hsub.subset he)

theorem vp_range (hg : o.guard = none) (m : Operand) (t : TypeId) (hop : o.op = Op.range t m) (kt et : TypeId) (ht : P.underlying t = some (.map kt et))
    (hm : a.eval m = .map (some mb)) (h : MapAt w mb ke ve l)
    (hK : ∀ w', IterAt w' w.heap.size mb ke ve l [] → Keeps [] w w' → w'.heap.size = w.heap.size + 1 → wpList P ops Q rest (a.put o.dst (.pointer (some ⟨w.heap.size, 0, none⟩))) w') : wpList P ops Q (o :: rest) a w := by
  refine wpList_plain hg fun K' hK' => ?_
  have hlt := h.lt
  obtain ⟨es, clk, hb, hp, hc, hnb, hn⟩ := h
  unfold Oper.wp
  simp [execOp, hop, hm, Instr.range, run_underlying ht, Go.MapKept.run_getObj_map hb, Sem.run_bind, newObj, Sem.run, Result.andThen]
  refine hK' _ _ (hK _ ⟨es, clk, #[], ?_, hp, hc, hnb, hn, heap_alloc w _, by simp⟩ ((Keeps.refl _ w).alloc _) (by show (w.heap.push _).size = _; simp))
  exact heap_alloc_ne w _ hb

theorem vp_next (hg : o.guard = none) (it : Operand) (hop : o.op = Op.next it false) {ib : Nat} {seen : List κ} (hit : a.eval it = .pointer (some ⟨ib, 0, none⟩)) (h : IterAt w ib mb ke ve l seen)
    (hover : (∀ k ∈ keys l, k ∈ seen) → wpList P ops Q rest (a.put o.dst (.tuple #[.bool false])) w)
    (hstep : ∀ k v w', (k, v) ∈ l → k ∉ seen → IterAt w' ib mb ke ve l (k :: seen) → Keeps [ib] w w' → w'.heap.size = w.heap.size → (Instr.entry (.pointer (some ⟨ib, 0, none⟩))).run P w' = .ok (.tuple #[ke k, ve v]) w' →
      wpList P ops Q rest (a.put o.dst (.tuple #[.bool true, ke k, ve v])) w')
    (K : KeyOk P kt ke) : wpList P ops Q (o :: rest) a w := by
  refine wpList_plain hg fun K' hK' => ?_
  have hne := h.lt.2.2
  obtain ⟨es, clk, sn, hb, hp, hc, hnb, hn, hib, hs⟩ := h
  unfold Oper.wp
  have hmem : ∀ e ∈ es.toList, ∃ p ∈ l, e.key = ke p.1 ∧ e.val = ve p.2 := by
    intro e he
    have : (e.key, e.val) ∈ raw ke ve l := by rw [← hp]; exact List.mem_map.2 ⟨e, he, rfl⟩
    obtain ⟨p, hp1, hp2⟩ := List.mem_map.1 this
    simp only [Prod.mk.injEq] at hp2
    exact ⟨p, hp1, hp2.1.symm, hp2.2.symm⟩
  rcases run_next_at (P := P) w o.type ib mb clk clk sn es clk hib hb hc (Nat.le_refl _) with ⟨h0, hrun⟩ | ⟨e, he, w1, hw1, hrun⟩
  · simp [execOp, hop, hit, hrun, Result.andThen]
    refine hK' _ _ (hover fun k hk => ?_)
    obtain ⟨p, hpm, rfl⟩ := List.mem_map.1 hk
    have : (ke p.1, ve p.2) ∈ pairs es := by rw [hp]; exact List.mem_map.2 ⟨p, hpm, rfl⟩
    obtain ⟨e, he, hee⟩ := List.mem_map.1 this
    simp only [Prod.mk.injEq] at hee
    refine (hs e he p.1 hee.1).1 ?_
    cases hq : sn.contains e.born with
    | true => rfl
    | false =>
      have : e ∈ (leftOf es sn).toList := by
        unfold leftOf
        simp only [Array.toList_filter, List.mem_filter]
        exact ⟨he, by simp only [hq, Bool.not_false]⟩
      have hl : (leftOf es sn).toList.length = 0 := by simpa using h0
      rw [List.eq_nil_of_length_eq_zero hl] at this; cases this
  · have he2 : e ∈ es.toList ∧ sn.contains e.born = false := by
      unfold leftOf at he
      simp only [Array.toList_filter, List.mem_filter, Bool.not_eq_true'] at he
      exact he
    obtain ⟨p, hpl, hpk, hpv⟩ := hmem e he2.1
    simp [execOp, hop, hit, hrun, Result.andThen]
    have hk1 : Keeps [ib] w w1 := by rcases hw1 with rfl | rfl; exact Keeps.refl _ _; exact (Keeps.refl _ _).drew
    have hh : w1.heap = w.heap := by rcases hw1 with rfl | rfl <;> rfl
    have hib1 : w1.heap[ib]? = some (.mapIter (some mb) clk sn clk) := by rw [hh]; exact hib
    have hb' : (setBlock w1 ib (.mapIter (some mb) clk (sn.push e.born) clk)).heap[mb]? = some (.map es clk) := ((heap_set hib1).2 mb hne.symm).trans (by rw [hh]; exact hb)
    have hib' : (setBlock w1 ib (.mapIter (some mb) clk (sn.push e.born) clk)).heap[ib]? = some (.mapIter (some mb) clk (sn.push e.born) clk) := (heap_set hib1).1
    rw [hpk, hpv]
    refine hK' _ _ (hstep p.1 p.2 _ hpl ?_ ⟨es, clk, sn.push e.born, hb', hp, hc, hnb, hn, hib', ?_⟩ (hk1.setBlock (Or.inl (by simp)) _) (by simp [setBlock, hh]) ?_)
    · intro hq; have := (hs e he2.1 p.1 hpk).2 hq; rw [he2.2] at this; cases this
    · intro x hx k hk
      have hsx := hs x hx k hk
      simp only [List.mem_cons, ← hsx]
      have hpush : (sn.push e.born).contains x.born = true ↔ (sn.contains x.born = true ∨ x.born = e.born) := by simp
      rw [hpush]
      constructor
      · rintro (q | q)
        · exact Or.inr q
        · left
          have hxe : x = e := nodup_map_inj (fun e : MapEntry => e.born) hnb hx he2.1 q
          subst hxe
          exact K.inj _ _ (hk.symm.trans hpk)
      · rintro (q | q)
        · subst q
          right
          -- the same key: the same entry
          have hkeys : (es.toList.map (·.key)).Nodup := by
            have h1 : es.toList.map (·.key) = (keys l).map ke := by
              have := congrArg (List.map Prod.fst) hp
              simpa only [pairs, raw, keys, List.map_map, Function.comp_def] using this
            rw [h1]
            exact List.Pairwise.map ke (fun x y hxy e => hxy (K.inj x y e)) hn
          rw [nodup_map_inj (fun e : MapEntry => e.key) hkeys hx he2.1 (hk.trans hpk.symm)]
        · exact Or.inl q
    · rw [← hpk, ← hpv]
      exact run_entry_at _ ib mb clk sn es clk e hib' hb' he2.1 hnb
end maps

/-! ### whole rows -/
section rows
variable {P : Program} {w : World} {ops : Array Oper} {rest : List Oper} {o : Oper} {a : Act} {Q : Exit → Act → World → Prop}
theorem run_storeVar_row (t : TypeId) (g : Nat) (cur cs : Array Value) (t' : TypeId) (hg : w.heap[g]? = some (.cells cur t' (0, 0))) (hi : (P.info? t).map (·.size) = some cs.size) (ho : cur.size = cs.size) (h1 : cs.all (·.oneCell') = true) :
    (storeVar t ⟨g, 0, none⟩ (.agg cs)).run P w = .ok () (w.setRow g cs) := by
  cases hq : P.info? t with
  | none => simp [hq] at hi
  | some i =>
    have hs : cs.size = i.size := by simp [hq] at hi; omega
    have := run_storeCells_at (P := P) g 0 t' cs.toList 0 cur w hg (by simp [ho]) (fun v hv => by rw [Array.all_eq_true_iff_forall_mem] at h1; exact h1 v (by simpa using hv))
    simp only [Nat.zero_add, List.take_zero, List.nil_append, Array.length_toList] at this
    rw [show cur.toList.drop cs.size = [] from List.drop_eq_nil_of_le (by simp [ho])] at this
    simpa [storeVar, sizeOf, typeInfo, hq, Value.cells, hs, Sem.run_bind, Result.andThen] using this

theorem vp_store_row (hgd : o.guard = none) (ty : TypeId) (x v : Operand) (ho : o.op = .store ty x v) (g : Nat) (hx : a.eval x = .pointer (some ⟨g, 0, none⟩)) (cs : Array Value) (hv : a.eval v = .agg cs) (cur : Array Value) (t : TypeId)
    (hg : w.heap[g]? = some (.cells cur t (0, 0))) (hi : (P.info? ty).map (·.size) = some cs.size) (hs : cur.size = cs.size) (h1 : cs.all (·.oneCell') = true)
    (h : ∀ w', Hid (w'.heap[g]? = some (.cells cs t (0, 0))) → Keeps [g] w w' → w'.heap.size = w.heap.size → wpList P ops Q rest (a.put o.dst undef) w') : wpList P ops Q (o :: rest) a w := by
  have h := h _ (heap_setRow hg) ((Keeps.refl _ _).setRow (Or.inl (by simp)) _) (by simp [World.setRow])
  refine wpList_plain hgd fun K' hK' => ?_
  unfold Oper.wp
  simp [execOp, ho, hx, hv, Instr.storeAt, Instr.sureAddr, run_storeVar_row ty g cur cs t hg hi hs h1, Result.andThen]
  exact hK' _ _ h

/-- bytes (or whatever) xs laid into c from place i on -/
def spl {α : Type} (c : List α) (i : Nat) (xs : List α) : List α := c.take i ++ (xs ++ c.drop (i + xs.length))
theorem spl_map {α γ : Type} (f : α → γ) (c : List α) (i : Nat) (xs : List α) : (spl c i xs).map f = spl (c.map f) i (xs.map f) := by simp [spl]
theorem length_spl {α : Type} (c : List α) (i : Nat) (xs : List α) (h : i + xs.length ≤ c.length) : (spl c i xs).length = c.length := by simp [spl]; omega

/-- 'copy(d, s)', d in a row that is known whole, s known cell by cell -/
theorem vp_copy (hgd : o.guard = none) (d s : Operand) (dT sT : TypeId) (ho : o.op = .call { callee := .builtin .copy, args := #[d, s], argTypes := #[dT, sT] }) (elem : TypeId) (hu : P.underlying dT = some (.slice elem)) (hsz : (P.info? elem).map (·.size) = some 1)
    (g off dLen dCap : Nat) (ad : Addr) (sLen sCap : Nat) (hd : a.eval d = .slice (some ⟨g, off, none⟩) dLen dCap) (hs : a.eval s = .slice (some ad) sLen sCap)
    (cur : List Value) (t : TypeId) (hg : w.heap[g]? = some (.cells cur.toArray t (0, 0))) (cs : List Value) (n : Nat) (hlen : cs.length = n) (hn : n = Nat.min sLen dLen)
    (hsrc : ∀ j v, cs[j]? = some v → w.cell? (ad.add j) = some v) (hfit : off + cs.length ≤ cur.length) (h1 : ∀ v ∈ cs, v.oneCell' = true)
    (h : ∀ w', Hid (w'.heap[g]? = some (.cells (spl cur off cs).toArray t (0, 0))) → Keeps [g] w w' → w'.heap.size = w.heap.size → wpList P ops Q rest (a.put o.dst (.int .i64 (n : Int))) w') : wpList P ops Q (o :: rest) a w := by
  subst hlen
  refine wpList_copy_own hgd d s dT sT ho elem hu hsz g off dLen dCap ad sLen sCap hd hs cur.toArray t hg cs hn hsrc (by simpa using hfit) h1 ?_
  exact h _ (heap_setRow hg) ((Keeps.refl _ _).setRow (Or.inl (by simp)) _) (by simp [World.setRow])

theorem vs_copy {K : Act → World → Prop} {E : Prop} (hgd : o.guard = none) (d s : Operand) (dT sT : TypeId) (ho : o.op = .call { callee := .builtin .copy, args := #[d, s], argTypes := #[dT, sT] }) (elem : TypeId) (hu : P.underlying dT = some (.slice elem)) (hsz : (P.info? elem).map (·.size) = some 1)
    (g off dLen dCap : Nat) (ad : Addr) (sLen sCap : Nat) (hd : a.eval d = .slice (some ⟨g, off, none⟩) dLen dCap) (hs : a.eval s = .slice (some ad) sLen sCap)
    (cur : List Value) (t : TypeId) (hg : w.heap[g]? = some (.cells cur.toArray t (0, 0))) (cs : List Value) (n : Nat) (hlen : cs.length = n) (hn : n = Nat.min sLen dLen)
    (hsrc : ∀ j v, cs[j]? = some v → w.cell? (ad.add j) = some v) (hfit : off + cs.length ≤ cur.length) (h1 : ∀ v ∈ cs, v.oneCell' = true)
    (h : ∀ w', Hid (w'.heap[g]? = some (.cells (spl cur off cs).toArray t (0, 0))) → Keeps [g] w w' → w'.heap.size = w.heap.size → K (a.put o.dst (.int .i64 (n : Int))) w') :
    if Region.wanted o (yielded ops a.tmps) = true then Oper.wp P o a w K Q else E := by
  subst hlen
  rw [if_pos (by simp [Region.wanted, hgd])]
  have hrun := run_copy_row (P := P) w dT sT o.type elem g off dLen dCap ad sLen sCap cur.toArray t cs hu hsz hg hn hsrc (by simpa using hfit) h1
  unfold Oper.wp
  simp [execOp, ho, resolve, invoke, builtin, hd, hs, hrun, Result.andThen]
  have hrow := heap_setRow (cs := (cur.take off ++ (cs ++ cur.drop (off + cs.length))).toArray) hg
  have := h (w.setRow g (cur.take off ++ (cs ++ cur.drop (off + cs.length))).toArray) hrow ((Keeps.refl _ _).setRow (Or.inl (by simp)) _) (by simp [World.setRow])
  show K (a.put o.dst (.int .i64 (cs.length : Int))) _
  exact this

theorem run_slice_arr (t e n : Nat) (hu : P.underlying t = some (.array n e)) (hs : (P.info? e).map (·.size) = some 1) (g i : Nat) (hi : i < n) (w : World) :
    (Instr.sliceAt t (.pointer (some ⟨g, 0, none⟩)) (some (.int .i64 i)) none none).run P w = .ok (.slice (some ⟨g, i, none⟩) (n - i) (n - i)) w := by
  have hlen : P.arrayLen t = n := by simp [Program.arrayLen, hu]
  have hel : P.elem t = e := by simp [Program.elem, hu]
  have h1 := run_sliceAt_array_l (P := P) w t ⟨g, 0, none⟩ (by rw [hlen, hel]; exact hu) .i64 (i : Int) (by omega) (by rw [hlen]; omega)
  rw [h1, hlen, hel]
  cases hq : P.info? e with
  | none => simp [hq] at hs
  | some inf =>
    have h2 : inf.size = 1 := by simpa [hq] using hs
    have h3 : ¬ n = i := by omega
    by_cases h0 : i = 0
    · subst h0; simp [sizeOf, typeInfo, hq, Sem.run_bind, Result.andThen, slicedAt, h2, h3, Addr.add]
    · simp [sizeOf, typeInfo, hq, Sem.run_bind, Result.andThen, slicedAt, h2, h3, Addr.add, h0]

theorem run_index_arr (t e n : Nat) (hu : P.underlying t = some (.array n e)) (hs : (P.info? e).map (·.size) = some 1) (g i : Nat) (hi : i < n) (w : World) :
    (Instr.indexAt t (.pointer (some ⟨g, 0, none⟩)) (.int .i64 i)).run P w = .ok (.pointer (some ⟨g, i, none⟩)) w := by
  have hlen : P.arrayLen t = n := by simp [Program.arrayLen, hu]
  have hel : P.elem t = e := by simp [Program.elem, hu]
  have h1 := run_indexAt_array (P := P) (w := w) t ⟨g, 0, none⟩ .i64 (i : Int) (by rw [hlen, hel]; exact hu)
  rw [h1, hlen, hel, if_pos (by omega)]
  cases hq : P.info? e with
  | none => simp [hq] at hs
  | some inf =>
    have h2 : inf.size = 1 := by simpa [hq] using hs
    simp [sizeOf, typeInfo, hq, Sem.run_bind, Result.andThen, h2, add_none]

theorem madeCells_one (z : Value) (n : Nat) (hz : z.cells = #[z]) : madeCells z.cells n = (List.replicate n z).toArray := by
  rw [hz]
  apply Array.ext
  · simp [madeCells]
  · intro i h1 h2
    simp [madeCells, Nat.mod_one]

/-- 'make([]T, n)', T of one cell -/
theorem vp_make (hgd : o.guard = none) (x y : Operand) (t : TypeId) (hop : o.op = .makeSlice t x y) (e : TypeId) (ht : P.underlying t = some (.slice e)) (z : Value) (bytes : Nat)
    (hi : (P.info? e).map (fun i => (i.zero, i.size, i.bytes)) = some (some z, 1, bytes)) (hz : z.cells = #[z]) (n : Nat) (hx : a.eval x = .int .i64 n) (hy : a.eval y = .int .i64 n) (hn : n * bytes ≤ 281474976710656) (hn2 : n ≤ 9223372036854775807)
    (h : ∀ w', Hid (w'.heap[w.heap.size]? = some (.cells (List.replicate n z).toArray e (0, 0))) → Keeps [] w w' → w'.heap.size = w.heap.size + 1 →
      wpList P ops Q rest (a.put o.dst (.slice (some ⟨w.heap.size, 0, none⟩) n n)) w') : wpList P ops Q (o :: rest) a w := by
  have h := h (w.alloc (.cells (List.replicate n z).toArray e)) (heap_alloc w _) ((Keeps.refl [] w).alloc _) (by show (w.heap.push _).size = _; simp)
  refine wpList_plain hgd fun K' hK' => ?_
  obtain ⟨i0, h1, h2, h3, h4⟩ := info_parts hi
  have hb : (i0.bytes : Int) * (n : Int) ≤ 281474976710656 := by
    have h5 : ((n * bytes : Nat) : Int) ≤ 281474976710656 := by omega
    rw [Int.natCast_mul] at h5
    rw [h4, Int.mul_comm]; exact h5
  have hrun := run_make (P := P) w t e i0 z ht h1 h2 .i64 .i64 n n (by omega) (by omega) hb (by omega)
  rw [Int.toNat_natCast, h3, Nat.mul_one, madeCells_one z n hz] at hrun
  unfold Oper.wp
  simp [execOp, hop, hx, hy, hrun, Result.andThen]
  exact hK' _ _ h

/-- v is a slice of one-cell elements of the call's own, from block 'base' on, that holds xs -/
def Own (w : World) (base : Nat) (e : TypeId) (v : Value) (xs : List Value) : Prop := w.ownsRow base e 1 v xs.length xs
theorem Own.nil (w : World) (base : Nat) (e : TypeId) : Own w base e (.slice none 0 0) [] := ⟨rfl, Or.inl ⟨rfl, rfl⟩⟩
theorem Own.row {w : World} {g : Nat} {e : TypeId} {xs : List Value} (base : Nat) (hb : base ≤ g) (h : w.heap[g]? = some (.cells xs.toArray e (0, 0))) (hl : xs.length ≤ 9223372036854775807) : Own w base e (.slice (some ⟨g, 0, none⟩) xs.length xs.length) xs :=
  ⟨by simp, Or.inr ⟨g, xs.length, xs.toArray, rfl, hb, h, Nat.le_refl _, by unfold maxLen; omega, by simp, by simp⟩⟩
theorem Own.keep {S : List Nat} {w w' : World} {base : Nat} {e : TypeId} {v : Value} {xs : List Value} (h : Own w base e v xs) (hk : Keeps S w w') (hS : ∀ x ∈ S, v.ownBlock ≠ some x) : Own w' base e v xs := by
  obtain ⟨h1, h2⟩ := h
  refine ⟨h1, ?_⟩
  rcases h2 with h2 | ⟨g, cap, cur, hv, hg, hh, r⟩
  · exact Or.inl h2
  · subst hv
    exact Or.inr ⟨g, cap, cur, rfl, hg, hk.get hh (fun hx => hS g hx rfl), r⟩
/-- what it is, seen from outside -/
theorem Own.shape {w : World} {base : Nat} {e : TypeId} {v : Value} {xs : List Value} (h : Own w base e v xs) :
    (v = .slice none 0 0 ∧ xs = []) ∨ ∃ g cap, v = .slice (some ⟨g, 0, none⟩) xs.length cap ∧ base ≤ g ∧ g < w.heap.size ∧ xs.length ≤ cap ∧ ∀ j u, xs[j]? = some u → w.cell? ⟨g, j, none⟩ = some u := by
  obtain ⟨h1, h2⟩ := h
  rcases h2 with ⟨h2, h3⟩ | ⟨g, cap, cur, hv, hg, hh, hc, hm, hs, ht⟩
  · exact Or.inl ⟨h2, List.eq_nil_of_length_eq_zero (by omega)⟩
  · refine Or.inr ⟨g, cap, hv, hg, lt_of_heap hh, hc, fun j u hu => ?_⟩
    refine cell_of hh ?_
    rw [← ht, List.getElem?_take] at hu
    split at hu
    · simpa using hu
    · cases hu
theorem Own.blk {w : World} {base : Nat} {e : TypeId} {v : Value} {xs : List Value} (h : Own w base e v xs) {g : Nat} (hg : v.ownBlock = some g) : base ≤ g ∧ g < w.heap.size := by
  rcases h.shape with ⟨rfl, _⟩ | ⟨g', cap, rfl, h1, h2, _⟩
  · cases hg
  · cases hg; exact ⟨h1, h2⟩
theorem Own.keep_lo {S : List Nat} {w w' : World} {base : Nat} {e : TypeId} {v : Value} {xs : List Value} (h : Own w base e v xs) (hk : Keeps S w w') (hS : ∀ x ∈ S, x < base) : Own w' base e v xs :=
  h.keep hk (fun x hx hq => by have h1 := h.blk hq; have h2 := hS x hx; omega)

/-- v is a slice of one-cell elements that reads as vals -/
def Reads (w : World) (v : Value) (vals : List Value) : Prop :=
  ∃ p cap, v = .slice p vals.length cap ∧ vals.length ≤ cap ∧ (0 < vals.length → ∃ b o, p = some ⟨b, o, none⟩ ∧ ∀ j u, vals[j]? = some u → w.cell? ⟨b, o + j, none⟩ = some u)
theorem Own.reads {w : World} {base : Nat} {e : TypeId} {v : Value} {xs : List Value} (h : Own w base e v xs) : Reads w v xs := by
  rcases h.shape with ⟨rfl, rfl⟩ | ⟨g, cap, rfl, _, _, hc, hr⟩
  · exact ⟨none, 0, rfl, Nat.le_refl _, fun h => by simp at h⟩
  · exact ⟨_, cap, rfl, hc, fun _ => ⟨g, 0, rfl, fun j u hu => by rw [Nat.zero_add]; exact hr j u hu⟩⟩
theorem Reads.keep {S : List Nat} {w w' : World} {v : Value} {vals : List Value} (h : Reads w v vals) (hk : Keeps S w w') (hS : 0 < vals.length → ∀ x ∈ S, v.ownBlock ≠ some x) : Reads w' v vals := by
  obtain ⟨p, cap, rfl, hc, hr⟩ := h
  refine ⟨p, cap, rfl, hc, fun h0 => ?_⟩
  obtain ⟨b, o, rfl, hr2⟩ := hr h0
  refine ⟨b, o, rfl, fun j u hu => ?_⟩
  have hcell := hr2 j u hu
  rw [World.cell?_of_block (w := w) (hk.block b (Go.block_lt_of_cell hcell) (fun hx => hS h0 b hx rfl))]
  exact hcell

/-- a block that is known whole is a slice that reads as what it holds -/
theorem Reads.of_block {w : World} {g : Nat} {cs : List Value} {t : TypeId} {fr : Nat × Nat} (h : w.heap[g]? = some (.cells cs.toArray t fr)) : Reads w (.slice (some ⟨g, 0, none⟩) cs.length cs.length) cs :=
  ⟨_, _, rfl, Nat.le_refl _, fun _ => ⟨g, 0, rfl, fun j u hu => by rw [Nat.zero_add]; exact cell_of h (by rw [List.getElem?_toArray]; exact hu)⟩⟩

def bv (x : UInt8) : Value := .int .u8 (x.toNat : Int)
def iv (x : Int) : Value := .int .i64 x
theorem run_bytes_string (src dst e : TypeId) (hs : P.underlying src = some (.slice e)) (he : P.underlying e = some (.int .u8)) (hd : P.underlying dst = some .string) {v : Value} {bs : List UInt8} (h : Reads w v (bs.map bv)) :
    (convert src dst v).run P w = .ok (.string ⟨bs.toArray⟩) w := by
  obtain ⟨p, cap, rfl, hc, hr⟩ := h
  rw [run_convert_bytes_string w src dst e p _ cap hs he hd]
  cases p with
  | none =>
    have : bs = [] := by
      cases bs with
      | nil => rfl
      | cons x xs => obtain ⟨b, o, h, _⟩ := hr (by simp); cases h
    subst this
    rfl
  | some ad =>
    have hl : (loadCells ad (bs.map bv).length).run P w = .ok ((bs.map fun x => (x.toNat : Int)).map (Value.int .u8)).toArray w := by
      have e1 : (bs.map fun x => (x.toNat : Int)).map (Value.int .u8) = bs.map bv := by simp [bv]
      rw [e1]
      have := run_loadCells_list (P := P) w ad (bs.map bv) (fun j u hu => by
        obtain ⟨b, o, h, h2⟩ := hr (by have := (List.getElem?_eq_some_iff.1 hu).1; omega)
        cases h
        rw [add_none]; exact h2 j u hu)
      simpa using this
    rw [run_bytesToString w ad _ cap _ hl]
    congr 2
    have hf : ∀ (xs : List UInt8) (acc : ByteArray), (xs.map fun x => (x.toNat : Int)).foldl (fun r n => r.push (UInt8.ofNat n.toNat)) acc = ⟨acc.data ++ xs.toArray⟩ := by
      intro xs
      induction xs with
      | nil => intro acc; simp
      | cons x xs ih =>
        intro acc
        simp only [List.map_cons, List.foldl_cons]
        rw [ih]
        simp only [Int.toNat_natCast, UInt8.ofNat_toNat, ByteArray.push]
        congr 1
        apply Array.ext'
        simp
    have := hf bs ByteArray.empty
    rw [this]
    congr 1
    show (#[] : Array UInt8) ++ bs.toArray = _
    simp

theorem vp_string (hw : Region.wanted o (yielded ops a.tmps) = true) (x : Operand) (src dst e : TypeId) (ho : o.op = .convert src dst x) (hs : P.underlying src = some (.slice e)) (he : P.underlying e = some (.int .u8)) (hd : P.underlying dst = some .string)
    {v : Value} {bs : List UInt8} (hx : a.eval x = v) (h : Reads w v (bs.map bv)) (hK : wpList P ops Q rest (a.put o.dst (.string ⟨bs.toArray⟩)) w) : wpList P ops Q (o :: rest) a w := by
  unfold wpList
  rw [if_pos hw]
  left
  unfold Oper.wp
  simp [execOp, ho, hx, run_bytes_string src dst e hs he hd h, Result.andThen]
  exact hK

theorem vp_streq (hw : Region.wanted o (yielded ops a.tmps) = true) (x y : Operand) (t u : TypeId) (ho : o.op = .binOp .eql t x y u) {s r : ByteArray} (hx : a.eval x = .string s) (hy : a.eval y = .string r)
    (hK : wpList P ops Q rest (a.put o.dst (.bool (decide (s = r)))) w) : wpList P ops Q (o :: rest) a w := by
  have hb : (s == r) = decide (s = r) := by
    by_cases e : s = r
    · rw [decide_eq_true e, (bytes_beq s r).2 e]
    · rw [decide_eq_false e]
      cases h : s == r with
      | false => rfl
      | true => exact absurd ((bytes_beq s r).1 h) e
  unfold wpList
  rw [if_pos hw]
  left
  unfold Oper.wp
  simp [execOp, ho, hx, hy, eqGuard, binOp, Op.stringOp]
  rw [← beq_toListBytes, hb]
  exact hK

/-- a slice's capacity is one that can be read -/
def Fits (v : Value) : Prop := ∀ p n c, v = .slice p n c → c ≤ 9223372036854775807

theorem ownBlock_sliced (p : Option Addr) (l h m s n c : Nat) : (sliced p l h m s).ownBlock = (Value.slice p n c).ownBlock := by
  cases p with
  | none => by_cases e : m = l <;> simp [sliced, e, Value.ownBlock]
  | some ad =>
    by_cases e : m = l
    · simp [sliced, e, Value.ownBlock]
    · unfold sliced
      rw [if_neg e]
      simp only [Option.map_some, Value.ownBlock, Addr.add]
      by_cases e2 : l * s = 0
      · rw [if_pos e2]
      · rw [if_neg e2]

theorem vp_tail (hgd : o.guard = none) (x lo : Operand) (t : TypeId) (ho : o.op = .slice t x (some lo) none none) (e : TypeId) (ht : P.underlying t = some (.slice e)) (hsz : (P.info? e).map (·.size) = some 1)
    {v : Value} {vals : List Value} (hx : a.eval x = v) (hv : Reads w v vals) (hf : Fits v) (k : Nat) (hk : k ≤ vals.length) (hlo : a.eval lo = .int .i64 k)
    (h : ∀ v', Reads w v' (vals.drop k) → v'.ownBlock = v.ownBlock → Fits v' → wpList P ops Q rest (a.put o.dst v') w) : wpList P ops Q (o :: rest) a w := by
  obtain ⟨p, cap, rfl, hc, hr⟩ := hv
  have hel : P.elem t = e := by simp [Program.elem, ht]
  have hrun : (Instr.sliceAt t (.slice p vals.length cap) (some (.int .i64 k)) none none).run P w = .ok (sliced p k vals.length cap 1) w := by
    rw [run_sliceAt_slice w t _ _ _ _ (by rw [hel]; exact ht), run_slice_l (P := P) w t p vals.length cap (by rw [hel]; exact ht) .i64 (k : Int) (by omega) (by omega), hel]
    cases hq : P.info? e with
    | none => simp [hq] at hsz
    | some inf =>
      have h2 : inf.size = 1 := by simpa [hq] using hsz
      simp [sizeOf, typeInfo, hq, Sem.run_bind, Result.andThen, h2]
  have hcap := hf _ _ _ rfl
  refine wpList_plain hgd fun K' hK' => ?_
  unfold Oper.wp
  simp [execOp, ho, hx, hlo, hrun, Result.andThen]
  refine hK' _ _ (h _ ?_ ?_ ?_)
  · refine ⟨if cap = k then p else p.map (·.add (k * 1)), cap - k, by simp only [sliced, List.length_drop], by rw [List.length_drop]; omega, fun h0 => ?_⟩
    rw [List.length_drop] at h0
    obtain ⟨b, o', rfl, h2⟩ := hr (by omega)
    refine ⟨b, o' + k, ?_, fun j u hu => ?_⟩
    · simp only [Option.map_some]
      rw [if_neg (by omega), Nat.mul_one, add_none]
    · rw [List.getElem?_drop] at hu
      rw [Nat.add_assoc]; exact h2 _ _ hu
  · exact ownBlock_sliced ..
  · intro p' n' c' hq
    simp only [sliced, Value.slice.injEq] at hq
    omega

theorem vp_head (hgd : o.guard = none) (x hi : Operand) (t : TypeId) (ho : o.op = .slice t x none (some hi) none) (e : TypeId) (ht : P.underlying t = some (.slice e)) (hsz : (P.info? e).map (·.size) = some 1)
    {v : Value} {vals : List Value} (hx : a.eval x = v) (hv : Reads w v vals) (hf : Fits v) (k : Nat) (hk : k ≤ vals.length) (hhi : a.eval hi = .int .i64 k)
    (h : ∀ v', Reads w v' (vals.take k) → v'.ownBlock = v.ownBlock → Fits v' → wpList P ops Q rest (a.put o.dst v') w) : wpList P ops Q (o :: rest) a w := by
  obtain ⟨p, cap, rfl, hc, hr⟩ := hv
  have hel : P.elem t = e := by simp [Program.elem, ht]
  have hrun : (Instr.sliceAt t (.slice p vals.length cap) none (some (.int .i64 k)) none).run P w = .ok (sliced p 0 k cap 1) w := by
    rw [run_sliceAt_slice w t _ _ _ _ (by rw [hel]; exact ht), run_slice_h (P := P) w t p vals.length cap (by rw [hel]; exact ht) .i64 (k : Int) (by omega) (by omega), hel]
    cases hq : P.info? e with
    | none => simp [hq] at hsz
    | some inf =>
      have h2 : inf.size = 1 := by simpa [hq] using hsz
      simp [sizeOf, typeInfo, hq, Sem.run_bind, Result.andThen, h2]
  have hcap := hf _ _ _ rfl
  refine wpList_plain hgd fun K' hK' => ?_
  unfold Oper.wp
  simp [execOp, ho, hx, hhi, hrun, Result.andThen]
  refine hK' _ _ (h _ ?_ ?_ ?_)
  · refine ⟨if cap = 0 then p else p.map (·.add (0 * 1)), cap - 0, by simp only [sliced, List.length_take]; rw [Nat.min_eq_left hk, Nat.sub_zero], by rw [List.length_take]; omega, fun h0 => ?_⟩
    rw [List.length_take] at h0
    obtain ⟨b, o', rfl, h2⟩ := hr (by omega)
    refine ⟨b, o', ?_, fun j u hu => ?_⟩
    · simp only [Option.map_some]
      split
      · rfl
      · simp [Addr.add]
    · rw [List.getElem?_take] at hu
      split at hu
      · exact h2 _ _ hu
      · cases hu
  · exact ownBlock_sliced ..
  · intro p' n' c' hq
    simp only [sliced, Value.slice.injEq] at hq
    omega

/-- 'append(s, x...)', s the call's own -/
theorem vp_append {S : List Nat} {w0 : World} (hgd : o.guard = none) (s x : Operand) (t : TypeId) (ho : o.op = .call { callee := .builtin .append, args := #[s, x], argTypes := #[t, t] })
    (e : TypeId) (z : Value) (bytes : Nat) (ht : P.underlying t = some (.slice e)) (hi : (P.info? e).map (fun i => (i.zero, i.size, i.bytes)) = some (some z, 1, bytes)) (hzs : z.cells.size = 1)
    (base : Nat) (v : Value) (xs : List Value) (hs : a.eval s = v) (hown : Own w base e v xs)
    (ad : Addr) (m c : Nat) (news : List Value) (hx : a.eval x = .slice (some ad) m c) (hl : news.length = m) (hnews : ∀ j u, news[j]? = some u → w.cell? (ad.add j) = some u) (h1 : ∀ u ∈ news, u.oneCell' = true)
    (hbytes : (xs.length + m) * bytes ≤ 140737488355328) (h63 : xs.length + m ≤ 9223372036854775807) (hk0 : Keeps S w0 w) (hb0 : w0.heap.size ≤ base) (hbase : base ≤ w.heap.size)
    (h : ∀ v' w', Own w' base e v' (xs ++ news) → Keeps S w0 w' → w.grownBy w' v.ownBlock → wpList P ops Q rest (a.put o.dst v') w') : wpList P ops Q (o :: rest) a w := by
  obtain ⟨i0, g1, g2, g3, g4⟩ := info_parts hi
  have hbw : ∀ k, v.ownBlock = some k → base ≤ k := fun k hk => (hown.blk hk).1
  refine wpList_append_own w hgd s x t ho base e i0 z 1 bytes ht g1 g2 g3 g4 hzs (by omega) v xs.length xs hs hown ad m c news hx (by omega) hnews h1 (by unfold maxLen; omega) hbytes hbase ?_
  intro v' w' k1 k2 _
  have k1' : Own w' base e v' (xs ++ news) := by
    unfold Own
    rw [List.length_append, hl]; exact k1
  exact h v' w' k1' (hk0.grown k2 (fun k hk => Or.inr (by have := hbw k hk; omega))) k2

theorem vp_load_row (hgd : o.guard = none) (ty : TypeId) (x : Operand) (ho : o.op = .load ty x) (g : Nat) (hx : a.eval x = .pointer (some ⟨g, 0, none⟩)) (t : TypeId) (cs : Array Value) (d : TypeDesc) (hg : w.heap[g]? = some (.cells cs t (0, 0)))
    (hu : P.underlying ty = some d) (hd : (match d with | .struct _ | .array _ _ => true | _ => false) = true) (hi : (P.info? ty).map (·.size) = some cs.size)
    (h : wpList P ops Q rest (a.put o.dst (.agg cs)) w) : wpList P ops Q (o :: rest) a w := wpList_load_row hgd ty x ho g hx t cs (0, 0) d hg hu hd hi h
end rows
end Go.V
