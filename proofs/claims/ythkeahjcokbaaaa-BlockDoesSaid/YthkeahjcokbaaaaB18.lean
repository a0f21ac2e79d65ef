/-
  Package block: a store with four bodies.
-/
import Derived.Test.YthkeahjcokbaaaaB15
import Derived.Laws.BitsLemmas
namespace Go.V.Block
open Go Go.V
theorem count_split {l : CL} (hn : (keys l).Nodup) (nn : Nat) (hk : ∀ k ∈ keys l, k < nn) : l.length + (holesTo l nn).length = nn := by
  have h1 : ((List.range nn).filter fun k => (get l k).isSome).length = l.length := by
    have := length_eq_of_mem (L := (List.range nn).filter fun k => (get l k).isSome) (M := keys l) (List.nodup_range.filter _) hn (fun x => by
      simp only [List.mem_filter, List.mem_range]
      constructor
      · intro h; exact get_isSome.1 h.2
      · intro h; exact ⟨hk x h, get_isSome.2 h⟩)
    rw [this]; simp [keys]
  have h2 : ∀ L : List Nat, (L.filter fun k => (get l k).isSome).length + (L.filter fun k => (get l k).isNone).length = L.length := by
    intro L
    induction L with
    | nil => rfl
    | cons x L ih =>
      simp only [List.filter_cons]
      cases hg : get l x with
      | none => simp only [Option.isSome_none, Option.isNone_none, Bool.false_eq_true, if_false, if_true, List.length_cons]; omega
      | some c => simp only [Option.isSome_some, Option.isNone_some, Bool.false_eq_true, if_false, if_true, List.length_cons]; omega
  have h3 := h2 (List.range nn)
  rw [List.length_range, h1] at h3
  simp only [holesTo, List.length_map]
  exact h3
theorem chunks_holes {sz : Int} {l : CL} (h : OkB sz l) : l.length + (holesTo l ((sz + 15) / 16).toNat).length = ((sz + 15) / 16).toNat := by
  obtain ⟨g, h1, h2, h3, h4⟩ := h
  exact count_split g.1 _ (fun k hk => by have := h1 k hk; omega)

abbrev Ad := Nat → Nat × Nat
abbrev Bo := Nat → Int × CL
def ptrV (b : Nat) : Value := .pointer (some ⟨b, 0, none⟩)
/-- blocks apart -/
def Sep (W : World) (ab sb : Nat) (ad : Ad) : Prop :=
  W.heap.size ≤ ab ∧ W.heap.size ≤ sb ∧ ab ≠ sb ∧ (∀ k, k < 4 → W.heap.size ≤ (ad k).1 ∧ W.heap.size ≤ (ad k).2 ∧ (ad k).1 ≠ ab ∧ (ad k).2 ≠ ab ∧ (ad k).1 ≠ sb ∧ (ad k).2 ≠ sb ∧ (ad k).1 ≠ (ad k).2) ∧
    ∀ j k, j < 4 → k < 4 → j ≠ k → (ad j).1 ≠ (ad k).1 ∧ (ad j).1 ≠ (ad k).2 ∧ (ad j).2 ≠ (ad k).2
def total (st : Bo) : Int := ((st 0).2.length : Int) + (st 1).2.length + (st 2).2.length + (st 3).2.length
def S4 (ab sb : Nat) (ad : Ad) (room used : Int) (st : Bo) (W wx : World) : Prop :=
  wx.heap[ab]? = some (.cells #[ptrV (ad 0).1, ptrV (ad 1).1, ptrV (ad 2).1, ptrV (ad 3).1] 42 (0, 0)) ∧ SAt wx sb room used ∧
    (∀ k, k < 4 → BAt wx (ad k).1 (ad k).2 (st k).1 (st k).2 ∧ OkB (st k).1 (st k).2) ∧ used = total st ∧ used ≤ room ∧ Keeps [] W wx
def upd (st : Bo) (k : Nat) (s : BS) : Bo := fun j => if j = k then (s.sz, s.l) else st j
theorem upd_same (st : Bo) (k : Nat) (s : BS) : upd st k s k = (s.sz, s.l) := by simp [upd]
theorem upd_other (st : Bo) {j k : Nat} (s : BS) (h : j ≠ k) : upd st k s j = st j := by simp [upd, h]
theorem total_upd (st : Bo) (k : Nat) (hk : k < 4) (s : BS) : total (upd st k s) = total st + (s.l.length : Int) - ((st k).2.length : Int) := by
  have : k = 0 ∨ k = 1 ∨ k = 2 ∨ k = 3 := by omega
  rcases this with rfl | rfl | rfl | rfl <;> simp [total, upd] <;> omega
theorem le_total (st : Bo) (k : Nat) (hk : k < 4) : ((st k).2.length : Int) ≤ total st := by
  have : k = 0 ∨ k = 1 ∨ k = 2 ∨ k = 3 := by omega
  rcases this with rfl | rfl | rfl | rfl <;> simp only [total] <;> omega
/-- body k as a store with one body -/
def S4.one (used : Int) (st : Bo) (k : Nat) : BS := ⟨used, (st k).1, (st k).2⟩
theorem S4.cell {ab sb : Nat} {ad : Ad} {room used : Int} {st : Bo} {W wx : World} (h : S4 ab sb ad room used st W wx) {k : Nat} (hk : k < 4) : wx.cell? ⟨ab, k, none⟩ = some (ptrV (ad k).1) := by
  have : k = 0 ∨ k = 1 ∨ k = 2 ∨ k = 3 := by omega
  rcases this with rfl | rfl | rfl | rfl <;> exact cell_of h.1 rfl
theorem S4.keep {ab sb : Nat} {ad : Ad} {room used : Int} {st : Bo} {W wx w' : World} (h : S4 ab sb ad room used st W wx) (hk : Keeps [] wx w') : S4 ab sb ad room used st W w' := by
  obtain ⟨a1, a2, a3, a4, a5, a6⟩ := h
  exact ⟨hk.get a1 (by simp), a2.keep hk (by simp), fun k hk4 => ⟨(a3 k hk4).1.keep hk (by simp) (by simp), (a3 k hk4).2⟩, a4, a5, a6.trans hk⟩
/-- body k has become another -/
theorem S4.step {ab sb : Nat} {ad : Ad} {room used : Int} {st : Bo} {W wx w' : World} (h : S4 ab sb ad room used st W wx) (hs : Sep W ab sb ad) {k : Nat} (hk : k < 4) (s' : BS)
    (h1 : SAt w' sb room s'.used) (h2 : BAt w' (ad k).1 (ad k).2 s'.sz s'.l) (h3 : Keeps [sb, (ad k).1, (ad k).2] wx w') (h4 : OkB s'.sz s'.l) (h5 : s'.used ≤ room) (h6 : s'.used - used = (s'.l.length : Int) - ((st k).2.length : Int)) :
    S4 ab sb ad room s'.used (upd st k s') W w' := by
  obtain ⟨a1, a2, a3, a4, a5, a6⟩ := h
  obtain ⟨b1, b2, b3, b4, b5⟩ := hs
  obtain ⟨c1, c2, c3, c4, c5, c6, c7⟩ := b4 k hk
  refine ⟨h3.get a1 (by simp; omega), h1, fun j hj => ?_, by rw [total_upd st k hk]; omega, h5, a6.trans' h3 (fun x hx => Or.inr (by simp at hx; omega))⟩
  by_cases e : j = k
  · subst e; rw [upd_same]; exact ⟨h2, h4⟩
  · rw [upd_other st s' e]
    obtain ⟨d1, d2, d3⟩ := b5 j k hj hk e
    obtain ⟨_, _, d4⟩ := b5 k j hk hj (Ne.symm e)
    have d5 := (b5 k j hk hj (Ne.symm e)).2.1
    obtain ⟨_, _, _, _, e5, e6, _⟩ := b4 j hj
    exact ⟨(a3 j hj).1.keep h3 (by simp; omega) (by simp; omega), (a3 j hj).2⟩
theorem cutM_zero (s : BS) : (cutM s 0).2.l = [] := by
  have h : ∀ k, k ∉ keys (cutL 0 s.l) := fun k hk => by have := (cutL_mem.1 hk).2; omega
  have h2 : cutL 0 s.l = [] := by
    cases hc : cutL 0 s.l with
    | nil => rfl
    | cons p q => exact absurd (by rw [hc]; simp [keys]) (h p.1)
  unfold cutM
  rw [if_neg (by omega), if_neg (by omega)]
  exact h2
def adOf (b0 m0 b1 m1 b2 m2 b3 m3 : Nat) : Ad := fun k => if k = 0 then (b0, m0) else if k = 1 then (b1, m1) else if k = 2 then (b2, m2) else (b3, m3)
theorem four_start {W w6 : World} {sb b0 m0 b1 m1 b2 m2 b3 m3 z2 z3 z4 z5 : Nat} {room : Int} (h0 : W.heap.size ≤ sb) (h1 : sb < z2) (h2 : z2 ≤ b0 ∧ z2 ≤ m0 ∧ b0 < z3 ∧ m0 < z3 ∧ b0 ≠ m0) (h3 : z3 ≤ b1 ∧ z3 ≤ m1 ∧ b1 < z4 ∧ m1 < z4 ∧ b1 ≠ m1)
    (h4 : z4 ≤ b2 ∧ z4 ≤ m2 ∧ b2 < z5 ∧ m2 < z5 ∧ b2 ≠ m2) (h5 : z5 ≤ b3 ∧ z5 ≤ m3 ∧ b3 < w6.heap.size ∧ m3 < w6.heap.size ∧ b3 ≠ m3)
    (q0 : BAt w6 b0 m0 0 []) (q1 : BAt w6 b1 m1 0 []) (q2 : BAt w6 b2 m2 0 []) (q3 : BAt w6 b3 m3 0 []) (qs : SAt w6 sb room 0) (hr : 0 ≤ room) (hk : Keeps [] W w6) :
    ∃ ad : Ad, Sep W w6.heap.size sb ad ∧ S4 w6.heap.size sb ad room 0 (fun _ => (0, [])) W (w6.alloc (.cells #[ptrV b0, ptrV b1, ptrV b2, ptrV b3] 42)) := by
  have hka : Keeps [] w6 (w6.alloc (.cells #[ptrV b0, ptrV b1, ptrV b2, ptrV b3] 42)) := (Keeps.refl _ _).alloc _
  have four : ∀ {p : Nat → Prop}, p 0 → p 1 → p 2 → p 3 → ∀ k, k < 4 → p k := by
    intro p a b c d k hk
    have : k = 0 ∨ k = 1 ∨ k = 2 ∨ k = 3 := by omega
    rcases this with rfl | rfl | rfl | rfl <;> assumption
  refine ⟨adOf b0 m0 b1 m1 b2 m2 b3 m3, ⟨by omega, h0, by omega, four ?_ ?_ ?_ ?_, ?_⟩, heap_alloc w6 _, qs.keep hka (by simp), four ?_ ?_ ?_ ?_, rfl, hr, hk.trans hka⟩
  · simp only [adOf, if_pos]; omega
  · simp only [adOf, if_pos]; show _ ≤ b1 ∧ _ ≤ m1 ∧ b1 ≠ _ ∧ m1 ≠ _ ∧ b1 ≠ _ ∧ m1 ≠ _ ∧ b1 ≠ m1; omega
  · show _ ≤ b2 ∧ _ ≤ m2 ∧ b2 ≠ _ ∧ m2 ≠ _ ∧ b2 ≠ _ ∧ m2 ≠ _ ∧ b2 ≠ m2; omega
  · show _ ≤ b3 ∧ _ ≤ m3 ∧ b3 ≠ _ ∧ m3 ≠ _ ∧ b3 ≠ _ ∧ m3 ≠ _ ∧ b3 ≠ m3; omega
  · intro j k hj hk hjk
    have e : ∀ k, k < 4 → (k = 0 ∧ adOf b0 m0 b1 m1 b2 m2 b3 m3 k = (b0, m0)) ∨ (k = 1 ∧ adOf b0 m0 b1 m1 b2 m2 b3 m3 k = (b1, m1)) ∨ (k = 2 ∧ adOf b0 m0 b1 m1 b2 m2 b3 m3 k = (b2, m2)) ∨ (k = 3 ∧ adOf b0 m0 b1 m1 b2 m2 b3 m3 k = (b3, m3)) := by
      intro k hk
      have : k = 0 ∨ k = 1 ∨ k = 2 ∨ k = 3 := by omega
      rcases this with rfl | rfl | rfl | rfl
      · exact Or.inl ⟨rfl, rfl⟩
      · exact Or.inr (Or.inl ⟨rfl, rfl⟩)
      · exact Or.inr (Or.inr (Or.inl ⟨rfl, rfl⟩))
      · exact Or.inr (Or.inr (Or.inr ⟨rfl, rfl⟩))
    rcases e j hj with ⟨e1, e2⟩ | ⟨e1, e2⟩ | ⟨e1, e2⟩ | ⟨e1, e2⟩ <;> rcases e k hk with ⟨f1, f2⟩ | ⟨f1, f2⟩ | ⟨f1, f2⟩ | ⟨f1, f2⟩ <;> rw [e2, f2] <;> simp only [] <;> omega
  · exact ⟨q0.keep hka (by simp) (by simp), okB_nil⟩
  · exact ⟨q1.keep hka (by simp) (by simp), okB_nil⟩
  · exact ⟨q2.keep hka (by simp) (by simp), okB_nil⟩
  · exact ⟨q3.keep hka (by simp) (by simp), okB_nil⟩
theorem i64_and3 (n : Int) : bits .and .i64 n 3 = n % 4 := by
  have h3 : (BitVec.ofInt 64 3).toNat = 2 ^ 2 - 1 := by decide
  have key : (BitVec.ofInt 64 n &&& BitVec.ofInt 64 3).toNat = (n % ((2 ^ 64 : Nat) : Int)).toNat % 2 ^ 2 := by
    rw [BitVec.toNat_and, BitVec.toNat_ofInt, h3, Nat.and_two_pow_sub_one_eq_mod]
  show IntKind.i64.wrap ((BitVec.ofInt 64 n &&& BitVec.ofInt 64 3).toNat : Nat) = n % 4
  rw [key, IntKind.wrap_i64]
  omega
end Go.V.Block
