/-
  Package block: a store with four bodies beside the document's.
-/
import Derived.Test.YthkeahjcokbaaaaB26
import Derived.Test.YthkeahjcokbaaaaB19
namespace Go.Proofs.Ythkeahjcokbaaaa
open Go.RowKit Go.V Go.V.Block

theorem s4_keepx {ab sb : Nat} {ad : Ad} {room used : Int} {st : Bo} {S : List Nat} {W wx w' : World} (h : S4 ab sb ad room used st W wx) (hk : Keeps S wx w') (hW : ∀ x ∈ S, W.heap.size ≤ x)
    (hS : ∀ x ∈ S, x ≠ ab ∧ x ≠ sb ∧ ∀ k, k < 4 → x ≠ (ad k).1 ∧ x ≠ (ad k).2) : S4 ab sb ad room used st W w' := by
  obtain ⟨a1, a2, a3, a4, a5, a6⟩ := h
  exact ⟨hk.get a1 (fun q => (hS _ q).1 rfl), a2.keep hk (fun q => (hS _ q).2.1 rfl), fun k hk4 => ⟨(a3 k hk4).1.keep hk (fun q => ((hS _ q).2.2 k hk4).1 rfl) (fun q => ((hS _ q).2.2 k hk4).2 rfl), (a3 k hk4).2⟩, a4, a5, a6.trans' hk (fun x hx => Or.inr (hW x hx))⟩
def PB (ab sb : Nat) (ad : Ad) (x : Nat) : Prop := x = ab ∨ x = sb ∨ ∃ k, k < 4 ∧ (x = (ad k).1 ∨ x = (ad k).2)
def QB (cb rs : Nat) (rd : Nat → Nat) (x : Nat) : Prop := x = cb ∨ x = rs ∨ ∃ k, k < 4 ∧ x = rd k
def Sep2 (W : World) (ab sb : Nat) (ad : Ad) (cb rs : Nat) (rd : Nat → Nat) : Prop :=
  (∀ x, PB ab sb ad x → ¬ QB cb rs rd x) ∧ (∀ x, PB ab sb ad x → W.heap.size ≤ x) ∧ (∀ x, QB cb rs rd x → W.heap.size ≤ x) ∧ cb ≠ rs ∧ (∀ k, k < 4 → rd k ≠ cb ∧ rd k ≠ rs) ∧ ∀ j k, j < 4 → k < 4 → j ≠ k → rd j ≠ rd k
def Feet (ab sb : Nat) (ad : Ad) (cb rs : Nat) (rd : Nat → Nat) (F : Nat → List Nat) (W wx : World) : Prop :=
  (∀ k, k < 4 → ∀ x ∈ F k, W.heap.size ≤ x ∧ x < wx.heap.size ∧ ¬ PB ab sb ad x ∧ ¬ QB cb rs rd x) ∧ ∀ j k, j < 4 → k < 4 → j ≠ k → ∀ x ∈ F j, x ∉ F k
def R4 (cb rs : Nat) (rd : Nat → Nat) (F : Nat → List Nat) (room used : Int) (st : Bo) (wx : World) : Prop :=
  wx.heap[cb]? = some (.cells #[ptrV (rd 0), ptrV (rd 1), ptrV (rd 2), ptrV (rd 3)] 44 (0, 0)) ∧ RAt wx rs room used ∧ ∀ k, k < 4 → RB wx (rd k) (F k) (st k).1 (st k).2
/-- all of both -/
def All4 (ab sb : Nat) (ad : Ad) (cb rs : Nat) (rd : Nat → Nat) (F : Nat → List Nat) (room used : Int) (st : Bo) (W wx : World) : Prop :=
  S4 ab sb ad room used st W wx ∧ R4 cb rs rd F room used st wx ∧ Feet ab sb ad cb rs rd F W wx
theorem R4.cell {cb rs : Nat} {rd : Nat → Nat} {F : Nat → List Nat} {room used : Int} {st : Bo} {wx : World} (h : R4 cb rs rd F room used st wx) {k : Nat} (hk : k < 4) : wx.cell? ⟨cb, k, none⟩ = some (ptrV (rd k)) := by
  have : k = 0 ∨ k = 1 ∨ k = 2 ∨ k = 3 := by omega
  rcases this with rfl | rfl | rfl | rfl <;> exact cell_of h.1 rfl
theorem R4.keep {cb rs : Nat} {rd : Nat → Nat} {F : Nat → List Nat} {room used : Int} {st : Bo} {wx w' : World} {S : List Nat} (h : R4 cb rs rd F room used st wx) (hk : Keeps S wx w') (h1 : ∀ x ∈ S, ¬ QB cb rs rd x) (h2 : ∀ x ∈ S, ∀ k, k < 4 → x ∉ F k) : R4 cb rs rd F room used st w' :=
  ⟨hk.get h.1 (fun q => h1 _ q (Or.inl rfl)), hk.get h.2.1 (fun q => h1 _ q (Or.inr (Or.inl rfl))), fun k hk4 => (h.2.2 k hk4).keep hk (fun q => h1 _ q (Or.inr (Or.inr ⟨k, hk4, rfl⟩))) (fun x hx => h2 x hx k hk4)⟩
theorem Feet.keep {ab sb : Nat} {ad : Ad} {cb rs : Nat} {rd : Nat → Nat} {F : Nat → List Nat} {W wx w' : World} (h : Feet ab sb ad cb rs rd F W wx) (hz : wx.heap.size ≤ w'.heap.size) : Feet ab sb ad cb rs rd F W w' :=
  ⟨fun k hk x hx => by obtain ⟨a, b, c, d⟩ := h.1 k hk x hx; exact ⟨a, by omega, c, d⟩, h.2⟩
theorem All4.keep {ab sb : Nat} {ad : Ad} {cb rs : Nat} {rd : Nat → Nat} {F : Nat → List Nat} {room used : Int} {st : Bo} {W wx w' : World} (h : All4 ab sb ad cb rs rd F room used st W wx) (hk : Keeps [] wx w') : All4 ab sb ad cb rs rd F room used st W w' :=
  ⟨h.1.keep hk, h.2.1.keep hk (by simp) (by simp), h.2.2.keep hk.size⟩
theorem All4.lt {ab sb : Nat} {ad : Ad} {cb rs : Nat} {rd : Nat → Nat} {F : Nat → List Nat} {room used : Int} {st : Bo} {W wx : World} (h : All4 ab sb ad cb rs rd F room used st W wx) {x : Nat} (hx : PB ab sb ad x ∨ QB cb rs rd x) : x < wx.heap.size := by
  obtain ⟨⟨a1, a2, a3, _⟩, ⟨b1, b2, b3⟩, _⟩ := h
  rcases hx with (rfl | rfl | ⟨k, hk, rfl | rfl⟩) | (rfl | rfl | ⟨k, hk, rfl⟩)
  · exact lt_of_heap a1
  · exact a2.lt
  · exact (a3 k hk).1.lt.1
  · exact (a3 k hk).1.lt.2
  · exact lt_of_heap b1
  · exact lt_of_heap b2
  · obtain ⟨_, _, q⟩ := (b3 k hk).block
    exact lt_of_heap q
/-- a block that is none of both's is written -/
theorem All4.other {ab sb : Nat} {ad : Ad} {cb rs : Nat} {rd : Nat → Nat} {F : Nat → List Nat} {room used : Int} {st : Bo} {W wx w' : World} {g : Nat} (h : All4 ab sb ad cb rs rd F room used st W wx) (hk : Keeps [g] wx w') (hW : W.heap.size ≤ g)
    (h1 : ¬ PB ab sb ad g) (h2 : ¬ QB cb rs rd g) (h3 : ∀ k, k < 4 → g ∉ F k) : All4 ab sb ad cb rs rd F room used st W w' := by
  refine ⟨s4_keepx h.1 hk (by simp; exact hW) (fun x hx => ?_), h.2.1.keep hk (by simp; exact h2) (by simp; exact h3), h.2.2.keep hk.size⟩
  obtain rfl := List.mem_singleton.1 hx
  exact ⟨fun e => h1 (Or.inl e), fun e => h1 (Or.inr (Or.inl e)), fun k hk => ⟨fun e => h1 (Or.inr (Or.inr ⟨k, hk, Or.inl e⟩)), fun e => h1 (Or.inr (Or.inr ⟨k, hk, Or.inr e⟩))⟩⟩
/-- only what lies in w's heap may be a row's block -/
theorem RB.trim {w : World} {rb : Nat} {F : List Nat} {sz : Int} {l : CL} (h : RB w rb F sz l) : RB w rb (F.filter (fun x => decide (x < w.heap.size))) sz l := by
  obtain ⟨bs, th, ⟨Bv, Tv, h1, h2, h3, h4, h5⟩, hr⟩ := h
  exact ⟨bs, th, ⟨Bv, Tv, h1, h2, h3, fun g hg => List.mem_filter.2 ⟨h4 g hg, by simpa using (h2.blk hg).2⟩, fun g hg => List.mem_filter.2 ⟨h5 g hg, by simpa using (h3.blk hg).2⟩⟩, hr⟩
def updF (F : Nat → List Nat) (k : Nat) (F' : List Nat) : Nat → List Nat := fun j => if j = k then F' else F j
/-- body k has become another on both sides -/
theorem All4.step {ab sb : Nat} {ad : Ad} {cb rs : Nat} {rd : Nat → Nat} {F : Nat → List Nat} {room used : Int} {st : Bo} {W wx w1 w2 : World} (h : All4 ab sb ad cb rs rd F room used st W wx) (hs : Sep W ab sb ad) (hs2 : Sep2 W ab sb ad cb rs rd) {k : Nat} (hk : k < 4) (s' : BS)
    (h1 : SAt w1 sb room s'.used) (h2 : BAt w1 (ad k).1 (ad k).2 s'.sz s'.l) (h3 : Keeps [sb, (ad k).1, (ad k).2] wx w1) (h4 : OkB s'.sz s'.l) (h5 : s'.used ≤ room) (h6 : s'.used - used = (s'.l.length : Int) - ((st k).2.length : Int))
    {F' : List Nat} (r1 : RAt w2 rs room s'.used) (r2 : Grew w1 (F k) F') (r3 : RB w2 (rd k) F' s'.sz s'.l) (r4 : Keeps ([rs, rd k] ++ F k) w1 w2) :
    ∃ F2 : List Nat, (∀ x ∈ F2, x ∈ F') ∧ All4 ab sb ad cb rs rd (updF F k F2) room s'.used (upd st k s') W w2 := by
  have hS := S4.step h.1 hs hk s' h1 h2 h3 h4 h5 h6
  have hz1 := h3.size
  have hz2 := r4.size
  have hFk := h.2.2.1 k hk
  have hPQ := hs2.1
  refine ⟨F'.filter (fun x => decide (x < w2.heap.size)), fun x hx => (List.mem_filter.1 hx).1, s4_keepx hS r4 (fun x hx => ?_) (fun x hx => ?_), ⟨?_, r1, fun j hj => ?_⟩, fun j hj x hx => ?_, fun i j hi hj hij x hx hx2 => ?_⟩
  · simp only [List.cons_append, List.nil_append, List.mem_cons] at hx
    rcases hx with rfl | rfl | hx
    · exact hs2.2.2.1 _ (Or.inr (Or.inl rfl))
    · exact hs2.2.2.1 _ (Or.inr (Or.inr ⟨k, hk, rfl⟩))
    · exact (hFk x hx).1
  · have hn : ¬ PB ab sb ad x := by
      simp only [List.cons_append, List.nil_append, List.mem_cons] at hx
      rcases hx with rfl | rfl | hx
      · exact fun q => hPQ _ q (Or.inr (Or.inl rfl))
      · exact fun q => hPQ _ q (Or.inr (Or.inr ⟨k, hk, rfl⟩))
      · exact (hFk x hx).2.2.1
    exact ⟨fun e => hn (Or.inl e), fun e => hn (Or.inr (Or.inl e)), fun k hk => ⟨fun e => hn (Or.inr (Or.inr ⟨k, hk, Or.inl e⟩)), fun e => hn (Or.inr (Or.inr ⟨k, hk, Or.inr e⟩))⟩⟩
  · refine r4.get (h3.get h.2.1.1 ?_) ?_
    · intro q
      simp only [List.mem_cons, List.not_mem_nil, or_false] at q
      refine hPQ cb ?_ (Or.inl rfl)
      rcases q with q | q | q
      · exact Or.inr (Or.inl q)
      · exact Or.inr (Or.inr ⟨k, hk, Or.inl q⟩)
      · exact Or.inr (Or.inr ⟨k, hk, Or.inr q⟩)
    · intro q
      simp only [List.cons_append, List.nil_append, List.mem_cons] at q
      rcases q with q | q | q
      · exact hs2.2.2.2.1 q
      · exact (hs2.2.2.2.2.1 k hk).1 q.symm
      · exact (hFk cb q).2.2.2 (Or.inl rfl)
  · by_cases e : j = k
    · subst e
      rw [upd_same]
      show RB w2 (rd j) (if j = j then _ else _) s'.sz s'.l
      rw [if_pos rfl]
      exact r3.trim
    · rw [upd_other st s' e]
      show RB w2 (rd j) (if j = k then _ else _) _ _
      rw [if_neg e]
      refine ((h.2.1.2.2 j hj).keep h3 ?_ ?_).keep r4 ?_ ?_
      · intro q
        simp only [List.mem_cons, List.not_mem_nil, or_false] at q
        refine hPQ (rd j) ?_ (Or.inr (Or.inr ⟨j, hj, rfl⟩))
        rcases q with q | q | q
        · exact Or.inr (Or.inl q)
        · exact Or.inr (Or.inr ⟨k, hk, Or.inl q⟩)
        · exact Or.inr (Or.inr ⟨k, hk, Or.inr q⟩)
      · intro x q hx
        simp only [List.mem_cons, List.not_mem_nil, or_false] at q
        refine (h.2.2.1 j hj x hx).2.2.1 ?_
        rcases q with q | q | q
        · exact Or.inr (Or.inl q)
        · exact Or.inr (Or.inr ⟨k, hk, Or.inl q⟩)
        · exact Or.inr (Or.inr ⟨k, hk, Or.inr q⟩)
      · intro q
        simp only [List.cons_append, List.nil_append, List.mem_cons] at q
        rcases q with q | q | q
        · exact (hs2.2.2.2.2.1 j hj).2 q
        · exact hs2.2.2.2.2.2 j k hj hk e q
        · exact (hFk _ q).2.2.2 (Or.inr (Or.inr ⟨j, hj, rfl⟩))
      · intro x q hx
        simp only [List.cons_append, List.nil_append, List.mem_cons] at q
        rcases q with q | q | q
        · exact (h.2.2.1 j hj x hx).2.2.2 (Or.inr (Or.inl q))
        · exact (h.2.2.1 j hj x hx).2.2.2 (Or.inr (Or.inr ⟨k, hk, q⟩))
        · exact h.2.2.2 j k hj hk e x hx q
  · by_cases e : j = k
    · subst e
      have hx : x ∈ (if j = j then F'.filter (fun x => decide (x < w2.heap.size)) else F j) := hx
      rw [if_pos rfl] at hx
      obtain ⟨hx1, hx2⟩ := List.mem_filter.1 hx
      have hx2 : x < w2.heap.size := by simpa using hx2
      rcases r2 x hx1 with q | q
      · obtain ⟨a, b, c, d⟩ := hFk x q
        exact ⟨a, hx2, c, d⟩
      · have hW := h.1.2.2.2.2.2.size
        exact ⟨by omega, hx2, fun q2 => by have := h.lt (Or.inl q2); omega, fun q2 => by have := h.lt (Or.inr q2); omega⟩
    · have hx : x ∈ (if j = k then F'.filter (fun x => decide (x < w2.heap.size)) else F j) := hx
      rw [if_neg e] at hx
      obtain ⟨a, b, c, d⟩ := h.2.2.1 j hj x hx
      exact ⟨a, by omega, c, d⟩
  · have hx : x ∈ (if i = k then F'.filter (fun x => decide (x < w2.heap.size)) else F i) := hx
    have hx2 : x ∈ (if j = k then F'.filter (fun x => decide (x < w2.heap.size)) else F j) := hx2
    by_cases e : i = k
    · have e2 : ¬ j = k := fun q => hij (e.trans q.symm)
      rw [if_pos e] at hx
      rw [if_neg e2] at hx2
      rcases r2 x (List.mem_filter.1 hx).1 with q | q
      · exact h.2.2.2 k j hk hj (fun q => e2 q.symm) x q hx2
      · have := (h.2.2.1 j hj x hx2).2.1; omega
    · rw [if_neg e] at hx
      by_cases e2 : j = k
      · rw [if_pos e2] at hx2
        rcases r2 x (List.mem_filter.1 hx2).1 with q | q
        · exact h.2.2.2 i k hi hk e x hx q
        · have := (h.2.2.1 i hi x hx).2.1; omega
      · rw [if_neg e2] at hx2
        exact h.2.2.2 i j hi hj hij x hx hx2
/-- behind a call of the code's, the document's side -/
theorem All4.ref {ab sb : Nat} {ad : Ad} {cb rs : Nat} {rd : Nat → Nat} {F : Nat → List Nat} {room used : Int} {st : Bo} {W wx w1 : World} (h : All4 ab sb ad cb rs rd F room used st W wx) (hs2 : Sep2 W ab sb ad cb rs rd) {k : Nat} (hk : k < 4)
    (h3 : Keeps [sb, (ad k).1, (ad k).2] wx w1) : R4 cb rs rd F room used st w1 ∧ (rs ∉ F k ∧ rd k ∉ F k ∧ ∀ x ∈ F k, x < w1.heap.size) := by
  have hP : ∀ x ∈ [sb, (ad k).1, (ad k).2], PB ab sb ad x := by
    intro x q
    simp only [List.mem_cons, List.not_mem_nil, or_false] at q
    rcases q with q | q | q
    · exact Or.inr (Or.inl q)
    · exact Or.inr (Or.inr ⟨k, hk, Or.inl q⟩)
    · exact Or.inr (Or.inr ⟨k, hk, Or.inr q⟩)
  refine ⟨h.2.1.keep h3 (fun x hx => hs2.1 x (hP x hx)) (fun x hx j hj hx2 => (h.2.2.1 j hj x hx2).2.2.1 (hP x hx)), fun q => ?_, fun q => ?_, fun x q => ?_⟩
  · exact (h.2.2.1 k hk rs q).2.2.2 (Or.inr (Or.inl rfl))
  · exact (h.2.2.1 k hk _ q).2.2.2 (Or.inr (Or.inr ⟨k, hk, rfl⟩))
  · have h1 := (h.2.2.1 k hk x q).2.1
    have := h3.size
    omega
theorem All4.prog {ab sb : Nat} {ad : Ad} {cb rs : Nat} {rd : Nat → Nat} {F : Nat → List Nat} {room used : Int} {st : Bo} {W wx : World} (h : All4 ab sb ad cb rs rd F room used st W wx) (hs : Sep W ab sb ad) {k : Nat} (hk : k < 4) :
    SAt wx sb room used ∧ BAt wx (ad k).1 (ad k).2 (st k).1 (st k).2 ∧ sb ≠ (ad k).1 ∧ OkB (st k).1 (st k).2 ∧ ((st k).2.length : Int) ≤ used ∧ used ≤ room ∧ 0 ≤ used := by
  obtain ⟨s1, s2, s3, s4, s5, s6⟩ := h.1
  obtain ⟨d1, d2, d3, d4, d5, d6, d7⟩ := hs.2.2.2.1 k hk
  have hle := le_total st k hk
  exact ⟨s2, (s3 k hk).1, Ne.symm d5, (s3 k hk).2, by omega, s5, by omega⟩
/-- what a region that draws its order reads -/
def SD (ab cb : Nat) (ad : Ad) (rd : Nat → Nat) (kk xb : Nat) (O N : Int) (vb : Value) (w : World) : Prop :=
  w.cell? ⟨ab, kk, none⟩ = some (.pointer (some ⟨(ad kk).1, 0, none⟩)) ∧ w.cell? ⟨cb, kk, none⟩ = some (.pointer (some ⟨rd kk, 0, none⟩)) ∧ w.cell? ⟨xb, 2, none⟩ = some (.int .i64 O) ∧ w.cell? ⟨xb, 3, none⟩ = some (.int .i64 N) ∧ w.cell? ⟨xb, 4, none⟩ = some vb
/-- a row apart from both's -/
def Apart (ab sb : Nat) (ad : Ad) (cb rs : Nat) (rd : Nat → Nat) (F : Nat → List Nat) (W : World) (g : Nat) : Prop := W.heap.size ≤ g ∧ ¬ PB ab sb ad g ∧ ¬ QB cb rs rd g ∧ ∀ k, k < 4 → g ∉ F k
theorem Apart.p {ab sb : Nat} {ad : Ad} {cb rs : Nat} {rd : Nat → Nat} {F : Nat → List Nat} {W : World} {g : Nat} (h : Apart ab sb ad cb rs rd F W g) {k : Nat} (hk : k < 4) : g ∉ [sb, (ad k).1, (ad k).2] := by
  intro q
  simp only [List.mem_cons, List.not_mem_nil, or_false] at q
  refine h.2.1 ?_
  rcases q with q | q | q
  · exact Or.inr (Or.inl q)
  · exact Or.inr (Or.inr ⟨k, hk, Or.inl q⟩)
  · exact Or.inr (Or.inr ⟨k, hk, Or.inr q⟩)
theorem Apart.q {ab sb : Nat} {ad : Ad} {cb rs : Nat} {rd : Nat → Nat} {F : Nat → List Nat} {W : World} {g : Nat} (h : Apart ab sb ad cb rs rd F W g) {k : Nat} (hk : k < 4) : g ∉ [rs, rd k] ++ F k := by
  intro q
  simp only [List.cons_append, List.nil_append, List.mem_cons] at q
  rcases q with q | q | q
  · exact h.2.2.1 (Or.inr (Or.inl q))
  · exact h.2.2.1 (Or.inr (Or.inr ⟨k, hk, q⟩))
  · exact h.2.2.2 k hk q
theorem All4.apart {ab sb : Nat} {ad : Ad} {cb rs : Nat} {rd : Nat → Nat} {F : Nat → List Nat} {room used : Int} {st : Bo} {W wx : World} (h : All4 ab sb ad cb rs rd F room used st W wx) {g : Nat} (hg : wx.heap.size ≤ g) : Apart ab sb ad cb rs rd F W g := by
  refine ⟨by have := h.1.2.2.2.2.2.size; omega, fun q => ?_, fun q => ?_, fun k hk q => ?_⟩
  · have := h.lt (Or.inl q); omega
  · have := h.lt (Or.inr q); omega
  · have := (h.2.2.1 k hk g q).2.1; omega
theorem SD.of {ab sb : Nat} {ad : Ad} {cb rs : Nat} {rd : Nat → Nat} {F : Nat → List Nat} {room used : Int} {st : Bo} {W wx : World} (h : All4 ab sb ad cb rs rd F room used st W wx) {kk : Nat} (hk : kk < 4) {xb : Nat} {K X O N : Int} {vb : Value}
    (hx : wx.heap[xb]? = some (.cells #[.int .i64 K, .int .i64 X, .int .i64 O, .int .i64 N, vb] 49 (0, 0))) : SD ab cb ad rd kk xb O N vb wx :=
  ⟨h.1.cell hk, h.2.1.cell hk, cell_of hx rfl, cell_of hx rfl, cell_of hx rfl⟩
end Go.Proofs.Ythkeahjcokbaaaa
