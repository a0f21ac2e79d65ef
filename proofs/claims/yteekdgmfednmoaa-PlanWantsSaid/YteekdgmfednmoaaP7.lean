/-
  Wants in order, plainly.
-/
import Derived.Test.YteekdgmfednmoaaP6
import Derived.Test.YteekdgmfednmoaaV8
import Derived.Test.YteekdgmfednmoaaV3
namespace Go.V.Queue
open Go Go.V
def ltW (a b : It) : Prop := a.key < b.key ∨ (a.key = b.key ∧ a.push < b.push)
def wrB (l : List It) (k : Int) : Bool := l.any (fun y => y.push == k && y.n)
def hasB (l : List It) (k : Int) : Bool := l.any (fun y => y.push == k)
theorem mem_at {l : List It} {i : Nat} (h : i < l.length) : at_ l i ∈ l := by
  unfold at_; rw [List.getD_eq_getElem?_getD, List.getElem?_eq_getElem h]; exact List.getElem_mem h
theorem at_of_mem {l : List It} {x : It} (h : x ∈ l) : ∃ i, i < l.length ∧ at_ l i = x := by
  obtain ⟨i, hi, rfl⟩ := List.getElem_of_mem h
  exact ⟨i, hi, by unfold at_; rw [List.getD_eq_getElem?_getD, List.getElem?_eq_getElem hi]; rfl⟩
theorem wrB_iff {l : List It} {k : Int} : wrB l k = true ↔ ∃ y ∈ l, y.push = k ∧ y.n = true := by
  unfold wrB; rw [List.any_eq_true]; simp only [Bool.and_eq_true, beq_iff_eq]
theorem hasB_iff {l : List It} {k : Int} : hasB l k = true ↔ ∃ y ∈ l, y.push = k := by
  unfold hasB; rw [List.any_eq_true]; simp only [beq_iff_eq]
theorem wrB_append (a b : List It) (k : Int) : wrB (a ++ b) k = (wrB a k || wrB b k) := by unfold wrB; rw [List.any_append]
theorem hasB_append (a b : List It) (k : Int) : hasB (a ++ b) k = (hasB a k || hasB b k) := by unfold hasB; rw [List.any_append]
/-- the order of wants -/
structure OrdP (l o : List It) : Prop where
  srt : o.Pairwise ltW
  dist : o.Pairwise (fun a b => a.push ≠ b.push)
  low : ∀ x ∈ o, (∃ y ∈ l, y.push = x.push ∧ y.key = x.key) ∧ ∀ y ∈ l, y.push = x.push → x.key ≤ y.key
  wr : ∀ x ∈ o, x.n = wrB l x.push
  all : ∀ y ∈ l, ∃ x ∈ o, x.push = y.push
theorem dist_eq : ∀ {o : List It}, o.Pairwise (fun a b => a.push ≠ b.push) → ∀ x ∈ o, ∀ y ∈ o, x.push = y.push → x = y
  | [], _, _, h, _, _, _ => by simp at h
  | z :: o, hd, x, hx, y, hy, e => by
    obtain ⟨h1, h2⟩ := List.pairwise_cons.1 hd
    rcases List.mem_cons.1 hx with ex | hx <;> rcases List.mem_cons.1 hy with ey | hy
    · rw [ex, ey]
    · exact absurd (ex ▸ e) (h1 y hy)
    · exact absurd (ey ▸ e).symm (h1 x hx)
    · exact dist_eq h2 x hx y hy e
theorem srt_ext : ∀ {o o' : List It}, o.Pairwise ltW → o'.Pairwise ltW → (∀ x, x ∈ o ↔ x ∈ o') → o = o'
  | [], [], _, _, _ => rfl
  | [], y :: _, _, _, h => by have := (h y).2 (by simp); simp at this
  | x :: _, [], _, _, h => by have := (h x).1 (by simp); simp at this
  | x :: o, y :: o', hs, hs', h => by
    obtain ⟨a1, a2⟩ := List.pairwise_cons.1 hs
    obtain ⟨b1, b2⟩ := List.pairwise_cons.1 hs'
    have hxy : x = y := by
      rcases List.mem_cons.1 ((h x).1 (by simp)) with e | h1
      · exact e
      · rcases List.mem_cons.1 ((h y).2 (by simp)) with e | h2
        · exact e.symm
        · have p1 := b1 x h1
          have p2 := a1 y h2
          unfold ltW at p1 p2
          omega
    subst hxy
    congr 1
    refine srt_ext a2 b2 (fun z => ⟨fun hz => ?_, fun hz => ?_⟩)
    · rcases List.mem_cons.1 ((h z).1 (List.mem_cons_of_mem _ hz)) with rfl | q
      · have := a1 z hz; unfold ltW at this; omega
      · exact q
    · rcases List.mem_cons.1 ((h z).2 (List.mem_cons_of_mem _ hz)) with rfl | q
      · have := b1 z hz; unfold ltW at this; omega
      · exact q
theorem It.ext' {a b : It} (h1 : a.key = b.key) (h2 : a.push = b.push) (h3 : a.n = b.n) : a = b := by
  cases a; cases b; simp only at h1 h2 h3; rw [h1, h2, h3]
theorem OrdP.mem_iff {l o : List It} (h : OrdP l o) (x : It) : x ∈ o ↔ (∃ y ∈ l, y.push = x.push ∧ y.key = x.key) ∧ (∀ y ∈ l, y.push = x.push → x.key ≤ y.key) ∧ x.n = wrB l x.push := by
  refine ⟨fun hx => ⟨(h.low x hx).1, (h.low x hx).2, h.wr x hx⟩, fun ⟨⟨y, hy, e1, e2⟩, h2, h3⟩ => ?_⟩
  obtain ⟨z, hz, hze⟩ := h.all y hy
  obtain ⟨⟨u, hu, u1, u2⟩, hl⟩ := h.low z hz
  have k1 := hl y hy hze.symm
  have k2 := h2 u hu (by rw [u1, hze, e1])
  have : z = x := It.ext' (by omega) (by rw [hze, e1]) (by rw [h.wr z hz, h3, hze, e1])
  rw [← this]; exact hz
theorem OrdP.eq {l o o' : List It} (h : OrdP l o) (h' : OrdP l o') : o = o' := srt_ext h.srt h'.srt (fun x => (h.mem_iff x).trans (h'.mem_iff x).symm)
theorem wrB_congr {l l' : List It} (hm : ∀ x, x ∈ l ↔ x ∈ l') (k : Int) : wrB l k = wrB l' k := by
  rw [Bool.eq_iff_iff, wrB_iff, wrB_iff]
  exact ⟨fun ⟨y, hy, e⟩ => ⟨y, (hm y).1 hy, e⟩, fun ⟨y, hy, e⟩ => ⟨y, (hm y).2 hy, e⟩⟩
theorem OrdP.congr {l l' o : List It} (h : OrdP l o) (hm : ∀ x, x ∈ l ↔ x ∈ l') : OrdP l' o :=
  ⟨h.srt, h.dist, fun x hx => ⟨by obtain ⟨y, hy, e⟩ := (h.low x hx).1; exact ⟨y, (hm y).1 hy, e⟩, fun y hy => (h.low x hx).2 y ((hm y).2 hy)⟩, fun x hx => by rw [h.wr x hx, wrB_congr hm], fun y hy => h.all y ((hm y).2 hy)⟩
theorem OrdP.self {l o : List It} (h : OrdP l o) : OrdP o o :=
  ⟨h.srt, h.dist, fun x hx => ⟨⟨x, hx, rfl, rfl⟩, fun y hy e => by rw [dist_eq h.dist y hy x hx e]; exact Int.le_refl _⟩, fun x hx => by
    rw [Bool.eq_iff_iff, wrB_iff]
    exact ⟨fun e => ⟨x, hx, rfl, e⟩, fun ⟨y, hy, e1, e2⟩ => by rw [← dist_eq h.dist y hy x hx e1]; exact e2⟩, fun y hy => ⟨y, hy, rfl⟩⟩
/-- while wants are popped -/
structure OI (l l' o : List It) : Prop where
  heap : Heap 0 l'.length l'
  sub : ∀ x ∈ l', x ∈ l
  cov : ∀ y ∈ l, y ∈ l' ∨ ∃ x ∈ o, x.push = y.push
  srt : o.Pairwise ltW
  dist : o.Pairwise (fun a b => a.push ≠ b.push)
  below : ∀ x ∈ o, ∀ y ∈ l', le x y
  low : ∀ x ∈ o, (∃ y ∈ l, y.push = x.push ∧ y.key = x.key) ∧ ∀ y ∈ l, y.push = x.push → x.key ≤ y.key
  wr : ∀ x ∈ o, x.n = wrB l x.push
theorem OI.start {l l' : List It} (h : Heap 0 l'.length l') (hp : l'.Perm l) : OI l l' [] :=
  ⟨h, fun _ hx => hp.mem_iff.1 hx, fun _ hy => Or.inl (hp.mem_iff.2 hy), List.Pairwise.nil, List.Pairwise.nil, fun _ hx => (by simp at hx), fun _ hx => (by simp at hx), fun _ hx => (by simp at hx)⟩
theorem OI.done {l o : List It} (h : OI l [] o) : OrdP l o :=
  ⟨h.srt, h.dist, h.low, h.wr, fun y hy => (h.cov y hy).elim (fun q => (by simp at q)) id⟩
theorem OI.pop {l l' o : List It} (h : OI l l' o) {N : Nat} (hN : l'.length = N + 1) : Heap 0 ((popL l').take N).length ((popL l').take N) ∧ (∀ x, x ∈ l' ↔ x ∈ (popL l').take N ∨ x = at_ l' 0) ∧ at_ (popL l') N = at_ l' 0 ∧ ((popL l').take N).length = N := by
  obtain ⟨p1, p2, p3, p4⟩ := pop_heap hN h.heap
  refine ⟨by rw [p4]; exact p1, fun x => ?_, p3, p4⟩
  rw [← p2.mem_iff]; simp
theorem OI.skip {l l' o : List It} (h : OI l l' o) {N : Nat} (hN : l'.length = N + 1) (ht : hasB o (at_ l' 0).push = true) : OI l ((popL l').take N) o := by
  obtain ⟨p1, p2, p3, p4⟩ := h.pop hN
  refine ⟨p1, fun x hx => h.sub x ((p2 x).2 (Or.inl hx)), fun y hy => ?_, h.srt, h.dist, fun x hx y hy => h.below x hx y ((p2 y).2 (Or.inl hy)), h.low, h.wr⟩
  rcases h.cov y hy with q | q
  · rcases (p2 y).1 q with q | rfl
    · exact Or.inl q
    · exact Or.inr (hasB_iff.1 ht)
  · exact Or.inr q
theorem OI.take {l l' o : List It} (h : OI l l' o) {N : Nat} (hN : l'.length = N + 1) (ht : hasB o (at_ l' 0).push = false) : OI l ((popL l').take N) (o ++ [⟨(at_ l' 0).key, (at_ l' 0).push, wrB l (at_ l' 0).push⟩]) := by
  obtain ⟨p1, p2, p3, p4⟩ := h.pop hN
  have hy : at_ l' 0 ∈ l' := mem_at (by omega)
  have hno : ∀ x ∈ o, x.push ≠ (at_ l' 0).push := by
    intro x hx e
    have := hasB_iff.2 ⟨x, hx, e⟩
    rw [ht] at this; cases this
  have hmin : ∀ z ∈ l', le (at_ l' 0) z := by
    intro z hz
    obtain ⟨c, hc, rfl⟩ := at_of_mem hz
    exact heap_min h.heap c hc
  refine ⟨p1, fun x hx => h.sub x ((p2 x).2 (Or.inl hx)), fun y hy2 => ?_, ?_, ?_, fun x hx y hy2 => ?_, fun x hx => ?_, fun x hx => ?_⟩
  · rcases h.cov y hy2 with q | ⟨x, hx, e⟩
    · rcases (p2 y).1 q with q | rfl
      · exact Or.inl q
      · exact Or.inr ⟨_, List.mem_append_right _ (List.mem_singleton.2 rfl), rfl⟩
    · exact Or.inr ⟨x, List.mem_append_left _ hx, e⟩
  · refine List.pairwise_append.2 ⟨h.srt, by simp, fun x hx y hy2 => ?_⟩
    obtain rfl := List.mem_singleton.1 hy2
    have h1 := h.below x hx _ hy
    have h2 := hno x hx
    rw [le_iff] at h1
    unfold ltW
    simp only
    omega
  · refine List.pairwise_append.2 ⟨h.dist, by simp, fun x hx y hy2 => ?_⟩
    obtain rfl := List.mem_singleton.1 hy2
    exact hno x hx
  · rcases List.mem_append.1 hx with hx | hx
    · exact h.below x hx y ((p2 y).2 (Or.inl hy2))
    · obtain rfl := List.mem_singleton.1 hx
      have := hmin y ((p2 y).2 (Or.inl hy2))
      rw [le_iff] at this ⊢
      exact this
  · rcases List.mem_append.1 hx with hx | hx
    · exact h.low x hx
    · obtain rfl := List.mem_singleton.1 hx
      refine ⟨⟨at_ l' 0, h.sub _ hy, rfl, rfl⟩, fun z hz e => ?_⟩
      rcases h.cov z hz with q | ⟨x, hx, ex⟩
      · have := hmin z q
        rw [le_iff] at this
        simp only at e ⊢
        omega
      · exact absurd (ex.trans e) (hno x hx)
  · rcases List.mem_append.1 hx with hx | hx
    · exact h.wr x hx
    · obtain rfl := List.mem_singleton.1 hx
      rfl
/-- whose wants bar each other -/
def clashB (a b : List It) : Bool := a.any (fun x => b.any (fun y => x.push == y.push && (x.n || y.n)))
theorem clashB_iff {a b : List It} : clashB a b = true ↔ ∃ x ∈ a, ∃ y ∈ b, x.push = y.push ∧ (x.n = true ∨ y.n = true) := by
  unfold clashB
  simp only [List.any_eq_true, Bool.and_eq_true, beq_iff_eq, Bool.or_eq_true]
theorem clashB_comm (a b : List It) : clashB a b = clashB b a := by
  rw [Bool.eq_iff_iff, clashB_iff, clashB_iff]
  exact ⟨fun ⟨x, hx, y, hy, e, h⟩ => ⟨y, hy, x, hx, e.symm, h.symm⟩, fun ⟨x, hx, y, hy, e, h⟩ => ⟨y, hy, x, hx, e.symm, h.symm⟩⟩
theorem OrdP.clash {a b oa ob : List It} (ha : OrdP a oa) (hb : OrdP b ob) : clashB a b = clashB oa ob := by
  rw [Bool.eq_iff_iff, clashB_iff, clashB_iff]
  constructor
  · rintro ⟨x, hx, y, hy, e, h⟩
    obtain ⟨x', hx', ex⟩ := ha.all x hx
    obtain ⟨y', hy', ey⟩ := hb.all y hy
    refine ⟨x', hx', y', hy', by rw [ex, ey, e], ?_⟩
    rw [ha.wr x' hx', hb.wr y' hy', wrB_iff, wrB_iff]
    exact h.elim (fun q => Or.inl ⟨x, hx, ex.symm, q⟩) (fun q => Or.inr ⟨y, hy, ey.symm, q⟩)
  · rintro ⟨x, hx, y, hy, e, h⟩
    obtain ⟨⟨x', hx', ex, _⟩, _⟩ := ha.low x hx
    obtain ⟨⟨y', hy', ey, _⟩, _⟩ := hb.low y hy
    rw [ha.wr x hx, hb.wr y hy, wrB_iff, wrB_iff] at h
    rcases h with ⟨u, hu, eu, q⟩ | ⟨u, hu, eu, q⟩
    · exact ⟨u, hu, y', hy', by rw [eu, ey, e], Or.inl q⟩
    · exact ⟨x', hx', u, hu, by rw [eu, ex, e], Or.inr q⟩
def F3 : Form It := ⟨3, It.cells, fun _ => rfl, fun _ u hu => by
  simp only [It.cells, List.mem_cons, List.not_mem_nil, or_false] at hu
  rcases hu with rfl | rfl | rfl <;> rfl⟩
theorem cellsOf_all : ∀ l : List It, cellsOf l = F3.all l
  | [] => rfl
  | x :: l => by rw [F3.all_cons, ← cellsOf_all l]; rfl
theorem row_g {w : World} {v : Value} {l : List It} : Row w v l ↔ RowG F3 39 w v l := by
  unfold Row RowG
  rw [cellsOf_all]
  exact Iff.rfl
def keyI (z : Int) : Value := .int .i64 z
def boolV (b : Bool) : Value := .bool b
/-- a map of numbers to Booleans, as a function -/
def FM (w : World) (mb : Nat) (f : Int → Bool) : Prop := ∃ m : List (Int × Bool), MapAt w mb keyI boolV m ∧ ∀ k, (get m k).getD false = f k
theorem FM.keep {S : List Nat} {w w' : World} {mb : Nat} {f : Int → Bool} (h : FM w mb f) (hk : Keeps S w w') (hn : mb ∉ S) : FM w' mb f := by
  obtain ⟨m, h1, h2⟩ := h
  exact ⟨m, h1.keep hk hn, h2⟩
theorem FM.lt {w : World} {mb : Nat} {f : Int → Bool} (h : FM w mb f) : mb < w.heap.size := by obtain ⟨m, h1, _⟩ := h; exact h1.lt
theorem FM.ne_cells {w : World} {mb x : Nat} {f : Int → Bool} {cs : Array Value} {t : TypeId} {fr : Nat × Nat} (h : FM w mb f) (hx : w.heap[x]? = some (.cells cs t fr)) : x ≠ mb := by obtain ⟨m, h1, _⟩ := h; exact h1.ne_cells hx
end Go.V.Queue
namespace Go.Proofs.Yteekdgmfednmoaa
open Go.RowKit Go.V Go.V.Queue
theorem kI : KeyOk Try.prog 3 keyI := ⟨⟨_, Try.underlying3, fun _ => rfl⟩, fun a b h => by simp only [keyI, Value.int.injEq, true_and] at h; exact h⟩
theorem _root_.Go.V.Queue.FM.made (w : World) : FM (w.alloc (.map #[] 0)) w.heap.size (fun _ => false) := ⟨[], MapAt.made w keyI boolV, fun _ => rfl⟩
theorem _root_.Go.V.Queue.FM.lk {w : World} {mb : Nat} {f : Int → Bool} (h : FM w mb f) (k : Int) : (Instr.lookup 40 (.map (some mb)) (.int .i64 k) false).run Try.prog w = .ok (.bool (f k)) w := by
  obtain ⟨m, h1, h2⟩ := h
  have := h1.lookup kI Try.underlying40 (z := .bool false) (et := 4) (by kernel_rfl) k false
  rw [← h2 k]
  cases hg : get m k with
  | none => rw [hg] at this; exact this
  | some b => rw [hg] at this; exact this
end Go.Proofs.Yteekdgmfednmoaa
