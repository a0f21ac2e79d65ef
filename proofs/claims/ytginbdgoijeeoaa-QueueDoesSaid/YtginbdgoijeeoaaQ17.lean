/-
  Queues that the call has made, as lists in order.
-/
import Derived.Test.YtginbdgoijeeoaaQ16
import Derived.Test.YtginbdgoijeeoaaQ11
namespace Go.Proofs.Ytginbdgoijeeoaa
open Go.RowKit Go.V Go.V.Queue
/-- a queue that the call has made, as a list in order -/
def QS (W : World) (qb : Nat) (v : Value) (p : Int) (r : List Pr) (wx : World) : Prop :=
  ∃ l, QI W qb v p l wx ∧ Srt l p r ∧ (r.length : Int) ≤ p
def Foot (qb : Nat) (v : Value) : List Nat := qb :: v.ownBlock.toList
variable {W wx w' : World} {qb : Nat} {v : Value} {p : Int} {r : List Pr}
theorem QS.keeps (h : QS W qb v p r wx) : Keeps [] W wx := by obtain ⟨l, h, _⟩ := h; exact h.2.2.2
theorem QS.ge (h : QS W qb v p r wx) : ∀ x ∈ Foot qb v, W.heap.size ≤ x := by
  obtain ⟨l, h, _⟩ := h
  intro x hx
  simp only [Foot, List.mem_cons, Option.mem_toList] at hx
  rcases hx with rfl | hx
  · exact h.1
  · exact h.2.1 x hx
theorem QS.cells (h : QS W qb v p r wx) : ∀ x ∈ Foot qb v, ∃ cs t fr, wx.heap[x]? = some (.cells cs t fr) := by
  obtain ⟨l, h, _⟩ := h
  intro x hx
  simp only [Foot, List.mem_cons, Option.mem_toList] at hx
  rcases hx with rfl | hx
  · exact ⟨_, _, _, h.2.2.1.1⟩
  · rcases h.2.2.1.2.2 with ⟨rfl, _⟩ | ⟨g', _, _, rfl, _, hh, _⟩
    · simp [Value.ownBlock] at hx
    · have hg' : g' = x := by simpa [Value.ownBlock] using hx
      rw [hg'] at hh
      exact ⟨_, _, _, hh⟩
theorem QS.lt (h : QS W qb v p r wx) : ∀ x ∈ Foot qb v, x < wx.heap.size := by
  intro x hx
  obtain ⟨_, _, _, hh⟩ := h.cells x hx
  exact lt_of_heap hh
theorem QS.ne_map {mb : Nat} {κ β : Type} {ke : κ → Value} {ve : β → Value} {m : List (κ × β)} (h : QS W qb v p r wx) (hm : MapAt wx mb ke ve m) : mb ∉ Foot qb v := by
  intro hx
  obtain ⟨_, _, _, hh⟩ := h.cells mb hx
  exact hm.ne_cells hh rfl
theorem QS.keep {S : List Nat} (h : QS W qb v p r wx) (hk : Keeps S wx w') (h1 : ∀ x ∈ S, x ∉ Foot qb v) (h2 : ∀ x ∈ S, W.heap.size ≤ x) : QS W qb v p r w' := by
  obtain ⟨l, ⟨a1, a2, a3, a4⟩, b, c⟩ := h
  refine ⟨l, ⟨a1, a2, a3.keep hk (fun hx => h1 _ hx (by simp [Foot])) (fun y hy e => h1 y hy ?_), a4.trans' hk (fun x hx => Or.inr (h2 x hx))⟩, b, c⟩
  simp [Foot, e]
def QDone (W wx : World) (qb : Nat) (v : Value) (p : Int) (r : List Pr) (w' : World) : Prop :=
  ∃ v', QS W qb v' p r w' ∧ Keeps (Foot qb v) wx w' ∧ ∀ x ∈ Foot qb v', x ∈ Foot qb v ∨ wx.heap.size ≤ x
theorem foot_from {v v' : Value} (h : From wx v v') : ∀ x ∈ Foot qb v', x ∈ Foot qb v ∨ wx.heap.size ≤ x := by
  intro x hx
  simp only [Foot, List.mem_cons, Option.mem_toList] at hx ⊢
  rcases hx with rfl | hx
  · exact Or.inl (Or.inl rfl)
  · rcases h x hx with q | q
    · exact Or.inl (Or.inr q)
    · exact Or.inr q
theorem QDone.of {l l' : List It} {v' : Value} {p' : Int} {r' : List Pr} (h : QI W qb v p l wx) (hf : From wx v v') (hq : QL w' qb v' (.int .i64 p') l') (hk : Keeps (qb :: v.ownBlock.toList) wx w') (hs : Srt l' p' r') (hp : (r'.length : Int) ≤ p') : QDone W wx qb v p' r' w' :=
  ⟨v', ⟨l', h.step hf hq hk, hs, hp⟩, hk, foot_from hf⟩
def tk (r : List Pr) : Int := (r.headD (0, 0)).1
def tn (r : List Pr) : Int := (r.headD (0, 0)).2
def tb (r : List Pr) : Bool := !r.isEmpty
def PopP (W wx : World) (qb : Nat) (v : Value) (p : Int) (r : List Pr) (e : Ending) (w' : World) : Prop :=
  e = .returned (.tuple #[.int .i64 (tk r), .int .i64 (tn r), .bool (tb r)]) ∧ QDone W wx qb v p r.tail w'
def PushP (W wx : World) (qb : Nat) (v : Value) (p : Int) (r : List Pr) (e : Ending) (w' : World) : Prop :=
  e = .returned (.tuple #[]) ∧ QDone W wx qb v p r w'
def PeekP (wx : World) (r : List Pr) (e : Ending) (w' : World) : Prop :=
  e = .returned (.tuple #[.int .i64 (tk r), .int .i64 (tn r), .bool (tb r)]) ∧ ∃ k, w' = wx.drewN k
def DropP (W wx : World) (qb : Nat) (v : Value) (p n : Int) (r : List Pr) (e : Ending) (w' : World) : Prop :=
  e = .returned (.int .i64 ((r.length : Int) - (keepP n r).length)) ∧ QDone W wx qb v p (keepP n r) w'
def anyP (n : Int) (r : List Pr) : Bool := r.any (fun x => x.2 == n)
theorem qs_new (hk : Keeps [] W wx) : Calls Try.prog 9 #[] wx (fun e w' => ∃ qb, wx.heap.size ≤ qb ∧ e = .returned (P qb) ∧ QS W qb (.slice none 0 0) 0 [] w' ∧ Keeps [] wx w') := by
  refine (qnew_ok wx).mono ?_
  rintro e w' ⟨qb, h1, rfl, h2, h3⟩
  exact ⟨qb, h1, rfl, ⟨[], ⟨Nat.le_trans hk.size h1, fun g hg => by simp [Value.ownBlock] at hg, h2, hk.trans h3⟩, Srt.nil 0, by simp⟩, h3⟩
theorem qs_push (h : QS W qb v p r wx) (hp : p ≤ 1000000) (k n : Int) : Calls Try.prog 10 #[P qb, .int .i64 k, .int .i64 n] wx (PushP W wx qb v (p + 1) (insP (k, n) r)) := by
  obtain ⟨l, hq, hs, hl⟩ := h
  have hll := hs.len
  refine (qpush_ok qb v l p k n wx hq.2.2.1 (by omega) (by omega) hp).mono ?_
  rintro e w1 ⟨rfl, v', f1, q1, k1⟩
  exact ⟨rfl, QDone.of hq f1 q1 k1 (hs.push k n) (by rw [length_insP]; omega)⟩
theorem qs_pop (h : QS W qb v p r wx) (hp : p ≤ 1000000) : Calls Try.prog 12 #[P qb] wx (PopP W wx qb v p r) := by
  obtain ⟨l, hq, hs, hl⟩ := h
  have hll := hs.len
  cases r with
  | nil =>
    have hl0 : l = [] := List.eq_nil_of_length_eq_zero (by rw [hll]; rfl)
    subst hl0
    refine (qpop_nil qb v _ wx hq.2.2.1).mono ?_
    rintro e w1 ⟨rfl, rfl⟩
    exact ⟨rfl, v, ⟨[], hq, hs, hl⟩, (Keeps.refl _ _), fun x hx => Or.inl hx⟩
  | cons x r =>
    obtain ⟨p1, p2, p3⟩ := hs.pop
    have hl2 : (r.length : Int) ≤ p := by simp only [List.length_cons] at hl; omega
    refine (qpop_ok qb v _ l wx hq.2.2.1 (by rw [hll]; simp) (by omega)).mono ?_
    rintro e w1 ⟨rfl, v', f1, q1, k1⟩
    rw [p1, p2]
    exact ⟨rfl, QDone.of hq (from_same f1) q1 k1 p3 hl2⟩
theorem qs_peek (h : QS W qb v p r wx) : Calls Try.prog 16 #[P qb] wx (PeekP wx r) := by
  obtain ⟨l, hq, hs, hl⟩ := h
  have hll := hs.len
  refine (qpeek_ok qb v _ l wx hq.2.2.1).mono ?_
  rintro e w1 ⟨rfl, k, hk⟩
  refine ⟨?_, k, hk⟩
  cases r with
  | nil =>
    have hl0 : l.length = 0 := by rw [hll]; rfl
    simp only [hl0]
    rfl
  | cons x r =>
    have hl0 : l.length = r.length + 1 := by rw [hll]; rfl
    obtain ⟨h0, s, e0, e1, _⟩ := hs.head
    rw [if_neg (by omega), if_neg (by omega), e0, decide_eq_true (by omega), ← e1]
    rfl
theorem qs_len (h : QS W qb v p r wx) : Calls Try.prog 18 #[P qb] wx (fun e w' => e = .returned (.int .i64 r.length) ∧ wx = w') := by
  obtain ⟨l, hq, hs, hl⟩ := h
  rw [← hs.len]
  exact qlen_ok qb v _ l wx hq.2.2.1
theorem qs_has (h : QS W qb v p r wx) (n : Int) : Calls Try.prog 19 #[P qb, .int .i64 n] wx (QHasPost (anyP n r) wx) := by
  obtain ⟨l, hq, hs, hl⟩ := h
  have := qhas_ok qb v _ l n wx hq.2.2.1
  rw [hs.has] at this
  exact this
theorem qs_drop (h : QS W qb v p r wx) (hp : p ≤ 1000000) (n : Int) : Calls Try.prog 14 #[P qb, .int .i64 n] wx (DropP W wx qb v p n r) := by
  obtain ⟨l, hq, hs, hl⟩ := h
  have hll := hs.len
  have hd := hs.drop n
  have hlk : (keepP n r).length ≤ r.length := List.length_filter_le _ _
  refine (qdrop_ok qb v _ l n wx hq.2.2.1 (by omega)).mono ?_
  rintro e w1 ⟨rfl, v', f1, q1, k1⟩
  rw [hll, hd.len]
  exact ⟨rfl, QDone.of hq (from_same f1) q1 k1 hd (by omega)⟩
/-- two queues -/
def QQ (W : World) (pb : Nat) (v1 : Value) (p1 : Int) (r1 : List Pr) (qb : Nat) (v2 : Value) (p2 : Int) (r2 : List Pr) (wx : World) : Prop :=
  QS W pb v1 p1 r1 wx ∧ QS W qb v2 p2 r2 wx ∧ ∀ x ∈ Foot pb v1, x ∉ Foot qb v2
variable {pb : Nat} {v1 v2 : Value} {p1 p2 : Int} {r1 r2 : List Pr}
theorem QQ.left {p' : Int} {r' : List Pr} (h : QQ W pb v1 p1 r1 qb v2 p2 r2 wx) (hd : QDone W wx pb v1 p' r' w') : ∃ v', QQ W pb v' p' r' qb v2 p2 r2 w' := by
  obtain ⟨h1, h2, h3⟩ := h
  obtain ⟨v', q, k, f⟩ := hd
  refine ⟨v', q, h2.keep k h3 (fun x hx => h1.ge x hx), fun x hx hx2 => ?_⟩
  rcases f x hx with a | a
  · exact h3 x a hx2
  · have := h2.lt x hx2; omega
theorem QQ.right {p' : Int} {r' : List Pr} (h : QQ W pb v1 p1 r1 qb v2 p2 r2 wx) (hd : QDone W wx qb v2 p' r' w') : ∃ v', QQ W pb v1 p1 r1 qb v' p' r' w' := by
  obtain ⟨h1, h2, h3⟩ := h
  obtain ⟨v', q, k, f⟩ := hd
  refine ⟨v', h1.keep k (fun x hx hx2 => h3 x hx2 hx) (fun x hx => h2.ge x hx), q, fun x hx hx2 => ?_⟩
  rcases f x hx2 with a | a
  · exact h3 x hx a
  · have := h1.lt x hx; omega
theorem QQ.keep {S : List Nat} (h : QQ W pb v1 p1 r1 qb v2 p2 r2 wx) (hk : Keeps S wx w') (h1 : ∀ x ∈ S, x ∉ Foot pb v1 ∧ x ∉ Foot qb v2) (h2 : ∀ x ∈ S, W.heap.size ≤ x) : QQ W pb v1 p1 r1 qb v2 p2 r2 w' :=
  ⟨h.1.keep hk (fun x hx => (h1 x hx).1) h2, h.2.1.keep hk (fun x hx => (h1 x hx).2) h2, h.2.2⟩
end Go.Proofs.Ytginbdgoijeeoaa
