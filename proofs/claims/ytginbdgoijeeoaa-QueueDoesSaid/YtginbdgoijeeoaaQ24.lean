/-
  The reference's queue, walked.
-/
import Derived.Test.YtginbdgoijeeoaaQ17
import Derived.Test.YtginbdgoijeeoaaV8
namespace Go.V.Queue
open Go Go.V
def FP : Form Pr := ⟨2, fun x => [.int .i64 x.1, .int .i64 x.2], fun _ => rfl, fun _ u hu => by
  simp only [List.mem_cons, List.not_mem_nil, or_false] at hu
  rcases hu with rfl | rfl <;> rfl⟩
end Go.V.Queue
namespace Go.Proofs.Ytginbdgoijeeoaa
open Go.RowKit Go.V Go.V.Queue
/-- the reference's queue, that the call has made -/
def RQ (W : World) (rb : Nat) (v : Value) (r : List Pr) (wx : World) : Prop :=
  (∀ x ∈ Foot rb v, W.heap.size ≤ x) ∧ wx.heap[rb]? = some (.cells #[v] 29 (0, 0)) ∧ RowG FP 54 wx v r ∧ Keeps [] W wx
variable {W wx w' : World} {rb : Nat} {v : Value} {r : List Pr}
theorem RQ.ne (h : RQ W rb v r wx) : v.ownBlock ≠ some rb := h.2.2.1.ne h.2.1 (by decide)
theorem RQ.cells (h : RQ W rb v r wx) : ∀ x ∈ Foot rb v, ∃ cs t fr, wx.heap[x]? = some (.cells cs t fr) := by
  intro x hx
  simp only [Foot, List.mem_cons, Option.mem_toList] at hx
  rcases hx with rfl | hx
  · exact ⟨_, _, _, h.2.1⟩
  · rcases h.2.2.1.2 with ⟨rfl, _⟩ | ⟨g', _, _, rfl, _, hh, _⟩
    · simp [Value.ownBlock] at hx
    · have hg' : g' = x := by simpa [Value.ownBlock] using hx
      rw [hg'] at hh
      exact ⟨_, _, _, hh⟩
theorem RQ.lt (h : RQ W rb v r wx) : ∀ x ∈ Foot rb v, x < wx.heap.size := by
  intro x hx
  obtain ⟨_, _, _, hh⟩ := h.cells x hx
  exact lt_of_heap hh
theorem RQ.keep {S : List Nat} (h : RQ W rb v r wx) (hk : Keeps S wx w') (h1 : ∀ x ∈ S, x ∉ Foot rb v) (h2 : ∀ x ∈ S, W.heap.size ≤ x) : RQ W rb v r w' := by
  obtain ⟨a1, a2, a3, a4⟩ := h
  refine ⟨a1, hk.get a2 (fun hx => h1 _ hx (by simp [Foot])), a3.keep hk (fun x hx e => h1 x hx (by simp [Foot, e])), a4.trans' hk (fun x hx => Or.inr (h2 x hx))⟩
def RDone (W wx : World) (rb : Nat) (v : Value) (r : List Pr) (w' : World) : Prop :=
  ∃ v', RQ W rb v' r w' ∧ Keeps (Foot rb v) wx w' ∧ ∀ x ∈ Foot rb v', x ∈ Foot rb v ∨ wx.heap.size ≤ x
def RPopP (W wx : World) (rb : Nat) (v : Value) (r : List Pr) (e : Ending) (w' : World) : Prop :=
  e = .returned (.tuple #[.int .i64 (tk r), .int .i64 (tn r), .bool (tb r)]) ∧ RDone W wx rb v r.tail w'
def RPushP (W wx : World) (rb : Nat) (v : Value) (r : List Pr) (e : Ending) (w' : World) : Prop :=
  e = .returned (.tuple #[]) ∧ RDone W wx rb v r w'
def RDropP (W wx : World) (rb : Nat) (v : Value) (n : Int) (r : List Pr) (e : Ending) (w' : World) : Prop :=
  e = .returned (.int .i64 ((r.length : Int) - (keepP n r).length)) ∧ RDone W wx rb v (keepP n r) w'
theorem rpeek_ok (h : RQ W rb v r wx) : Calls Try.prog 17 #[P rb] wx (PeekP wx r) := by
  cases r with
  | nil =>
    obtain ⟨p, c, rfl, _, _⟩ := h.2.2.1.value
    have c0 : wx.cell? ⟨rb, 0, none⟩ = some (.slice p 0 c) := cell_of h.2.1 rfl
    clear h
    unfold P
    go_enter Try.func17, Try.ntmps17
    go_wp2
    go_ret3
    exact ⟨rfl, 0, rfl⟩
  | cons x r =>
    obtain ⟨k, m⟩ := x
    obtain ⟨g, c, cur, rfl, _⟩ := h.2.2.1.shape (by simp)
    have d0 : wx.cell? ⟨g, 0, none⟩ = some (.int .i64 k) := h.2.2.1.item rfl (i := 0) (j := 0) (x := (k, m)) rfl rfl
    have d1 : wx.cell? ⟨g, 0 + 1, none⟩ = some (.int .i64 m) := h.2.2.1.item rfl (i := 0) (j := 1) (x := (k, m)) rfl rfl
    obtain ⟨n, hn⟩ : ∃ n, n = ((k, m) :: r).length := ⟨_, rfl⟩
    rw [← hn] at h
    have c0 : wx.cell? ⟨rb, 0, none⟩ = some (.slice (some ⟨g, 0, none⟩) n c) := cell_of h.2.1 rfl
    have hn1 : n = r.length + 1 := hn
    have hnz : ((n : Int) == 0) = false := beq_eq_false_iff_ne.2 (by omega)
    have hn0 : (0 : Int) < (n : Int) := by omega
    clear h hn hn1
    unfold P
    go_enter Try.func17, Try.ntmps17
    go_wp2
    go_quiet (fail)
    go_wp2
    go_ret3
    exact ⟨rfl, _, rfl⟩
def RHasP (b : Bool) (w : World) (e : Ending) (w' : World) : Prop := e = .returned (.bool b) ∧ w' = w
def HI (w : World) (r : List Pr) (n : Int) (m : Nat) (vi : Value) (wx : World) : Prop := ∃ i : Nat, vi = .int .i64 i ∧ i + m = r.length ∧ anyP n (r.take i) = false ∧ wx = w
theorem rhas_ok (h : RQ W rb v r wx) (n : Int) : Calls Try.prog 20 #[P rb, .int .i64 n] wx (RHasP (anyP n r) wx) := by
  obtain ⟨p, c, rfl, hlc, hc63⟩ := h.2.2.1.value
  obtain ⟨N, hN⟩ : ∃ N, N = r.length := ⟨_, rfl⟩
  rw [← hN] at h hlc
  have c0 : wx.cell? ⟨rb, 0, none⟩ = some (.slice p N c) := cell_of h.2.1 rfl
  have H := Lib.hid h
  have HN := Lib.hid hN
  clear h hN
  unfold P
  go_enter Try.func20, Try.ntmps20
  go_upto_block 0 with fail
  go_wp2_with fail
  go_loopg [5] N (fun m vi wx' => HI wx r n m vi wx')
  case atStart => exact ⟨0, rfl, by rw [← HN.out, Nat.zero_add], rfl, rfl⟩
  case round =>
    obtain ⟨i, rfl, hi, hany, rfl⟩ := hrel
    rw [← HN.out] at hi
    have HA := Lib.hid hany
    clear hany
    by_cases hlt : i < N
    · obtain ⟨y, hy⟩ : ∃ y, r[i]? = some y := ⟨_, List.getElem?_eq_getElem (by rw [← HN.out]; exact hlt)⟩
      obtain ⟨g, c', cur, hv, _⟩ := H.out.2.2.1.shape (by rw [← HN.out]; omega)
      simp only [Value.slice.injEq] at hv
      obtain ⟨rfl, hv1, hv2⟩ := hv
      clear hv1 hv2
      have d1 : wr.cell? ⟨g, i * 2 + 1, none⟩ = some (.int .i64 y.2) := H.out.2.2.1.item rfl hy (j := 1) rfl
      have hii : (i : Int) < (N : Int) := by omega
      have htk : r.take (i + 1) = r.take i ++ [y] := by rw [List.take_add_one, hy]; rfl
      have HT := Lib.hid htk
      have HY := Lib.hid hy
      clear htk hy
      by_cases he : y.2 = n
      · have e1 : (y.2 == n) = true := by simp [he]
        have HE := Lib.hid he
        clear he
        go_wp2
        go_ret
        refine ⟨?_, rfl⟩
        have : anyP n r = true := List.any_eq_true.2 ⟨y, List.mem_of_getElem? HY.out, by simp [HE.out]⟩
        rw [this]
        rfl
      · have e1 : (y.2 == n) = false := by simp [he]
        have HE := Lib.hid he
        clear he
        go_wp2
        go_roundg (gk - 1)
        case measure => omega
        case rel =>
          refine ⟨i + 1, by push_cast; rfl, by rw [← HN.out]; omega, ?_, rfl⟩
          rw [HT.out]
          have := HA.out
          unfold anyP at this ⊢
          rw [List.any_append, this]
          simp [HE.out]
    · have hiN : i = N := by omega
      subst hiN
      have hf : anyP n r = false := by
        have := HA.out
        rwa [HN.out, List.take_length] at this
      have HF := Lib.hid hf
      clear hf hi
      go_wp2
      go_ret
      refine ⟨?_, rfl⟩
      rw [HF.out]
      rfl
end Go.Proofs.Ytginbdgoijeeoaa
