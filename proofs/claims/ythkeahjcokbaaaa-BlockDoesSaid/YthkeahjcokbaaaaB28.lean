/-
  BlockDoes' walk.
-/
import Derived.Test.YthkeahjcokbaaaaB27
namespace Go.Proofs.Ythkeahjcokbaaaa
open Go.RowKit Go.V Go.V.Block
def BI (z : Nat → Nat) (ad : Ad) (rd : Nat → Nat) (i : Nat) : Prop := z i ≤ (ad i).1 ∧ z i ≤ (ad i).2 ∧ (ad i).1 ≠ (ad i).2 ∧ (ad i).1 < rd i ∧ (ad i).2 < rd i ∧ rd i < z (i + 1)
/-- while the bodies are made -/
def KB (ab cb sb rs : Nat) (room : Int) (W : World) (m : Nat) (v : Value) (wx : World) : Prop :=
  ∃ (j : Nat) (ad : Ad) (rd z : Nat → Nat) (vb vc : Nat → Value), v = .int .i64 j ∧ j ≤ 4 ∧ 4 - j ≤ m ∧ wx.heap[ab]? = some (.cells #[vb 0, vb 1, vb 2, vb 3] 42 (0, 0)) ∧ wx.heap[cb]? = some (.cells #[vc 0, vc 1, vc 2, vc 3] 44 (0, 0)) ∧
    SAt wx sb room 0 ∧ RAt wx rs room 0 ∧ Keeps [] W wx ∧ cb < z 0 ∧ z j ≤ wx.heap.size ∧ ∀ i, i < j → vb i = ptrV (ad i).1 ∧ vc i = ptrV (rd i) ∧ BAt wx (ad i).1 (ad i).2 0 [] ∧ RB wx (rd i) [] 0 [] ∧ BI z ad rd i ∧ cb < z i
theorem rb_new {w : World} {rb : Nat} (h : w.heap[rb]? = some (.cells #[.slice none 0 0, .slice none 0 0] 47 (0, 0))) : RB w rb [] 0 [] :=
  ⟨[], [], ⟨.slice none 0 0, .slice none 0 0, h, Own.nil _ _ _, Own.nil _ _ _, (fun g hg => by simp [Value.ownBlock] at hg), (fun g hg => by simp [Value.ownBlock] at hg)⟩, rfl, (fun k => by rw [List.getD_nil]; rfl), (by simp), okB_nil⟩
theorem all4_start {W wx : World} {ab cb sb rs : Nat} {room : Int} (hr : 0 ≤ room) (h1 : W.heap.size ≤ sb) (h2 : sb < rs) (h3 : rs < ab) (h4 : ab < cb) {v : Value} {m : Nat} (hj : v = .int .i64 4) (h : KB ab cb sb rs room W m v wx) :
    ∃ (ad : Ad) (rd : Nat → Nat), Sep W ab sb ad ∧ Sep2 W ab sb ad cb rs rd ∧ All4 ab sb ad cb rs rd (fun _ => []) room 0 (fun _ => (0, [])) W wx := by
  obtain ⟨j, ad, rd, z, vb, vc, hv, hj4, hm, a1, a2, a3, a4, a5, a6, a7, a8⟩ := h
  have hj : j = 4 := by rw [hv] at hj; simp only [Value.int.injEq, true_and] at hj; omega
  subst hj
  have b0 := a8 0 (by omega)
  have b1 := a8 1 (by omega)
  have b2 := a8 2 (by omega)
  have b3 := a8 3 (by omega)
  obtain ⟨u0, x0, _, _, c0, _⟩ := b0
  obtain ⟨u1, x1, _, _, c1, _⟩ := b1
  obtain ⟨u2, x2, _, _, c2, _⟩ := b2
  obtain ⟨u3, x3, _, _, c3, _⟩ := b3
  unfold BI at c0 c1 c2 c3
  rw [u0, u1, u2, u3] at a1
  rw [x0, x1, x2, x3] at a2
  have four : ∀ {p : Nat → Prop}, p 0 → p 1 → p 2 → p 3 → ∀ k, k < 4 → p k := by
    intro p a b c d k hk
    have : k = 0 ∨ k = 1 ∨ k = 2 ∨ k = 3 := by omega
    rcases this with rfl | rfl | rfl | rfl <;> assumption
  simp only [Nat.zero_add, Nat.reduceAdd] at c0 c1 c2 c3
  have hP : ∀ x, PB ab sb ad x → x = ab ∨ x = sb ∨ x = (ad 0).1 ∨ x = (ad 0).2 ∨ x = (ad 1).1 ∨ x = (ad 1).2 ∨ x = (ad 2).1 ∨ x = (ad 2).2 ∨ x = (ad 3).1 ∨ x = (ad 3).2 := by
    intro x hx
    rcases hx with hx | hx | ⟨k, hk, hx⟩
    · omega
    · omega
    · have : k = 0 ∨ k = 1 ∨ k = 2 ∨ k = 3 := by omega
      rcases this with rfl | rfl | rfl | rfl <;> omega
  have hQ : ∀ x, QB cb rs rd x → x = cb ∨ x = rs ∨ x = rd 0 ∨ x = rd 1 ∨ x = rd 2 ∨ x = rd 3 := by
    intro x hx
    rcases hx with hx | hx | ⟨k, hk, hx⟩
    · omega
    · omega
    · have : k = 0 ∨ k = 1 ∨ k = 2 ∨ k = 3 := by omega
      rcases this with rfl | rfl | rfl | rfl <;> omega
  refine ⟨ad, rd, ⟨by omega, h1, by omega, four (by omega) (by omega) (by omega) (by omega), ?_⟩, ⟨fun x hx hy => ?_, fun x hx => ?_, fun x hx => ?_, by omega, four (by omega) (by omega) (by omega) (by omega), ?_⟩, ⟨a1, a3, fun k hk => ⟨(a8 k hk).2.2.1, okB_nil⟩, rfl, hr, a5⟩, ⟨a2, a4, fun k hk => (a8 k hk).2.2.2.1⟩, fun k hk x hx => by simp at hx, fun j k _ _ _ x hx => by simp at hx⟩
  · intro j k hj hk hjk
    have e1 : j = 0 ∨ j = 1 ∨ j = 2 ∨ j = 3 := by omega
    have e2 : k = 0 ∨ k = 1 ∨ k = 2 ∨ k = 3 := by omega
    rcases e1 with rfl | rfl | rfl | rfl <;> rcases e2 with rfl | rfl | rfl | rfl <;> first | contradiction | omega
  · rcases hP x hx with rfl | rfl | rfl | rfl | rfl | rfl | rfl | rfl | rfl | rfl <;> have := hQ _ hy <;> omega
  · have := hP x hx; omega
  · have := hQ x hx; omega
  · intro j k hj hk hjk
    have e1 : j = 0 ∨ j = 1 ∨ j = 2 ∨ j = 3 := by omega
    have e2 : k = 0 ∨ k = 1 ∨ k = 2 ∨ k = 3 := by omega
    rcases e1 with rfl | rfl | rfl | rfl <;> rcases e2 with rfl | rfl | rfl | rfl <;> first | contradiction | omega
end Go.Proofs.Ythkeahjcokbaaaa
