/-
  Package veneerlaw02: awake.
-/
import Derived.Test.YtginbdgoijeeoaaQ10
namespace Go.Proofs.Ytginbdgoijeeoaa
open Go.RowKit Go.V Go.V.Queue
/-- a queue that the call has made -/
def QI (W : World) (qb : Nat) (v : Value) (p : Int) (l : List It) (wx : World) : Prop :=
  W.heap.size ≤ qb ∧ (∀ g, v.ownBlock = some g → W.heap.size ≤ g) ∧ QL wx qb v (.int .i64 p) l ∧ Keeps [] W wx
theorem QI.step {W wx w' : World} {qb : Nat} {v v' : Value} {p p' : Int} {l l' : List It} (h : QI W qb v p l wx) (hf : From wx v v') (hq : QL w' qb v' (.int .i64 p') l') (hk : Keeps (qb :: v.ownBlock.toList) wx w') : QI W qb v' p' l' w' := by
  obtain ⟨h1, h2, h3, h4⟩ := h
  refine ⟨h1, fun g hg => ?_, hq, h4.trans' hk (fun x hx => Or.inr ?_)⟩
  · have := h4.size
    rcases hf g hg with q | q
    · exact h2 g q
    · omega
  · simp only [List.mem_cons, Option.mem_toList] at hx
    rcases hx with rfl | hx
    · exact h1
    · exact h2 x hx
theorem QI.keep {W wx w' : World} {qb : Nat} {v : Value} {p : Int} {l : List It} (h : QI W qb v p l wx) (hk : Keeps [] wx w') : QI W qb v p l w' :=
  ⟨h.1, h.2.1, h.2.2.1.keep hk (by simp) (by simp), h.2.2.2.trans hk⟩
theorem from_same {w : World} {v v' : Value} (h : v'.ownBlock = v.ownBlock) : From w v v' := fun g hg => Or.inl (by rw [← h]; exact hg)
def Tells (v : Value) (w : World) (e : Ending) (w' : World) : Prop := e = .returned v ∧ Keeps [] w w'
theorem awake_ok (w : World) : Calls Try.prog 8 #[] w (Tells (.bool true) w) := by
  go_enter Try.func8, Try.ntmps8
  go_wp2_with fail
  refine (qnew_ok _).mono ?_
  rintro e w0 ⟨qb, hqb, rfl, hq0, hk0⟩
  have h0 : QI w qb (.slice none 0 0) 0 [] w0 := ⟨hqb, fun g hg => by simp [Value.ownBlock] at hg, hq0, hk0⟩
  have H0 := Lib.hid h0
  have C0 := Lib.hid (qpush_ok qb _ [] 0 2 7 w0 hq0 (by simp) (by omega) (by omega))
  clear hqb hq0 hk0 h0
  unfold P at *
  go_wp2_with fail
  refine C0.out.mono ?_
  rintro e w1 ⟨rfl, v1, f1, q1, k1⟩
  have h1 : QI w qb v1 1 [⟨2, 7, 0⟩] w1 := H0.out.step f1 q1 k1
  have H1 := Lib.hid h1
  have C1 := Lib.hid (qpush_ok qb _ _ 1 1 8 w1 h1.2.2.1 (by simp) (by omega) (by omega))
  clear f1 q1 k1 h1 C0
  unfold P at *
  go_wp2_with fail
  refine C1.out.mono ?_
  rintro e w2 ⟨rfl, v2, f2, q2, k2⟩
  have h2 : QI w qb v2 2 [⟨1, 8, 1⟩, ⟨2, 7, 0⟩] w2 := H1.out.step f2 q2 k2
  have H2 := Lib.hid h2
  have C2 := Lib.hid (qpush_ok qb _ _ 2 2 9 w2 h2.2.2.1 (by simp) (by omega) (by omega))
  clear f2 q2 k2 h2 C1
  unfold P at *
  go_wp2_with fail
  refine C2.out.mono ?_
  rintro e w3 ⟨rfl, v3, f3, q3, k3⟩
  have h3 : QI w qb v3 3 [⟨1, 8, 1⟩, ⟨2, 7, 0⟩, ⟨2, 9, 2⟩] w3 := H2.out.step f3 q3 k3
  have H3 := Lib.hid h3
  have hpo : Calls Try.prog 12 #[P qb] w3 (fun e w' => e = .returned (.tuple #[.int .i64 1, .int .i64 8, .bool true]) ∧ ∃ v', QI w qb v' 3 [⟨2, 7, 0⟩, ⟨2, 9, 2⟩] w') :=
    (qpop_ok qb _ _ _ w3 h3.2.2.1 (by simp) (by simp)).mono fun e w' ⟨he, v', a, b, c⟩ => ⟨he, v', H3.out.step (from_same a) b c⟩
  have C3 := Lib.hid hpo
  clear f3 q3 k3 h3 C2 hpo
  unfold P at *
  go_wp2_with fail
  refine C3.out.mono ?_
  rintro e w4 ⟨rfl, v4, h4⟩
  have hdr : Calls Try.prog 14 #[P qb, .int .i64 7] w4 (fun e w' => e = .returned (.int .i64 1) ∧ ∃ v', QI w qb v' 3 [⟨2, 9, 2⟩] w') :=
    (qdrop_ok qb _ _ _ 7 w4 h4.2.2.1 (by simp)).mono fun e w' ⟨he, v', a, b, c⟩ => ⟨he, v', h4.step (from_same a) b c⟩
  have C4 := Lib.hid hdr
  clear h4 hdr C3
  unfold P at *
  go_wp2_with fail
  refine C4.out.mono ?_
  rintro e w5 ⟨rfl, v5, h5⟩
  have hpk : Calls Try.prog 16 #[P qb] w5 (fun e w' => e = .returned (.tuple #[.int .i64 2, .int .i64 9, .bool true]) ∧ QI w qb v5 3 [⟨2, 9, 2⟩] w') :=
    (qpeek_ok qb _ _ _ w5 h5.2.2.1).mono fun e w' ⟨he, k, hk⟩ => ⟨he, hk ▸ h5.keep ((Keeps.refl [] w5).drewN k)⟩
  have C5 := Lib.hid hpk
  clear h5 hpk C4
  unfold P at *
  go_wp2_with fail
  refine C5.out.mono ?_
  rintro e w6 ⟨rfl, h6⟩
  have C6 := Lib.hid (qlen_ok qb _ _ _ w6 h6.2.2.1)
  have hh9 : Calls Try.prog 19 #[P qb, .int .i64 9] w6 (fun e w' => e = .returned (.bool true) ∧ QI w qb v5 3 [⟨2, 9, 2⟩] w') :=
    (qhas_ok qb _ _ _ 9 w6 h6.2.2.1).mono fun e w' ⟨he, hk⟩ => ⟨he, h6.keep hk⟩
  have C7 := Lib.hid hh9
  clear h6 hh9 C5
  unfold P at *
  go_wp2_with fail
  refine C6.out.mono ?_
  rintro e w' ⟨rfl, rfl⟩
  go_wp2_with fail
  refine C7.out.mono ?_
  rintro e w7 ⟨rfl, h7⟩
  have hh7 : Calls Try.prog 19 #[P qb, .int .i64 7] w7 (fun e w' => e = .returned (.bool false) ∧ Keeps [] w w') :=
    (qhas_ok qb _ _ _ 7 w7 h7.2.2.1).mono fun e w' ⟨he, hk⟩ => ⟨he, h7.2.2.2.trans hk⟩
  have C8 := Lib.hid hh7
  clear h7 hh7
  unfold P at *
  go_wp2_with fail
  refine C8.out.mono ?_
  rintro e w8 ⟨rfl, h8⟩
  go_wp2
  go_ret
  exact ⟨rfl, h8⟩
end Go.Proofs.Ytginbdgoijeeoaa
