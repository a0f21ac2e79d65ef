/-
  container/heap's Pop, Init over wants.
-/
import Derived.Test.YteekdgmfednmoaaP3
namespace Go.V.Queue
open Go Go.V
theorem length_downL (n : Nat) : ∀ (f : Nat) (l : List It) (i : Nat), (downL n f l i).1.length = l.length
  | 0, _, _ => rfl
  | f + 1, l, i => by
    unfold downL
    split
    · rfl
    · split <;> split <;> first | rfl | rw [length_downL, length_swapL]
def popL (l : List It) : List It := (downL (l.length - 1) (l.length - 1) (swapL l 0 (l.length - 1)) 0).1
def initL (n : Nat) : Nat → List It → List It
  | 0, l => l
  | k + 1, l => initL n k (downL n n l k).1
theorem take_last (l : List It) (n : Nat) (h : l.length = n + 1) : l = l.take n ++ [at_ l n] := by
  have h1 : l.take (n + 1) = l := List.take_of_length_le (by omega)
  have h2 := List.take_add_one (l := l) (i := n)
  rw [h1, at_get (by omega)] at h2
  exact h2
end Go.V.Queue
namespace Go.Proofs.Yteekdgmfednmoaa
open Go.RowKit Go.V Go.V.Queue
theorem method_pop (a : Addr) (w : World) : (method 176 45 (.pointer (some a)) "Pop").run Try.prog w = .ok (45, .pointer (some a)) w := by kernel_rfl
def HPopPost (qb : Nat) (x : Value) (l : List It) (v : Value) (w : World) (e : Ending) (w' : World) : Prop :=
  e = .returned (.iface 39 (at_ (popL l) (l.length - 1)).val) ∧ ∃ v', v'.ownBlock = v.ownBlock ∧ QL w' qb v' x ((popL l).take (l.length - 1)) ∧ Keeps (qb :: v.ownBlock.toList) w w'
theorem hpop_ok (qb : Nat) (v x : Value) (l : List It) (w : World) (h : QL w qb v x l) (h0 : 0 < l.length) (hl : l.length ≤ 1000000) : Calls Try.prog 22 #[IF qb] w (HPopPost qb x l v w) := by
  obtain ⟨p, c, rfl, hlc, hc63⟩ := h.2.value
  obtain ⟨N, hN⟩ : ∃ N, l.length = N + 1 := ⟨l.length - 1, by omega⟩
  rw [hN] at h hl ⊢
  have H := Lib.hid h
  have HN := Lib.hid hN
  have c0 : w.cell? ⟨qb, 0, none⟩ = some (.slice p (N + 1) c) := cell_of h.1 rfl
  have hml := method_of m_len 175 qb w p (N + 1) c c0
  have hms := method_of m_swap 175 qb w p (N + 1) c c0
  have HS := Lib.hid (swap_ok (.slice p (N + 1) c) l 0 N (at_ l 0) (at_ l N) w h.2 (at_get (by omega)) (at_get (by omega)))
  have hmp := method_pop ⟨qb, 0, none⟩
  clear h hN h0
  unfold IF
  go_enter Try.func22, Try.ntmps22
  go_wp2_with (first | (refine (len_ok p (N + 1) c w).mono ?_; rintro e w' ⟨rfl, rfl⟩) | fail)
  refine HS.out.mono ?_
  rintro e w1 ⟨rfl, r1, r2⟩
  have hq1 : QL w1 qb (.slice p (N + 1) c) x (swapL l 0 N) := H.out.swap r1 r2
  have HD := Lib.hid (down_ok qb _ x (swapL l 0 N) 0 N w1 hq1 (Nat.zero_le _) (by rw [length_swapL, HN.out]; omega) (by omega))
  have HK1 := Lib.hid r2
  clear r1 r2 hq1 c0 hml hms
  go_wp2_with fail
  refine HD.out.mono ?_
  rintro e w2 ⟨rfl, q1, q2⟩
  obtain ⟨l2, hl2⟩ : ∃ l2, l2 = (downL N N (swapL l 0 N) 0).1 := ⟨_, rfl⟩
  have hlen2 : l2.length = N + 1 := by rw [hl2, length_downL, length_swapL, HN.out]
  have hpl : popL l = l2 := by unfold popL; rw [HN.out, hl2]; rfl
  rw [← hl2, take_last l2 N hlen2] at q1
  have HP := Lib.hid (ipop_ok qb _ x (l2.take N) (at_ l2 N) w2 q1)
  have HK2 := Lib.hid q2
  have HPL := Lib.hid hpl
  clear q1 q2 hl2 hlen2 hpl
  go_wp2_with fail
  refine HP.out.mono ?_
  rintro e w3 ⟨rfl, v', s1, s2, s3⟩
  have HF := Lib.hid (And.intro s1 (And.intro s2 s3))
  clear s1 s2 s3
  unfold It.val
  go_wp2
  go_ret
  refine ⟨?_, v', HF.out.1, ?_, ((HK1.out.trans HK2.out).mono (fun z hz => List.mem_cons_of_mem _ hz)).trans (HF.out.2.2.mono (by simp))⟩
  · rw [HN.out, Nat.add_sub_cancel, HPL.out]; rfl
  · rw [HN.out, Nat.add_sub_cancel, HPL.out]; exact HF.out.2.1
def II (qb : Nat) (vs x : Value) (n : Nat) (RES : List It) (w : World) (k : Nat) (v : Value) (wx : World) : Prop :=
  ∃ (l : List It), v = .int .i64 ((k : Int) - 1) ∧ k ≤ n ∧ l.length = n ∧ initL n k l = RES ∧ QL wx qb vs x l ∧ Keeps vs.ownBlock.toList w wx
theorem hinit_ok (qb : Nat) (vs x : Value) (l : List It) (w : World) (h : QL w qb vs x l) (hl : l.length ≤ 1000000) : Calls Try.prog 20 #[IF qb] w (UPost qb vs x (initL l.length (l.length / 2) l) w) := by
  obtain ⟨p, c, rfl, hlc, hc63⟩ := h.2.value
  obtain ⟨n, hn⟩ : ∃ n, n = l.length := ⟨_, rfl⟩
  rw [← hn] at h hl ⊢
  obtain ⟨RES, hR⟩ : ∃ RES, RES = initL n (n / 2) l := ⟨_, rfl⟩
  rw [← hR]
  have H := Lib.hid h
  have HN := Lib.hid (And.intro hn hR)
  have c0 : w.cell? ⟨qb, 0, none⟩ = some (.slice p n c) := cell_of h.1 rfl
  have hml := method_of m_len 175 qb w p n c c0
  obtain ⟨k0, hk0⟩ : ∃ k0 : Nat, (n : Int) / 2 = k0 ∧ k0 = n / 2 := ⟨n / 2, by omega, rfl⟩
  obtain ⟨hk1, hk2⟩ := hk0
  have HK := Lib.hid hk2
  have hkn : k0 ≤ n := by omega
  clear h hn hR hk2
  unfold IF
  go_enter Try.func20, Try.ntmps20
  go_wp2_with (first | (refine (len_ok p n c w).mono ?_; rintro e w' ⟨rfl, rfl⟩) | fail)
  go_loopg [3] k0 (fun k v wx => II qb (.slice p n c) x n RES w k v wx)
  case atStart => exact ⟨l, rfl, hkn, HN.out.1.symm, by rw [HN.out.2, HK.out], H.out, Keeps.refl _ _⟩
  case round =>
    obtain ⟨l, rfl, hk, hll, hres, hq, hkp⟩ := hrel
    have HX := Lib.hid (And.intro hll (And.intro hres (And.intro hq hkp)))
    clear hll hres hq hkp
    by_cases hg : gk = 0
    · subst hg
      go_wp2
      go_end0
      exact ⟨rfl, HX.out.2.1 ▸ HX.out.2.2.1, HX.out.2.2.2⟩
    · obtain ⟨k, rfl⟩ : ∃ k, gk = k + 1 := ⟨gk - 1, by omega⟩
      have hk3 : ((k + 1 : Nat) : Int) - 1 = (k : Int) := by omega
      have HD := Lib.hid (down_ok qb _ x l k n wr HX.out.2.2.1 (by omega) (by rw [HX.out.1]; exact Nat.le_refl _) (by omega))
      rw [hk3]
      go_wp2_with fail
      refine HD.out.mono ?_
      rintro e w2 ⟨rfl, q1, q2⟩
      have HQ := Lib.hid (And.intro q1 q2)
      clear q1 q2
      go_wp2
      go_roundg k
      case measure => omega
      case rel => exact ⟨_, rfl, by omega, by rw [length_downL]; exact HX.out.1, HX.out.2.1, HQ.out.1, HX.out.2.2.2.trans HQ.out.2⟩
end Go.Proofs.Yteekdgmfednmoaa
