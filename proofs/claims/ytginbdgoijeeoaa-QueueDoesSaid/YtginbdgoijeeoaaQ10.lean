/-
  Package queue: Drop.
-/
import Derived.Test.YtginbdgoijeeoaaQ9
namespace Go.V.Queue
open Go Go.V
def dropL (n : Int) (l : List It) : List It := initL (keepL n l).length ((keepL n l).length / 2) (keepL n l)
theorem length_initL (n : Nat) : ∀ (k : Nat) (l : List It), (initL n k l).length = l.length
  | 0, _ => rfl
  | k + 1, l => by unfold initL; rw [length_initL n k, length_downL]
theorem length_dropL (n : Int) (l : List It) : (dropL n l).length = (keepL n l).length := length_initL _ _ _
theorem keepL_le (n : Int) (l : List It) : (keepL n l).length ≤ l.length := List.length_filter_le _ _
end Go.V.Queue
namespace Go.Proofs.Ytginbdgoijeeoaa
open Go.RowKit Go.V Go.V.Queue
def QDropPost (qb : Nat) (v x : Value) (l : List It) (r : Int) (w : World) (e : Ending) (w' : World) : Prop :=
  e = .returned (.int .i64 r) ∧ ∃ v', v'.ownBlock = v.ownBlock ∧ QL w' qb v' x l ∧ Keeps (qb :: v.ownBlock.toList) w w'
theorem qdrop_ok (qb : Nat) (v x : Value) (l : List It) (n : Int) (w : World) (h : QL w qb v x l) (hl : l.length ≤ 1000000) : Calls Try.prog 14 #[P qb, .int .i64 n] w (QDropPost qb v x (dropL n l) ((l.length : Int) - (dropL n l).length) w) := by
  obtain ⟨p, c, rfl, _, _⟩ := h.2.value
  have hk0 : Keeps [] w (w.alloc (.cells #[.int .i64 n] 3)) := (Keeps.refl _ _).alloc _
  have HL := Lib.hid (qlen_ok qb _ x l (w.alloc (.cells #[.int .i64 n] 3)) (h.keep hk0 (by simp) (by simp)))
  obtain ⟨wa, hwa⟩ : ∃ wa, wa = (w.alloc (.cells #[.int .i64 n] 3)).alloc (.cells #[.func (.func 23) #[] #[]] 56) := ⟨_, rfl⟩
  have hka : Keeps [] w wa := by rw [hwa]; exact ((Keeps.refl _ _).alloc _).alloc _
  have hs : (w.alloc (.cells #[.int .i64 n] 3)).heap.size = w.heap.size + 1 := by show (w.heap.push _).size = _; simp
  have hcap : Cap wa (w.heap.size + 1) w.heap.size n := by
    rw [hwa]
    refine ⟨?_, heap_alloc_ne _ _ (heap_alloc w _)⟩
    have := heap_alloc (w.alloc (.cells #[.int .i64 n] 3)) (.cells #[.func (.func 23) #[] #[]] 56)
    rw [hs] at this
    exact this
  have hq := h.keep hka (by simp) (by simp)
  have c0 : ((w.alloc (.cells #[.int .i64 n] 3)).alloc (.cells #[.func (.func 23) #[] #[]] 56)).cell? ⟨qb, 0, none⟩ = some (.slice p l.length c) := by rw [← hwa]; exact cell_of hq.1 rfl
  have hct := delete25_ok (.slice p l.length c) l (w.heap.size + 1) w.heap.size n wa hq.2 hcap
  have HQ := Lib.hid (And.intro hq hka)
  rw [hwa] at hct HQ
  have HC := Lib.hid hct
  obtain ⟨N, hN⟩ : ∃ N, N = l.length := ⟨_, rfl⟩
  have HN := Lib.hid hN
  obtain ⟨L, hL⟩ : ∃ L, L = keepL n l := ⟨_, rfl⟩
  have HLL := Lib.hid hL
  have hLl : L.length ≤ 1000000 := by rw [hL]; have := keepL_le n l; omega
  have hLN : L.length ≤ N := by rw [hL, hN]; exact keepL_le n l
  clear h hwa hka hs hcap hq hct hk0 hN hL
  unfold P at *
  go_enter Try.func14, Try.ntmps14
  go_wp2_with fail
  refine HL.out.mono ?_
  rintro e w' ⟨rfl, rfl⟩
  go_wp2_with fail
  refine HC.out.mono ?_
  rintro e w1 ⟨v', rfl, k1, k2, k3⟩
  obtain ⟨p', c', hv', _, _⟩ := k2.value
  rw [← HLL.out] at k2 hv'
  subst hv'
  have hq1 := k3.get HQ.out.1.1 (fun q => row_ne HQ.out.1.2 HQ.out.1.1 (by decide) (by simpa using q))
  have c1 : w1.cell? ⟨qb, 0, none⟩ = some (.slice p l.length c) := cell_of hq1 rfl
  have f1 : w1.frozen? ⟨qb, 0, none⟩ = false := frozen_of 0 hq1
  have hks : Keeps [qb] w1 (w1.setCell ⟨qb, 0, none⟩ (.slice p' L.length c')) := (Keeps.refl _ _).setCell (Or.inl (by simp)) _
  have hq2 : QL (w1.setCell ⟨qb, 0, none⟩ (.slice p' L.length c')) qb (.slice p' L.length c') x L := ⟨heap_setCell hq1, k2.keep hks (fun z hz => by obtain rfl := List.mem_singleton.1 hz; exact row_ne k2 hq1 (by decide))⟩
  have HI := Lib.hid (hinit_ok qb (.slice p' L.length c') x L _ hq2 hLl)
  have HK := Lib.hid (And.intro k1 (And.intro k3 hks))
  clear k1 k2 k3 hq1 hks hq2 c0
  go_wp2_with fail
  refine HI.out.mono ?_
  rintro e w2 ⟨rfl, r1, r2⟩
  have hl2 := qlen_ok qb _ x _ w2 r1
  rw [length_initL] at hl2
  have HL2 := Lib.hid hl2
  have HR := Lib.hid (And.intro r1 r2)
  clear r1 r2 hl2 c1 f1
  unfold P at *
  go_wp2_with fail
  refine HL2.out.mono ?_
  rintro e w' ⟨rfl, rfl⟩
  go_wp2
  go_ret
  obtain ⟨k1, k3, hks⟩ := HK.out
  refine ⟨?_, .slice p' L.length c', k1, ?_, ?_⟩
  · rw [length_dropL, ← HLL.out]; rfl
  · unfold dropL
    rw [← HLL.out]
    exact HR.out.1
  · refine (((HQ.out.2.mono (T := qb :: (Value.ownBlock (.slice p l.length c)).toList) (by simp)).trans (k3.mono (fun z hz => List.mem_cons_of_mem _ hz))).trans (hks.mono (by simp))).trans (HR.out.2.mono (fun z hz => ?_))
    rw [k1] at hz
    exact List.mem_cons_of_mem _ hz
end Go.Proofs.Ytginbdgoijeeoaa
