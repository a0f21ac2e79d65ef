/-
  Heaps of wants: what Pop and Init make.
-/
import Derived.Test.YteekdgmfednmoaaP5
namespace Go.V.Queue
open Go Go.V
theorem at_take {l : List It} {n c : Nat} (h : c < n) : at_ (l.take n) c = at_ l c := by
  unfold at_
  rw [List.getD_eq_getElem?_getD, List.getD_eq_getElem?_getD, List.getElem?_take, if_pos h]
theorem heap_min {n : Nat} {l : List It} (h : Heap 0 n l) : ∀ c, c < n → le (at_ l 0) (at_ l c) := by
  intro c
  induction c using Nat.strongRecOn with
  | _ c ih =>
    intro hc
    by_cases h0 : c = 0
    · subst h0; exact le_refl _
    · exact le_trans (ih ((c - 1) / 2) (by omega) (by omega)) (h c (by omega) hc (Nat.zero_le _))
theorem pop_heap {l : List It} {N : Nat} (hN : l.length = N + 1) (h : Heap 0 l.length l) :
    Heap 0 N ((popL l).take N) ∧ ((popL l).take N ++ [at_ l 0]).Perm l ∧ at_ (popL l) N = at_ l 0 ∧ ((popL l).take N).length = N := by
  have hs : ∀ m, at_ (swapL l 0 N) m = if m = N then at_ l 0 else if m = 0 then at_ l N else at_ l m := fun m => at_swap (by omega) (by omega)
  have hp : Hp 0 N (swapL l 0 N) 0 := by
    intro c h1 h2 h3 h4
    rw [hs, hs, if_neg (by omega), if_neg h4, if_neg (by omega), if_neg (by omega)]
    exact h c h1 (by omega) (Nat.zero_le _)
  have hd := down_heap N (swapL l 0 N) 0 (by rw [length_swapL]; omega) (Nat.zero_le _) (by omega) hp (fun c _ _ _ h => by omega)
  have hpl : popL l = (downL N N (swapL l 0 N) 0).1 := by unfold popL; rw [hN]; rfl
  rw [← hpl] at hd
  obtain ⟨d1, d2, d3⟩ := hd
  have hlen : (popL l).length = N + 1 := by rw [hpl, length_downL, length_swapL, hN]
  have hat : at_ (popL l) N = at_ l 0 := by rw [d3 N (Nat.le_refl _), hs, if_pos rfl]
  refine ⟨fun c h1 h2 h3 => ?_, ?_, hat, by rw [List.length_take]; omega⟩
  · rw [at_take (by omega), at_take h2]; exact d1 c h1 h2 h3
  · have := take_last (popL l) N hlen
    rw [← hat, ← this]
    exact d2.trans (swap_perm (by omega) (by omega))
theorem init_heap {l : List It} {n : Nat} (hn : n = l.length) : ∀ k, k ≤ n → ∀ l' : List It, l'.length = n → Heap k n l' → Heap 0 n (initL n k l') ∧ (initL n k l').Perm l'
  | 0, _, l', _, h => ⟨h, List.Perm.refl _⟩
  | k + 1, hk, l', hl, h => by
    have hd := down_heap (k := k) (n := n) n l' k (by omega) (Nat.le_refl _) (by omega) (fun c h1 h2 h3 h4 => h c h1 h2 (by omega)) (fun c h1 h2 h3 h4 h5 => by omega)
    obtain ⟨r1, r2⟩ := init_heap hn k (by omega) (downL n n l' k).1 (by rw [length_downL]; exact hl) hd.1
    exact ⟨r1, r2.trans hd.2.1⟩
theorem heap_nil : Heap 0 0 [] := fun c h1 h2 _ => by omega
end Go.V.Queue
