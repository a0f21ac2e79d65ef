/-
  Package block, plain: what BlockReads and BlockFree look at.
-/
import Derived.Test.YthkeahjcokbaaaaB13
namespace Go.V.Block
open Go.V
theorem bytesFrom_add (l : CL) (a p q : Nat) : bytesFrom l a (p + q) = bytesFrom l a p ++ bytesFrom l (a + p) q := by
  simp only [bytesFrom, List.range_add, List.map_append, List.map_map]
  congr 1
  refine List.map_congr_left (fun i _ => ?_)
  simp only [Function.comp_apply, Nat.add_assoc]

theorem reads_plain {s : BS} (off n m : Int) (h0 : 0 ≤ off) (h1 : 0 ≤ n) (h2 : 0 ≤ m) :
    (readM s off n).2 = 0 ∧ (readM s (off + (readM s off n).1.length) m).2 = 0 ∧ (readM s off ((readM s off n).1.length + m)).2 = 0 ∧
      (readM s off n).1 ++ (readM s (off + (readM s off n).1.length) m).1 = (readM s off ((readM s off n).1.length + m)).1 ∧ ((readM s off n).1.length : Int) ≤ n ∧ (s.sz ≤ off → (readM s off n).1.length = 0) := by
  have e : ∀ q : Int, 0 ≤ q → ∀ o : Int, 0 ≤ o → readM s o q = if s.sz ≤ o then ([], 0) else (bytesFrom s.l o.toNat (min q (s.sz - o)).toNat, 0) := fun q hq o ho => by unfold readM; rw [if_neg (by omega)]
  have e2 : ∀ q : Int, 0 ≤ q → ∀ o : Int, 0 ≤ o → (readM s o q).2 = 0 := fun q hq o ho => by rw [e q hq o ho]; split <;> rfl
  refine ⟨e2 _ h1 _ h0, e2 _ h2 _ (by omega), e2 _ (by omega) _ h0, ?_⟩
  by_cases c : s.sz ≤ off
  · have r1 := e n h1 off h0
    rw [if_pos c] at r1
    rw [r1]
    simp only [List.length_nil, Int.natCast_zero, List.nil_append, Int.add_zero, Int.zero_add]
    exact ⟨trivial, h1, fun _ => trivial⟩
  · have r1 := e n h1 off h0
    rw [if_neg c] at r1
    rw [r1]
    simp only [length_bytesFrom]
    obtain ⟨q, hq⟩ : ∃ q : Nat, q = (min n (s.sz - off)).toNat := ⟨_, rfl⟩
    rw [← hq]
    have hqn : (q : Int) = min n (s.sz - off) := by omega
    refine ⟨?_, by omega, fun h => by omega⟩
    rw [e m h2 (off + q) (by omega), e (q + m) (by omega) off h0, if_neg c]
    by_cases c2 : s.sz ≤ off + q
    · rw [if_pos c2]
      have : (min ((q : Int) + m) (s.sz - off)).toNat = q := by omega
      rw [this]; simp
    · rw [if_neg c2]
      have h3 : (min ((q : Int) + m) (s.sz - off)).toNat = q + (min m (s.sz - (off + q))).toNat := by omega
      have h4 : (off + (q : Int)).toNat = off.toNat + q := by omega
      rw [h3, h4, bytesFrom_add]

theorem readM_le {s : BS} {off n : Int} (h : 0 ≤ n) : ((readM s off n).1.length : Int) ≤ n := by
  unfold readM
  split
  · simpa using h
  · split
    · simpa using h
    · simp only [length_bytesFrom]; omega

theorem hole_of {l : CL} {nn i : Nat} (h : i < (holesTo l nn).length) : ∃ k : Nat, (holesTo l nn)[i] = (k : Int) ∧ k < nn ∧ get l k = none := by
  have := List.getElem_mem h
  simp only [holesTo, List.mem_map, List.mem_filter, List.mem_range] at this
  obtain ⟨k, ⟨h1, h2⟩, h3⟩ := this
  exact ⟨k, h3.symm, h1, by simpa using h2⟩
theorem hole_read {s : BS} {k : Nat} (h : get s.l k = none) (i : Nat) : (readM s ((k : Int) * 16) 16).1.getD i 0 = 0 := by
  unfold readM
  rw [if_neg (by omega)]
  split
  · simp
  · by_cases c : i < (min 16 (s.sz - (k : Int) * 16)).toNat
    · have hk : ((k : Int) * 16).toNat = k * 16 := by omega
      simp only [hk, bytesFrom, List.getD_eq_getElem?_getD, List.getElem?_map, List.getElem?_range c, Option.map_some, Option.getD_some]
      have hd : (k * 16 + i) / 16 = k := by omega
      unfold byteAt chunkOf
      rw [hd, h]
      exact zero16_at _
    · have : (bytesFrom s.l ((k : Int) * 16).toNat (min 16 (s.sz - (k : Int) * 16)).toNat)[i]? = none := by
        rw [List.getElem?_eq_none_iff, length_bytesFrom]; omega
      simp only [List.getD_eq_getElem?_getD, this, Option.getD_none]
end Go.V.Block
namespace Go.Proofs.Ythkeahjcokbaaaa
open Go.RowKit Go.V Go.V.Block
def St2 (sb bb mb : Nat) (room : Int) (s : BS) (W w0 wx : World) : Prop := St sb bb mb room s W wx ∧ Keeps [sb, bb, mb] w0 wx
def LI2 (sb bb mb : Nat) (room : Int) (n : Nat) (W w0 : World) (k : Nat) (v : Value) (wx : World) : Prop :=
  ∃ (i : Nat) (s : BS), v = .int .i64 i ∧ i ≤ n ∧ n - i ≤ k ∧ St2 sb bb mb room s W w0 wx
def LE2 (sb bb mb : Nat) (room : Int) (W w0 : World) (wx : World) : Prop := ∃ s : BS, St2 sb bb mb room s W w0 wx
end Go.Proofs.Ythkeahjcokbaaaa
