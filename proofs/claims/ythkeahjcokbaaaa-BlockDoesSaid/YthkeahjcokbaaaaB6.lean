/-
  Package block, the plain side of BlockParts: written in two parts it is as written in one.
-/
import Derived.Test.YthkeahjcokbaaaaB5
namespace Go.V.Block
open Go.V

/-- two stores with a body each that tell the same -/
def Same (s t : BS) : Prop := s.sz = t.sz ∧ s.used = t.used ∧ s.l.length = t.l.length ∧ (∀ p, byteAt s.l p = byteAt t.l p) ∧ ∀ k, k ∈ keys s.l ↔ k ∈ keys t.l
theorem Same.read {s t : BS} (h : Same s t) (off n : Int) : readM s off n = readM t off n := by
  unfold readM
  rw [h.1]
  have : ∀ a n, bytesFrom s.l a n = bytesFrom t.l a n := fun a n => List.map_congr_left (fun i _ => h.2.2.2.1 _)
  simp only [this]
theorem Same.holes {s t : BS} (h : Same s t) (n : Nat) : holesTo s.l n = holesTo t.l n := by
  unfold holesTo
  congr 1
  refine List.filter_congr (fun k _ => ?_)
  have h1 := @get_isSome _ _ _ s.l k
  have h2 := @get_isSome _ _ _ t.l k
  have h3 := h.2.2.2.2 k
  cases e1 : get s.l k <;> cases e2 : get t.l k <;> simp_all

theorem parts (a : Nat) (data : List UInt8) (k : Nat) (hk : k ≤ data.length) :
    Same (writeM 65536 ⟨0, 0, []⟩ (a : Int) data).2.2 (writeM 65536 (writeM 65536 ⟨0, 0, []⟩ (a : Int) (data.take k)).2.2 ((a + k : Nat) : Int) (data.drop k)).2.2 := by
  have g0 : BGood ⟨0, 0, []⟩ := ⟨good_nil, rfl⟩
  obtain ⟨l1, e1, f1, b1, k1⟩ := write_spec (room := 65536) (by omega) ⟨0, 0, []⟩ g0 a data
  obtain ⟨l2, e2, f2, b2, k2⟩ := write_spec (room := 65536) (by omega) ⟨0, 0, []⟩ g0 a (data.take k)
  have g2 : BGood (writeM 65536 ⟨0, 0, []⟩ (a : Int) (data.take k)).2.2 := by rw [e2]; exact ⟨f2, rfl⟩
  obtain ⟨l3, e3, f3, b3, k3⟩ := write_spec (room := 65536) (by omega) _ g2 (a + k) (data.drop k)
  rw [e2] at b3 k3 e3
  have n1 : (data.take k).length = k := by rw [List.length_take]; omega
  have n2 : (data.drop k).length = data.length - k := List.length_drop
  rw [n1] at e2 b2 k2 e3
  rw [n2] at e3 b3 k3
  have q0 : cnt a data.length = min data.length (65536 - a) := rfl
  have q1 : cnt a k = min k (65536 - a) := rfl
  have q2 : cnt (a + k) (data.length - k) = min (data.length - k) (65536 - (a + k)) := rfl
  have hmem : ∀ x, x ∈ keys l1 ↔ x ∈ keys l3 := fun x => by
    rw [k1, k3, k2]
    constructor
    · rintro (h | ⟨p, r1, r2, r3⟩)
      · exact Or.inl (Or.inl h)
      · by_cases hp : p < a + k
        · exact Or.inl (Or.inr ⟨p, r1, by omega, r3⟩)
        · exact Or.inr ⟨p, by omega, by omega, r3⟩
    · rintro ((h | ⟨p, r1, r2, r3⟩) | ⟨p, r1, r2, r3⟩)
      · exact Or.inl h
      · exact Or.inr ⟨p, r1, by omega, r3⟩
      · exact Or.inr ⟨p, by omega, by omega, r3⟩
  have hlen : l1.length = l3.length := by
    have := length_eq_of_mem f1.1 f3.1 hmem
    simpa [keys] using this
  rw [e2, e1, e3]
  refine ⟨?_, by rw [hlen], hlen, fun p => ?_, hmem⟩
  · dsimp only
    by_cases x0 : cnt a data.length = 0 <;> by_cases x1 : cnt a k = 0 <;> by_cases x2 : cnt (a + k) (data.length - k) = 0 <;> simp only [x0, x1, x2, if_true, if_false] <;> omega
  · show byteAt l1 p = byteAt l3 p
    rw [b1, b3, b2]
    by_cases c1 : a ≤ p ∧ p < a + cnt a data.length
    · rw [if_pos c1]
      by_cases c2 : a + k ≤ p
      · rw [if_pos (by omega)]
        simp only [List.getD_eq_getElem?_getD, List.getElem?_drop]
        congr 2; omega
      · rw [if_neg (by omega), if_pos (by omega)]
        simp only [List.getD_eq_getElem?_getD]
        rw [List.getElem?_take, if_pos (by omega)]
    · rw [if_neg c1, if_neg (by omega), if_neg (by omega)]
end Go.V.Block
