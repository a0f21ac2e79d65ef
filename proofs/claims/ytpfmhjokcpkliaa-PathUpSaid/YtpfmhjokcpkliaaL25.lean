/-
  PathSlashes plainly: slashes and dots in between.
-/
import Derived.Test.YtpfmhjokcpkliaaL24
namespace Go.V.Path
open Go Go.V Go.Proofs.Ytpfmhjokcpkliaa
/-- what lies in between: slashes and dots -/
def Mid (T : List UInt8) : Prop := 0 ∉ T ∧ ∃ k, ∀ a b, partsL (a ++ (T ++ b)) = partsL a ++ (List.replicate k [46] ++ partsL b)
theorem partsL_slash (b : List UInt8) : partsL (47 :: b) = partsL b := by
  show partsG [] (47 :: b) = _
  rw [partsG_sep, if_pos rfl]; rfl
theorem mid_one : Mid [47] := ⟨by decide, 0, fun a b => by rw [List.singleton_append, partsL_split]; rfl⟩
theorem mid_slash {T : List UInt8} (h : Mid T) : Mid (T ++ [47]) := by
  obtain ⟨h0, k, hk⟩ := h
  refine ⟨by simp [h0], k, fun a b => ?_⟩
  rw [List.append_assoc, hk, List.singleton_append, partsL_slash]
theorem mid_dot {T : List UInt8} (h : Mid T) : Mid (T ++ [46, 47]) := by
  obtain ⟨h0, k, hk⟩ := h
  refine ⟨by simp [h0], k + 1, fun a b => ?_⟩
  rw [List.append_assoc, hk, show [46, 47] ++ b = [46] ++ 47 :: b from rfl, partsL_split, show partsL [46] = [[46]] from rfl]
  rw [List.replicate_succ']
  simp
theorem partsG_end : ∀ (b cur : List UInt8) (c : UInt8), c ≠ 47 → partsG cur (b ++ [c]) ≠ []
  | [], cur, c, h => by rw [List.nil_append, partsG_byte _ _ h, partsG, if_neg (by simp)]; simp
  | x :: b, cur, c, h => by
    rw [List.cons_append]
    by_cases hx : x = 47
    · subst hx
      rw [partsG_sep]
      split
      · exact partsG_end b [] c h
      · simp
    · rw [partsG_byte _ _ hx]; exact partsG_end b _ c h
theorem parts_none {b : List UInt8} (h0 : b ≠ []) (h : partsL b = []) : b.getLastD 0 = 47 := by
  obtain ⟨q, x, rfl⟩ : ∃ q x, b = q ++ [x] := ⟨b.dropLast, b.getLast h0, (List.dropLast_concat_getLast h0).symm⟩
  have : x = 47 := by
    by_cases hx : x = 47
    · exact hx
    · exact absurd h (partsG_end q [] x hx)
  simp [this]
theorem getLastD_app {α : Type} (a b : List α) (z : α) (h : b ≠ []) : (a ++ b).getLastD z = b.getLastD z := by
  rw [List.getLastD_eq_getLast?, List.getLastD_eq_getLast?, List.getLast?_append, List.getLast?_eq_some_getLast h]; rfl
theorem namesL_dots (k : Nat) : namesL (List.replicate k [46]) = [] := by
  unfold namesL
  rw [List.filter_eq_nil_iff]
  intro x hx
  rw [List.eq_of_mem_replicate hx]
  decide
theorem slashes {a T b : List UInt8} (ha : parseE a = 0) (hb : parseE b = 0) (hm : Mid T) :
    (400 < a.length + T.length + b.length ∨ 40 < (parseN a).length + (parseN b).length → parseE ((a ++ T) ++ b) = 36) ∧
    (¬ (400 < a.length + T.length + b.length ∨ 40 < (parseN a).length + (parseN b).length) → parseE ((a ++ T) ++ b) = 0 ∧ parseN ((a ++ T) ++ b) = parseN a ++ parseN b ∧ parseD ((a ++ T) ++ b) = parseD b) := by
  have pa := (parseE_cases a).1 ha
  have pb := (parseE_cases b).1 hb
  obtain ⟨h0, k, hk⟩ := hm
  have hp := hk a b
  rw [← List.append_assoc] at hp
  obtain ⟨s, hs⟩ : ∃ s, s = (a ++ T) ++ b := ⟨_, rfl⟩
  have hlen : s.length = a.length + T.length + b.length := by rw [hs]; simp only [List.length_append]
  have hnul : 0 ∉ s := by rw [hs]; simp [h0, pa.nul, pb.nul]
  have hne : s ≠ [] := by rw [hs]; simp [pb.ne]
  have hnames : namesL (partsL s) = parseN a ++ parseN b := by
    rw [hs, hp, namesL_append, namesL_append, namesL_dots, List.nil_append, parseN_ok ha, parseN_ok hb]
  have hshort : ∀ x ∈ partsL s, x.length ≤ 60 := by
    intro x hx
    rw [hs, hp] at hx
    rcases List.mem_append.1 hx with hx | hx
    · exact pa.short x hx
    · rcases List.mem_append.1 hx with hx | hx
      · rw [List.eq_of_mem_replicate hx]; decide
      · exact pb.short x hx
  rw [← hs]
  constructor
  · intro h
    unfold parseE
    rw [if_neg hne]
    by_cases hl : 400 < s.length
    · rw [if_pos hl]
    · rw [if_neg hl, if_neg (by simpa using hnul), if_neg (by rw [longB_false.2 hshort]; decide), if_pos]
      rw [hnames, List.length_append]
      omega
  · intro h
    have hE : parseE s = 0 := (parseE_cases s).2 ⟨hne, by omega, hnul, hshort, by rw [hnames, List.length_append]; omega⟩
    refine ⟨hE, by rw [parseN_ok hE, hnames], ?_⟩
    rw [parseD_ok hE, parseD_ok hb]
    have hlast : s.getLastD 0 = b.getLastD 0 := by rw [hs]; exact getLastD_app _ _ _ pb.ne
    unfold dirB
    rw [hlast]
    by_cases hpb : partsL b = []
    · rw [parts_none pb.ne hpb]; rfl
    · have : lastP (partsL s) = lastP (partsL b) := by
        rw [hs, hp, ← List.append_assoc]
        exact getLastD_app _ _ _ hpb
      rw [this]
end Go.V.Path
