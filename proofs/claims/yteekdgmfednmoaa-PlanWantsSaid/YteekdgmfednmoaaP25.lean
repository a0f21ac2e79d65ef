/-
  PlanWants' walk, over a row of numbers that came in.
-/
import Derived.Test.YteekdgmfednmoaaP24
import Derived.Test.YteekdgmfednmoaaV2
namespace Go.Proofs.Yteekdgmfednmoaa
open Go.RowKit Go.V Go.V.Queue
theorem all_ints : ∀ l : List Int, FN.all l = l.map (.int .i64)
  | [] => rfl
  | x :: l => by rw [FN.all_cons, all_ints l]; rfl
theorem sg_ints {w : World} {v : Value} {l : List Int} (h : Reads w v (l.map (.int .i64))) (hf : Fits v) : SG FN w v l := by
  obtain ⟨p, cap, rfl, hc, hr⟩ := h
  rw [List.length_map] at hc hr ⊢
  refine ⟨p, cap, rfl, hc, hf _ _ _ (by rw [List.length_map]), fun h0 => ?_⟩
  obtain ⟨b, o, rfl, hx⟩ := hr h0
  refine ⟨b, o, rfl, fun j u hu => hx j u ?_⟩
  rwa [all_ints] at hu
theorem wants_row (c : CV) (l : List Int) (A : Value) (file : Int) (w : World) (hA : Reads w A (l.map (.int .i64))) (hf : Fits A) : Calls Try.prog 4 #[c.val, A, .int .i64 file] w (BPost true w) :=
  wants_any c A l file w (sg_ints hA hf)
end Go.Proofs.Yteekdgmfednmoaa
