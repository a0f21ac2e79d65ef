/- Whatever two paths and two texts: a text, a last name and what is gone on from a path are as the document says, and paths stay; of two texts the lesser one, too. No condition. -/
import Derived.Test.YtpfmhjokcpkliaaL30
import Derived.Test.YtpfmhjokcpkliaaL19
import Derived.Test.YtpfmhjokcpkliaaV2
namespace Go.Proofs.Ytpfmhjokcpkliaa
open Go.ChangeShapes Go.WideShapes Go.ChangeAt Go.RowKit Go.V
open Go.ChangeMaps (open_string shut_string)
open Go.V.Path

theorem pathTexts_own : ownKnob Try.prog.godebug = none := by kernel_rfl
theorem pathTexts_laidOut : laidOutB Try.prog = true := by kernel_rfl
set_option maxRecDepth 100000 in
theorem pathTexts_lifted (os : Os) (started : os.Started) (H : Type) (enc : TypeId × Value → H) :
    ReturnsInHanded {} Try.checked os 4 .any (Rows.pathTextsSpec.pre6 enc Try.prog Try.f4 Rows.pathTextsRow.domain false) (Rows.pathTextsSpec.post enc Try.prog Try.f4 false true false false) := by
  refine returnsInHanded_of_change_sized (C := Try.checked) pathTexts_own started (by kernel_rfl) Try.func4
    (ChangeSpec.witness6 (enc := enc) (C := Try.checked) false ⟨#[], #[.agg #[.slice none 0 0, .bool false], .agg #[.slice none 0 0, .bool false], .string ByteArray.empty, .string ByteArray.empty], []⟩ 8 (by kernel_rfl) (by kernel_rfl) (by kernel_rfl) (by kernel_rfl)) ?_
  intro W base args ds gs before hval0 hW _ hsz0 _
  have hval : ∀ (j : Nat) t v, Try.f4.params[j]? = some t → args[j]? = some v → Value.okWide Try.prog W .any base t v := hval0
  have hW' := hW
  obtain ⟨p, q, hA0, hV, rfl, hfz, hnd⟩ := hW
  have hA : DataW.TrodAll enc Try.prog W 0 (fun _ => true) true Try.f4.params.toList args.toList ds p := hA0
  rw [Try.params4] at hA hval
  obtain ⟨v0, vs0, d0, ds0, p0, q0, hargs, rfl, rfl, h0, r0⟩ := trodAll_cons hA
  obtain ⟨v1, vs1, d1, ds1, p1, q1, rfl, rfl, rfl, h1, r1⟩ := trodAll_cons r0
  obtain ⟨v2, vs2, d2, ds2, p2, q2, rfl, rfl, rfl, h2, r2⟩ := trodAll_cons r1
  obtain ⟨v3, vs3, d3, ds3, p3, q3, rfl, rfl, rfl, h3, r3⟩ := trodAll_cons r2
  obtain ⟨rfl, rfl, rfl⟩ := trodAll_nil r3
  obtain rfl : args = #[v0, v1, v2, v3] := by cases args; simp_all
  obtain ⟨rfl, rfl⟩ := trodVars_none hV
  have k0 := h0
  have lt0 : ∀ x ∈ p0, x.block < W.heap.size := by obtain ⟨m, hm⟩ := k0; exact DataW.trod_lt m _ _ _ hm
  obtain ⟨cs0, rfl, hcz0⟩ := okWide_struct Try.underlying25 (hval 0 25 v0 rfl rfl)
  obtain ⟨u0, b0, ns0, hc0, sg0⟩ : ∃ (u : Value) (b : Bool) (ns : List (List UInt8)), cs0 = #[u, .bool b] ∧ SG FB W u ns ∧ ∀ x ∈ ns, x.length ≤ 140737488351232 := by obtain ⟨fuel, hf⟩ := h0; obtain ⟨u, b, ns, hc, hs⟩ := path_of hf (fun n hn => by have := List.all_eq_true.1 hsz0 n (DataW.weights_mem_each (j := 0) (t := 25) (d := d0) rfl rfl n hn); have h2 : n ≤ reachBytes := (by simpa using this); exact h2); exact ⟨u, b, ns, Array.ext' hc, hs⟩
  subst hc0
  have k1 := h1
  have lt1 : ∀ x ∈ p1, x.block < W.heap.size := by obtain ⟨m, hm⟩ := k1; exact DataW.trod_lt m _ _ _ hm
  obtain ⟨cs1, rfl, hcz1⟩ := okWide_struct Try.underlying25 (hval 1 25 v1 rfl rfl)
  obtain ⟨u1, b1, ns1, hc1, sg1⟩ : ∃ (u : Value) (b : Bool) (ns : List (List UInt8)), cs1 = #[u, .bool b] ∧ SG FB W u ns ∧ ∀ x ∈ ns, x.length ≤ 140737488351232 := by obtain ⟨fuel, hf⟩ := h1; obtain ⟨u, b, ns, hc, hs⟩ := path_of hf (fun n hn => by have := List.all_eq_true.1 hsz0 n (DataW.weights_mem_each (j := 1) (t := 25) (d := d1) rfl rfl n hn); have h2 : n ≤ reachBytes := (by simpa using this); exact h2); exact ⟨u, b, ns, Array.ext' hc, hs⟩
  subst hc1
  have k2 := h2
  have lt2 : ∀ x ∈ p2, x.block < W.heap.size := by obtain ⟨m, hm⟩ := k2; exact DataW.trod_lt m _ _ _ hm
  obtain ⟨s2, rfl, rfl, rfl, hs2⟩ := open_string Try.underlying9 (hval 2 9 v2 rfl rfl) h2
  have k3 := h3
  have lt3 : ∀ x ∈ p3, x.block < W.heap.size := by obtain ⟨m, hm⟩ := k3; exact DataW.trod_lt m _ _ _ hm
  obtain ⟨s3, rfl, rfl, rfl, hs3⟩ := open_string Try.underlying9 (hval 3 9 v3 rfl rfl) h3
  have hsz := hsz0
  clear hA0 hval0 hsz0
  refine (texts_any _ _ ns0 ns1 b0 b1 s2 s3 W sg0.1 sg1.1 sg0.2 sg1.2 (str_reach hsz (j := 2) (t := 9) rfl rfl)).mono fun e W' ⟨he, hkp⟩ => ?_
  subst he
  have bel : Below W.heap.size W W' := hkp.below (Nat.le_refl _) (by simp)
  exact ⟨_, rfl, _, _, _, [], _, [], hW', trodAll_mk1 (shut_bool Try.underlying4 _), (trodAll_cons_mk (Below.trod pathTexts_laidOut (by kernel_rfl) (of_decide_eq_true (by kernel_rfl)) k0 bel lt0) (trodAll_cons_mk (Below.trod pathTexts_laidOut (by kernel_rfl) (of_decide_eq_true (by kernel_rfl)) k1 bel lt1) (trodAll_cons_mk (Below.trod pathTexts_laidOut (by kernel_rfl) (of_decide_eq_true (by kernel_rfl)) k2 bel lt2) (trodAll_cons_mk (Below.trod pathTexts_laidOut (by kernel_rfl) (of_decide_eq_true (by kernel_rfl)) k3 bel lt3) trodAll_mk0)))), rfl, bel.frame _, fun h => by cases h⟩

theorem pathTexts_holds : Rows.PathTextsSaid :=
  OpenClaim.holds_of_wide 4 Try.f4 rfl rfl rfl rfl rfl rfl rfl ⟨rfl, rfl, rfl, rfl, rfl⟩ rfl rfl rfl rfl rfl (by kernel_rfl) Try.func4 (by kernel_rfl)
    (of_decide_eq_true (by kernel_rfl)) (by unfold Func.isWrapper; rw [if_neg (of_decide_eq_false (by kernel_rfl))]; exact ⟨rfl, rfl⟩)
    (fun os started H enc _ => pathTexts_lifted os started H enc)

#print axioms pathTexts_holds
end Go.Proofs.Ytpfmhjokcpkliaa
