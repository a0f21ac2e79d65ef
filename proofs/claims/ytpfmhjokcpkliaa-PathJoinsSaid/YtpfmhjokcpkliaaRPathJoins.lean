/- Whatever three paths: joining is in whatever brackets the same, and nothing joined changes no names. No condition. -/
import Derived.Test.YtpfmhjokcpkliaaL27
import Derived.Test.YtpfmhjokcpkliaaL19
import Derived.Test.YtpfmhjokcpkliaaV2
namespace Go.Proofs.Ytpfmhjokcpkliaa
open Go.ChangeShapes Go.WideShapes Go.ChangeAt Go.RowKit Go.V
open Go.ChangeMaps (open_string shut_string)
open Go.V.Path

theorem pathJoins_own : ownKnob Try.prog.godebug = none := by kernel_rfl
theorem pathJoins_laidOut : laidOutB Try.prog = true := by kernel_rfl
set_option maxRecDepth 100000 in
theorem pathJoins_lifted (os : Os) (started : os.Started) (H : Type) (enc : TypeId × Value → H) :
    ReturnsInHanded {} Try.checked os 11 .any (Rows.pathJoinsSpec.pre6 enc Try.prog Try.f11 Rows.pathJoinsRow.domain false) (Rows.pathJoinsSpec.post enc Try.prog Try.f11 false true false false) := by
  refine returnsInHanded_of_change_sized (C := Try.checked) pathJoins_own started (by kernel_rfl) Try.func11
    (ChangeSpec.witness6 (enc := enc) (C := Try.checked) false ⟨#[], #[.agg #[.slice none 0 0, .bool false], .agg #[.slice none 0 0, .bool false], .agg #[.slice none 0 0, .bool false]], []⟩ 8 (by kernel_rfl) (by kernel_rfl) (by kernel_rfl) (by kernel_rfl)) ?_
  intro W base args ds gs before hval0 hW _ hsz0 _
  have hval : ∀ (j : Nat) t v, Try.f11.params[j]? = some t → args[j]? = some v → Value.okWide Try.prog W .any base t v := hval0
  have hW' := hW
  obtain ⟨p, q, hA0, hV, rfl, hfz, hnd⟩ := hW
  have hA : DataW.TrodAll enc Try.prog W 0 (fun _ => true) true Try.f11.params.toList args.toList ds p := hA0
  rw [Try.params11] at hA hval
  obtain ⟨v0, vs0, d0, ds0, p0, q0, hargs, rfl, rfl, h0, r0⟩ := trodAll_cons hA
  obtain ⟨v1, vs1, d1, ds1, p1, q1, rfl, rfl, rfl, h1, r1⟩ := trodAll_cons r0
  obtain ⟨v2, vs2, d2, ds2, p2, q2, rfl, rfl, rfl, h2, r2⟩ := trodAll_cons r1
  obtain ⟨rfl, rfl, rfl⟩ := trodAll_nil r2
  obtain rfl : args = #[v0, v1, v2] := by cases args; simp_all
  obtain ⟨rfl, rfl⟩ := trodVars_none hV
  have k0 := h0
  have lt0 : ∀ x ∈ p0, x.block < W.heap.size := by obtain ⟨m, hm⟩ := k0; exact DataW.trod_lt m _ _ _ hm
  obtain ⟨cs0, rfl, hcz0⟩ := okWide_struct Try.underlying25 (hval 0 25 v0 rfl rfl)
  obtain ⟨u0, b0, ns0, hc0, sg0⟩ : ∃ (u : Value) (b : Bool) (ns : List (List UInt8)), cs0 = #[u, .bool b] ∧ SG FB W u ns ∧ ∀ x ∈ ns, x.length ≤ 140737488351232 := by obtain ⟨fuel, hf⟩ := h0; obtain ⟨u, b, ns, hc, hs⟩ := path_of hf (fun n hn => by have := List.all_eq_true.1 hsz0 n (DataW.weights_mem_each (j := 0) (t := 25) (d := d0) rfl rfl n hn); have h2 : n ≤ reachBytes := (by simpa using this); exact h2); exact ⟨u, b, ns, Array.ext' hc, hs⟩
  subst hc0
  have k1 := h1
  have lt1 : ∀ x ∈ p1, x.block < W.heap.size := by obtain ⟨m, hm⟩ := k1; exact DataW.trod_lt m _ _ _ hm
  obtain ⟨cs1, rfl, hcz1⟩ := okWide_struct Try.underlying25 (hval 1 25 v1 rfl rfl)
  obtain ⟨u1, b1, ns1, hc1, sg1⟩ : ∃ (u : Value) (b : Bool) (ns : List (List UInt8)), cs1 = #[u, .bool b] ∧ SG FB W u ns ∧ ∀ x ∈ ns, x.length ≤ 140737488351232 := by obtain ⟨fuel, hf⟩ := h1; obtain ⟨u, b, ns, hc, hs⟩ := path_of hf (fun n hn => by have := List.all_eq_true.1 hsz0 n (DataW.weights_mem_each (j := 1) (t := 25) (d := d1) rfl rfl n hn); have h2 : n ≤ reachBytes := (by simpa using this); exact h2); exact ⟨u, b, ns, Array.ext' hc, hs⟩
  subst hc1
  have k2 := h2
  have lt2 : ∀ x ∈ p2, x.block < W.heap.size := by obtain ⟨m, hm⟩ := k2; exact DataW.trod_lt m _ _ _ hm
  obtain ⟨cs2, rfl, hcz2⟩ := okWide_struct Try.underlying25 (hval 2 25 v2 rfl rfl)
  obtain ⟨u2, b2, ns2, hc2, sg2⟩ : ∃ (u : Value) (b : Bool) (ns : List (List UInt8)), cs2 = #[u, .bool b] ∧ SG FB W u ns ∧ ∀ x ∈ ns, x.length ≤ 140737488351232 := by obtain ⟨fuel, hf⟩ := h2; obtain ⟨u, b, ns, hc, hs⟩ := path_of hf (fun n hn => by have := List.all_eq_true.1 hsz0 n (DataW.weights_mem_each (j := 2) (t := 25) (d := d2) rfl rfl n hn); have h2 : n ≤ reachBytes := (by simpa using this); exact h2); exact ⟨u, b, ns, Array.ext' hc, hs⟩
  subst hc2
  have hsz := hsz0
  clear hA0 hval0 hsz0
  refine (joins_any _ _ _ ns0 ns1 ns2 b0 b1 b2 W sg0.1 sg1.1 sg2.1 sg0.2 sg1.2 sg2.2).mono fun e W' ⟨he, hkp⟩ => ?_
  subst he
  have bel : Below W.heap.size W W' := hkp.below (Nat.le_refl _) (by simp)
  exact ⟨_, rfl, _, _, _, [], _, [], hW', trodAll_mk1 (shut_bool Try.underlying4 _), (trodAll_cons_mk (Below.trod pathJoins_laidOut (by kernel_rfl) (of_decide_eq_true (by kernel_rfl)) k0 bel lt0) (trodAll_cons_mk (Below.trod pathJoins_laidOut (by kernel_rfl) (of_decide_eq_true (by kernel_rfl)) k1 bel lt1) (trodAll_cons_mk (Below.trod pathJoins_laidOut (by kernel_rfl) (of_decide_eq_true (by kernel_rfl)) k2 bel lt2) trodAll_mk0))), rfl, bel.frame _, fun h => by cases h⟩

theorem pathJoins_holds : Rows.PathJoinsSaid :=
  OpenClaim.holds_of_wide 11 Try.f11 rfl rfl rfl rfl rfl rfl rfl ⟨rfl, rfl, rfl, rfl, rfl⟩ rfl rfl rfl rfl rfl (by kernel_rfl) Try.func11 (by kernel_rfl)
    (of_decide_eq_true (by kernel_rfl)) (by unfold Func.isWrapper; rw [if_neg (of_decide_eq_false (by kernel_rfl))]; exact ⟨rfl, rfl⟩)
    (fun os started H enc _ => pathJoins_lifted os started H enc)

#print axioms pathJoins_holds
end Go.Proofs.Ytpfmhjokcpkliaa
