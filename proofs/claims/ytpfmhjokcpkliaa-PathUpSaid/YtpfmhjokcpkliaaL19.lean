/-
  What a row hands to the walks of package path: texts of a process's size, paths.
-/
import Derived.Test.YtpfmhjokcpkliaaL17
import Derived.Test.YtpfmhjokcpkliaaRows
import Derived.Test.YtpfmhjokcpkliaaV4
import Derived.SizedLaws
import Derived.Deep.Strs
namespace Go.Proofs.Ytpfmhjokcpkliaa
open Go.ChangeShapes Go.WideShapes Go.ChangeAt Go.RowKit Go.V Go.V.Path
theorem str_reach {H : Type} {P : Program} {ts : List TypeId} {ds : List (DataW H)} (h : (DataW.weightsEach P ts ds).all (· ≤ reachBytes) = true) {j : Nat} {t : TypeId} {s : ByteArray} (ht : ts[j]? = some t) (hd : ds[j]? = some (.lit (.string s.data.toList))) : s.size ≤ 140737488351232 := by
  have h1 := sized_string h ht hd
  rw [← size_len] at h1
  exact h1
theorem names_of {H : Type} {enc : TypeId × Value → H} {W : World} {fuel : Nat} {v : Value} {x : DataW H × List MemPlace} (h : DataW.trod enc Try.prog W 0 (fun _ => true) true fuel 23 [v] = some x)
    (hw : ∀ n ∈ x.1.weights Try.prog 23, n ≤ 140737488351232) : ∃ ns : List (List UInt8), SG FB W v ns ∧ ∀ y ∈ ns, y.length ≤ 140737488351232 := by
  rcases Go.Deep.open_strs Try.underlying23 Try.underlying9 (by kernel_rfl) h with ⟨hc, _⟩ | ⟨a, len, cap, m, Sx, hc, _, hl, hm, hmm, rfl, hx⟩
  · cases hc
    exact ⟨[], (RowG.nil FB 9 W).sg, fun y hy => by cases hy⟩
  · cases hc
    have hlm : len ≤ m := by rw [hmm]; split <;> omega
    refine ⟨(List.range len).map (fun i => (Sx i).data.toList), ?_, fun y hy => ?_⟩
    · refine ⟨some a, cap, by rw [List.length_map, List.length_range], by rw [List.length_map, List.length_range]; exact hl, by unfold maxLen at hm; omega, fun h0 => ?_⟩
      rw [List.length_map, List.length_range] at h0
      have hsp : a.spot = none := by
        have h1 := (hx 0 (by omega)).1
        cases hs : a.spot with
        | none => rfl
        | some q =>
          simp [World.cell?, Addr.add, hs] at h1
          split at h1 <;> cases h1
      obtain ⟨b, o, sp⟩ := a
      subst hsp
      refine ⟨b, o, rfl, fun j u hu => ?_⟩
      have hj : j < len := by
        have := (List.getElem?_eq_some_iff.1 hu).1
        rw [FB.length_all, List.length_map, List.length_range] at this
        have e : len * FB.s = len := Nat.mul_one len
        omega
      have hget := FB.all_get ((List.range len).map (fun i => (Sx i).data.toList)) j 0 (Sx j).data.toList (by rw [List.getElem?_map, List.getElem?_range hj]; rfl) (by decide)
      rw [show j * FB.s + 0 = j from Nat.mul_one j] at hget
      rw [hget] at hu
      have hu : some (Value.string (bs (Sx j).data.toList)) = some u := hu
      have hc := (hx j (by omega)).1
      rw [add_none] at hc
      rw [hc, ← hu, bs_data]
    · obtain ⟨i, hi, rfl⟩ := List.mem_map.1 hy
      refine hw _ ?_
      have hmem : ∀ (l : List (DataW H)) (s : ByteArray), DataW.lit (.string s.data.toList) ∈ l → s.data.toList.length ∈ DataW.weightsAll Try.prog 9 l := by
        intro l s
        induction l with
        | nil => intro h; cases h
        | cons d l ih =>
          intro h
          unfold DataW.weightsAll
          rcases List.mem_cons.1 h with h | h
          · subst h
            exact List.mem_append_left _ (by simp [DataW.weights])
          · exact List.mem_append_right _ (ih h)
      have hu : Try.prog.underlying 23 = some (.slice 9) := Try.underlying23
      simp only [DataW.weights, hu]
      exact List.mem_cons_of_mem _ (List.mem_append_left _ (hmem _ _ (List.mem_map.2 ⟨i, hi, rfl⟩)))
theorem path_of {H : Type} {enc : TypeId × Value → H} {W : World} {fuel : Nat} {cs : List Value} {x : DataW H × List MemPlace} (h : DataW.trod enc Try.prog W 0 (fun _ => true) true fuel 25 cs = some x)
    (hw : ∀ n ∈ x.1.weights Try.prog 25, n ≤ 140737488351232) : ∃ (u : Value) (b : Bool) (ns : List (List UInt8)), cs = [u, .bool b] ∧ SG FB W u ns ∧ ∀ y ∈ ns, y.length ≤ 140737488351232 := by
  obtain ⟨xs, k, rfl, rfl, hl, hlen, hf⟩ := DataW.trod_struct Try.underlying25 h
  have hl : cs.length = 2 := hl
  have hxl : xs.length = 2 := hlen
  match cs, hl, xs, hxl with
  | [u0, u1], _, [x0, x1], _ =>
    have f0 := hf 0 _ rfl
    have f1 := hf 1 _ rfl
    have f0 : DataW.trod enc Try.prog W 0 (fun _ => true) true k 23 [u0] = some x0 := f0
    obtain ⟨a1, e1, _⟩ := DataW.trod_bool Try.underlying4 f1
    have e1 : [u1] = [.bool a1] := e1
    cases e1
    obtain ⟨ns, h1, h2⟩ := names_of f0 (fun n hn => hw n (by
      have hu := Try.underlying25
      simp only [DataW.weights, hu]
      exact List.mem_append_left _ hn))
    exact ⟨u0, a1, ns, rfl, h1, h2⟩
end Go.Proofs.Ytpfmhjokcpkliaa
