/-
  Package path plainly: parts, names, what is parsed of a path's text.
-/
import Derived.Test.YtpfmhjokcpkliaaL19
namespace Go.V.Path
open Go Go.V Go.Proofs.Ytpfmhjokcpkliaa
theorem partsG_split : ∀ (a b cur : List UInt8), partsG cur (a ++ 47 :: b) = partsG cur a ++ partsG [] b
  | [], b, cur => by
    rw [List.nil_append, partsG_sep, partsG]
    split <;> rfl
  | c :: a, b, cur => by
    rw [List.cons_append]
    by_cases h : c = 47
    · subst h
      rw [partsG_sep, partsG_sep, partsG_split a b []]
      split <;> rfl
    · rw [partsG_byte _ _ h, partsG_byte _ _ h, partsG_split a b]
theorem partsL_split (a b : List UInt8) : partsL (a ++ 47 :: b) = partsL a ++ partsL b := partsG_split a b []
theorem partsG_plain : ∀ (a cur : List UInt8), 47 ∉ a → partsG cur a = if cur ++ a = [] then [] else [cur ++ a]
  | [], cur, _ => by rw [partsG, List.append_nil]
  | c :: a, cur, h => by
    rw [partsG_byte _ _ (fun e => h (by rw [e]; exact List.mem_cons_self)), partsG_plain a _ (fun e => h (List.mem_cons_of_mem _ e))]
    simp
theorem partsL_plain {a : List UInt8} (h : 47 ∉ a) (h0 : a ≠ []) : partsL a = [a] := by
  unfold partsL
  rw [partsG_plain a [] h, List.nil_append, if_neg h0]
theorem partsG_mem : ∀ (l cur : List UInt8), 47 ∉ cur → ∀ x ∈ partsG cur l, x ≠ [] ∧ 47 ∉ x ∧ ∀ c ∈ x, c ∈ cur ∨ c ∈ l
  | [], cur, h, x, hx => by
    rw [partsG] at hx
    split at hx
    · cases hx
    · obtain rfl := List.mem_singleton.1 hx
      exact ⟨by assumption, h, fun c hc => Or.inl hc⟩
  | c :: l, cur, h, x, hx => by
    by_cases h47 : c = 47
    · subst h47
      rw [partsG_sep] at hx
      have rest : ∀ x ∈ partsG [] l, x ≠ [] ∧ 47 ∉ x ∧ ∀ c ∈ x, c ∈ cur ∨ c ∈ 47 :: l := fun x hx => by
        obtain ⟨a, b, d⟩ := partsG_mem l [] (by simp) x hx
        exact ⟨a, b, fun c hc => Or.inr (List.mem_cons_of_mem _ ((d c hc).resolve_left (by simp)))⟩
      split at hx
      · exact rest x hx
      · rcases List.mem_cons.1 hx with rfl | hx
        · exact ⟨by assumption, h, fun c hc => Or.inl hc⟩
        · exact rest x hx
    · rw [partsG_byte _ _ h47] at hx
      obtain ⟨a, b, d⟩ := partsG_mem l (cur ++ [c]) (by simp [h]; exact fun e => h47 e.symm) x hx
      refine ⟨a, b, fun y hy => ?_⟩
      rcases d y hy with q | q
      · rcases List.mem_append.1 q with q | q
        · exact Or.inl q
        · obtain rfl := List.mem_singleton.1 q
          exact Or.inr List.mem_cons_self
      · exact Or.inr (List.mem_cons_of_mem _ q)
theorem partsL_mem {l x : List UInt8} (hx : x ∈ partsL l) : x ≠ [] ∧ 47 ∉ x ∧ ∀ c ∈ x, c ∈ l := by
  obtain ⟨a, b, d⟩ := partsG_mem l [] (by simp) x hx
  exact ⟨a, b, fun c hc => (d c hc).resolve_left (by simp)⟩
/-- what a name of a path is -/
def NameOk (x : List UInt8) : Prop := x ≠ [] ∧ 47 ∉ x ∧ 0 ∉ x ∧ x.length ≤ 60 ∧ x ≠ [46]
/-- what it is that a text is parsed -/
structure Parsed (l : List UInt8) : Prop where
  ne : l ≠ []
  len : l.length ≤ 400
  nul : 0 ∉ l
  short : ∀ x ∈ partsL l, x.length ≤ 60
  few : (namesL (partsL l)).length ≤ 40
theorem longB_false {ps : List (List UInt8)} : longB ps = false ↔ ∀ x ∈ ps, x.length ≤ 60 := by
  unfold longB
  rw [List.any_eq_false]
  simp
theorem parseE_cases (l : List UInt8) : parseE l = 0 ↔ Parsed l := by
  unfold parseE
  constructor
  · intro h
    split at h
    · cases h
    split at h
    · cases h
    split at h
    · cases h
    split at h
    · cases h
    split at h
    · cases h
    rename_i h1 h2 h3 h4 h5
    exact ⟨h1, by omega, by simpa using h3, longB_false.1 (by simpa using h4), by omega⟩
  · rintro ⟨h1, h2, h3, h4, h5⟩
    rw [if_neg h1, if_neg (by omega), if_neg (by simpa using h3), if_neg (by rw [longB_false.2 h4]; decide), if_neg (by omega)]
theorem parseN_ok {l : List UInt8} (h : parseE l = 0) : parseN l = namesL (partsL l) := by unfold parseN; rw [if_pos h]
theorem parseD_ok {l : List UInt8} (h : parseE l = 0) : parseD l = dirB l := by unfold parseD; rw [if_pos h]
theorem parseN_bad {l : List UInt8} (h : parseE l ≠ 0) : parseN l = [] := by unfold parseN; rw [if_neg h]
theorem parseD_bad {l : List UInt8} (h : parseE l ≠ 0) : parseD l = false := by unfold parseD; rw [if_neg h]
theorem parseN_few (l : List UInt8) : (parseN l).length ≤ 40 := by
  by_cases h : parseE l = 0
  · rw [parseN_ok h]; exact ((parseE_cases l).1 h).few
  · rw [parseN_bad h]; simp
theorem names_ok {l : List UInt8} {x : List UInt8} (hx : x ∈ parseN l) : NameOk x := by
  by_cases h : parseE l = 0
  · rw [parseN_ok h] at hx
    have hp := (parseE_cases l).1 h
    unfold namesL at hx
    obtain ⟨h1, h2⟩ := List.mem_filter.1 hx
    obtain ⟨a, b, d⟩ := partsL_mem h1
    exact ⟨a, b, fun e => hp.nul (d 0 e), hp.short x h1, by simpa using h2⟩
  · rw [parseN_bad h] at hx; cases hx
theorem tot_le_mul : ∀ (ns : List (List UInt8)), (∀ x ∈ ns, x.length ≤ 60) → tot ns ≤ ns.length * 60
  | [], _ => by simp [tot]
  | x :: l, h => by
    have h1 := tot_le_mul l (fun y hy => h y (List.mem_cons_of_mem _ hy))
    have h2 := h x List.mem_cons_self
    simp only [tot, List.map_cons, List.sum_cons, List.length_cons] at h1 ⊢
    omega
theorem rt_length (d : Bool) : ∀ ns : List (List UInt8), (rt ns d).length ≤ tot ns + ns.length
  | [] => by simp [rt]
  | x :: l => by
    have := rt_length d l
    simp only [tot] at this
    simp only [rt, tot, List.map_cons, List.sum_cons, List.length_append, List.length_cons]
    split <;> simp <;> omega
theorem textL_length (ns : List (List UInt8)) (d : Bool) : (textL ns d).length ≤ tot ns + ns.length + 1 := by
  rw [textL_rt, List.length_cons]
  have := rt_length d ns
  omega
theorem join_length (ns : List (List UInt8)) : (Lib.join ns [47]).length ≤ tot ns + ns.length := by
  have := textL_length ns false
  unfold textL at this
  simpa using this
theorem parsed_short {l : List UInt8} : tot (parseN l) ≤ 2400 := by
  have := tot_le_mul (parseN l) (fun x hx => (names_ok hx).2.2.2.1)
  have := parseN_few l
  omega
theorem partsL_rt (d : Bool) : ∀ ns : List (List UInt8), (∀ x ∈ ns, x ≠ [] ∧ 47 ∉ x) → partsL (rt ns d) = ns
  | [], _ => by simp [rt, partsL, partsG]
  | x :: l, h => by
    obtain ⟨h1, h2⟩ := h x List.mem_cons_self
    have ih := partsL_rt d l (fun y hy => h y (List.mem_cons_of_mem _ hy))
    rw [rt]
    by_cases hs : (!l.isEmpty || d) = true
    · rw [if_pos hs, List.append_assoc, List.singleton_append, partsL_split, partsL_plain h2 h1, ih]; rfl
    · rw [if_neg hs]
      have hl : l = [] := by
        cases l with
        | nil => rfl
        | cons => simp at hs
      subst hl
      simp only [rt, List.append_nil]
      exact partsL_plain h2 h1
theorem partsL_text {ns : List (List UInt8)} (d : Bool) (h : ∀ x ∈ ns, x ≠ [] ∧ 47 ∉ x) : partsL (textL ns d) = ns := by
  rw [textL_rt]
  show partsG [] (47 :: _) = _
  rw [partsG_sep, if_pos rfl]
  exact partsL_rt d ns h
theorem namesL_self {ns : List (List UInt8)} (h : ∀ x ∈ ns, x ≠ [46]) : namesL ns = ns := by
  unfold namesL
  rw [List.filter_eq_self]
  intro x hx
  simpa using h x hx
theorem text_mem (d : Bool) : ∀ (ns : List (List UInt8)) (c : UInt8), c ∈ rt ns d → c = 47 ∨ ∃ x ∈ ns, c ∈ x
  | [], c, h => by simp [rt] at h
  | x :: l, c, h => by
    rw [rt] at h
    rcases List.mem_append.1 h with h | h
    · rcases List.mem_append.1 h with h | h
      · exact Or.inr ⟨x, List.mem_cons_self, h⟩
      · split at h
        · exact Or.inl (List.mem_singleton.1 h)
        · cases h
    · rcases text_mem d l c h with h | ⟨y, hy, hc⟩
      · exact Or.inl h
      · exact Or.inr ⟨y, List.mem_cons_of_mem _ hy, hc⟩
/-- the last of what is left -/
theorem namesL_last : ∀ {ps : List (List UInt8)}, lastP ps ≠ [46] → lastP (namesL ps) = lastP ps ∧ namesL ps ≠ [] := by
  intro ps h
  have hne : ps ≠ [] := fun e => h (by rw [e]; rfl)
  obtain ⟨q, x, rfl⟩ : ∃ q x, ps = q ++ [x] := ⟨ps.dropLast, ps.getLast hne, (List.dropLast_concat_getLast hne).symm⟩
  rw [lastP_append] at h
  have : namesL (q ++ [x]) = namesL q ++ [x] := by rw [namesL_append, namesL_self (ns := [x]) (fun y hy => by obtain rfl := List.mem_singleton.1 hy; exact h)]
  rw [this, lastP_append, lastP_append]
  exact ⟨rfl, by simp⟩
theorem dirB_nil {l : List UInt8} (h : namesL (partsL l) = []) : dirB l = true := by
  by_cases h2 : lastP (partsL l) = [46]
  · unfold dirB; rw [h2]; simp
  · exact absurd h (namesL_last h2).2
theorem rt_last : ∀ ns : List (List UInt8), ns ≠ [] → (∀ x ∈ ns, x ≠ [] ∧ 47 ∉ x) → ∀ d : Bool, ((rt ns d).getLastD 0 == 47) = d
  | [], h, _, _ => absurd rfl h
  | [x], _, h, d => by
    obtain ⟨h1, h2⟩ := h x List.mem_cons_self
    cases d with
    | true => simp [rt, List.getLastD_eq_getLast?]
    | false =>
      simp only [rt, List.isEmpty_nil, Bool.not_true, Bool.or_false, List.append_nil]
      rw [if_neg (by simp), List.append_nil, List.getLastD_eq_getLast?, List.getLast?_eq_some_getLast h1]
      simp only [Option.getD_some, beq_eq_false_iff_ne]
      intro e
      exact h2 (by rw [← e]; exact List.getLast_mem h1)
  | x :: y :: l, _, h, d => by
    have ih := rt_last (y :: l) (by simp) (fun z hz => h z (List.mem_cons_of_mem _ hz)) d
    rw [rt]
    have hne : rt (y :: l) d ≠ [] := by
      rw [rt]
      have := (h y (by simp)).1
      simp [this]
    rw [List.getLastD_eq_getLast?, List.getLast?_append, List.getLast?_eq_some_getLast hne]
    rw [List.getLastD_eq_getLast?, List.getLast?_eq_some_getLast hne] at ih
    simpa using ih
theorem text_last {ns : List (List UInt8)} (d : Bool) (h : ∀ x ∈ ns, x ≠ [] ∧ 47 ∉ x) : ((textL ns d).getLastD 0 == 47) = (ns.isEmpty || d) := by
  rw [textL_rt]
  by_cases hn : ns = []
  · subst hn; simp [rt]
  · have h1 := rt_last ns hn h d
    have hne : rt ns d ≠ [] := by
      cases ns with
      | nil => exact absurd rfl hn
      | cons x l =>
        rw [rt]
        have := (h x (by simp)).1
        simp [this]
    rw [List.getLastD_eq_getLast?, List.getLast?_eq_some_getLast hne] at h1
    rw [List.getLastD_eq_getLast?, List.getLast?_cons, List.getLast?_eq_some_getLast hne]
    have : ns.isEmpty = false := by simpa using hn
    rw [this, Bool.false_or]
    exact h1
/-- what is parsed is parsed alike from its text -/
theorem back {l : List UInt8} (h : parseE l = 0) (hl : (textL (parseN l) (parseD l)).length ≤ 400) :
    parseE (textL (parseN l) (parseD l)) = 0 ∧ parseN (textL (parseN l) (parseD l)) = parseN l ∧ parseD (textL (parseN l) (parseD l)) = parseD l := by
  have hk : ∀ x ∈ parseN l, x ≠ [] ∧ 47 ∉ x := fun x hx => ⟨(names_ok hx).1, (names_ok hx).2.1⟩
  have hp := partsL_text (parseD l) hk
  have hn : namesL (parseN l) = parseN l := namesL_self (fun x hx => (names_ok hx).2.2.2.2)
  have h0 : parseE (textL (parseN l) (parseD l)) = 0 := by
    rw [parseE_cases]
    refine ⟨by unfold textL; simp, hl, fun hm => ?_, fun x hx => ?_, ?_⟩
    · rw [textL_rt] at hm
      rcases List.mem_cons.1 hm with hm | hm
      · exact absurd hm (by decide)
      · rcases text_mem _ _ _ hm with hm | ⟨x, hx, hc⟩
        · exact absurd hm (by decide)
        · exact (names_ok hx).2.2.1 hc
    · rw [hp] at hx; exact (names_ok hx).2.2.2.1
    · rw [hp, hn]; exact parseN_few l
  refine ⟨h0, by rw [parseN_ok h0, hp, hn], ?_⟩
  rw [parseD_ok h0]
  unfold dirB
  rw [hp, text_last _ hk]
  have hN := parseN_ok h
  have hD := parseD_ok h
  by_cases hnil : parseN l = []
  · have : dirB l = true := dirB_nil (by rw [← hN]; exact hnil)
    rw [hD, this]
    simp
  · have he : (parseN l).isEmpty = false := by simpa using hnil
    rw [he, Bool.false_or]
    cases hd : parseD l with
    | true => simp
    | false =>
      rw [hD] at hd
      unfold dirB at hd
      simp only [Bool.or_eq_false_iff, beq_eq_false_iff_ne] at hd
      obtain ⟨⟨_, h1⟩, h2⟩ := hd
      have h3 := (namesL_last h1).1
      rw [← hN] at h3
      rw [h3]
      simp [h1, h2]
end Go.V.Path
