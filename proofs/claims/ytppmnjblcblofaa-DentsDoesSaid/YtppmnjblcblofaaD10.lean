/-
  Directories plainly: what is set and taken away.
-/
import Derived.Test.YtppmnjblcblofaaD9
namespace Go.V.Dents
open Go Go.V Go.V.Path
/-- is an entry's name greater? -/
def gt (t : List UInt8) (x : Ent) : Bool := Op.bytesLess t x.name
theorem lt_gt {t : List UInt8} {x : Ent} (h : lt t x = true) : gt t x = false := bl_asym h
theorem gt_lt {t : List UInt8} {x : Ent} (h : gt t x = true) : lt t x = false := bl_asym h
theorem lt_of_eq {t : List UInt8} {x : Ent} (h : x.name = t) : lt t x = false := by unfold lt; rw [h]; exact bl_self t
theorem gt_of_eq {t : List UInt8} {x : Ent} (h : x.name = t) : gt t x = false := by unfold gt; rw [h]; exact bl_self t
theorem three (t : List UInt8) (x : Ent) : lt t x = true ∨ x.name = t ∨ gt t x = true := bl_total x.name t
theorem Srt.take_pos {l : List Ent} (h : Srt l) (t : List UInt8) : l.take (pos l t) = l.filter (lt t) := by
  obtain ⟨h1, h2⟩ := h.cut t
  conv => rhs; rw [← List.take_append_drop (pos l t) l, List.filter_append]
  have e1 : (l.take (pos l t)).filter (lt t) = l.take (pos l t) := by
    rw [List.filter_eq_self]
    intro x hx
    obtain ⟨j, hj⟩ := List.mem_iff_getElem?.1 hx
    rw [List.getElem?_take] at hj
    split at hj
    · exact h1 j x (by assumption) hj
    · cases hj
  have e2 : (l.drop (pos l t)).filter (lt t) = [] := by
    rw [List.filter_eq_nil_iff]
    intro x hx
    obtain ⟨j, hj⟩ := List.mem_iff_getElem?.1 hx
    rw [List.getElem?_drop] at hj
    rw [h2 _ x (by omega) hj]; simp
  rw [e1, e2, List.append_nil]
theorem Srt.gt_drop {l : List Ent} (h : Srt l) (t : List UInt8) : l.filter (gt t) = (l.drop (pos l t)).filter (gt t) := by
  conv => lhs; rw [← List.take_append_drop (pos l t) l, List.filter_append]
  have : (l.take (pos l t)).filter (gt t) = [] := by
    rw [List.filter_eq_nil_iff]
    intro x hx
    rw [h.take_pos] at hx
    rw [lt_gt (List.mem_filter.1 hx).2]; simp
  rw [this, List.nil_append]
theorem Srt.drop_has {l : List Ent} (h : Srt l) {t : List UInt8} (hh : has l t = true) : l.drop (pos l t + 1) = l.filter (gt t) := by
  obtain ⟨x, hx, hn⟩ := (h.has_iff t).1 hh
  obtain ⟨h1, h2⟩ := List.getElem?_eq_some_iff.1 hx
  rw [h.gt_drop, List.drop_eq_getElem_cons h1, h2, List.filter_cons_of_neg (by rw [gt_of_eq hn]; simp)]
  symm
  rw [List.filter_eq_self]
  intro y hy
  obtain ⟨j, hj⟩ := List.mem_iff_getElem?.1 hy
  rw [List.getElem?_drop] at hj
  have := h.get hx hj (by omega)
  rw [hn] at this
  exact this
theorem Srt.drop_none {l : List Ent} (h : Srt l) {t : List UInt8} (hh : has l t = false) : l.drop (pos l t) = l.filter (gt t) := by
  rw [h.gt_drop]
  symm
  rw [List.filter_eq_self]
  intro y hy
  obtain ⟨j, hj⟩ := List.mem_iff_getElem?.1 hy
  rw [List.getElem?_drop] at hj
  have h1 := (h.cut t).2 _ y (by omega) hj
  rcases three t y with q | q | q
  · rw [h1] at q; cases q
  · have : has l t = true := List.any_eq_true.2 ⟨y, List.mem_of_getElem? hj, by simpa using q⟩
    rw [hh] at this; cases this
  · exact q
theorem put_eq {l : List Ent} (h : Srt l) (t : List UInt8) (ino : Int) : putL l t ino = l.filter (lt t) ++ ⟨t, ino⟩ :: l.filter (gt t) := by
  unfold putL
  split
  · rename_i hh
    obtain ⟨x, hx, _⟩ := (h.has_iff t).1 hh
    have hlt := (List.getElem?_eq_some_iff.1 hx).1
    rw [List.set_eq_take_append_cons_drop, if_pos hlt, h.take_pos, h.drop_has hh]
  · rename_i hh
    rw [h.take_pos, h.drop_none (by simpa using hh)]
theorem del_eq {l : List Ent} (h : Srt l) (t : List UInt8) : delL l t = l.filter (lt t) ++ l.filter (gt t) := by
  unfold delL
  split
  · rename_i hh
    rw [h.take_pos, h.drop_has hh]
  · rename_i hh
    rw [← h.take_pos, ← h.drop_none (by simpa using hh), List.take_append_drop]
theorem Srt.filter {l : List Ent} (h : Srt l) (p : Ent → Bool) : Srt (l.filter p) := List.Pairwise.filter p h
theorem Srt.del {l : List Ent} (h : Srt l) (t : List UInt8) : Srt (delL l t) := by
  rw [del_eq h]
  refine List.pairwise_append.2 ⟨h.filter _, h.filter _, fun a ha b hb => ?_⟩
  exact bl_trans _ t _ (List.mem_filter.1 ha).2 (List.mem_filter.1 hb).2
theorem Srt.put {l : List Ent} (h : Srt l) (t : List UInt8) (ino : Int) : Srt (putL l t ino) := by
  rw [put_eq h]
  refine List.pairwise_append.2 ⟨h.filter _, List.pairwise_cons.2 ⟨fun b hb => (List.mem_filter.1 hb).2, h.filter _⟩, fun a ha b hb => ?_⟩
  rcases List.mem_cons.1 hb with rfl | hb
  · exact (List.mem_filter.1 ha).2
  · exact bl_trans _ t _ (List.mem_filter.1 ha).2 (List.mem_filter.1 hb).2
theorem Srt.set {l : List Ent} (h : Srt l) (t : List UInt8) (ino : Int) : Srt (setL l t ino) := by
  unfold setL
  split
  · exact h.put t ino
  · exact h
theorem length_put {l : List Ent} (t : List UInt8) (ino : Int) : (putL l t ino).length ≤ l.length + 1 := by
  unfold putL
  split
  · rw [List.length_set]; omega
  · rw [List.length_append, List.length_cons, List.length_take, List.length_drop]; omega
theorem length_set {l : List Ent} (t : List UInt8) (ino : Int) : (setL l t ino).length ≤ l.length + 1 := by
  unfold setL
  split
  · exact length_put t ino
  · omega
theorem length_del (l : List Ent) (t : List UInt8) : (delL l t).length ≤ l.length := by
  unfold delL
  split
  · rw [List.length_append, List.length_take, List.length_drop]; omega
  · omega
theorem mem_put {l : List Ent} (h : Srt l) {t : List UInt8} {ino : Int} {x : Ent} : x ∈ putL l t ino ↔ x = ⟨t, ino⟩ ∨ (x ∈ l ∧ x.name ≠ t) := by
  rw [put_eq h]
  simp only [List.mem_append, List.mem_cons, List.mem_filter]
  constructor
  · rintro (⟨h1, h2⟩ | rfl | ⟨h1, h2⟩)
    · exact Or.inr ⟨h1, fun e => by rw [lt_of_eq e] at h2; cases h2⟩
    · exact Or.inl rfl
    · exact Or.inr ⟨h1, fun e => by rw [gt_of_eq e] at h2; cases h2⟩
  · rintro (rfl | ⟨h1, h2⟩)
    · exact Or.inr (Or.inl rfl)
    · rcases three t x with q | q | q
      · exact Or.inl ⟨h1, q⟩
      · exact absurd q h2
      · exact Or.inr (Or.inr ⟨h1, q⟩)
theorem mem_del {l : List Ent} (h : Srt l) {t : List UInt8} {x : Ent} : x ∈ delL l t ↔ x ∈ l ∧ x.name ≠ t := by
  rw [del_eq h]
  simp only [List.mem_append, List.mem_filter]
  constructor
  · rintro (⟨h1, h2⟩ | ⟨h1, h2⟩)
    · exact ⟨h1, fun e => by rw [lt_of_eq e] at h2; cases h2⟩
    · exact ⟨h1, fun e => by rw [gt_of_eq e] at h2; cases h2⟩
  · rintro ⟨h1, h2⟩
    rcases three t x with q | q | q
    · exact Or.inl ⟨h1, q⟩
    · exact absurd q h2
    · exact Or.inr ⟨h1, q⟩
/-- who is in order has a name once -/
theorem Srt.uniq {l : List Ent} (h : Srt l) {x y : Ent} (hx : x ∈ l) (hy : y ∈ l) (he : x.name = y.name) : x = y := by
  obtain ⟨i, hi⟩ := List.mem_iff_getElem?.1 hx
  obtain ⟨j, hj⟩ := List.mem_iff_getElem?.1 hy
  rcases Nat.lt_trichotomy i j with q | q | q
  · have := h.get hi hj q; rw [he, bl_self] at this; cases this
  · subst q; rw [hi] at hj; exact Option.some.inj hj
  · have := h.get hj hi q; rw [he, bl_self] at this; cases this
theorem getO_iff {l : List Ent} (h : Srt l) {t : List UInt8} {x : Ent} : getO l t = some x ↔ x ∈ l ∧ x.name = t := by
  unfold getO
  constructor
  · intro hg
    split at hg
    · rename_i hh
      obtain ⟨y, hy, hn⟩ := (h.has_iff t).1 hh
      rw [hy] at hg; cases hg
      exact ⟨List.mem_of_getElem? hy, hn⟩
    · cases hg
  · rintro ⟨hx, hn⟩
    have hh : has l t = true := List.any_eq_true.2 ⟨x, hx, by simpa using hn⟩
    rw [if_pos hh]
    obtain ⟨y, hy, hyn⟩ := (h.has_iff t).1 hh
    rw [hy, h.uniq (List.mem_of_getElem? hy) hx (by rw [hyn, hn])]
theorem has_getO {l : List Ent} (h : Srt l) (t : List UInt8) : has l t = (getO l t).isSome := by
  unfold getO
  split
  · rename_i hh
    obtain ⟨y, hy, _⟩ := (h.has_iff t).1 hh
    rw [hh, hy]; rfl
  · rename_i hh
    simpa using hh
theorem opt_ext {α : Type} {a b : Option α} (h : ∀ x, a = some x ↔ b = some x) : a = b := by
  cases a with
  | none =>
    cases b with
    | none => rfl
    | some y => exact (h y).2 rfl
  | some x => exact ((h x).1 rfl).symm
theorem get_put_self {l : List Ent} (h : Srt l) (t : List UInt8) (ino : Int) : getO (putL l t ino) t = some ⟨t, ino⟩ :=
  (getO_iff (h.put t ino)).2 ⟨(mem_put h).2 (Or.inl rfl), rfl⟩
theorem get_put_other {l : List Ent} (h : Srt l) {t u : List UInt8} (hne : t ≠ u) (ino : Int) : getO (putL l t ino) u = getO l u := by
  refine opt_ext fun x => ?_
  rw [getO_iff (h.put t ino), getO_iff h, mem_put h]
  constructor
  · rintro ⟨rfl | ⟨h1, _⟩, h2⟩
    · exact absurd h2 hne
    · exact ⟨h1, h2⟩
  · rintro ⟨h1, h2⟩
    exact ⟨Or.inr ⟨h1, fun e => hne (by rw [← e, h2])⟩, h2⟩
theorem get_del_self {l : List Ent} (h : Srt l) (t : List UInt8) : getO (delL l t) t = none := by
  cases hg : getO (delL l t) t with
  | none => rfl
  | some x =>
    obtain ⟨h1, h2⟩ := (getO_iff (h.del t)).1 hg
    exact absurd h2 ((mem_del h).1 h1).2
theorem get_del_other {l : List Ent} (h : Srt l) {t u : List UInt8} (hne : t ≠ u) : getO (delL l t) u = getO l u := by
  refine opt_ext fun x => ?_
  rw [getO_iff (h.del t), getO_iff h, mem_del h]
  constructor
  · rintro ⟨⟨h1, _⟩, h2⟩; exact ⟨h1, h2⟩
  · rintro ⟨h1, h2⟩; exact ⟨⟨h1, fun e => hne (by rw [← e, h2])⟩, h2⟩
theorem getI_of {l l' : List Ent} {t : List UInt8} (h : getO l t = getO l' t) : getI l t = getI l' t := by unfold getI; rw [h]
theorem getE_of {l l' : List Ent} (h : Srt l) (h' : Srt l') {t : List UInt8} (he : getO l t = getO l' t) : getE l t = getE l' t := by
  unfold getE; rw [has_getO h, has_getO h', he]
/-- lists in order of the same entries are one -/
theorem Srt.ext {l l' : List Ent} (h : Srt l) (h' : Srt l') (he : ∀ x, x ∈ l ↔ x ∈ l') : l = l' := by
  have hp : l.Perm l' := by
    refine (List.perm_ext_iff_of_nodup ?_ ?_).2 he
    · exact List.Pairwise.imp (fun {a b} hab e => by subst e; rw [bl_self] at hab; cases hab) h
    · exact List.Pairwise.imp (fun {a b} hab e => by subst e; rw [bl_self] at hab; cases hab) h'
  exact hp.eq_of_pairwise (fun a b _ _ h1 h2 => by rw [bl_asym h1] at h2; cases h2) h h'
/-- an act of the law's -/
structure DAct where
  kind : Int
  name : List UInt8
  ino : Int
def FA : Form DAct := ⟨3, fun x => [.int .i64 x.kind, .string (bs x.name), .int .i64 x.ino], fun _ => rfl, fun _ u hu => by
  simp only [List.mem_cons, List.not_mem_nil, or_false] at hu
  rcases hu with rfl | rfl | rfl <;> rfl⟩
def doL (l : List Ent) (x : DAct) : List Ent := if x.kind = 0 then setL l x.name x.ino else if x.kind = 1 then delL l x.name else l
def runL (l : List Ent) (ac : List DAct) : List Ent := ac.foldl doL l
def playL (ac : List DAct) : List Ent := runL [] (ac.take 100)
theorem Srt.nil : Srt [] := List.Pairwise.nil
theorem Srt.doA {l : List Ent} (h : Srt l) (x : DAct) : Srt (doL l x) := by
  unfold doL
  split
  · exact h.set _ _
  split
  · exact h.del _
  · exact h
theorem length_do {l : List Ent} (x : DAct) : (doL l x).length ≤ l.length + 1 := by
  unfold doL
  split
  · exact length_set _ _
  split
  · exact Nat.le_succ_of_le (length_del l _)
  · omega
theorem run_srt : ∀ (ac : List DAct) (l : List Ent), Srt l → Srt (runL l ac) ∧ (runL l ac).length ≤ l.length + ac.length
  | [], l, h => ⟨h, by simp [runL]⟩
  | x :: ac, l, h => by
    obtain ⟨h1, h2⟩ := run_srt ac (doL l x) (h.doA x)
    refine ⟨h1, ?_⟩
    have := length_do x (l := l)
    rw [List.length_cons]
    show (runL (doL l x) ac).length ≤ _
    omega
theorem play_srt (ac : List DAct) : Srt (playL ac) ∧ (playL ac).length ≤ 100 := by
  obtain ⟨h1, h2⟩ := run_srt (ac.take 100) [] Srt.nil
  refine ⟨h1, ?_⟩
  rw [List.length_take] at h2
  simp only [List.length_nil] at h2
  show (runL [] (ac.take 100)).length ≤ 100
  omega
theorem run_snoc (l : List Ent) (ac : List DAct) (x : DAct) : runL l (ac ++ [x]) = doL (runL l ac) x := by unfold runL; rw [List.foldl_append]; rfl
end Go.V.Dents
