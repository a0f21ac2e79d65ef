/-
  PathUp: rows of bytes, append of a text, what is told plainly.
-/
import Derived.Test.YtpfmhjokcpkliaaL27
import Derived.Lib.AppendStr
namespace Go.V.Path
open Go Go.V Go.Proofs.Ytpfmhjokcpkliaa
/-- bytes in memory -/
def FU : Form UInt8 := ⟨1, fun c => [.int .u8 (c.toNat : Int)], fun _ => rfl, fun _ u hu => by
  simp only [List.mem_cons, List.not_mem_nil, or_false] at hu
  subst hu; rfl⟩
theorem FU.all_map (l : List UInt8) : FU.all l = l.map bv := by
  induction l with
  | nil => rfl
  | cons c l ih => rw [Form.all_cons, ih]; rfl
/-- the names without what is in between -/
def flat (ps : List (List UInt8)) : List UInt8 := (namesL ps).flatten
theorem flat_cons (x : List UInt8) (ps : List (List UInt8)) : flat (x :: ps) = (if x = [46] then [] else x) ++ flat ps := by
  unfold flat namesL
  by_cases h : x = [46]
  · rw [List.filter_cons_of_neg (by simp [h]), if_pos h]; rfl
  · rw [List.filter_cons_of_pos (by simp [h]), if_neg h]; rfl
theorem flat_end (cur : List UInt8) : flat (partsG cur []) = if cur = [46] then [] else cur := by
  rw [partsG]
  split
  · rename_i h; subst h; rfl
  · rw [flat_cons]; simp [flat, namesL]
theorem flat_sep (cur r : List UInt8) : flat (partsG cur (47 :: r)) = (if cur = [46] then [] else cur) ++ flat (partsG [] r) := by
  rw [partsG_sep]
  split
  · rename_i h; subst h; rfl
  · rw [flat_cons]
/-- how far the law has come in a text -/
def UG (l : List UInt8) (i : Nat) (cur acc : List UInt8) : Prop :=
  (i ≤ l.length → acc ++ flat (partsG cur (l.drop i)) = flat (partsL l)) ∧ (l.length < i → acc = flat (partsL l))
theorem UG.start (l : List UInt8) : UG l 0 [] [] := ⟨fun _ => rfl, fun h => absurd h (by omega)⟩
theorem UG.byte {l : List UInt8} {i : Nat} {cur acc : List UInt8} {c : UInt8} (h : UG l i cur acc) (hc : l[i]? = some c) (hn : c ≠ 47) : UG l (i + 1) (cur ++ [c]) acc := by
  have hi : i < l.length := (List.getElem?_eq_some_iff.1 hc).1
  have he := h.1 (by omega)
  rw [drop_at hc, partsG_byte _ _ hn] at he
  exact ⟨fun _ => he, fun h => absurd h (by omega)⟩
theorem UG.sep {l : List UInt8} {i : Nat} {cur acc : List UInt8} (h : UG l i cur acc) (hi : i ≤ l.length) (hs : i = l.length ∨ l[i]? = some 47) :
    UG l (i + 1) [] (acc ++ (if cur = [46] then [] else cur)) := by
  have he := h.1 hi
  by_cases hl : i < l.length
  · have hs2 : l[i]? = some 47 := hs.resolve_left (by omega)
    rw [drop_at hs2, flat_sep, ← List.append_assoc] at he
    exact ⟨fun _ => he, fun h => absurd h (by omega)⟩
  · rw [List.drop_eq_nil_of_le (by omega), flat_end] at he
    exact ⟨fun h => absurd h (by omega), fun _ => he⟩
theorem UG.done {l : List UInt8} {i : Nat} {cur acc : List UInt8} (h : UG l i cur acc) (hi : l.length < i) : acc = flat (partsL l) := h.2 hi
end Go.V.Path
namespace Go.Proofs.Ytpfmhjokcpkliaa
open Go.RowKit Go.V Go.V.Path
theorem infoz5 : (Try.prog.info? 5).map (fun i => (i.zero, i.size, i.bytes)) = some (some (.int .u8 0), FU.s, 1) := by kernel_rfl
theorem row_string {w : World} {v : Value} {l : List UInt8} (h : RowG FU 5 w v l) : (convert 41 9 v).run Try.prog w = .ok (.string (bs l)) w := by
  have ho : Own w 0 5 v (l.map bv) := by
    unfold Own
    rw [List.length_map, ← FU.all_map]
    exact h
  exact run_bytes_string (P := Try.prog) 41 9 5 Try.underlying41 Try.underlying5 Try.underlying9 ho.reads
/-- two rows of bytes that the law has made -/
structure TwoR (w0 : World) (vp vw : Value) (cur acc : List UInt8) (wx : World) : Prop where
  p : RowG FU 5 wx vp cur
  w : RowG FU 5 wx vw acc
  fp : ∀ g, vp.ownBlock = some g → w0.heap.size ≤ g
  fw : ∀ g, vw.ownBlock = some g → w0.heap.size ≤ g
  ne : ∀ g, vp.ownBlock = some g → vw.ownBlock ≠ some g
  k : Keeps [] w0 wx
theorem TwoR.keep {w0 wx w' : World} {vp vw : Value} {cur acc : List UInt8} (h : TwoR w0 vp vw cur acc wx) (hk : Keeps [] wx w') : TwoR w0 vp vw cur acc w' :=
  ⟨h.p.keep hk (by simp), h.w.keep hk (by simp), h.fp, h.fw, h.ne, h.k.trans hk⟩
theorem TwoR.appP {w0 wx w' : World} {vp vp' vw : Value} {cur cur' acc : List UInt8} (h : TwoR w0 vp vw cur acc wx) (k1 : RowG FU 5 w' vp' cur') (k2 : ∀ g, vp'.ownBlock = some g → vp.ownBlock = some g ∨ wx.heap.size ≤ g) (k3 : wx.grownBy w' vp.ownBlock) :
    TwoR w0 vp' vw cur' acc w' := by
  have hk := keeps_grown (S := vp.ownBlock.toList) k3 (fun k hk => by rw [hk]; simp)
  refine ⟨k1, h.w.keep hk (fun x hx e => h.ne x (by simpa using hx) e), fun g hg => (k2 g hg).elim (h.fp g) (fun q => Nat.le_trans h.k.size q), h.fw, fun g hg e => ?_, h.k.trans' hk (fun x hx => Or.inr (h.fp x (by simpa using hx)))⟩
  rcases k2 g hg with q | q
  · exact h.ne g q e
  · have := h.w.lt e
    omega
theorem TwoR.appW {w0 wx w' : World} {vp vw vw' : Value} {cur acc acc' : List UInt8} (h : TwoR w0 vp vw cur acc wx) (k1 : RowG FU 5 w' vw' acc') (k2 : ∀ g, vw'.ownBlock = some g → vw.ownBlock = some g ∨ wx.heap.size ≤ g) (k3 : wx.grownBy w' vw.ownBlock) :
    TwoR w0 vp vw' cur acc' w' := by
  have hk := keeps_grown (S := vw.ownBlock.toList) k3 (fun k hk => by rw [hk]; simp)
  refine ⟨h.p.keep hk (fun x hx e => h.ne x e (by simpa using hx)), k1, h.fp, fun g hg => (k2 g hg).elim (h.fw g) (fun q => Nat.le_trans h.k.size q), fun g hg e => ?_, h.k.trans' hk (fun x hx => Or.inr (h.fw x (by simpa using hx)))⟩
  rcases k2 g e with q | q
  · exact h.ne g hg q
  · have := h.p.lt hg
    omega
theorem TwoR.newP {w0 wx : World} {vp vw : Value} {cur acc : List UInt8} (h : TwoR w0 vp vw cur acc wx) : TwoR w0 (.slice (some ⟨wx.heap.size, 0, none⟩) 0 0) vw [] acc (wx.alloc (.cells #[] 5)) := by
  have hk : Keeps [] wx (wx.alloc (.cells #[] 5)) := (Keeps.refl _ _).alloc _
  refine ⟨RowG.empty FU 5 wx, h.w.keep hk (by simp), fun g hg => ?_, h.fw, fun g hg e => ?_, h.k.trans hk⟩
  · simp only [Value.ownBlock, Option.some.injEq] at hg
    have := h.k.size
    omega
  · simp only [Value.ownBlock, Option.some.injEq] at hg
    have := h.w.lt e
    omega
theorem TwoR.start (w0 : World) : TwoR w0 (.slice (some ⟨w0.heap.size + 1, 0, none⟩) 0 0) (.slice (some ⟨w0.heap.size, 0, none⟩) 0 0) [] [] ((w0.alloc (.cells #[] 5)).alloc (.cells #[] 5)) := by
  have hk : Keeps [] w0 (w0.alloc (.cells #[] 5)) := (Keeps.refl _ _).alloc _
  have h : TwoR w0 (.slice none 0 0) (.slice (some ⟨w0.heap.size, 0, none⟩) 0 0) [] [] (w0.alloc (.cells #[] 5)) :=
    ⟨RowG.nil FU 5 _, RowG.empty FU 5 w0, fun g hg => (by cases hg), fun g hg => (by simp only [Value.ownBlock, Option.some.injEq] at hg; omega), fun g hg => (by cases hg), hk⟩
  have h2 := h.newP
  rwa [show (w0.alloc (.cells #[] 5)).heap.size = w0.heap.size + 1 from by show (w0.heap.push _).size = _; simp] at h2
section
variable {ops : Array Oper} {rest : List Oper} {o : Oper} {a : Act} {Q : Exit → Act → World → Prop} {w : World}
/-- 'append(s, text...)', s a row of bytes that the call has made -/
theorem vp_append_text (hgd : o.guard = none) (s x : Operand) (ho : o.op = .call { callee := .builtin .append, args := #[s, x], argTypes := #[41, 9] }) (W : World)
    (v : Value) (l : List UInt8) (hs : a.eval s = v) (hm : Made FU 5 W v l w) (t : List UInt8) (hx : a.eval x = .string (bs t)) (hb : l.length + t.length ≤ 140737488355328)
    (h : ∀ v' w', Made FU 5 W v' (l ++ t) w' → wpList Try.prog ops Q rest (a.put o.dst v') w') : wpList Try.prog ops Q (o :: rest) a w := by
  obtain ⟨i0, g1, g2, g3, g4⟩ : ∃ i0, Try.prog.info? 5 = some i0 ∧ i0.zero = some (.int .u8 0) ∧ i0.size = 1 ∧ i0.bytes = 1 := by
    have hi := infoz5
    cases hq : Try.prog.info? 5 with
    | none => rw [hq] at hi; cases hi
    | some i =>
      rw [hq] at hi
      simp only [Option.map_some, Option.some.injEq, Prod.mk.injEq] at hi
      exact ⟨i, rfl, hi.1, hi.2.1, hi.2.2⟩
  have hown : w.ownsRow W.heap.size 5 1 v l.length (FU.all l) := by
    obtain ⟨r1, r2⟩ := hm.1
    refine ⟨r1, ?_⟩
    rcases r2 with r2 | ⟨g, cap, cur, q1, _, q3⟩
    · exact Or.inl r2
    · exact Or.inr ⟨g, cap, cur, q1, hm.2.1 g (by rw [q1]; rfl), q3⟩
  have hsz := bs_size t
  refine Lib.wpList_append_own_string w hgd s x 41 9 ho W.heap.size 5 i0 Try.underlying41 Try.underlying9 g1 g2 g3 g4 v l.length (FU.all l) hs hown (bs t) hx (by unfold maxLen; omega) (by omega) hm.2.2.size ?_
  intro v' w' k1 k2 _
  have hcells : Lib.strCells (bs t) = FU.all t := by
    rw [FU.all_map]
    simp [Lib.strCells, bs, bv]
  rw [hcells, hsz] at k1
  have hrow : RowG FU 5 w' v' (l ++ t) := by
    unfold RowG
    rw [List.length_append, Form.all_append]
    obtain ⟨r1, r2⟩ := k1
    refine ⟨r1, ?_⟩
    rcases r2 with r2 | ⟨g, cap, cur, q1, _, q3⟩
    · exact Or.inl r2
    · exact Or.inr ⟨g, cap, cur, q1, Nat.zero_le _, q3⟩
  exact h v' w' ⟨hrow, fun g hg => (World.ownsRow.lt k1 g hg).1, hm.2.2.trans' (keeps_grown (S := v.ownBlock.toList) k2 (fun k hk => by rw [hk]; simp)) (fun x hx => Or.inr (hm.2.1 x (by simpa using hx)))⟩
end
end Go.Proofs.Ytpfmhjokcpkliaa
