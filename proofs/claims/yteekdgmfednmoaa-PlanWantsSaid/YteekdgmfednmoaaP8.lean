/-
  plan.Order, walked.
-/
import Derived.Test.YteekdgmfednmoaaP7
namespace Go.Proofs.Yteekdgmfednmoaa
open Go.RowKit Go.V Go.V.Queue
section
variable {ops : Array Oper} {rest : List Oper} {o : Oper} {a : Act} {Q : Exit → Act → World → Prop} {w : World}
theorem vp_fm (hg : o.guard = none) (m x v : Operand) (hop : o.op = Op.mapUpdate 40 m x v) {mb : Nat} {f : Int → Bool} (hm : a.eval m = .map (some mb)) (k : Int) (hx : a.eval x = .int .i64 k) (b : Bool) (hv : a.eval v = .bool b) (h : FM w mb f)
    (hK : ∀ w', FM w' mb (fun j => if k = j then b else f j) → Keeps [mb] w w' → wpList Try.prog ops Q rest (a.put o.dst undef) w') : wpList Try.prog ops Q (o :: rest) a w := by
  obtain ⟨l, h1, h2⟩ := h
  refine vp_update hg m x v 40 hop 3 4 Try.underlying40 kI hm k hx b hv h1 ?_
  intro w' h3 h4
  refine hK w' ⟨_, h3, fun j => ?_⟩ h4
  rw [get_put]
  show _ = if k = j then b else f j
  by_cases e : k = j
  · rw [if_pos e, if_pos e]; rfl
  · rw [if_neg e, if_neg e]; exact h2 j
end
theorem infoz39 : (Try.prog.info? 39).map (fun i => (i.zero, i.size, i.bytes)) = some (some (.agg #[.int .i64 0, .int .i64 0, .bool false]), F3.s, 24) := by kernel_rfl
/-- the heap of wants, and which numbers are to be written -/
structure OA (w0 : World) (mb qb : Nat) (f : Int → Bool) (v : Value) (l : List It) (wx : World) : Prop where
  q : wx.heap[qb]? = some (.cells #[v] 43 (0, 0))
  row : RowG F3 39 wx v l
  map : FM wx mb f
  gq : w0.heap.size ≤ qb
  gm : w0.heap.size ≤ mb
  gv : ∀ g, v.ownBlock = some g → w0.heap.size ≤ g
  k : Keeps [] w0 wx
section
variable {w0 wx w' : World} {mb qb : Nat} {f f' : Int → Bool} {v v' : Value} {l l' : List It}
theorem _root_.Go.V.Queue.FM.apart (h : FM wx mb f) (hr : RowG F3 39 wx v l) : v.ownBlock ≠ some mb := by
  obtain ⟨m, h1, _⟩ := h
  exact hr.ne_map h1
theorem OA.ql (h : OA w0 mb qb f v l wx) (x : Value) : QL wx qb v x l := ⟨h.q, row_g.2 h.row⟩
theorem OA.nm (h : OA w0 mb qb f v l wx) : qb ≠ mb := h.map.ne_cells h.q
theorem OA.keep (h : OA w0 mb qb f v l wx) (hk : Keeps [] wx w') : OA w0 mb qb f v l w' :=
  ⟨hk.get h.q (by simp), h.row.keep hk (by simp), h.map.keep hk (by simp), h.gq, h.gm, h.gv, h.k.trans hk⟩
theorem OA.put (h : OA w0 mb qb f v l wx) (hm : FM w' mb f') (hk : Keeps [mb] wx w') : OA w0 mb qb f' v l w' :=
  ⟨hk.get h.q (by simp; exact h.nm), h.row.keep hk (fun x hx => by obtain rfl := List.mem_singleton.1 hx; exact h.map.apart h.row), hm, h.gq, h.gm, h.gv, h.k.trans' hk (fun x hx => Or.inr (by obtain rfl := List.mem_singleton.1 hx; exact h.gm))⟩
theorem OA.app (h : OA w0 mb qb f v l wx) (k1 : RowG F3 39 w' v' l') (k2 : ∀ g, v'.ownBlock = some g → v.ownBlock = some g ∨ wx.heap.size ≤ g) (k3 : wx.grownBy w' v.ownBlock) : OA w0 mb qb f v' l' (w'.setCell ⟨qb, 0, none⟩ v') ∧ w'.heap[qb]? = some (.cells #[v] 43 (0, 0)) := by
  have hk : Keeps v.ownBlock.toList wx w' := keeps_grown (S := v.ownBlock.toList) k3 (fun k hk => by rw [hk]; simp)
  have hq : w'.heap[qb]? = some (.cells #[v] 43 (0, 0)) := hk.get h.q (fun hx => h.row.ne h.q (by decide) (by simpa using hx))
  have hm : FM w' mb f := h.map.keep hk (fun hx => h.map.apart h.row (by simpa using hx))
  have hks : Keeps [qb] w' (w'.setCell ⟨qb, 0, none⟩ v') := (Keeps.refl _ _).setCell (Or.inl (by simp)) _
  refine ⟨⟨heap_setCell hq, k1.keep hks (fun x hx => by obtain rfl := List.mem_singleton.1 hx; exact k1.ne hq (by decide)), hm.keep hks (by simp; exact h.nm.symm), h.gq, h.gm, fun g hg => ?_, ?_⟩, hq⟩
  · rcases k2 g hg with q | q
    · exact h.gv g q
    · exact Nat.le_trans h.k.size q
  · exact (h.k.trans' hk (fun x hx => Or.inr (h.gv x (by simpa using hx)))).trans' hks (fun x hx => Or.inr (by obtain rfl := List.mem_singleton.1 hx; exact h.gq))
theorem OA.step {x : Value} (h : OA w0 mb qb f v l wx) (hq : QL w' qb v' x l') (hb : v'.ownBlock = v.ownBlock) (hk : Keeps (qb :: v.ownBlock.toList) wx w') : OA w0 mb qb f v' l' w' := by
  refine ⟨hq.1, row_g.1 hq.2, h.map.keep hk (fun hx => ?_), h.gq, h.gm, fun g hg => h.gv g (hb ▸ hg), h.k.trans' hk (fun x hx => Or.inr ?_)⟩
  · rcases List.mem_cons.1 hx with e | e
    · exact h.nm e.symm
    · exact h.map.apart h.row (by simpa using e)
  · rcases List.mem_cons.1 hx with e | e
    · rw [e]; exact h.gq
    · exact h.gv x (by simpa using e)
end
def O1 (w0 : World) (mb qb : Nat) (l : List It) (m : Nat) (vi : Value) (wx : World) : Prop :=
  ∃ (i : Nat) (v : Value), vi = .int .i64 i ∧ i + m = l.length ∧ OA w0 mb qb (wrB (l.take i)) v (l.take i) wx
def O2 (w0 : World) (mb qb : Nat) (l : List It) (wx : World) : Prop := ∃ v, OA w0 mb qb (wrB l) v l wx
def XW (x : It) (xb : Nat) (w : World) : Prop := w.heap[xb]? = some (.cells #[.int .i64 x.key, .int .i64 x.push, .bool x.n] 39 (0, 0))
structure OB (w0 : World) (mb qb mt : Nat) (f g : Int → Bool) (v va : Value) (l out : List It) (wx : World) : Prop where
  a : OA w0 mb qb f v l wx
  t : FM wx mt g
  o : RowG F3 39 wx va out
  ap : ∀ x, va.ownBlock = some x → v.ownBlock ≠ some x
  gt : w0.heap.size ≤ mt
  go : ∀ x, va.ownBlock = some x → w0.heap.size ≤ x
  ne : mt ≠ mb
section
variable {w0 wx w' : World} {mb qb mt : Nat} {f g g' : Int → Bool} {v v' va va' : Value} {l l' out out' : List It}
theorem OB.keep (h : OB w0 mb qb mt f g v va l out wx) (hk : Keeps [] wx w') : OB w0 mb qb mt f g v va l out w' :=
  ⟨h.a.keep hk, h.t.keep hk (by simp), h.o.keep hk (by simp), h.ap, h.gt, h.go, h.ne⟩
theorem OB.pop {x : Value} (h : OB w0 mb qb mt f g v va l out wx) (hq : QL w' qb v' x l') (hb : v'.ownBlock = v.ownBlock) (hk : Keeps (qb :: v.ownBlock.toList) wx w') : OB w0 mb qb mt f g v' va l' out w' := by
  refine ⟨h.a.step hq hb hk, h.t.keep hk (fun hx => ?_), h.o.keep hk (fun x hx e => ?_), fun x hx => by rw [hb]; exact h.ap x hx, h.gt, h.go, h.ne⟩
  · rcases List.mem_cons.1 hx with e | e
    · exact h.t.ne_cells h.a.q e.symm
    · exact h.t.apart h.a.row (by simpa using e)
  · rcases List.mem_cons.1 hx with e2 | e2
    · subst e2; exact h.o.ne h.a.q (by decide) e
    · exact h.ap x e (by simpa using e2)
theorem OB.put (h : OB w0 mb qb mt f g v va l out wx) (hm : FM w' mt g') (hk : Keeps [mt] wx w') : OB w0 mb qb mt f g' v va l out w' :=
  ⟨⟨hk.get h.a.q (by simp; exact h.t.ne_cells h.a.q), h.a.row.keep hk (fun x hx => by obtain rfl := List.mem_singleton.1 hx; exact h.t.apart h.a.row), h.a.map.keep hk (by simp; exact h.ne.symm), h.a.gq, h.a.gm, h.a.gv, h.a.k.trans' hk (fun x hx => Or.inr (by obtain rfl := List.mem_singleton.1 hx; exact h.gt))⟩,
    hm, h.o.keep hk (fun x hx => by obtain rfl := List.mem_singleton.1 hx; exact h.t.apart h.o), h.ap, h.gt, h.go, h.ne⟩
theorem OB.app (h : OB w0 mb qb mt f g v va l out wx) (k1 : RowG F3 39 w' va' out') (k2 : ∀ x, va'.ownBlock = some x → va.ownBlock = some x ∨ wx.heap.size ≤ x) (k3 : wx.grownBy w' va.ownBlock) : OB w0 mb qb mt f g v va' l out' w' := by
  have hk : Keeps va.ownBlock.toList wx w' := keeps_grown (S := va.ownBlock.toList) k3 (fun k hk => by rw [hk]; simp)
  refine ⟨⟨hk.get h.a.q (fun hx => h.o.ne h.a.q (by decide) (by simpa using hx)), h.a.row.keep hk (fun x hx e => h.ap x (by simpa using hx) e), h.a.map.keep hk (fun hx => h.a.map.apart h.o (by simpa using hx)), h.a.gq, h.a.gm, h.a.gv, h.a.k.trans' hk (fun x hx => Or.inr (h.go x (by simpa using hx)))⟩,
    h.t.keep hk (fun hx => h.t.apart h.o (by simpa using hx)), k1, fun x hx e => ?_, h.gt, fun x hx => ?_, h.ne⟩
  · rcases k2 x hx with q | q
    · exact h.ap x q e
    · have := h.a.row.lt e; omega
  · rcases k2 x hx with q | q
    · exact h.go x q
    · exact Nat.le_trans h.a.k.size q
theorem OB.touch {x : Nat} (h : OB w0 mb qb mt f g v va l out wx) (hk : Keeps [x] wx w') (e1 : qb ≠ x) (e2 : x ≠ mb) (e3 : x ≠ mt) (e4 : v.ownBlock ≠ some x) (e5 : va.ownBlock ≠ some x) (e6 : w0.heap.size ≤ x) : OB w0 mb qb mt f g v va l out w' :=
  ⟨⟨hk.get h.a.q (by simp; exact e1), h.a.row.keep hk (fun z hz => by obtain rfl := List.mem_singleton.1 hz; exact e4), h.a.map.keep hk (by simp; exact e2.symm), h.a.gq, h.a.gm, h.a.gv, h.a.k.trans' hk (fun z hz => Or.inr (by obtain rfl := List.mem_singleton.1 hz; exact e6))⟩,
    h.t.keep hk (by simp; exact e3.symm), h.o.keep hk (fun z hz => by obtain rfl := List.mem_singleton.1 hz; exact e5), h.ap, h.gt, h.go, h.ne⟩
end
def O3 (w0 : World) (mb qb mt : Nat) (l : List It) (m : Nat) (va : Value) (wx : World) : Prop :=
  ∃ (v : Value) (l' out : List It), l'.length = m ∧ m ≤ l.length ∧ out.length + m ≤ l.length ∧ OI l l' out ∧ OB w0 mb qb mt (wrB l) (hasB out) v va l' out wx
def OrdPost (l : List It) (w : World) (e : Ending) (w' : World) : Prop := ∃ va o, e = .returned va ∧ OrdP l o ∧ o.length ≤ l.length ∧ Made F3 39 w va o w'
set_option maxRecDepth 100000 in
set_option maxHeartbeats 4000000 in
theorem order_ok (A : Value) (l : List It) (w : World) (hA : SG F3 w A l) (hl : l.length ≤ 1000000) : Calls Try.prog 9 #[A] w (OrdPost l w) := by
  have hA2 := hA
  obtain ⟨p, cap, rfl, hcap, hc, _⟩ := hA2
  obtain ⟨N, hN⟩ : ∃ N, N = l.length := ⟨_, rfl⟩
  rw [← hN] at hcap hA hl ⊢
  have HA := Lib.hid hA
  have HN := Lib.hid hN
  clear hA hN
  have hmm := @run_makeMap Try.prog
  go_enter Try.func9, Try.ntmps9
  go_upto_region 2 with fail
  obtain ⟨w1, hw1⟩ : ∃ w1, w1 = w.alloc (.map #[] 0) := ⟨_, rfl⟩
  obtain ⟨mb, hmb⟩ : ∃ mb, mb = w.heap.size := ⟨_, rfl⟩
  have hk1 : Keeps [] w w1 := by rw [hw1]; exact (Keeps.refl _ _).alloc _
  have hfm : FM w1 mb (fun _ => false) := by rw [hw1, hmb]; exact FM.made w
  have H1 := Lib.hid (And.intro hk1 (And.intro hfm (show w.heap.size ≤ mb by omega)))
  rw [← hw1, ← hmb]
  clear hw1 hmb hk1 hfm
  go_upto_region 3 with fail
  obtain ⟨w2, hw2⟩ : ∃ w2, w2 = w1.alloc (.cells #[.slice none 0 0] 43) := ⟨_, rfl⟩
  obtain ⟨qb, hqb⟩ : ∃ qb, qb = w1.heap.size := ⟨_, rfl⟩
  obtain ⟨hk1, hfm, hm1⟩ := H1.out
  have hk2 : Keeps [] w1 w2 := by rw [hw2]; exact (Keeps.refl _ _).alloc _
  have HO := Lib.hid (show OA w mb qb (wrB (l.take 0)) (.slice none 0 0) (l.take 0) w2 from
    ⟨by rw [hw2, hqb]; exact heap_alloc w1 _, RowG.nil F3 39 w2, hfm.keep hk2 (by simp), by rw [hqb]; exact hk1.size, hm1, fun g hg => (by cases hg), hk1.trans hk2⟩)
  rw [← hw2, ← hqb]
  clear hw2 hqb hk1 hk2 hfm hm1 H1
  go_upto_block 0 with fail
  go_cut [] (fun wx => O2 w mb qb l wx)
  case first =>
    go_wp2_with fail
    go_loopg [13] N (fun m vi wx => O1 w mb qb l m vi wx)
    case atStart => exact ⟨0, _, rfl, by rw [← HN.out, Nat.zero_add], HO.out⟩
    case round =>
      obtain ⟨i, v, rfl, hi, ho⟩ := hrel
      rw [← HN.out] at hi
      clear HO
      by_cases hlt : i < N
      · obtain ⟨x, hx⟩ : ∃ x, l[i]? = some x := ⟨_, List.getElem?_eq_getElem (by rw [← HN.out]; exact hlt)⟩
        obtain ⟨b, off, cap', hv⟩ := HA.out.shape (by rw [← HN.out]; omega)
        simp only [Value.slice.injEq] at hv
        obtain ⟨rfl, hv1, hv2⟩ := hv
        clear hv1 hv2
        obtain ⟨xk, xp, xn⟩ := x
        have ha := HA.out.keep ho.k (by simp)
        have d0 : wr.cell? ⟨b, off + i * 3, none⟩ = some (.int .i64 xk) := ha.item rfl hx (j := 0) rfl
        have d1 : wr.cell? ⟨b, off + i * 3 + 1, none⟩ = some (.int .i64 xp) := ha.item rfl hx (j := 1) rfl
        have d2 : wr.cell? ⟨b, off + i * 3 + 2, none⟩ = some (.bool xn) := ha.item rfl hx (j := 2) rfl
        have htk : l.take (i + 1) = l.take i ++ [⟨xk, xp, xn⟩] := by rw [List.take_add_one, hx]; rfl
        have HT := Lib.hid htk
        have HO := Lib.hid ho
        have hal : (l.take i).length ≤ i := by rw [List.length_take]; omega
        clear ha hx htk ho
        go_upto_region 6 with fail
        obtain ⟨w4, hw4⟩ : ∃ w4, w4 = wr.alloc (.cells #[.int .i64 xk, .int .i64 xp, .bool xn] 39) := ⟨_, rfl⟩
        obtain ⟨xb, hxb⟩ : ∃ xb, xb = wr.heap.size := ⟨_, rfl⟩
        have hxa : XW ⟨xk, xp, xn⟩ xb w4 := by rw [hw4, hxb]; exact heap_alloc wr _
        have ho4 : OA w mb qb (wrB (l.take i)) v (l.take i) w4 := HO.out.keep (by rw [hw4]; exact (Keeps.refl _ _).alloc _)
        have hap : v.ownBlock ≠ some xb := fun h => by have := HO.out.row.lt h; omega
        rw [← hw4, ← hxb]
        clear hw4 hxb d0 d1 d2
        have c0 : w4.cell? ⟨xb, 0, none⟩ = some (.int .i64 xk) := cell_of hxa rfl
        have c1 : w4.cell? ⟨xb, 1, none⟩ = some (.int .i64 xp) := cell_of hxa rfl
        have c2 : w4.cell? ⟨xb, 2, none⟩ = some (.bool xn) := cell_of hxa rfl
        have hlk := ho4.map.lk xp
        obtain ⟨b0, hb0⟩ : ∃ b0, b0 = wrB (l.take i) xp := ⟨_, rfl⟩
        rw [← hb0] at hlk
        have hxm : xb ≠ mb := ho4.map.ne_cells hxa
        have HB0 := Lib.hid hb0
        have HX := Lib.hid (And.intro hxa (And.intro hap hxm))
        have HO4 := Lib.hid ho4
        clear hxa ho4 hap hb0 hxm HO
        have hfun : (fun j => if xp = j then (b0 || xn) else wrB (l.take i) j) = wrB (l.take (i + 1)) := by
          funext j
          rw [HT.out, wrB_append, show wrB [⟨xk, xp, xn⟩] j = (xp == j && xn) by simp [wrB]]
          by_cases e : xp = j
          · rw [if_pos e, ← e, ← HB0.out]; simp
          · rw [if_neg e]; simp [e]
        have HF := Lib.hid hfun
        clear hfun HB0
        go_cut [] (fun wx => OA w mb qb (wrB (l.take (i + 1))) v (l.take i) wx ∧ XW ⟨xk, xp, xn⟩ xb wx)
        case first =>
          cases b0 with
          | true =>
            go_wp2_with (first | (refine vp_fm rfl (.tmp 17) (.tmp 19) (.tmp 27) rfl rfl xp rfl true rfl HO4.out.map ?_; intro w5 hm5 hk5; have HM5 := Lib.hid (And.intro hm5 hk5); clear hm5 hk5 hlk c0 c1 c2) | fail)
            go_meet
            case rel =>
              obtain ⟨hm5, hk5⟩ := HM5.out
              have hf := HF.out
              rw [Bool.true_or] at hf
              rw [hf] at hm5
              exact ⟨HO4.out.put hm5 hk5, hk5.get HX.out.1 (by simp; exact HX.out.2.2)⟩
          | false =>
            go_wp2_with (first | (refine vp_fm rfl (.tmp 17) (.tmp 19) (.tmp 27) rfl rfl xp rfl xn rfl HO4.out.map ?_; intro w5 hm5 hk5; have HM5 := Lib.hid (And.intro hm5 hk5); clear hm5 hk5 hlk c0 c1 c2) | fail)
            go_meet
            case rel =>
              obtain ⟨hm5, hk5⟩ := HM5.out
              have hf := HF.out
              rw [Bool.false_or] at hf
              rw [hf] at hm5
              exact ⟨HO4.out.put hm5 hk5, hk5.get HX.out.1 (by simp; exact HX.out.2.2)⟩
        case rest =>
        obtain ⟨ho5, hx5⟩ := hcut
        clear c0 c1 c2 hlk HO4 HX HF
        have c0 : wc.cell? ⟨xb, 0, none⟩ = some (.int .i64 xk) := cell_of hx5 rfl
        have c1 : wc.cell? ⟨xb, 1, none⟩ = some (.int .i64 xp) := cell_of hx5 rfl
        have c2 : wc.cell? ⟨xb, 2, none⟩ = some (.bool xn) := cell_of hx5 rfl
        obtain ⟨lt, hlt2⟩ : ∃ lt, lt = l.take i := ⟨_, rfl⟩
        rw [← hlt2] at ho5 hal
        have HO5 := Lib.hid ho5
        have HLT := Lib.hid hlt2
        obtain ⟨pv, cv, hv, _, _⟩ := ho5.row.value
        subst hv
        have cq : wc.cell? ⟨qb, 0, none⟩ = some (.slice pv lt.length cv) := cell_of ho5.q rfl
        clear hx5 ho5 hlt2
        go_wp2_with (first | (refine vp_append_g (F := F3) rfl (.tmp 28) (.tmp 30) 43 rfl (.agg #[.int .i64 0, .int .i64 0, .bool false]) 24 Try.underlying43 infoz39 rfl (by decide) _ lt rfl (HO5.out.row.keep ((Keeps.refl [] wc).alloc _) (by simp)) ⟨wc.heap.size, 0, none⟩ 1 1 [⟨xk, xp, xn⟩] rfl rfl (by intro j u hj; rw [add_none, Nat.zero_add]; exact cell_of (heap_alloc wc _) (by simpa [F3, It.cells, Form.all] using hj)) (by omega) (by omega) ?_; intro v6 w6 k1 k2 k3; have HM6 := Lib.hid ((HO5.out.keep ((Keeps.refl [] wc).alloc _)).app k1 k2 k3); obtain ⟨p6, c6, hv6, _, _⟩ := k1.value; subst hv6; have cq6 : w6.cell? ⟨qb, 0, none⟩ = some (.slice pv lt.length cv) := cell_of HM6.out.2 rfl; have fq6 : w6.frozen? ⟨qb, 0, none⟩ = false := frozen_of 0 HM6.out.2; clear k1 k2 k3 c0 c1 c2 cq) | fail)
        go_roundg (gk - 1)
        case measure => omega
        case rel =>
          have hm6 := HM6.out.1
          have ht := HT.out
          rw [← HLT.out] at ht
          have hlen : (lt ++ [(⟨xk, xp, xn⟩ : It)]).length = lt.length + 1 := by simp
          rw [hlen, ht] at hm6
          refine ⟨i + 1, .slice p6 (lt.length + 1) c6, by push_cast; rfl, by rw [← HN.out]; omega, ?_⟩
          rw [ht]
          exact hm6
      · have hiN : i = N := by omega
        have htk : l.take i = l := List.take_of_length_le (by rw [← HN.out]; omega)
        rw [htk] at ho
        have HO2 := Lib.hid ho
        clear htk ho hiN
        go_wp2
        go_meet
        case rel => exact ⟨v, HO2.out⟩
  case rest =>
    obtain ⟨v, ho⟩ := hcut
    have HO2 := Lib.hid ho
    clear HO ho
    have hi := hinit_ok qb v (.bool false) l wc (HO2.out.ql _) (by rw [← HN.out]; exact hl)
    have HI := Lib.hid hi
    clear hi
    unfold IF at HI
    go_wp2_with fail
    refine HI.out.mono ?_
    rintro e w3 ⟨rfl, q1, q2⟩
    have ho3 := HO2.out.step q1 rfl (q2.mono (fun z hz => List.mem_cons_of_mem _ hz))
    have hih := init_heap (n := l.length) rfl (l.length / 2) (by omega) l rfl (fun c h1 h2 h3 => by omega)
    have hil := length_initL l.length (l.length / 2) l
    obtain ⟨h1, hh1⟩ : ∃ h1, h1 = initL l.length (l.length / 2) l := ⟨_, rfl⟩
    rw [← hh1] at hih hil ho3
    have hoi : OI l h1 [] := OI.start (by rw [hil]; exact hih.1) hih.2
    have H3 := Lib.hid (And.intro ho3 (And.intro hoi hil))
    clear q1 q2 hih hil hh1 ho3 hoi HI HO2
    go_upto_region 11 with fail
    obtain ⟨w4, hw4⟩ : ∃ w4, w4 = w3.alloc (.map #[] 0) := ⟨_, rfl⟩
    obtain ⟨mt, hmt⟩ : ∃ mt, mt = w3.heap.size := ⟨_, rfl⟩
    have hk4 : Keeps [] w3 w4 := by rw [hw4]; exact (Keeps.refl _ _).alloc _
    have hfm : FM w4 mt (fun _ => false) := by rw [hw4, hmt]; exact FM.made w3
    have HB := Lib.hid (show OB w mb qb mt (wrB l) (hasB []) v (.slice none 0 0) h1 [] w4 from
      ⟨H3.out.1.keep hk4, hfm, RowG.nil F3 39 w4, fun x hx => (by cases hx), by rw [hmt]; exact H3.out.1.k.size, fun x hx => (by cases hx), fun e => by have := H3.out.1.map.lt; omega⟩)
    have HOI := Lib.hid H3.out.2
    rw [← hw4, ← hmt]
    clear hw4 hmt hk4 hfm H3
    go_upto_block 2 with fail
    go_cut [8] (fun va wx => ∃ v', ∃ out, OI l [] out ∧ out.length ≤ l.length ∧ OB w mb qb mt (wrB l) (hasB out) v' va [] out wx)
    case first =>
      go_wp2_with fail
      go_loopg [8] N (fun m va wx => O3 w mb qb mt l m va wx)
      case atStart => exact ⟨v, h1, [], by rw [HOI.out.2, HN.out], by rw [← HN.out]; exact Nat.le_refl _, by rw [← HN.out]; simp, HOI.out.1, HB.out⟩
      case round =>
        obtain ⟨v, l', out, hl', hml, hol, hoi, hob⟩ := hrel
        rw [← HN.out] at hml hol
        have HOI2 := Lib.hid hoi
        have HB2 := Lib.hid hob
        clear HB HOI hoi
        obtain ⟨pv, cv, hv, _, _⟩ := hob.a.row.value
        rw [hl'] at hv
        subst hv
        have cq : wr.cell? ⟨qb, 0, none⟩ = some (.slice pv gk cv) := cell_of hob.a.q rfl
        obtain ⟨po, co, hvo, _, _⟩ := hob.o.value
        obtain ⟨no, hno⟩ : ∃ no, no = out.length := ⟨_, rfl⟩
        rw [← hno] at hvo hol
        subst hvo
        have HNO := Lib.hid hno
        have HL := Lib.hid (len_ok pv gk cv wr)
        have HLL := Lib.hid hl'
        clear hob hno hl'
        go_wp2_with fail
        refine HL.out.mono ?_
        rintro e w' ⟨rfl, rfl⟩
        by_cases h0 : gk = 0
        · subst h0
          have HL0 := Lib.hid (List.eq_nil_of_length_eq_zero HLL.out)
          clear HL
          go_wp2
          go_meet
          case rel =>
            have h1 := HOI2.out
            have h2 := HB2.out
            rw [HL0.out] at h1 h2
            exact ⟨_, out, h1, by rw [← HNO.out, ← HN.out]; exact hol, h2⟩
        · obtain ⟨M, hM⟩ : ∃ M, gk = M + 1 := ⟨gk - 1, by omega⟩
          subst hM
          have hp := hpop_ok qb (.slice pv (M + 1) cv) (.bool false) l' wr (HB2.out.a.ql _) (by rw [HLL.out]; omega) (by rw [HLL.out]; omega)
          have HP := Lib.hid hp
          clear hp HL cq
          unfold IF at HP
          go_wp2_with fail
          refine HP.out.mono ?_
          rintro e w5 ⟨rfl, v', r1, r2, r3⟩
          have hb5 := HB2.out.pop r2 r1 r3
          obtain ⟨i1, i2, i3, i4⟩ := HOI2.out.pop HLL.out
          rw [HLL.out, Nat.add_sub_cancel] at hb5
          obtain ⟨l5, hl5⟩ : ∃ l5, l5 = (popL l').take M := ⟨_, rfl⟩
          obtain ⟨y, hy⟩ : ∃ y, y = at_ l' 0 := ⟨_, rfl⟩
          have hpy : at_ (popL l') (l'.length - 1) = y := by rw [HLL.out, Nat.add_sub_cancel, i3, hy]
          rw [hpy]
          rw [← hl5] at hb5 i4
          have HL5 := Lib.hid (And.intro hl5 (And.intro hy i4))
          have HB5 := Lib.hid hb5
          obtain ⟨yk, yp, yn⟩ := y
          unfold It.val
          have hta : ∀ w, (Instr.typeAssert (.iface 39 (.agg #[.int .i64 yk, .int .i64 yp, .bool yn])) 20 39 false).run Try.prog w = .ok (.agg #[.int .i64 yk, .int .i64 yp, .bool yn]) w := fun w => by kernel_rfl
          clear r1 r2 r3 i1 i2 i3 i4 hl5 hy hpy hb5 HP
          go_upto_region 14 with fail
          obtain ⟨w6, hw6⟩ : ∃ w6, w6 = w5.alloc (.cells #[.int .i64 yk, .int .i64 yp, .bool yn] 39) := ⟨_, rfl⟩
          obtain ⟨xb, hxb⟩ : ∃ xb, xb = w5.heap.size := ⟨_, rfl⟩
          have hxa : XW ⟨yk, yp, yn⟩ xb w6 := by rw [hw6, hxb]; exact heap_alloc w5 _
          have hb6 := HB5.out.keep (show Keeps [] w5 w6 by rw [hw6]; exact (Keeps.refl _ _).alloc _)
          have hap : v'.ownBlock ≠ some xb := fun h => by have := HB5.out.a.row.lt h; omega
          have hap2 : (Value.slice po no co).ownBlock ≠ some xb := fun h => by have := HB5.out.o.lt h; omega
          have hap3 : xb ≠ mb := hb6.a.map.ne_cells hxa
          have hap4 : xb ≠ mt := hb6.t.ne_cells hxa
          have hap5 : w.heap.size ≤ xb := by rw [hxb]; exact HB5.out.a.k.size
          have hap6 : qb ≠ xb := fun h => by have := lt_of_heap HB5.out.a.q; omega
          rw [← hw6, ← hxb]
          clear hw6 hxb
          obtain ⟨tk, htk⟩ : ∃ tk, tk = hasB out yp := ⟨_, rfl⟩
          have hlk := hb6.t.lk yp
          rw [← htk] at hlk
          have c1 : w6.cell? ⟨xb, 1, none⟩ = some (.int .i64 yp) := cell_of hxa rfl
          have HB6 := Lib.hid hb6
          have HX := Lib.hid (And.intro hxa (And.intro hap (And.intro hap2 (And.intro hap3 (And.intro hap4 (And.intro hap5 hap6))))))
          have HTK := Lib.hid htk
          clear hxa hb6 hap hap2 hap3 hap4 hap5 hap6 htk hta HB5 HB2
          cases tk with
          | true =>
            go_wp2
            go_roundg M
            case measure => omega
            case rel =>
              have hsk := HOI2.out.skip HLL.out (by rw [← HL5.out.2.1]; exact HTK.out.symm)
              rw [← HL5.out.1] at hsk
              exact ⟨v', l5, out, HL5.out.2.2, by rw [← HN.out]; omega, by rw [← HNO.out, ← HN.out]; omega, hsk, HB6.out⟩
          | false =>
            go_upto_region 16 with (first | (refine vp_fm rfl (.tmp 46) (.tmp 48) (.const (.bool true)) rfl rfl yp rfl true rfl HB6.out.t ?_; intro w7 hm7 hk7; have HM7 := Lib.hid (And.intro hm7 hk7); clear hm7 hk7 hlk c1) | fail)
            obtain ⟨hm7, hk7⟩ := HM7.out
            obtain ⟨hxa, hap, hap2, hap3, hap4, hap5, hap6⟩ := HX.out
            have hb7 := HB6.out.put hm7 hk7
            have hx7 : XW ⟨yk, yp, yn⟩ xb w7 := hk7.get hxa (by simp; exact hap4)
            have c1 : w7.cell? ⟨xb, 1, none⟩ = some (.int .i64 yp) := cell_of hx7 rfl
            have c2 : w7.cell? ⟨xb, 2, none⟩ = some (.bool yn) := cell_of hx7 rfl
            have f2 : w7.frozen? ⟨xb, 2, none⟩ = false := frozen_of 2 hx7
            obtain ⟨bw, hbw⟩ : ∃ bw, bw = wrB l yp := ⟨_, rfl⟩
            have hlk := hb7.a.map.lk yp
            rw [← hbw] at hlk
            have HBW := Lib.hid hbw
            have HB7 := Lib.hid (And.intro hb7 hx7)
            clear hm7 hk7 hb7 hx7 hbw HM7 HB6 HX hxa
            go_upto_region 17 with fail
            obtain ⟨w8, hw8⟩ : ∃ w8, w8 = w7.setCell ⟨xb, 2, none⟩ (.bool bw) := ⟨_, rfl⟩
            rw [← hw8]
            have hks : Keeps [xb] w7 w8 := by rw [hw8]; exact (Keeps.refl _ _).setCell (Or.inl (by simp)) _
            have hx8 : XW ⟨yk, yp, bw⟩ xb w8 := by rw [hw8]; exact heap_setCell HB7.out.2
            have hb8 := HB7.out.1.touch hks hap6 hap3 hap4 hap hap2 hap5
            have c0 : w8.cell? ⟨xb, 0, none⟩ = some (.int .i64 yk) := cell_of hx8 rfl
            have c1 : w8.cell? ⟨xb, 1, none⟩ = some (.int .i64 yp) := cell_of hx8 rfl
            have c2 : w8.cell? ⟨xb, 2, none⟩ = some (.bool bw) := cell_of hx8 rfl
            have HB8 := Lib.hid hb8
            obtain ⟨LO, hLO⟩ : ∃ LO, LO = out := ⟨_, rfl⟩
            clear hw8 hks hx8 hb8 hap hap2 hap3 hap4 hap5 hap6 HB7 hlk f2
            go_wp2_with (first | (refine vp_append_g (F := F3) rfl (.tmp 54) (.tmp 56) 22 rfl (.agg #[.int .i64 0, .int .i64 0, .bool false]) 24 Try.underlying22 infoz39 rfl (by decide) _ out rfl (HB8.out.o.keep ((Keeps.refl [] w8).alloc _) (by simp)) ⟨w8.heap.size, 0, none⟩ 1 1 [⟨yk, yp, bw⟩] rfl rfl (by intro j u hj; rw [add_none, Nat.zero_add]; exact cell_of (heap_alloc w8 _) (by simpa [F3, It.cells, Form.all] using hj)) (by rw [← HNO.out]; omega) (by rw [← HNO.out]; omega) ?_; intro v9 w9 k1 k2 k3; have HB9 := Lib.hid ((HB8.out.keep ((Keeps.refl [] w8).alloc _)).app k1 k2 k3); clear k1 k2 k3 c0 c1 c2) | fail)
            go_roundg M
            case measure => omega
            case rel =>
              have hsk := HOI2.out.take HLL.out (by rw [← HL5.out.2.1]; exact HTK.out.symm)
              rw [← HL5.out.1, ← HL5.out.2.1] at hsk
              simp only at hsk
              rw [← HBW.out] at hsk
              have hfun : (fun j => if yp = j then true else hasB out j) = hasB (out ++ [(⟨yk, yp, bw⟩ : It)]) := by
                funext j
                rw [hasB_append, show hasB [(⟨yk, yp, bw⟩ : It)] j = (yp == j) by simp [hasB]]
                by_cases e : yp = j
                · rw [if_pos e, e]; simp
                · rw [if_neg e]; simp [e]
              have hb9 := HB9.out
              rw [hfun] at hb9
              exact ⟨v', l5, _, HL5.out.2.2, by rw [← HN.out]; omega, by rw [List.length_append, ← HNO.out, ← HN.out]; simp; omega, hsk, hb9⟩
    case rest =>
      obtain ⟨v', out, hoi, hol, hob⟩ := hcut
      have HB2 := Lib.hid (And.intro hoi (And.intro hol hob))
      clear HB HOI hoi hol hob
      go_wp2
      go_ret
      obtain ⟨hoi, hol, hob⟩ := HB2.out
      exact ⟨_, out, rfl, hoi.done, hol, hob.o, hob.go, hob.a.k⟩
end Go.Proofs.Yteekdgmfednmoaa
