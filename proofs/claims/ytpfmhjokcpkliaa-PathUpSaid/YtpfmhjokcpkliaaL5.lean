/-
  path.Last, walked.
-/
import Derived.Test.YtpfmhjokcpkliaaL4
import Derived.Test.YtpfmhjokcpkliaaV10
namespace Go.V.Path
open Go Go.V
/-- whether a path has a last name that is one -/
def lastB (ns : List (List UInt8)) : Bool := match ns.getLast? with
  | none => false
  | some x => !(x == [46, 46]) && !(x == [46])
end Go.V.Path
namespace Go.Proofs.Ytpfmhjokcpkliaa
open Go.RowKit Go.V Go.V.Path
theorem results_ctt {fn : Func} {a u u2 : Tmp} {t : TypeId} {tmps : Array Value} {P : Program} {w : World} {b : Nat} {v : Value} (h : fn.results = #[.cell a t, .tmp u, .tmp u2]) (hp : tmps.getD a undef = .pointer (some ⟨b, 0, none⟩)) (hl : (loadVar t ⟨b, 0, none⟩).run P w = .ok v w) :
    (results fn tmps).run P w = .ok (.tuple #[v, tmps.getD u undef, tmps.getD u2 undef]) w := by
  rw [Array.getD_eq_getD_getElem?] at hp
  simp [results, h, hp, asAddr, hl]
def LastPost (ns : List (List UInt8)) (w : World) (e : Ending) (w' : World) : Prop :=
  ∃ va, e = .returned (.tuple #[pathV va (lastB ns), .string (if lastB ns = true then bs (ns.getLastD []) else bs []), .int .i64 (if lastB ns = true then 0 else 16)]) ∧ Made FB 9 w va (if lastB ns = true then ns.dropLast else []) w'
theorem clone_ok (v : Value) (ns : List (List UInt8)) (w : World) (hv : SG FB w v ns) (hl : ns.length ≤ 1000) : Calls Try.prog 31 #[v] w (fun e w' => ∃ va, e = .returned va ∧ Made FB 9 w va ns w') := by
  obtain ⟨p, c, rfl, hc, hc2, hr⟩ := hv
  have made : ∀ {v' : Value} {w' : World} {ms : List (List UInt8)} {n : Nat}, ms.length = n → w'.ownsRow w.heap.size 9 1 v' n (ms.map (fun l => Value.string (bs l))) → Below w.heap.size w w' → Made FB 9 w v' ms w' := by
    intro v' w' ms n hn hrow hb
    have hall : ∀ ms : List (List UInt8), FB.all ms = ms.map (fun l => Value.string (bs l)) := by
      intro ms
      induction ms with
      | nil => rfl
      | cons x ms ih => rw [FB.all_cons, ih]; rfl
    subst hn
    refine ⟨?_, fun g hg => (World.ownsRow.lt hrow g hg).1, below_keeps hb⟩
    unfold RowG
    rw [hall]
    obtain ⟨k2, k3⟩ := hrow
    refine ⟨k2, ?_⟩
    rcases k3 with k3 | ⟨g, cap, cur, q1, _, q3⟩
    · exact Or.inl k3
    · exact Or.inr ⟨g, cap, cur, q1, Nat.zero_le _, q3⟩
  cases p with
  | none =>
    have h0 : ¬ 0 < ns.length := fun h0 => by obtain ⟨_, _, hp, _⟩ := hr h0; cases hp
    have hn : ns = [] := List.eq_nil_of_length_eq_zero (by omega)
    subst hn
    refine (Try.slices_Clone_string_nil 0 c w).mono ?_
    rintro e w' ⟨rfl, rfl⟩
    exact ⟨_, rfl, Made.nil FB 9 _⟩
  | some a =>
    by_cases h0 : 0 < ns.length
    · obtain ⟨b, o, hp, hx⟩ := hr h0
      simp only [Option.some.injEq] at hp
      subst hp
      have hmap : (ns.map bs).length = ns.length := List.length_map ..
      refine (Try.slices_Clone_string b o ns.length c (ns.map bs) w (by rw [hmap]; exact Nat.le_refl _) (by omega) (fun j hj => ?_)).mono ?_
      · rw [hmap] at hj
        refine hx j _ ?_
        obtain ⟨y, hy⟩ : ∃ y, ns[j]? = some y := ⟨_, List.getElem?_eq_getElem hj⟩
        have := FB.all_get ns j 0 y hy (by decide)
        rw [show j * FB.s + 0 = j from Nat.mul_one j] at this
        rw [this, List.getD_eq_getElem?_getD, List.getElem?_map, hy]
        rfl
      · rintro e w' ⟨v', rfl, h1, _, h2⟩
        refine ⟨v', rfl, made (n := ns.length) rfl ?_ h2⟩
        rw [← hmap, List.take_length, List.map_map, hmap] at h1
        exact h1
    · have hn : ns = [] := List.eq_nil_of_length_eq_zero (by omega)
      subst hn
      refine (Try.slices_Clone_string_zero a c w).mono ?_
      rintro e w' ⟨v', rfl, h1, _, h2⟩
      exact ⟨v', rfl, made (n := 0) rfl h1 h2⟩
theorem keeps_get {w w' : World} {b : Nat} {o : Obj} (h : w.heap[b]? = some o) (hk : Keeps [] w w') : w'.heap[b]? = some o := hk.get h (by simp)
set_option maxRecDepth 100000 in
set_option maxHeartbeats 4000000 in
theorem last_ok (v : Value) (ns : List (List UInt8)) (d : Bool) (w : World) (hv : SG FB w v ns) (hl : ns.length ≤ 1000) : Calls Try.prog 19 #[pathV v d] w (LastPost ns w) := by
  have hv2 := hv
  obtain ⟨p, c, rfl, hc, hc2, hv3⟩ := hv2
  obtain ⟨N, hN⟩ : ∃ N, N = ns.length := ⟨_, rfl⟩
  rw [← hN] at hv hl hc hv3 ⊢
  have HV := Lib.hid hv
  have HN := Lib.hid hN
  clear hv hN
  unfold pathV
  go_enter Try.func19, Try.ntmps19
  go_upto_region 1 with fail
  obtain ⟨w1, hw1⟩ : ∃ w1, w1 = w.alloc (.cells #[.slice p N c, .bool d] 25) := ⟨_, rfl⟩
  obtain ⟨cb, hcb⟩ : ∃ cb, cb = w.heap.size := ⟨_, rfl⟩
  obtain ⟨w2, hw2⟩ : ∃ w2, w2 = w1.alloc (.cells #[.slice none 0 0, .bool false] 25) := ⟨_, rfl⟩
  obtain ⟨pb, hpb⟩ : ∃ pb, pb = w1.heap.size := ⟨_, rfl⟩
  have hs1 : w1.heap.size = w.heap.size + 1 := by rw [hw1]; show (w.heap.push _).size = _; simp
  have hcbh : w2.heap[cb]? = some (.cells #[.slice p N c, .bool d] 25 (0, 0)) := by rw [hw2]; exact heap_alloc_ne w1 _ (by rw [hw1, hcb]; exact heap_alloc w _)
  have hpbh : w2.heap[pb]? = some (.cells #[.slice none 0 0, .bool false] 25 (0, 0)) := by rw [hw2, hpb]; exact heap_alloc w1 _
  have hk2 : Keeps [] w w2 := by rw [hw2, hw1]; exact ((Keeps.refl _ _).alloc _).alloc _
  have H2 := Lib.hid (And.intro hcbh (And.intro hpbh (And.intro hk2 (show w.heap.size ≤ pb by omega))))
  rw [show w.heap.size + 1 = pb by omega, ← hw1, ← hw2, ← hcb]
  clear hw1 hw2 hcb hpb hs1 hcbh hpbh hk2
  have hzz : ∀ w' : World, w'.heap[pb]? = some (.cells #[.slice none 0 0, .bool false] 25 (0, 0)) → ((w'.setCell ⟨pb, 0, none⟩ (.slice none 0 0)).setCell ⟨pb, 1, none⟩ (.bool false)).heap[pb]? = some (.cells #[.slice none 0 0, .bool false] 25 (0, 0)) ∧ Keeps [pb] w' ((w'.setCell ⟨pb, 0, none⟩ (.slice none 0 0)).setCell ⟨pb, 1, none⟩ (.bool false)) := fun w' hb =>
    ⟨heap_setCell (heap_setCell hb), ((Keeps.refl [pb] w').setCell (Or.inl (by simp)) _).setCell (Or.inl (by simp)) _⟩
  have HZ := Lib.hid (hzz w2 H2.out.2.1)
  clear hzz
  by_cases h0 : N = 0
  · have hb : lastB ns = false := by
      have : ns = [] := List.eq_nil_of_length_eq_zero (by rw [← HN.out]; exact h0)
      rw [this]; rfl
    have HB := Lib.hid hb
    clear hb
    have c0 : w2.cell? ⟨cb, 0, none⟩ = some (.slice p N c) := cell_of H2.out.1 rfl
    have p0 : w2.cell? ⟨pb, 0, none⟩ = some (.slice none 0 0) := cell_of H2.out.2.1 rfl
    have p1 : w2.cell? ⟨pb, 1, none⟩ = some (.bool false) := cell_of H2.out.2.1 rfl
    have z0 : w2.frozen? ⟨pb, 0, none⟩ = false := frozen_of 0 H2.out.2.1
    have z1 : w2.frozen? ⟨pb, 1, none⟩ = false := frozen_of 1 H2.out.2.1
    go_wp2
    (try simp only [Exit.inBlock, Exit.then])
    refine bodyPost_ret (results_ctt rfl rfl (load25 HZ.out.1)) rfl ?_
    refine ⟨.slice none 0 0, by rw [HB.out]; rfl, ?_⟩
    rw [HB.out]
    exact ⟨RowG.nil FB 9 _, fun x hx => (by cases hx), H2.out.2.2.1.trans' HZ.out.2 (fun z hz => Or.inr (by obtain rfl := List.mem_singleton.1 hz; exact H2.out.2.2.2))⟩
  · obtain ⟨x, hx⟩ : ∃ x, ns[N - 1]? = some x := ⟨_, List.getElem?_eq_getElem (by have := HN.out; omega)⟩
    have hlx : ns.getLast? = some x := by rw [List.getLast?_eq_getElem?, ← HN.out]; exact hx
    have d0 : w2.cell? ⟨cb, 0, none⟩ = some (.slice p N c) := cell_of H2.out.1 rfl
    obtain ⟨g, o, hp, hcell⟩ := hv3 (by omega)
    subst hp
    have hxs : ∀ w', Keeps [] w w' → w'.cell? ⟨g, o + (N - 1), none⟩ = some (.string (bs x)) := by
      intro w' hk
      have := (HV.out.keep hk (by simp)).item rfl hx (j := 0) (u := .string (bs x)) rfl
      rw [show o + (N - 1) * FB.s + 0 = o + (N - 1) from by show o + (N - 1) * 1 = _; rw [Nat.mul_one]] at this
      exact this
    have x2 := hxs w2 H2.out.2.2.1
    have p0 : w2.cell? ⟨pb, 0, none⟩ = some (.slice none 0 0) := cell_of H2.out.2.1 rfl
    have p1 : w2.cell? ⟨pb, 1, none⟩ = some (.bool false) := cell_of H2.out.2.1 rfl
    have z0 : w2.frozen? ⟨pb, 0, none⟩ = false := frozen_of 0 H2.out.2.1
    have z1 : w2.frozen? ⟨pb, 1, none⟩ = false := frozen_of 1 H2.out.2.1
    have hlt := bs_toList x
    have hni : (N : Int) - 1 = ((N - 1 : Nat) : Int) := by omega
    have hnn : ¬ ((N : Int) - 1 < 0) := by omega
    have HXS := Lib.hid hxs
    have HLX := Lib.hid (And.intro hlx hx)
    clear hxs hlx hx
    cases h2 : (x == [46, 46]) with
    | true =>
      have hb : lastB ns = false := by unfold lastB; rw [HLX.out.1]; simp [h2]
      have HB := Lib.hid hb
      clear hb
      go_wp2
      (try simp only [Exit.inBlock, Exit.then])
      refine bodyPost_ret (results_ctt rfl rfl (load25 HZ.out.1)) rfl ?_
      refine ⟨.slice none 0 0, by rw [HB.out]; rfl, ?_⟩
      rw [HB.out]
      exact ⟨RowG.nil FB 9 _, fun x hx => (by cases hx), H2.out.2.2.1.trans' HZ.out.2 (fun z hz => Or.inr (by obtain rfl := List.mem_singleton.1 hz; exact H2.out.2.2.2))⟩
    | false =>
      cases h3 : (x == [46]) with
      | true =>
        have hb : lastB ns = false := by unfold lastB; rw [HLX.out.1]; simp [h3]
        have HB := Lib.hid hb
        clear hb
        go_wp2
        (try simp only [Exit.inBlock, Exit.then])
        refine bodyPost_ret (results_ctt rfl rfl (load25 HZ.out.1)) rfl ?_
        refine ⟨.slice none 0 0, by rw [HB.out]; rfl, ?_⟩
        rw [HB.out]
        exact ⟨RowG.nil FB 9 _, fun x hx => (by cases hx), H2.out.2.2.1.trans' HZ.out.2 (fun z hz => Or.inr (by obtain rfl := List.mem_singleton.1 hz; exact H2.out.2.2.2))⟩
      | false =>
        have hb : lastB ns = true := by unfold lastB; rw [HLX.out.1]; simp [h2, h3]
        have HB := Lib.hid hb
        clear hb
        go_upto_region 4 with fail
        have hcl : 0 < N := by omega
        have hgl : g < w.heap.size := by
          obtain ⟨b', hb', hlt'⟩ := SG.fresh (F := FB) (by decide) HV.out (by rw [← HN.out]; exact hcl)
          simp only [Value.ownBlock, Option.some.injEq] at hb'
          omega
        have hcp : cb ≠ pb := fun e => by
          have h1 := H2.out.1
          rw [e, H2.out.2.1] at h1
          simp only [Option.some.injEq, Obj.cells.injEq] at h1
          cases h1.1
        obtain ⟨hv', hsl, hsg', hso⟩ := slice_head_g (P := Try.prog) Try.underlying23 (by kernel_rfl) HV.out (N - 1) (by rw [← HN.out]; omega)
        have HSL := Lib.hid hsl
        have HSG := Lib.hid hsg'
        have HGP := Lib.hid (show g ≠ pb by have := H2.out.2.2.2; omega)
        have HCP := Lib.hid hcp
        clear d0 x2 p0 p1 z0 z1 hlt hnn h2 h3 hv3 hcell hsl hsg' hso hcp hgl
        refine vp_region (fun w' => Keeps [pb] w2 w') [(0, true), (1, true), (2, true), (3, true), (6, true), (7, true), (8, true), (9, true), (10, true), (4, false), (5, true), (11, false), (12, true), (13, true)] (by kernel_rfl) (by kernel_rfl) (by intro _ d _ _ _ h; cases d <;> exact h) ((Keeps.refl _ _).drew) ?_
        intro w4 hw4
        simp only [pick, List.map_cons, List.map_nil, List.getD_cons_zero, List.getD_cons_succ]
        repeat
          refine ord_free rfl (v := ?_) ?_ ?_
          rotate_left
          · intro w' hw'
            have d0 : w'.cell? ⟨cb, 0, none⟩ = some (.slice (some ⟨g, o, none⟩) N c) := cell_of (hw'.get H2.out.1 (by simp; exact HCP.out)) rfl
            go_simp
            with_reducible rfl
          simp only [Act.put, List.setIfInBounds_toArray, List.set_cons_zero, List.set_cons_succ]
        refine ord_head rfl (.tmp 30) (.tmp 31) 23 rfl rfl rfl HSL.out ?_
        simp only [Act.put, List.setIfInBounds_toArray, List.set_cons_zero, List.set_cons_succ]
        repeat
          refine ord_free rfl (v := ?_) ?_ ?_
          rotate_left
          · intro w' hw'
            have d0 : w'.cell? ⟨cb, 0, none⟩ = some (.slice (some ⟨g, o, none⟩) N c) := cell_of (hw'.get H2.out.1 (by simp; exact HCP.out)) rfl
            have x2 : w'.cell? ⟨g, o + (N - 1), none⟩ = some (.string (bs x)) := (World.cell?_of_block (hw'.block g (Go.block_lt_of_cell (HXS.out w2 H2.out.2.2.1)) (by simp; exact HGP.out))).trans (HXS.out w2 H2.out.2.2.1)
            go_simp
            with_reducible rfl
          simp only [Act.put, List.setIfInBounds_toArray, List.set_cons_zero, List.set_cons_succ]
        have hk4 : Keeps [] w w4 := by rw [hw4]; exact H2.out.2.2.1.drew
        have hpb4 : w4.heap[pb]? = some (.cells #[.slice none 0 0, .bool false] 25 (0, 0)) := by rw [hw4]; exact H2.out.2.1
        have HD4 := Lib.hid (show Keeps [pb] w2 w4 by rw [hw4]; exact (Keeps.refl _ _).drew)
        clear hw4
        refine ord_eff ?_
        go_wp2_with fail
        rename_i KK hKK
        refine (clone_ok hv' (ns.take (N - 1)) w4 (HSG.out w4 (HV.out.keep hk4 (by simp))) (by rw [List.length_take, ← HN.out]; omega)).mono ?_
        rintro e w5 ⟨va, rfl, hva⟩
        refine hKK _ _ ?_
        have hp5 := hva.2.2.get hpb4 (by simp)
        have HVA := Lib.hid (And.intro hva (And.intro hp5 (hk4.trans hva.2.2)))
        refine ord_next (HD4.out.trans (hva.2.2.mono (by simp))) ?_
        obtain ⟨pv, cv, hvv, _, _⟩ := hva.1.value
        obtain ⟨M, hM⟩ : ∃ M, M = (ns.take (N - 1)).length := ⟨_, rfl⟩
        rw [← hM] at hvv
        clear hM
        subst hvv
        clear hKK hva hpb4 hk4
        refine ord_free rfl (v := ?_) ?_ ?_
        rotate_left
        · intro w' hw'
          go_simp
          with_reducible rfl
        simp only [Act.put, List.setIfInBounds_toArray, List.set_cons_zero, List.set_cons_succ]
        have p0 : w5.cell? ⟨pb, 0, none⟩ = some (.slice none 0 0) := cell_of HVA.out.2.1 rfl
        have p1 : w5.cell? ⟨pb, 1, none⟩ = some (.bool false) := cell_of HVA.out.2.1 rfl
        have z0 : w5.frozen? ⟨pb, 0, none⟩ = false := frozen_of 0 HVA.out.2.1
        have z1 : w5.frozen? ⟨pb, 1, none⟩ = false := frozen_of 1 HVA.out.2.1
        obtain ⟨w6, hw6⟩ : ∃ w6, w6 = (w5.setCell ⟨pb, 0, none⟩ (.slice pv M cv)).setCell ⟨pb, 1, none⟩ (.bool true) := ⟨_, rfl⟩
        have hk6 : Keeps [pb] w5 w6 := by rw [hw6]; exact ((Keeps.refl [pb] w5).setCell (Or.inl (by simp)) _).setCell (Or.inl (by simp)) _
        have hp6 : w6.heap[pb]? = some (.cells #[.slice pv M cv, .bool true] 25 (0, 0)) := by rw [hw6]; exact heap_setCell (heap_setCell HVA.out.2.1)
        have HW6 := Lib.hid (And.intro hw6 (And.intro hk6 hp6))
        clear hw6 hk6 hp6 hp5
        refine ord_eff ?_
        go_wp2_with fail
        rw [← HW6.out.1]
        have hd6 : Keeps [pb] w2 w6 := (HD4.out.trans (HVA.out.1.2.2.mono (by simp))).trans HW6.out.2.1
        refine ⟨hd6, ?_⟩
        repeat
          refine ord_free rfl (v := ?_) ?_ ?_
          rotate_left
          · intro w' hw'
            go_simp
            with_reducible rfl
          simp only [Act.put, List.setIfInBounds_toArray, List.set_cons_zero, List.set_cons_succ]
        refine ord_nil ?_
        go_wp2
        (try simp only [Exit.inBlock, Exit.then])
        refine bodyPost_ret (results_ctt rfl rfl (load25 HW6.out.2.2)) rfl ?_
        have hdl : ns.dropLast = ns.take (N - 1) := by rw [List.dropLast_eq_take, ← HN.out]
        have hgl2 : ns.getLastD [] = x := by rw [List.getLastD_eq_getLast?, HLX.out.1]; rfl
        refine ⟨.slice pv M cv, by rw [HB.out, if_pos rfl, if_pos rfl, hgl2]; rfl, ?_⟩
        rw [HB.out, if_pos rfl, hdl]
        obtain ⟨hva, hp5, hk5⟩ := HVA.out
        exact ⟨hva.1.keep HW6.out.2.1 (fun z hz => by obtain rfl := List.mem_singleton.1 hz; exact hva.1.ne hp5 (by decide)), fun z hz => Nat.le_trans (Nat.le_trans H2.out.2.2.1.size HD4.out.size) (hva.2.1 z hz), hk5.trans' HW6.out.2.1 (fun z hz => Or.inr (by obtain rfl := List.mem_singleton.1 hz; exact H2.out.2.2.2))⟩
end Go.Proofs.Ytpfmhjokcpkliaa
