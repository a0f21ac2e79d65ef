/-
  The reference: Last, walked.
-/
import Derived.Test.YtpfmhjokcpkliaaL13
namespace Go.Proofs.Ytpfmhjokcpkliaa
open Go.RowKit Go.V Go.V.Path
theorem not_own {n pb : Nat} (h : pb < n) : pb ∉ (Value.slice (some ⟨n, 0, none⟩) 0 0).ownBlock.toList := by
  simp [Value.ownBlock]
  omega
theorem app_own {w w2 w6 : World} {pb : Nat} {cells : Array Value} {v6 : Value} {l : List (List UInt8)} (hme : Made FB 9 w (.slice (some ⟨w2.heap.size, 0, none⟩) 0 0) [] (w2.alloc (.cells #[] 9)))
    (hpb : (w2.alloc (.cells #[] 9)).heap[pb]? = some (.cells cells 25 (0, 0))) (hlt : pb < w2.heap.size)
    (k1 : RowG FB 9 w6 v6 ([] ++ l)) (k2 : ∀ g, v6.ownBlock = some g → (Value.slice (some ⟨w2.heap.size, 0, none⟩) 0 0).ownBlock = some g ∨ (w2.alloc (.cells #[] 9)).heap.size ≤ g) (k3 : (w2.alloc (.cells #[] 9)).grownBy w6 (Value.slice (some ⟨w2.heap.size, 0, none⟩) 0 0).ownBlock) :
    ∃ pv M cv, v6 = .slice pv M cv ∧ Made FB 9 w v6 l w6 ∧ w6.heap[pb]? = some (.cells cells 25 (0, 0)) := by
  have hm6 := hme.app k1 k2 k3
  have hp6 := (keeps_grown (S := (Value.slice (some ⟨w2.heap.size, 0, none⟩) 0 0).ownBlock.toList) k3 (fun k hk => by rw [hk]; simp)).get hpb (not_own hlt)
  rw [List.nil_append] at hm6
  obtain ⟨pv, cv, hvv, _, _⟩ := hm6.1.value
  exact ⟨pv, _, cv, hvv, hm6, hp6⟩
set_option maxRecDepth 100000 in
set_option maxHeartbeats 4000000 in
theorem rlast_ok (v : Value) (ns : List (List UInt8)) (d : Bool) (w : World) (hv : SG FB w v ns) (hl : ns.length ≤ 1000) : Calls Try.prog 20 #[pathV v d] w (LastPost ns w) := by
  have hv2 := hv
  obtain ⟨p, c, rfl, hc, hc2, hv3⟩ := hv2
  obtain ⟨N, hN⟩ : ∃ N, N = ns.length := ⟨_, rfl⟩
  rw [← hN] at hv hl hc hv3 ⊢
  have HV := Lib.hid hv
  have HN := Lib.hid hN
  clear hv hN
  unfold pathV
  go_enter Try.func20, Try.ntmps20
  go_upto_region 1 with fail
  obtain ⟨w1, hw1⟩ : ∃ w1, w1 = w.alloc (.cells #[.slice p N c, .bool d] 25) := ⟨_, rfl⟩
  obtain ⟨cb, hcb⟩ : ∃ cb, cb = w.heap.size := ⟨_, rfl⟩
  obtain ⟨w2, hw2⟩ : ∃ w2, w2 = w1.alloc (.cells #[.slice none 0 0, .bool false] 25) := ⟨_, rfl⟩
  obtain ⟨pb, hpb⟩ : ∃ pb, pb = w1.heap.size := ⟨_, rfl⟩
  have hs1 : w1.heap.size = w.heap.size + 1 := by rw [hw1]; show (w.heap.push _).size = _; simp
  have hcbh : w2.heap[cb]? = some (.cells #[.slice p N c, .bool d] 25 (0, 0)) := by rw [hw2]; exact heap_alloc_ne w1 _ (by rw [hw1, hcb]; exact heap_alloc w _)
  have hpbh : w2.heap[pb]? = some (.cells #[.slice none 0 0, .bool false] 25 (0, 0)) := by rw [hw2, hpb]; exact heap_alloc w1 _
  have hk2 : Keeps [] w w2 := by rw [hw2, hw1]; exact ((Keeps.refl _ _).alloc _).alloc _
  have H2 := Lib.hid (And.intro hcbh (And.intro hpbh (And.intro hk2 (show w.heap.size ≤ pb by omega))))
  rw [show w.heap.size + 1 = pb by omega, ← hw1, ← hw2, ← hcb]
  clear hw1 hw2 hcb hpb hs1 hcbh hpbh hk2
  have hzz : ∀ w' : World, w'.heap[pb]? = some (.cells #[.slice none 0 0, .bool false] 25 (0, 0)) → ((w'.setCell ⟨pb, 0, none⟩ (.slice none 0 0)).setCell ⟨pb, 1, none⟩ (.bool false)).heap[pb]? = some (.cells #[.slice none 0 0, .bool false] 25 (0, 0)) ∧ Keeps [pb] w' ((w'.setCell ⟨pb, 0, none⟩ (.slice none 0 0)).setCell ⟨pb, 1, none⟩ (.bool false)) := fun w' hb =>
    ⟨heap_setCell (heap_setCell hb), ((Keeps.refl [pb] w').setCell (Or.inl (by simp)) _).setCell (Or.inl (by simp)) _⟩
  have HZ := Lib.hid (hzz w2 H2.out.2.1)
  clear hzz
  by_cases h0 : N = 0
  · have hb : lastB ns = false := by
      have : ns = [] := List.eq_nil_of_length_eq_zero (by rw [← HN.out]; exact h0)
      rw [this]; rfl
    have HB := Lib.hid hb
    clear hb
    have c0 : w2.cell? ⟨cb, 0, none⟩ = some (.slice p N c) := cell_of H2.out.1 rfl
    have p0 : w2.cell? ⟨pb, 0, none⟩ = some (.slice none 0 0) := cell_of H2.out.2.1 rfl
    have p1 : w2.cell? ⟨pb, 1, none⟩ = some (.bool false) := cell_of H2.out.2.1 rfl
    have z0 : w2.frozen? ⟨pb, 0, none⟩ = false := frozen_of 0 H2.out.2.1
    have z1 : w2.frozen? ⟨pb, 1, none⟩ = false := frozen_of 1 H2.out.2.1
    go_wp2
    (try simp only [Exit.inBlock, Exit.then])
    refine bodyPost_ret (results_ctt rfl rfl (load25 HZ.out.1)) rfl ?_
    refine ⟨.slice none 0 0, by rw [HB.out]; rfl, ?_⟩
    rw [HB.out]
    exact ⟨RowG.nil FB 9 _, fun x hx => (by cases hx), H2.out.2.2.1.trans' HZ.out.2 (fun z hz => Or.inr (by obtain rfl := List.mem_singleton.1 hz; exact H2.out.2.2.2))⟩
  · obtain ⟨x, hx⟩ : ∃ x, ns[N - 1]? = some x := ⟨_, List.getElem?_eq_getElem (by have := HN.out; omega)⟩
    have hlx : ns.getLast? = some x := by rw [List.getLast?_eq_getElem?, ← HN.out]; exact hx
    have d0 : w2.cell? ⟨cb, 0, none⟩ = some (.slice p N c) := cell_of H2.out.1 rfl
    obtain ⟨g, o, hp, hcell⟩ := hv3 (by omega)
    subst hp
    have hxs : ∀ w', Keeps [] w w' → w'.cell? ⟨g, o + (N - 1), none⟩ = some (.string (bs x)) := by
      intro w' hk
      have := (HV.out.keep hk (by simp)).item rfl hx (j := 0) (u := .string (bs x)) rfl
      rw [show o + (N - 1) * FB.s + 0 = o + (N - 1) from by show o + (N - 1) * 1 = _; rw [Nat.mul_one]] at this
      exact this
    have x2 := hxs w2 H2.out.2.2.1
    have p0 : w2.cell? ⟨pb, 0, none⟩ = some (.slice none 0 0) := cell_of H2.out.2.1 rfl
    have p1 : w2.cell? ⟨pb, 1, none⟩ = some (.bool false) := cell_of H2.out.2.1 rfl
    have z0 : w2.frozen? ⟨pb, 0, none⟩ = false := frozen_of 0 H2.out.2.1
    have z1 : w2.frozen? ⟨pb, 1, none⟩ = false := frozen_of 1 H2.out.2.1
    have hlt := bs_toList x
    have hni : (N : Int) - 1 = ((N - 1 : Nat) : Int) := by omega
    have hnn : ¬ ((N : Int) - 1 < 0) := by omega
    have HXS := Lib.hid hxs
    have hxs0 := x2
    have HLX := Lib.hid (And.intro hlx hx)
    clear hxs hlx hx
    cases h2 : (x == [46, 46]) with
    | true =>
      have h3 : (x == [46]) = false := by rw [beq_iff_eq.1 h2]; rfl
      have hb : lastB ns = false := by unfold lastB; rw [HLX.out.1]; simp [h2]
      have HB := Lib.hid hb
      clear hb
      go_wp2
      (try simp only [Exit.inBlock, Exit.then])
      refine bodyPost_ret (results_ctt rfl rfl (load25 HZ.out.1)) rfl ?_
      refine ⟨.slice none 0 0, by rw [HB.out]; rfl, ?_⟩
      rw [HB.out]
      exact ⟨RowG.nil FB 9 _, fun x hx => (by cases hx), H2.out.2.2.1.trans' HZ.out.2 (fun z hz => Or.inr (by obtain rfl := List.mem_singleton.1 hz; exact H2.out.2.2.2))⟩
    | false =>
      cases h3 : (x == [46]) with
      | true =>
        have hb : lastB ns = false := by unfold lastB; rw [HLX.out.1]; simp [h3]
        have HB := Lib.hid hb
        clear hb
        go_wp2
        (try simp only [Exit.inBlock, Exit.then])
        refine bodyPost_ret (results_ctt rfl rfl (load25 HZ.out.1)) rfl ?_
        refine ⟨.slice none 0 0, by rw [HB.out]; rfl, ?_⟩
        rw [HB.out]
        exact ⟨RowG.nil FB 9 _, fun x hx => (by cases hx), H2.out.2.2.1.trans' HZ.out.2 (fun z hz => Or.inr (by obtain rfl := List.mem_singleton.1 hz; exact H2.out.2.2.2))⟩
      | false =>
        have hb : lastB ns = true := by unfold lastB; rw [HLX.out.1]; simp [h2, h3]
        have HB := Lib.hid hb
        clear hb
        clear hnn
        have hcl : 0 < N := by omega
        have HX2 := Lib.hid (And.intro hxs0 hcl)
        go_upto_region 6 with fail
        have hme := (Made.empty FB 9 w2).from H2.out.2.2.1
        have HME := Lib.hid hme
        have hcbe := hme.2.2
        have d1 : (w2.alloc (.cells #[] 9)).cell? ⟨cb, 0, none⟩ = some (.slice (some ⟨g, o, none⟩) N c) := cell_of (((Keeps.refl [] w2).alloc _).get H2.out.1 (by simp)) rfl
        have hsgv := HV.out.keep hme.2.2 (by simp)
        have HSG := Lib.hid hsgv
        have HPB := Lib.hid (((Keeps.refl [] w2).alloc (.cells #[] 9)).get H2.out.2.1 (by simp))
        clear d0 x2 p0 p1 z0 z1 hlt h2 h3 hv3 hcell hme hcbe hsgv
        go_wp2_with (first | (refine vp_head_g (F := FB) (e := 9) rfl (.tmp 28) (.tmp 32) 23 rfl Try.underlying23 (by kernel_rfl) _ ns rfl HSG.out (N - 1) (by rw [← HN.out]; omega) rfl ?_; intro vh hh hho) | (refine vp_append_sg (F := FB) rfl (.tmp 26) (.tmp 33) 23 rfl (.string ByteArray.empty) 16 Try.underlying23 infoz9 rfl (by decide) _ [] rfl HME.out.1 _ (ns.take (N - 1)) rfl hh (by rw [List.length_take, ← HN.out, List.length_nil]; omega) (by rw [List.length_take, ← HN.out, List.length_nil]; omega) ?_; intro v6 w6 k1 k2 k3; obtain ⟨pv, M, cv, hvv, hm6, hp6⟩ := app_own HME.out HPB.out (lt_of_heap H2.out.2.1) k1 k2 k3; subst hvv; have HM6 := Lib.hid (And.intro hm6 hp6); have q0 : w6.cell? ⟨pb, 0, none⟩ = some (.slice none 0 0) := cell_of hp6 rfl; have q1 : w6.cell? ⟨pb, 1, none⟩ = some (.bool false) := cell_of hp6 rfl; have z0 : w6.frozen? ⟨pb, 0, none⟩ = false := frozen_of 0 hp6; have z1 : w6.frozen? ⟨pb, 1, none⟩ = false := frozen_of 1 hp6; clear k1 k2 k3 hm6 hp6 hh d1) | fail)
        (try simp only [Exit.inBlock, Exit.then])
        obtain ⟨hm6, hp6⟩ := HM6.out
        have hfin : ((w6.setCell ⟨pb, 0, none⟩ (.slice pv M cv)).setCell ⟨pb, 1, none⟩ (.bool true)).heap[pb]? = some (.cells #[.slice pv M cv, .bool true] 25 (0, 0)) := heap_setCell (heap_setCell hp6)
        have hkk : Keeps [pb] w6 ((w6.setCell ⟨pb, 0, none⟩ (.slice pv M cv)).setCell ⟨pb, 1, none⟩ (.bool true)) := ((Keeps.refl [pb] w6).setCell (Or.inl (by simp)) _).setCell (Or.inl (by simp)) _
        refine bodyPost_ret (results_ctt rfl rfl (load25 hfin)) rfl ?_
        have hdl : ns.dropLast = ns.take (N - 1) := by rw [List.dropLast_eq_take, ← HN.out]
        have hgl2 : ns.getLastD [] = x := by rw [List.getLastD_eq_getLast?, HLX.out.1]; rfl
        refine ⟨.slice pv M cv, by rw [HB.out, if_pos rfl, if_pos rfl, hgl2]; rfl, ?_⟩
        rw [HB.out, if_pos rfl, hdl]
        exact ⟨hm6.1.keep hkk (fun z hz => by obtain rfl := List.mem_singleton.1 hz; exact hm6.1.ne hp6 (by decide)), hm6.2.1, hm6.2.2.trans' hkk (fun z hz => Or.inr (by obtain rfl := List.mem_singleton.1 hz; exact H2.out.2.2.2))⟩
end Go.Proofs.Ytpfmhjokcpkliaa
