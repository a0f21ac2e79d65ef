/-
  QueuePeeks' walk.
-/
import Derived.Test.YtginbdgoijeeoaaQ22
namespace Go.Proofs.Ytginbdgoijeeoaa
open Go.RowKit Go.V Go.V.Queue
def PR (W : World) (qb mb : Nat) (u : Int) (va : Value) (wx : World) : Prop :=
  ∃ (v : Value) (p : Int) (r : List Pr), va = .int .i64 r.length ∧ p ≤ u ∧ PQ W qb v p r mb wx
def PR1 (W : World) (qb mb : Nat) (n k : Nat) (va vi : Value) (wx : World) : Prop :=
  ∃ i : Nat, vi = .int .i64 i ∧ i ≤ n ∧ i ≤ 200 ∧ n - i ≤ k ∧ PR W qb mb i va wx
/-- behind the switch -/
def PR2 (W : World) (qb mb xb : Nat) (kd ky nn : Int) (u : Int) (va : Value) (wx : World) : Prop :=
  ∃ (v : Value) (p : Int) (r : List Pr), va = .int .i64 r.length ∧ p ≤ u ∧ PQ W qb v p r mb wx ∧ XA kd ky nn xb wx
/-- what a drawn region reads -/
def DS (xb mb : Nat) (kd ky nn c : Int) (w : World) : Prop := XA kd ky nn xb w ∧ (Instr.lookup 43 (.map (some mb)) (.int .i64 nn) false).run Try.prog w = .ok (.int .i64 c) w
set_option maxRecDepth 100000 in
set_option maxHeartbeats 4000000 in
theorem peeks_any (A : Value) (acts : List ActV) (W : World) (hA : SliceOf 3 ActOk W A acts) : Calls Try.prog 6 #[A] W (Tells (.bool true) W) := by
  obtain ⟨p, cap, rfl, hcap, hc, hr⟩ := hA
  obtain ⟨n, hn⟩ : ∃ n, n = acts.length := ⟨_, rfl⟩
  have HR := Lib.hid hr
  have HN := Lib.hid hn
  rw [← hn] at hcap ⊢
  clear hr hn
  go_enter Try.func6, Try.ntmps6
  go_wp2_with fail
  refine (awake_ok _).mono ?_
  rintro e w1 ⟨rfl, hk1⟩
  go_wp2_with fail
  refine (qs_new hk1).mono ?_
  rintro e w2 ⟨qb, hqb, rfl, hq2, hk2⟩
  have H2 := Lib.hid hq2
  clear hqb hk2 hk1 hq2
  unfold P
  have hmm := @run_makeMap Try.prog
  go_upto_region 5 with fail
  obtain ⟨wm, hwm⟩ : ∃ wm, wm = w2.alloc (.map #[] 0) := ⟨_, rfl⟩
  obtain ⟨mb, hmb⟩ : ∃ mb, mb = w2.heap.size := ⟨_, rfl⟩
  have HO := Lib.hid (show PR W qb mb 0 (.int .i64 0) wm from
    ⟨_, 0, [], rfl, by omega, by rw [hwm]; exact H2.out.keep ((Keeps.refl [] _).alloc _) (by simp) (by simp), ⟨[], by rw [hwm, hmb]; exact MapAt.made w2 keyI keyI, fun k => rfl⟩, by rw [hmb]; exact H2.out.keeps.size⟩)
  rw [← hwm, ← hmb]
  clear hwm hmb hmm H2
  go_upto_block 0 with fail
  go_wp2_with fail
  go_loopg [5, 6] n (fun k va vi wx => PR1 W qb mb n k va vi wx)
  case atStart => exact ⟨0, rfl, Nat.zero_le _, by omega, by omega, HO.out⟩
  case round =>
    obtain ⟨i, rfl, hin, hi2, hik, v, p1, r, rfl, hp1, hq⟩ := hrel
    clear HO
    have HQ := Lib.hid hq
    have hrl := hq.1.len
    obtain ⟨m, hm⟩ : ∃ m, m = r.length := ⟨_, rfl⟩
    rw [← hm] at hrl ⊢
    have hmb2 : m ≤ 200 := by omega
    have HM := Lib.hid hm
    clear hm hrl
    by_cases hlt : i < n ∧ i < 200
    · obtain ⟨hi1, hi3⟩ := hlt
      obtain ⟨x, hx⟩ : ∃ x, acts[i]? = some x := ⟨_, List.getElem?_eq_getElem (by rw [← HN.out]; exact hi1)⟩
      obtain ⟨b, o, rfl, hb, he⟩ := HR.out (by rw [← HN.out]; omega)
      obtain ⟨cs, hcs, hra, hok⟩ := he i x hx
      obtain ⟨kd, ky, nn⟩ := x
      unfold ActOk at hok
      subst hok
      have hra1 := hra.keep hq.1.keeps (by simp)
      have c0 : wr.cell? ⟨b, o + i * 3, none⟩ = some (.int .i64 kd) := hra1 0 _ rfl
      have c1 : wr.cell? ⟨b, o + i * 3 + 1, none⟩ = some (.int .i64 ky) := hra1 1 _ rfl
      have c2 : wr.cell? ⟨b, o + i * 3 + 2, none⟩ = some (.int .i64 nn) := hra1 2 _ rfl
      clear hra1 hb he hx hra hcs hq
      go_upto_region 10 with fail
      obtain ⟨w4, hw4⟩ : ∃ w4, w4 = wr.alloc (.cells #[.int .i64 kd, .int .i64 ky, .int .i64 nn] 31) := ⟨_, rfl⟩
      obtain ⟨xb, hxb⟩ : ∃ xb, xb = wr.heap.size := ⟨_, rfl⟩
      have hxa : XA kd ky nn xb w4 := by rw [hw4, hxb]; exact heap_alloc wr _
      have hq4 : PQ W qb v p1 r mb w4 := HQ.out.keep (by rw [hw4]; exact (Keeps.refl _ _).alloc _)
      have hap : xb ∉ Foot qb v := fun h => by have := HQ.out.1.lt _ h; omega
      have hap2 : xb ≠ mb := fun h => by have := HQ.out.2.1.lt; omega
      have HX := Lib.hid hxa
      have HQ4 := Lib.hid hq4
      have HAP := Lib.hid (And.intro hap hap2)
      rw [← hw4, ← hxb]
      clear hw4 hxb hap hap2 hq4 hxa HQ c0 c1 c2
      have c0 := HX.out.c0
      have c1 := HX.out.c1
      have c2 := HX.out.c2
      go_upto_block 2 with fail
      go_cut [5] (fun va wx => PR2 W qb mb xb kd ky nn (i + 1) va wx)
      case first =>
        by_cases hkd : kd = 0
        · subst hkd
          have HC := Lib.hid (qs_push HQ4.out.1 (by omega) ky nn)
          unfold P at *
          go_wp2_with fail
          refine HC.out.mono ?_
          rintro e w5 ⟨rfl, hd⟩
          obtain ⟨v1', hq5, hkf, hff⟩ := hd
          have hx5 := HX.out.keep hkf HAP.out.1
          have hm5 := HQ4.out.2.1.keep hkf HQ4.out.ne
          have hne5 : mb ∉ Foot qb v1' := by obtain ⟨m, h, _⟩ := hm5; exact hq5.ne_map h
          obtain ⟨many, hmm, hcn⟩ := hm5
          have hlk := Many.lk ⟨many, hmm, hcn⟩ nn
          obtain ⟨c, hc0⟩ : ∃ c, c = cnt nn r := ⟨_, rfl⟩
          have hcb := cnt_bound nn r
          rw [← hc0] at hlk hcb
          have hcb1 : 0 ≤ c := hcb.1
          have hcb2 : c ≤ 200 := by have := HM.out; omega
          have HQ5 := Lib.hid (And.intro hq5 (And.intro hx5 (And.intro hne5 (And.intro hcn (And.intro hc0 hmm)))))
          clear hcb c0 c1 c2 hkf hff HC HX hq5 hne5 hcn hc0
          have c1 := hx5.c1
          have c2 := hx5.c2
          clear hx5
          go_wp2_with (first | (refine vp_update rfl (.tmp 42) (.tmp 44) (.tmp 46) 43 rfl 3 3 Try.underlying43 kI rfl nn rfl (c + 1) rfl HQ5.out.2.2.2.2.2 ?_; intro w6 hm6 hk6; have HM6 := Lib.hid (And.intro hm6 hk6); clear hm6 hk6 hlk c1 c2 hmm) | fail)
          go_meet
          case rel =>
            obtain ⟨hq5, hx5, hne5, hcn, hc0, hmm⟩ := HQ5.out
            obtain ⟨hm6, hk6⟩ := HM6.out
            refine ⟨v1', p1 + 1, insP (ky, nn) r, by rw [length_insP, ← HM.out]; push_cast; rfl, by omega, ⟨hq5.keep hk6 (fun z hz => ?_) (fun z hz => ?_), ⟨_, hm6, fun k => ?_⟩, HQ4.out.2.2⟩, hx5.keep hk6 (by simp; exact HAP.out.2)⟩
            · obtain rfl := List.mem_singleton.1 hz; exact hne5
            · obtain rfl := List.mem_singleton.1 hz; exact HQ4.out.2.2
            · rw [get_put, cnt_ins]
              by_cases e : nn = k
              · rw [if_pos e, if_pos e, ← e, ← hc0]; rfl
              · rw [if_neg e, if_neg e]; exact hcn k
        · by_cases hkd1 : kd = 1
          · subst hkd1
            have hpk := qs_peek HQ4.out.1
            unfold PeekP at hpk
            cases r with
            | nil =>
              have hm0 : m = 0 := HM.out
              subst hm0
              rw [show tk [] = 0 from rfl, show tn [] = 0 from rfl, show tb [] = false from rfl] at hpk
              have HC := Lib.hid hpk
              clear hpk
              unfold P at *
              go_wp2_with fail
              refine HC.out.mono ?_
              rintro e w5 ⟨rfl, nq, rfl⟩
              have hq5 := HQ4.out.keep ((Keeps.refl [] w4).drewN nq)
              have hpo := qs_pop hq5.1 (by omega)
              unfold PopP at hpo
              rw [show tk [] = 0 from rfl, show tn [] = 0 from rfl, show tb [] = false from rfl] at hpo
              have HC2 := Lib.hid hpo
              have HQ5 := Lib.hid hq5
              clear hpo hq5 HC
              unfold P at *
              go_wp2_with fail
              refine HC2.out.mono ?_
              rintro e w6 ⟨rfl, v', hq6, hkf, hff⟩
              have HR6 := Lib.hid (show PR2 W qb mb xb 1 ky nn (i + 1) (.int .i64 ((0 : Nat) : Int)) w6 from
                ⟨v', p1, [], rfl, by omega, ⟨hq6, HQ5.out.2.1.keep hkf HQ5.out.ne, HQ5.out.2.2⟩, (HX.out.keep ((Keeps.refl [] w4).drewN nq) (by simp)).keep hkf HAP.out.1⟩)
              clear hq6 hkf hff HC2 HQ5 c0 c1 c2
              go_wp2
              go_meet
              case rel => exact HR6.out
            | cons x r =>
              obtain ⟨a, b⟩ := x
              have hm0 : m = r.length + 1 := HM.out
              rw [show tk ((a, b) :: r) = a from rfl, show tn ((a, b) :: r) = b from rfl, show tb ((a, b) :: r) = true from rfl] at hpk
              have HC := Lib.hid hpk
              have e1 : (a != a) = false := by simp
              have e2 : (b != b) = false := by simp
              have e3 : (0 : Int) < (m : Int) := by omega
              have e4 : (!decide (0 < m)) = false := by rw [decide_eq_true (show 0 < m by omega)]; rfl
              have HM0 := Lib.hid hm0
              clear hpk hm0
              unfold P at *
              go_wp2_with fail
              refine HC.out.mono ?_
              rintro e w5 ⟨rfl, nq, rfl⟩
              have hq5 := HQ4.out.keep ((Keeps.refl [] w4).drewN nq)
              have hpo := qs_pop hq5.1 (by omega)
              unfold PopP at hpo
              rw [show tk ((a, b) :: r) = a from rfl, show tn ((a, b) :: r) = b from rfl, show tb ((a, b) :: r) = true from rfl] at hpo
              have HC2 := Lib.hid hpo
              have HQ5 := Lib.hid hq5
              clear hpo hq5 HC
              unfold P at *
              go_wp2_with fail
              refine HC2.out.mono ?_
              rintro e w6 ⟨rfl, v', hq6, hkf, hff⟩
              have hm6 := HQ5.out.2.1.keep hkf HQ5.out.ne
              have hne6 : mb ∉ Foot qb v' := by obtain ⟨m, h, _⟩ := hm6; exact hq6.ne_map h
              have hx6 := (HX.out.keep ((Keeps.refl [] w4).drewN nq) (by simp)).keep hkf HAP.out.1
              have hlk := hm6.lk b
              obtain ⟨c, hc0⟩ : ∃ c, c = cnt b ((a, b) :: r) := ⟨_, rfl⟩
              have hcb := cnt_bound b ((a, b) :: r)
              rw [← hc0] at hlk hcb
              have hcb1 : 0 ≤ c := hcb.1
              have hcb2 : c ≤ 200 := by have := HM.out; omega
              obtain ⟨many, hmm, hcn⟩ := hm6
              have HQ6 := Lib.hid (And.intro hq6 (And.intro hx6 (And.intro hne6 (And.intro hcn (And.intro hc0 hmm)))))
              clear hcb hkf hff HC2 hq6 hne6 hcn hc0 hx6 c0 c1 c2
              go_wp2_with (first | (refine vp_update rfl (.tmp 83) (.tmp 84) (.tmp 86) 43 rfl 3 3 Try.underlying43 kI rfl b rfl (c - 1) rfl HQ6.out.2.2.2.2.2 ?_; intro w7 hm7 hk7; have HM7 := Lib.hid (And.intro hm7 hk7); clear hm7 hk7 hlk hmm) | fail)
              go_meet
              case rel =>
                obtain ⟨hq6, hx6, hne6, hcn, hc0, hmm⟩ := HQ6.out
                obtain ⟨hm7, hk7⟩ := HM7.out
                refine ⟨v', p1, r, by rw [HM0.out]; push_cast; rw [Int.add_sub_cancel], by omega, ⟨hq6.keep hk7 (fun z hz => ?_) (fun z hz => ?_), ⟨_, hm7, fun k => ?_⟩, HQ4.out.2.2⟩, hx6.keep hk7 (by simp; exact HAP.out.2)⟩
                · obtain rfl := List.mem_singleton.1 hz; exact hne6
                · obtain rfl := List.mem_singleton.1 hz; exact HQ4.out.2.2
                · rw [get_put]
                  have := hcn k
                  rw [cnt_cons] at this hc0
                  rw [if_pos rfl] at hc0
                  by_cases e : b = k
                  · rw [if_pos e, ← e]
                    show c - 1 = cnt b r
                    omega
                  · rw [if_neg e]
                    rw [if_neg e] at this
                    exact this
          · by_cases hkd2 : kd = 2
            · subst hkd2
              obtain ⟨c, hc0⟩ : ∃ c, c = cnt nn r := ⟨_, rfl⟩
              have hdr := qs_drop (HQ4.out.keep ((Keeps.refl [] w4).drew)).1 (by omega) nn
              unfold DropP at hdr
              rw [cnt_many, ← hc0] at hdr
              have hlk := HQ4.out.2.1.lk nn
              have hcb := cnt_bound nn r
              have hcm := cnt_many nn r
              rw [← hc0] at hlk hcb hcm
              have hcb1 : 0 ≤ c := hcb.1
              have hcb2 : c ≤ m := by have := HM.out; omega
              have HC := Lib.hid hdr
              have hds : DS xb mb 2 ky nn c w4.drew := ⟨HX.out.keep ((Keeps.refl [] w4).drew) (by simp), by have := (HQ4.out.2.1.keep ((Keeps.refl [] w4).drew) (by simp)).lk nn; rw [← hc0] at this; exact this⟩
              have HDS := Lib.hid hds
              have HCC := Lib.hid (And.intro hc0 hcm)
              have hcc : (c != c) = false := by simp
              clear hdr hlk hcb hds hc0 hcm c0 c1 c2
              have c0 := HX.out.c0
              unfold P at *
              go_upto_region 24 with fail
              clear c0
              refine vp_region (DS xb mb 2 ky nn c) [(0, true), (1, true), (2, true), (4, true), (5, true), (6, true), (7, true), (3, false), (8, true)] (by kernel_rfl) (by kernel_rfl) (by intro _ d _ _ _ h; cases d <;> exact h) HDS.out ?_
              intro w5 hw5
              simp only [pick, List.map_cons, List.map_nil, List.getD_cons_zero, List.getD_cons_succ]
              repeat
                refine ord_free rfl (v := ?_) ?_ ?_
                rotate_left
                · intro w' hw'
                  obtain ⟨hx', hlk'⟩ := hw'
                  have c2 := hx'.c2
                  go_simp
                  with_reducible rfl
                simp only [Act.put, List.setIfInBounds_toArray, List.set_cons_zero, List.set_cons_succ]
              subst hw5
              refine ord_eff ?_
              go_wp2_with fail
              rename_i KK hKK
              refine HC.out.mono ?_
              rintro e w5 ⟨rfl, v', hq5, hkf, hff⟩
              refine hKK _ _ ?_
              have hkf' : Keeps (Foot qb v) w4 w5 := Keeps.mk hkf.os hkf.tape hkf.output hkf.size hkf.block
              have hx5 := HX.out.keep hkf' HAP.out.1
              have hm5 := HQ4.out.2.1.keep hkf' HQ4.out.ne
              have hne5 : mb ∉ Foot qb v' := by obtain ⟨m, h, _⟩ := hm5; exact hq5.ne_map h
              have hlk5 := hm5.lk nn
              rw [← HCC.out.1] at hlk5
              refine ord_next (show DS xb mb 2 ky nn c w5 from ⟨hx5, hlk5⟩) ?_
              obtain ⟨many, hmm, hcn⟩ := hm5
              have HQ5 := Lib.hid (And.intro hq5 (And.intro hx5 (And.intro hne5 (And.intro hcn hmm))))
              have c2 := hx5.c2
              clear hq5 hkf hff hkf' hx5 hne5 hcn hmm HC hKK KK HDS
              try simp only [Act.put, List.setIfInBounds_toArray, List.set_cons_zero, List.set_cons_succ]
              refine ord_free rfl (v := ?_) ?_ ?_
              rotate_left
              · intro w' hw'
                go_simp
                with_reducible rfl
              simp only [Act.put, List.setIfInBounds_toArray, List.set_cons_zero, List.set_cons_succ]
              refine ord_nil ?_
              go_wp2_with (first | (refine vp_update rfl (.tmp 106) (.tmp 108) (.const (.int .i64 0)) 43 rfl 3 3 Try.underlying43 kI rfl nn rfl (0 : Int) rfl HQ5.out.2.2.2.2 ?_; intro w6 hm6 hk6; have HM6 := Lib.hid (And.intro hm6 hk6); clear hm6 hk6 hlk5 c2) | fail)
              go_meet
              case rel =>
                obtain ⟨hq5, hx5, hne5, hcn, hmm⟩ := HQ5.out
                obtain ⟨hm6, hk6⟩ := HM6.out
                obtain ⟨hc0, hcm⟩ := HCC.out
                refine ⟨v', p1, keepP nn r, by rw [HM.out, show ((r.length : Int) - c) = ((keepP nn r).length : Int) by omega], by omega, ⟨hq5.keep hk6 (fun z hz => ?_) (fun z hz => ?_), ⟨_, hm6, fun k => ?_⟩, HQ4.out.2.2⟩, hx5.keep hk6 (by simp; exact HAP.out.2)⟩
                · obtain rfl := List.mem_singleton.1 hz; exact hne5
                · obtain rfl := List.mem_singleton.1 hz; exact HQ4.out.2.2
                · rw [get_put, cnt_keep]
                  by_cases e : nn = k
                  · rw [if_pos e, if_pos e]; rfl
                  · rw [if_neg e, if_neg e]; exact hcn k
            · have HR4 := Lib.hid (show PR2 W qb mb xb kd ky nn (i + 1) (.int .i64 (m : Int)) w4 from ⟨v, p1, r, by rw [HM.out], by omega, HQ4.out, HX.out⟩)
              go_wp2
              go_meet
              case rel => exact HR4.out
      case rest =>
        obtain ⟨v, p1, r, rfl, hp1, hq, hx⟩ := hcut
        clear c0 c1 c2 HQ4 HX HAP HM hmb2 m
        obtain ⟨m, hm⟩ : ∃ m, m = r.length := ⟨_, rfl⟩
        obtain ⟨c, hc0⟩ : ∃ c, c = cnt nn r := ⟨_, rfl⟩
        have hq6 := hq.keep ((Keeps.refl [] wc).drew)
        have hx6 := hx.keep ((Keeps.refl [] wc).drew) (by simp)
        have hln := qs_len hq6.1
        have hhs := qs_has hq6.1 nn
        unfold anyP at hhs
        rw [any_cnt, ← hc0] at hhs
        have hlk6 := hq6.2.1.lk nn
        rw [← hc0] at hlk6
        rw [← hm] at hln ⊢
        have HLN := Lib.hid hln
        have HHS := Lib.hid hhs
        have HDS := Lib.hid (show DS xb mb kd ky nn c wc.drew from ⟨hx6, hlk6⟩)
        have HQ := Lib.hid hq
        have HCC := Lib.hid (And.intro hm hc0)
        have hmm0 : ((m : Int) != (m : Int)) = false := by simp
        have hcc0 : (decide (0 < c) != decide (0 < c)) = false := by simp
        clear hm hc0 hln hhs hlk6 hx6 hq6 hq hx
        unfold P at *
        go_upto_region 28 with fail
        refine vp_region (DS xb mb kd ky nn c) [(0, true), (2, true), (1, false), (3, true), (4, true), (5, true), (6, true), (7, true), (9, true), (10, true), (11, true), (12, true), (13, true), (8, false), (14, true), (15, true)] (by kernel_rfl) (by kernel_rfl) (by intro _ d _ _ _ h; cases d <;> exact h) HDS.out ?_
        intro w5 hw5
        simp only [pick, List.map_cons, List.map_nil, List.getD_cons_zero, List.getD_cons_succ]
        repeat
          refine ord_free rfl (v := ?_) ?_ ?_
          rotate_left
          · intro w' hw'
            go_simp
            with_reducible rfl
          simp only [Act.put, List.setIfInBounds_toArray, List.set_cons_zero, List.set_cons_succ]
        subst hw5
        refine ord_eff ?_
        go_wp2_with fail
        rename_i KK hKK
        refine HLN.out.mono ?_
        rintro e w' ⟨rfl, rfl⟩
        refine hKK _ _ ?_
        refine ord_next HDS.out ?_
        clear hKK KK HLN
        try simp only [Act.put, List.setIfInBounds_toArray, List.set_cons_zero, List.set_cons_succ]
        repeat
          refine ord_free rfl (v := ?_) ?_ ?_
          rotate_left
          · intro w' hw'
            go_simp
            with_reducible rfl
          simp only [Act.put, List.setIfInBounds_toArray, List.set_cons_zero, List.set_cons_succ]
        repeat
          refine ord_free_g (by first | rfl | decide) (v := ?_) ?_ ?_
          rotate_left
          · intro w' hw'
            obtain ⟨hx', hlk'⟩ := hw'
            have c2 := hx'.c2
            go_simp
            with_reducible rfl
          simp only [Act.put, List.setIfInBounds_toArray, List.set_cons_zero, List.set_cons_succ]
        refine ord_eff ?_
        go_wp2_with fail
        rename_i KK hKK
        refine HHS.out.mono ?_
        rintro e w5 ⟨rfl, hk5⟩
        refine hKK _ _ ?_
        have hk5' : Keeps [] wc w5 := Keeps.mk hk5.os hk5.tape hk5.output hk5.size hk5.block
        have hq5 := HQ.out.keep hk5'
        have HQ5 := Lib.hid hq5
        refine ord_next (show DS xb mb kd ky nn c w5 from ⟨HDS.out.1.keep hk5 (by simp), by have := hq5.2.1.lk nn; rw [← HCC.out.2] at this; exact this⟩) ?_
        clear hKK KK HHS hk5 hk5' hq5 HQ
        try simp only [Act.put, List.setIfInBounds_toArray, List.set_cons_zero, List.set_cons_succ]
        refine ord_free_g (by first | rfl | decide) (v := ?_) ?_ ?_
        rotate_left
        · intro w' hw'
          go_simp
          with_reducible rfl
        simp only [Act.put, List.setIfInBounds_toArray, List.set_cons_zero, List.set_cons_succ]
        refine ord_free rfl (v := ?_) ?_ ?_
        rotate_left
        · intro w' hw'
          go_simp
          with_reducible rfl
        simp only [Act.put, List.setIfInBounds_toArray, List.set_cons_zero, List.set_cons_succ]
        refine ord_nil ?_
        go_wp2
        go_roundg (gk - 1)
        case measure => omega
        case rel => exact ⟨i + 1, by push_cast; rfl, by omega, by omega, by omega, v, p1, r, by rw [HCC.out.1], by push_cast; omega, HQ5.out⟩
    · by_cases h1 : i < n
      · have h2 : ¬ i < 200 := fun h => hlt ⟨h1, h⟩
        clear hq
        go_wp2
        go_ret
        exact ⟨rfl, HQ.out.1.keeps⟩
      · clear hq
        go_wp2
        go_ret
        exact ⟨rfl, HQ.out.1.keeps⟩
end Go.Proofs.Ytginbdgoijeeoaa
