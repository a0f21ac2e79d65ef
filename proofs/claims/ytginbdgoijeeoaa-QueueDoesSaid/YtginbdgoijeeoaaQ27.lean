/-
  QueueDoes' walk.
-/
import Derived.Test.YtginbdgoijeeoaaQ26
import Derived.Test.YtginbdgoijeeoaaQ22
namespace Go.Proofs.Ytginbdgoijeeoaa
open Go.RowKit Go.V Go.V.Queue
/-- a queue and the reference's -/
def QR (W : World) (qb : Nat) (v : Value) (p : Int) (r1 : List Pr) (rb : Nat) (v' : Value) (r2 : List Pr) (wx : World) : Prop :=
  QS W qb v p r1 wx ∧ RQ W rb v' r2 wx ∧ ∀ x ∈ Foot qb v, x ∉ Foot rb v'
section
variable {W wx w' : World} {qb rb : Nat} {v v2 : Value} {p : Int} {r1 r2 : List Pr}
theorem QR.left {p' : Int} {r' : List Pr} (h : QR W qb v p r1 rb v2 r2 wx) (hd : QDone W wx qb v p' r' w') : ∃ v', QR W qb v' p' r' rb v2 r2 w' := by
  obtain ⟨h1, h2, h3⟩ := h
  obtain ⟨v', q, k, f⟩ := hd
  refine ⟨v', q, h2.keep k h3 (fun x hx => h1.ge x hx), fun x hx hx2 => ?_⟩
  rcases f x hx with a | a
  · exact h3 x a hx2
  · have := h2.lt x hx2; omega
theorem QR.right {r' : List Pr} (h : QR W qb v p r1 rb v2 r2 wx) (hd : RDone W wx rb v2 r' w') : ∃ v', QR W qb v p r1 rb v' r' w' := by
  obtain ⟨h1, h2, h3⟩ := h
  obtain ⟨v', q, k, f⟩ := hd
  refine ⟨v', h1.keep k (fun x hx hx2 => h3 x hx2 hx) (fun x hx => h2.1 x hx), q, fun x hx hx2 => ?_⟩
  rcases f x hx2 with a | a
  · exact h3 x hx a
  · have := h1.lt x hx; omega
theorem QR.keep (h : QR W qb v p r1 rb v2 r2 wx) (hk : Keeps [] wx w') : QR W qb v p r1 rb v2 r2 w' :=
  ⟨h.1.keep hk (by simp) (by simp), h.2.1.keep hk (by simp) (by simp), h.2.2⟩
end
def QR1 (W : World) (qb rb : Nat) (n k : Nat) (vi : Value) (wx : World) : Prop :=
  ∃ (i : Nat) (v v2 : Value) (p : Int) (r : List Pr), vi = .int .i64 i ∧ i ≤ n ∧ i ≤ 200 ∧ n - i ≤ k ∧ p ≤ i ∧ QR W qb v p r rb v2 r wx
def QR2 (W : World) (qb rb xb : Nat) (kd ky nn : Int) (u : Int) (wx : World) : Prop :=
  ∃ (v v2 : Value) (p : Int) (r : List Pr), p ≤ u ∧ QR W qb v p r rb v2 r wx ∧ XA kd ky nn xb wx
def DX1 (xb : Nat) (kd ky nn : Int) (w : World) : Prop := XA kd ky nn xb w
def DX2 (xb rb : Nat) (kd ky nn : Int) (p : Option Addr) (m c : Nat) (w : World) : Prop := XA kd ky nn xb w ∧ w.cell? ⟨rb, 0, none⟩ = some (.slice p m c)
set_option maxRecDepth 100000 in
set_option maxHeartbeats 4000000 in
theorem does_any (A : Value) (acts : List ActV) (W : World) (hA : SliceOf 3 ActOk W A acts) : Calls Try.prog 3 #[A] W (Tells (.bool true) W) := by
  obtain ⟨p, cap, rfl, hcap, hc, hr⟩ := hA
  obtain ⟨n, hn⟩ : ∃ n, n = acts.length := ⟨_, rfl⟩
  have HR := Lib.hid hr
  have HN := Lib.hid hn
  rw [← hn] at hcap ⊢
  clear hr hn
  go_enter Try.func3, Try.ntmps3
  go_wp2_with fail
  refine (awake_ok _).mono ?_
  rintro e w1 ⟨rfl, hk1⟩
  go_wp2_with fail
  refine (qs_new hk1).mono ?_
  rintro e w2 ⟨qb, hqb, rfl, hq2, hk2⟩
  have H2 := Lib.hid hq2
  clear hqb hk2 hk1 hq2
  unfold P
  go_upto_region 5 with fail
  obtain ⟨wm, hwm⟩ : ∃ wm, wm = w2.alloc (.cells #[.slice none 0 0] 29) := ⟨_, rfl⟩
  obtain ⟨rb, hrb⟩ : ∃ rb, rb = w2.heap.size := ⟨_, rfl⟩
  have hkm : Keeps [] w2 wm := by rw [hwm]; exact (Keeps.refl _ _).alloc _
  have HO := Lib.hid (show QR W qb _ 0 [] rb (.slice none 0 0) [] wm from
    ⟨H2.out.keep hkm (by simp) (by simp), ⟨fun x hx => by
      simp only [Foot, Value.ownBlock, Option.toList_none, List.mem_singleton] at hx
      rw [hx, hrb]; exact H2.out.keeps.size, by rw [hwm, hrb]; exact heap_alloc w2 _, RowG.nil FP 54 wm, H2.out.keeps.trans hkm⟩, fun x hx hx2 => by
      simp only [Foot, Value.ownBlock, Option.toList_none, List.mem_singleton] at hx2
      have := H2.out.lt x hx
      omega⟩)
  rw [← hwm, ← hrb]
  clear hwm hrb hkm H2
  go_upto_block 0 with fail
  go_wp2_with fail
  go_loopg [5] n (fun k vi wx => QR1 W qb rb n k vi wx)
  case atStart => exact ⟨0, _, _, 0, [], rfl, Nat.zero_le _, by omega, by omega, by omega, HO.out⟩
  case round =>
    obtain ⟨i, v, v2, p1, r, rfl, hin, hi2, hik, hp1, hq⟩ := hrel
    clear HO
    have HQ := Lib.hid hq
    have hrl := hq.1.len
    have hrl2 : r.length ≤ 200 := by omega
    have HRL := Lib.hid hrl2
    clear hrl hrl2
    by_cases hlt : i < n ∧ i < 200
    · obtain ⟨hi1, hi3⟩ := hlt
      obtain ⟨x, hx⟩ : ∃ x, acts[i]? = some x := ⟨_, List.getElem?_eq_getElem (by rw [← HN.out]; exact hi1)⟩
      obtain ⟨b, o, rfl, hb, he⟩ := HR.out (by rw [← HN.out]; omega)
      obtain ⟨cs, hcs, hra, hok⟩ := he i x hx
      obtain ⟨kd, ky, nn⟩ := x
      unfold ActOk at hok
      subst hok
      have hra1 := hra.keep hq.1.keeps (by simp)
      have c0 : wr.cell? ⟨b, o + i * 3, none⟩ = some (.int .i64 kd) := hra1 0 _ rfl
      have c1 : wr.cell? ⟨b, o + i * 3 + 1, none⟩ = some (.int .i64 ky) := hra1 1 _ rfl
      have c2 : wr.cell? ⟨b, o + i * 3 + 2, none⟩ = some (.int .i64 nn) := hra1 2 _ rfl
      clear hra1 hb he hx hra hcs hq
      go_upto_region 9 with fail
      obtain ⟨w4, hw4⟩ : ∃ w4, w4 = wr.alloc (.cells #[.int .i64 kd, .int .i64 ky, .int .i64 nn] 31) := ⟨_, rfl⟩
      obtain ⟨xb, hxb⟩ : ∃ xb, xb = wr.heap.size := ⟨_, rfl⟩
      have hxa : XA kd ky nn xb w4 := by rw [hw4, hxb]; exact heap_alloc wr _
      have hq4 : QR W qb v p1 r rb v2 r w4 := HQ.out.keep (by rw [hw4]; exact (Keeps.refl _ _).alloc _)
      have hap : xb ∉ Foot qb v := fun h => by have := HQ.out.1.lt _ h; omega
      have hap2 : xb ∉ Foot rb v2 := fun h => by have := HQ.out.2.1.lt _ h; omega
      have hap3 : wr.heap.size < w4.heap.size := by rw [hw4]; exact (heap_alloc wr _ |> lt_of_heap)
      have HX := Lib.hid hxa
      have HQ4 := Lib.hid hq4
      have HAP := Lib.hid (And.intro hap hap2)
      have hxlt : xb < w4.heap.size := by rw [hxb]; exact hap3
      have HXL := Lib.hid hxlt
      rw [← hw4, ← hxb]
      clear hw4 hxb hap hap2 hq4 hxa HQ c0 c1 c2 hap3 hxlt
      have c0 := HX.out.c0
      have c1 := HX.out.c1
      have c2 := HX.out.c2
      go_upto_block 2 with fail
      go_cut [] (fun wx => QR2 W qb rb xb kd ky nn (i + 1) wx)
      case first =>
        by_cases hkd : kd = 0
        · subst hkd
          have HC := Lib.hid (qs_push HQ4.out.1 (by omega) ky nn)
          unfold P at *
          go_wp2_with fail
          refine HC.out.mono ?_
          rintro e w5 ⟨rfl, hd⟩
          obtain ⟨v', hq5⟩ := HQ4.out.left hd
          obtain ⟨_, _, hkf, _⟩ := hd
          have hx5 := HX.out.keep hkf HAP.out.1
          have HQ5 := Lib.hid hq5
          have HC2 := Lib.hid (rpush_ok hq5.2.1 (by have := HRL.out; omega) ky nn)
          have HX5 := Lib.hid hx5
          clear c0 c1 c2 hkf hq5 HC
          have c1 := hx5.c1
          have c2 := hx5.c2
          clear hx5
          unfold P at *
          go_wp2_with fail
          refine HC2.out.mono ?_
          rintro e w6 ⟨rfl, hd⟩
          obtain ⟨v2', hq6⟩ := HQ5.out.right hd
          obtain ⟨_, _, hkf, _⟩ := hd
          have hx6 := HX5.out.keep hkf HAP.out.2
          have HQ6 := Lib.hid (And.intro hq6 hx6)
          clear c1 c2 hkf hq6 hx6 HC2
          go_wp2
          go_meet
          case rel => exact ⟨v', v2', p1 + 1, _, by omega, HQ6.out.1, HQ6.out.2⟩
        · by_cases hkd1 : kd = 1
          · subst hkd1
            have hpo := qs_pop HQ4.out.1 (by omega)
            unfold PopP at hpo
            obtain ⟨K, hK⟩ : ∃ K, K = tk r := ⟨_, rfl⟩
            obtain ⟨M, hM⟩ : ∃ M, M = tn r := ⟨_, rfl⟩
            obtain ⟨B, hB⟩ : ∃ B, B = tb r := ⟨_, rfl⟩
            rw [← hK, ← hM, ← hB] at hpo
            have HC := Lib.hid hpo
            have HKMB := Lib.hid (And.intro hK (And.intro hM hB))
            have e1 : (K != K) = false := by simp
            have e2 : (M != M) = false := by simp
            have e3 : (B != B) = false := by simp
            clear hpo hK hM hB
            unfold P at *
            go_wp2_with fail
            refine HC.out.mono ?_
            rintro e w5 ⟨rfl, hd⟩
            obtain ⟨v', hq5⟩ := HQ4.out.left hd
            obtain ⟨_, _, hkf, _⟩ := hd
            have hx5 := HX.out.keep hkf HAP.out.1
            have hpo := rpop_ok hq5.2.1 (by have := HRL.out; omega)
            unfold RPopP at hpo
            rw [← HKMB.out.1, ← HKMB.out.2.1, ← HKMB.out.2.2] at hpo
            have HQ5 := Lib.hid hq5
            have HC2 := Lib.hid hpo
            have HX5 := Lib.hid hx5
            clear c0 c1 c2 hkf hq5 HC hpo hx5
            unfold P at *
            go_wp2_with fail
            refine HC2.out.mono ?_
            rintro e w6 ⟨rfl, hd⟩
            obtain ⟨v2', hq6⟩ := HQ5.out.right hd
            obtain ⟨_, _, hkf, _⟩ := hd
            have hx6 := HX5.out.keep hkf HAP.out.2
            have HQ6 := Lib.hid (And.intro hq6 hx6)
            clear hkf hq6 hx6 HC2
            go_wp2
            go_meet
            case rel => exact ⟨v', v2', p1, _, by omega, HQ6.out.1, HQ6.out.2⟩
          · by_cases hkd2 : kd = 2
            · subst hkd2
              have hq4d := HQ4.out.keep ((Keeps.refl [] w4).drew)
              have hdr := qs_drop hq4d.1 (by omega) nn
              unfold DropP at hdr
              obtain ⟨D, hD⟩ : ∃ D, D = (r.length : Int) - (keepP nn r).length := ⟨_, rfl⟩
              rw [← hD] at hdr
              have HC := Lib.hid hdr
              have HD := Lib.hid hD
              have HQD := Lib.hid hq4d
              have HDS := Lib.hid (show DX1 xb 2 ky nn w4.drew from HX.out.keep ((Keeps.refl [] w4).drew) (by simp))
              have hdd : (D != D) = false := by simp
              clear hdr hD c1 c2 hq4d c0
              have c0 := HX.out.c0
              unfold P at *
              go_upto_region 19 with fail
              clear c0
              refine vp_region (DX1 xb 2 ky nn) [(0, true), (1, true), (2, true), (4, true), (5, true), (6, true), (3, false), (7, false), (8, true)] (by kernel_rfl) (by kernel_rfl) (by intro _ d _ _ _ h; cases d <;> exact h) HDS.out ?_
              intro w5 hw5
              simp only [pick, List.map_cons, List.map_nil, List.getD_cons_zero, List.getD_cons_succ]
              repeat
                refine ord_free rfl (v := ?_) ?_ ?_
                rotate_left
                · intro w' hw'
                  have c2 := XA.c2 hw'
                  go_simp
                  with_reducible rfl
                simp only [Act.put, List.setIfInBounds_toArray, List.set_cons_zero, List.set_cons_succ]
              subst hw5
              refine ord_eff ?_
              go_wp2_with fail
              rename_i KK hKK
              refine HC.out.mono ?_
              rintro e w5 ⟨rfl, hd⟩
              refine hKK _ _ ?_
              obtain ⟨v', hq5⟩ := HQD.out.left hd
              obtain ⟨_, _, hkf, _⟩ := hd
              have hx5 := XA.keep HDS.out hkf HAP.out.1
              have hpo := rdrop_ok hq5.2.1 (by have := HRL.out; omega) nn
              unfold RDropP at hpo
              rw [← HD.out] at hpo
              have HQ5 := Lib.hid hq5
              have HC2 := Lib.hid hpo
              have HX5 := Lib.hid hx5
              refine ord_next (show DX1 xb 2 ky nn w5 from hx5) ?_
              clear hkf hq5 HC hpo hx5 hKK KK
              try simp only [Act.put, List.setIfInBounds_toArray, List.set_cons_zero, List.set_cons_succ]
              refine ord_eff ?_
              go_wp2_with fail
              rename_i KK hKK
              refine HC2.out.mono ?_
              rintro e w6 ⟨rfl, hd⟩
              refine hKK _ _ ?_
              obtain ⟨v2', hq6⟩ := HQ5.out.right hd
              obtain ⟨_, _, hkf, _⟩ := hd
              have hx6 := HX5.out.keep hkf HAP.out.2
              have HQ6 := Lib.hid (And.intro hq6 hx6)
              refine ord_next (show DX1 xb 2 ky nn w6 from hx6) ?_
              clear hkf hq6 hx6 HC2 hKK KK
              try simp only [Act.put, List.setIfInBounds_toArray, List.set_cons_zero, List.set_cons_succ]
              refine ord_free rfl (v := ?_) ?_ ?_
              rotate_left
              · intro w' hw'
                go_simp
                with_reducible rfl
              simp only [Act.put, List.setIfInBounds_toArray, List.set_cons_zero, List.set_cons_succ]
              refine ord_nil ?_
              go_wp2
              go_meet
              case rel => exact ⟨v', v2', p1, _, by omega, HQ6.out.1, HQ6.out.2⟩
            · have HR4 := Lib.hid (show QR2 W qb rb xb kd ky nn (i + 1) w4 from ⟨v, v2, p1, r, by omega, HQ4.out, HX.out⟩)
              go_wp2
              go_meet
              case rel => exact HR4.out
      case rest =>
        obtain ⟨v, v2, p1, r, hp1, hq, hx⟩ := hcut
        clear c0 c1 c2 HQ4 HX HAP HRL HXL
        have hrl := hq.1.len
        have HQ := Lib.hid (And.intro hq hx)
        have hpk := qs_peek hq.1
        unfold PeekP at hpk
        obtain ⟨K, hK⟩ : ∃ K, K = tk r := ⟨_, rfl⟩
        obtain ⟨M, hM⟩ : ∃ M, M = tn r := ⟨_, rfl⟩
        obtain ⟨B, hB⟩ : ∃ B, B = tb r := ⟨_, rfl⟩
        rw [← hK, ← hM, ← hB] at hpk
        have HC := Lib.hid hpk
        have HKMB := Lib.hid (And.intro hK (And.intro hM hB))
        have e1 : (K != K) = false := by simp
        have e2 : (M != M) = false := by simp
        have e3 : (B != B) = false := by simp
        have HRL := Lib.hid hrl
        clear hpk hK hM hB hq hx hrl
        unfold P at *
        go_wp2_with fail
        refine HC.out.mono ?_
        rintro e w5 ⟨rfl, nq, rfl⟩
        have hq5 := HQ.out.1.keep ((Keeps.refl [] wc).drewN nq)
        have hx5 := HQ.out.2.keep ((Keeps.refl [] wc).drewN nq) (by simp)
        have hpk := rpeek_ok hq5.2.1
        unfold PeekP at hpk
        rw [← HKMB.out.1, ← HKMB.out.2.1, ← HKMB.out.2.2] at hpk
        have HC2 := Lib.hid hpk
        have HQ5 := Lib.hid (And.intro hq5 hx5)
        clear hq5 hx5 hpk HC HQ
        unfold P at *
        go_wp2_with fail
        refine HC2.out.mono ?_
        rintro e w6 ⟨rfl, nq2, rfl⟩
        obtain ⟨w6, hw6⟩ : ∃ w6, w6 = (wc.drewN nq).drewN nq2 := ⟨_, rfl⟩
        have hq6 := HQ5.out.1.keep ((Keeps.refl [] (wc.drewN nq)).drewN nq2)
        have hx6 := HQ5.out.2.keep ((Keeps.refl [] (wc.drewN nq)).drewN nq2) (by simp)
        rw [← hw6] at hq6 hx6 ⊢
        have hq7 := hq6.keep ((Keeps.refl [] w6).drew)
        have hx7 := hx6.keep ((Keeps.refl [] w6).drew) (by simp)
        have hln := qs_len hq7.1
        have hhs := qs_has hq7.1 nn
        obtain ⟨pv, cv, hv2, _, _⟩ := hq7.2.1.2.2.1.value
        have hcl : w6.drew.cell? ⟨rb, 0, none⟩ = some v2 := cell_of hq7.2.1.2.1 rfl
        rw [hv2] at hcl
        obtain ⟨m, hm⟩ : ∃ m, m = r.length := ⟨_, rfl⟩
        obtain ⟨C, hC⟩ : ∃ C, C = anyP nn r := ⟨_, rfl⟩
        rw [← hm] at hln hcl
        rw [← hC] at hhs
        have HLN := Lib.hid hln
        have HHS := Lib.hid hhs
        have HQ7 := Lib.hid (And.intro hq7 hx7)
        have HDS := Lib.hid (show DX2 xb rb kd ky nn pv m cv w6.drew from ⟨hx7, hcl⟩)
        have HCC := Lib.hid (And.intro hm (And.intro hC hv2))
        have hmm0 : ((m : Int) != (m : Int)) = false := by simp
        have hcc0 : (C != C) = false := by simp
        clear hm hC hln hhs hq6 hx6 hq7 hx7 hcl hv2 HC2 HQ5 hw6
        unfold P at *
        go_upto_region 23 with fail
        refine vp_region (DX2 xb rb kd ky nn pv m cv) [(0, true), (1, true), (2, true), (3, true), (4, true), (5, true), (6, true), (7, true), (8, true), (9, true), (10, true), (11, true), (12, true), (13, true), (14, true), (16, true), (17, true), (18, true), (19, true), (20, true), (15, false), (21, true), (22, true), (23, true), (24, true), (25, true), (26, true), (28, true), (29, true), (30, true), (27, false), (31, false), (32, true), (33, true)] (by kernel_rfl) (by kernel_rfl) (by intro _ d _ _ _ h; cases d <;> exact h) HDS.out ?_
        intro w5 hw5
        simp only [pick, List.map_cons, List.map_nil, List.getD_cons_zero, List.getD_cons_succ]
        repeat
          first | refine ord_free rfl (v := ?_) ?_ ?_ | refine ord_free_g (by first | rfl | decide) (v := ?_) ?_ ?_
          rotate_left
          · intro w' hw'
            obtain ⟨hx', hc'⟩ := hw'
            go_simp
            with_reducible rfl
          simp only [Act.put, List.setIfInBounds_toArray, List.set_cons_zero, List.set_cons_succ]
        subst hw5
        refine ord_eff ?_
        go_wp2_with fail
        rename_i KK hKK
        refine HLN.out.mono ?_
        rintro e w' ⟨rfl, rfl⟩
        refine hKK _ _ ?_
        refine ord_next HDS.out ?_
        clear hKK KK HLN
        try simp only [Act.put, List.setIfInBounds_toArray, List.set_cons_zero, List.set_cons_succ]
        repeat
          first | refine ord_free rfl (v := ?_) ?_ ?_ | refine ord_free_g (by first | rfl | decide) (v := ?_) ?_ ?_
          rotate_left
          · intro w' hw'
            obtain ⟨hx', hc'⟩ := hw'
            have c2 := hx'.c2
            go_simp
            with_reducible rfl
          simp only [Act.put, List.setIfInBounds_toArray, List.set_cons_zero, List.set_cons_succ]
        refine ord_eff ?_
        go_wp2_with fail
        rename_i KK hKK
        refine HHS.out.mono ?_
        rintro e w5 ⟨rfl, hk5⟩
        refine hKK _ _ ?_
        have hk5' : Keeps [] w6.drew w5 := Keeps.mk hk5.os hk5.tape hk5.output hk5.size hk5.block
        have hq8 := HQ7.out.1.keep hk5'
        have hx8 := HQ7.out.2.keep hk5' (by simp)
        have hrh := rhas_ok hq8.2.1 nn
        rw [← HCC.out.2.1] at hrh
        have hc8 : w5.cell? ⟨rb, 0, none⟩ = some v2 := cell_of hq8.2.1.2.1 rfl
        rw [HCC.out.2.2, ← HCC.out.1] at hc8
        have HQ8 := Lib.hid (And.intro hq8 hx8)
        have HRH := Lib.hid hrh
        refine ord_next (show DX2 xb rb kd ky nn pv m cv w5 from ⟨hx8, hc8⟩) ?_
        have HDS8 := Lib.hid (show DX2 xb rb kd ky nn pv m cv w5 from ⟨hx8, hc8⟩)
        clear hKK KK HHS hk5 hk5' hq8 hx8 hrh hc8 HDS
        try simp only [Act.put, List.setIfInBounds_toArray, List.set_cons_zero, List.set_cons_succ]
        refine ord_eff ?_
        go_wp2_with fail
        rename_i KK hKK
        refine HRH.out.mono ?_
        rintro e w' ⟨rfl, rfl⟩
        refine hKK _ _ ?_
        refine ord_next HDS8.out ?_
        clear hKK KK HRH
        try simp only [Act.put, List.setIfInBounds_toArray, List.set_cons_zero, List.set_cons_succ]
        repeat
          first | refine ord_free rfl (v := ?_) ?_ ?_ | refine ord_free_g (by first | rfl | decide) (v := ?_) ?_ ?_
          rotate_left
          · intro w' hw'
            go_simp
            with_reducible rfl
          simp only [Act.put, List.setIfInBounds_toArray, List.set_cons_zero, List.set_cons_succ]
        refine ord_nil ?_
        go_wp2
        go_roundg (gk - 1)
        case measure => omega
        case rel => exact ⟨i + 1, v, v2, p1, r, by push_cast; rfl, by omega, by omega, by omega, by push_cast; omega, HQ8.out.1⟩
    · by_cases h1 : i < n
      · have h2 : ¬ i < 200 := fun h => hlt ⟨h1, h⟩
        clear hq
        go_wp2
        go_ret
        exact ⟨rfl, HQ.out.1.keeps⟩
      · clear hq
        go_wp2
        go_ret
        exact ⟨rfl, HQ.out.1.keeps⟩
end Go.Proofs.Ytginbdgoijeeoaa
