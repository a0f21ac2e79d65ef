/-
  QueueDrops' walk.
-/
import Derived.Test.YtginbdgoijeeoaaQ20
namespace Go.Proofs.Ytginbdgoijeeoaa
open Go.RowKit Go.V Go.V.Queue
def manyP (N : Int) (r : List Pr) : Int := (r.length : Int) - (keepP N r).length
theorem manyP_ins (N : Int) (x : Pr) (r : List Pr) (h : r.Pairwise (fun a b => a.1 ≤ b.1)) : manyP N (insP x r) = if x.2 = N then manyP N r + 1 else manyP N r := by
  unfold manyP
  rw [keepP_ins N x r h]
  split
  · rw [length_insP]; omega
  · rw [length_insP, length_insP]; omega
theorem manyP_bound (N : Int) (r : List Pr) : 0 ≤ manyP N r ∧ manyP N r ≤ r.length := by
  have : (keepP N r).length ≤ r.length := List.length_filter_le _ _
  unfold manyP; omega
theorem any_keep (N : Int) (r : List Pr) : anyP N (keepP N r) = false := by
  unfold anyP keepP
  rw [List.any_eq_false]
  intro x hx h
  have := (List.mem_filter.1 hx).2
  rw [h] at this
  cases this
theorem QS.len {W wx : World} {qb : Nat} {v : Value} {p : Int} {r : List Pr} (h : QS W qb v p r wx) : (r.length : Int) ≤ p := by obtain ⟨l, _, _, h⟩ := h; exact h
/-- while acts are pushed -/
def DR (W : World) (pb qb : Nat) (N : Int) (u : Int) (vm : Value) (wx : World) : Prop :=
  ∃ (v1 v2 : Value) (p1 p2 : Int) (r : List Pr), vm = .int .i64 (manyP N r) ∧ p1 ≤ u ∧ p2 ≤ u ∧ QQ W pb v1 p1 r qb v2 p2 (keepP N r) wx
def D1 (W : World) (pb qb : Nat) (N : Int) (n k : Nat) (vm vi : Value) (wx : World) : Prop :=
  ∃ i : Nat, vi = .int .i64 i ∧ i ≤ n ∧ i ≤ 200 ∧ n - i ≤ k ∧ DR W pb qb N i vm wx
def D2 (W : World) (pb qb : Nat) (k : Nat) (wx : World) : Prop :=
  ∃ (v1 v2 : Value) (p1 p2 : Int) (r : List Pr), p1 ≤ 200 ∧ p2 ≤ 200 ∧ r.length ≤ k ∧ QQ W pb v1 p1 r qb v2 p2 r wx
set_option maxRecDepth 100000 in
set_option maxHeartbeats 2000000 in
theorem drops_any (A : Value) (acts : List ActV) (N : Int) (W : World) (hA : SliceOf 3 ActOk W A acts) : Calls Try.prog 5 #[A, .int .i64 N] W (Tells (.bool true) W) := by
  obtain ⟨p, cap, rfl, hcap, hc, hr⟩ := hA
  obtain ⟨n, hn⟩ : ∃ n, n = acts.length := ⟨_, rfl⟩
  have HR := Lib.hid hr
  have HN := Lib.hid hn
  rw [← hn] at hcap ⊢
  clear hr hn
  go_enter Try.func5, Try.ntmps5
  go_wp2_with fail
  refine (awake_ok _).mono ?_
  rintro e w1 ⟨rfl, hk1⟩
  go_wp2_with fail
  refine (qs_new hk1).mono ?_
  rintro e w2 ⟨pb, hpb, rfl, hq2, hk2⟩
  have H2 := Lib.hid hq2
  clear hpb hk2 hk1
  unfold P
  go_wp2_with fail
  refine (qs_new hq2.keeps).mono ?_
  rintro e w3 ⟨qb, hqb, rfl, hq3, hk3⟩
  have H3 := Lib.hid (qq_new hq2 hqb hq3 hk3)
  clear H2 hq2 hqb hq3 hk3
  unfold P
  go_upto_block 0 with fail
  go_cut [7, 8] (fun vm _ wx => DR W pb qb N 200 vm wx)
  case first =>
    go_wp2_with fail
    go_loopg [7, 8] n (fun k vm vi wx => D1 W pb qb N n k vm vi wx)
    case atStart => exact ⟨0, rfl, Nat.zero_le _, by omega, by omega, _, _, 0, 0, [], rfl, by omega, by omega, H3.out⟩
    case round =>
      obtain ⟨i, rfl, hin, hi2, hik, v1, v2, p1, p2, r, rfl, hp1, hp2, hq⟩ := hrel
      have HQ := Lib.hid hq
      clear H3
      obtain ⟨m, hm⟩ : ∃ m, m = manyP N r := ⟨_, rfl⟩
      have hmb := manyP_bound N r
      rw [← hm] at hmb ⊢
      have hrl := hq.1.len
      have hmb1 : 0 ≤ m := hmb.1
      have hmb2 : m ≤ 200 := by omega
      have HM := Lib.hid hm
      clear hmb hm hrl
      by_cases hlt : i < n ∧ i < 200
      · obtain ⟨hi1, hi3⟩ := hlt
        obtain ⟨x, hx⟩ : ∃ x, acts[i]? = some x := ⟨_, List.getElem?_eq_getElem (by rw [← HN.out]; exact hi1)⟩
        obtain ⟨b, o, rfl, hb, he⟩ := HR.out (by rw [← HN.out]; omega)
        obtain ⟨cs, hcs, hra, hok⟩ := he i x hx
        obtain ⟨kd, ky, nn⟩ := x
        unfold ActOk at hok
        subst hok
        have hra1 := hra.keep hq.1.keeps (by simp)
        have c0 : wr.cell? ⟨b, o + i * 3, none⟩ = some (.int .i64 kd) := hra1 0 _ rfl
        have c1 : wr.cell? ⟨b, o + i * 3 + 1, none⟩ = some (.int .i64 ky) := hra1 1 _ rfl
        have c2 : wr.cell? ⟨b, o + i * 3 + 2, none⟩ = some (.int .i64 nn) := hra1 2 _ rfl
        clear hra1 hb he hx hra hcs hq
        go_upto_region 10 with fail
        obtain ⟨w4, hw4⟩ : ∃ w4, w4 = wr.alloc (.cells #[.int .i64 kd, .int .i64 ky, .int .i64 nn] 31) := ⟨_, rfl⟩
        obtain ⟨xb, hxb⟩ : ∃ xb, xb = wr.heap.size := ⟨_, rfl⟩
        have hxa : XA kd ky nn xb w4 := by rw [hw4, hxb]; exact heap_alloc wr _
        have hq4 : QQ W pb v1 p1 r qb v2 p2 (keepP N r) w4 := HQ.out.keep (S := []) (by rw [hw4]; exact (Keeps.refl _ _).alloc _) (by simp) (by simp)
        have hap : xb ∉ Foot pb v1 ∧ xb ∉ Foot qb v2 := ⟨fun h => by have := HQ.out.1.lt _ h; omega, fun h => by have := HQ.out.2.1.lt _ h; omega⟩
        have HX := Lib.hid hxa
        have HQ4 := Lib.hid hq4
        have HAP := Lib.hid hap
        rw [← hw4, ← hxb]
        clear hw4 hxb hap hq4 hxa HQ c0 c1 c2
        have c0 := HX.out.c0
        have c1 := HX.out.c1
        have c2 := HX.out.c2
        by_cases hkd : kd = 0
        · subst hkd
          have HC := Lib.hid (qs_push HQ4.out.1 (by omega) ky nn)
          unfold P at *
          go_wp2_with fail
          refine HC.out.mono ?_
          rintro e w5 ⟨rfl, hd⟩
          obtain ⟨v1', hq5⟩ := HQ4.out.left hd
          obtain ⟨_, _, hkf, _⟩ := hd
          have hx5 := HX.out.keep hkf HAP.out.1
          have HQ5 := Lib.hid hq5
          clear c0 c1 c2 HC hkf HX
          have HX := Lib.hid hx5
          have c1 := hx5.c1
          have c2 := hx5.c2
          clear hx5
          by_cases hnN : nn = N
          · have e1 : (nn != N) = false := by simp [hnN]
            have HE := Lib.hid hnN
            clear hq5 hnN
            go_wp2
            go_roundg (gk - 1)
            case measure => omega
            case rel =>
              refine ⟨i + 1, by push_cast; rfl, by omega, by omega, by omega, v1', v2, p1 + 1, p2, insP (ky, nn) r, ?_, by push_cast; omega, by push_cast; omega, ?_⟩
              · rw [manyP_ins N _ _ HQ4.out.1.sorted, if_pos HE.out, ← HM.out]
              · rw [keepP_ins N _ _ HQ4.out.1.sorted, if_pos HE.out]; exact HQ5.out
          · have e1 : (nn != N) = true := by simp [hnN]
            have HE := Lib.hid hnN
            have HC := Lib.hid (qs_push hq5.2.1 (by omega) ky nn)
            clear hq5 hnN
            unfold P at *
            go_wp2_with fail
            refine HC.out.mono ?_
            rintro e w6 ⟨rfl, hd⟩
            obtain ⟨v2', hq6⟩ := HQ5.out.right hd
            have HQ6 := Lib.hid hq6
            clear hq6 hd HC c1 c2
            go_wp2
            go_roundg (gk - 1)
            case measure => omega
            case rel =>
              refine ⟨i + 1, by push_cast; rfl, by omega, by omega, by omega, v1', v2', p1 + 1, p2 + 1, insP (ky, nn) r, ?_, by push_cast; omega, by push_cast; omega, ?_⟩
              · rw [manyP_ins N _ _ HQ4.out.1.sorted, if_neg HE.out, ← HM.out]
              · rw [keepP_ins N _ _ HQ4.out.1.sorted, if_neg HE.out]; exact HQ6.out
        · have e1 : (kd != 0) = true := by simp [hkd]
          clear hkd
          go_wp2
          go_roundg (gk - 1)
          case measure => omega
          case rel => exact ⟨i + 1, by push_cast; rfl, by omega, by omega, by omega, v1, v2, p1, p2, r, by rw [HM.out], by push_cast; omega, by push_cast; omega, HQ4.out⟩
      · by_cases h1 : i < n
        · have h2 : ¬ i < 200 := fun h => hlt ⟨h1, h⟩
          clear hq
          go_wp2
          go_meet
          case rel => exact ⟨v1, v2, p1, p2, r, by rw [HM.out], by omega, by omega, HQ.out⟩
        · clear hq
          go_wp2
          go_meet
          case rel => exact ⟨v1, v2, p1, p2, r, by rw [HM.out], by omega, by omega, HQ.out⟩
  case rest =>
    obtain ⟨v1, v2, p1, p2, r, rfl, hp1, hp2, hq⟩ := hcut
    have HQ := Lib.hid hq
    have hdr := qs_drop hq.1 (by omega) N
    obtain ⟨m, hm⟩ : ∃ m, m = manyP N r := ⟨_, rfl⟩
    unfold DropP at hdr
    rw [show (r.length : Int) - (keepP N r).length = m from hm.symm] at hdr
    rw [← hm]
    have HC := Lib.hid hdr
    have e1 : (m != m) = false := by simp
    clear hdr hm H3 hq
    unfold P at *
    go_wp2_with fail
    refine HC.out.mono ?_
    rintro e w4 ⟨rfl, hd⟩
    obtain ⟨v1', hq4⟩ := HQ.out.left hd
    have hhas := qs_has hq4.1 N
    rw [any_keep] at hhas
    have HH := Lib.hid hhas
    have HQ4 := Lib.hid hq4
    clear hhas hq4 hd HC
    unfold P at *
    go_wp2_with fail
    refine HH.out.mono ?_
    rintro e w5 ⟨rfl, hk5⟩
    have hq5 := HQ4.out.keep hk5 (by simp) (by simp)
    obtain ⟨l, hl⟩ : ∃ l, l = (keepP N r).length := ⟨_, rfl⟩
    have HL1 := Lib.hid (qs_len hq5.1)
    have HL2 := Lib.hid (qs_len hq5.2.1)
    rw [← hl] at HL1 HL2
    have HQ5 := Lib.hid hq5
    have HLL := Lib.hid hl
    have e2 : ((l : Int) != (l : Int)) = false := by simp
    clear hl hq5 hk5 HH HQ4
    unfold P at *
    go_wp2_with fail
    refine HL1.out.mono ?_
    rintro e w' ⟨rfl, rfl⟩
    go_wp2_with fail
    refine HL2.out.mono ?_
    rintro e w' ⟨rfl, rfl⟩
    clear HL1 HL2
    go_upto_block 2 with fail
    go_wp2_with fail
    go_loopg [] l (fun k wx => D2 W pb qb k wx)
    case atStart => exact ⟨v1', v2, p1, p2, _, hp1, hp2, by rw [HLL.out]; exact Nat.le_refl _, HQ5.out⟩
    case round =>
      clear HQ5 HQ e1 e2 HLL
      obtain ⟨v1, v2, p1, p2, r, hp1, hp2, hrk, hq⟩ := hrel
      have HQ := Lib.hid hq
      have HC := Lib.hid (qs_pop hq.1 (by omega))
      obtain ⟨a, ha⟩ : ∃ a, a = tk r := ⟨_, rfl⟩
      obtain ⟨b, hb⟩ : ∃ a, a = tn r := ⟨_, rfl⟩
      unfold PopP at HC
      rw [← ha, ← hb] at HC
      have HA := Lib.hid (And.intro ha hb)
      have e1 : (a != a) = false := by simp
      have e2 : (b != b) = false := by simp
      cases r with
      | nil =>
        rw [show tb [] = false from rfl] at HC
        clear hq ha hb
        unfold P at *
        go_wp2_with fail
        refine HC.out.mono ?_
        rintro e w4 ⟨rfl, hd⟩
        obtain ⟨v1', hq'⟩ := HQ.out.left hd
        have HC2 := Lib.hid (qs_pop hq'.2.1 (by omega))
        unfold PopP at HC2
        rw [← HA.out.1, ← HA.out.2, show tb [] = false from rfl] at HC2
        have HQ' := Lib.hid hq'
        clear hd hq' HC
        unfold P at *
        go_wp2_with fail
        refine HC2.out.mono ?_
        rintro e w5 ⟨rfl, hd⟩
        obtain ⟨v2', hq'⟩ := HQ'.out.right hd
        have HQ2 := Lib.hid hq'
        clear hd hq' HC2
        go_wp2
        go_ret
        exact ⟨rfl, HQ2.out.1.keeps⟩
      | cons x r =>
        rw [show tb (x :: r) = true from rfl] at HC
        clear hq ha hb
        unfold P at *
        go_wp2_with fail
        refine HC.out.mono ?_
        rintro e w4 ⟨rfl, hd⟩
        obtain ⟨v1', hq'⟩ := HQ.out.left hd
        have HC2 := Lib.hid (qs_pop hq'.2.1 (by omega))
        unfold PopP at HC2
        rw [← HA.out.1, ← HA.out.2, show tb (x :: r) = true from rfl] at HC2
        have HQ' := Lib.hid hq'
        clear hd hq' HC
        unfold P at *
        go_wp2_with fail
        refine HC2.out.mono ?_
        rintro e w5 ⟨rfl, hd⟩
        obtain ⟨v2', hq'⟩ := HQ'.out.right hd
        have HQ2 := Lib.hid hq'
        clear hd hq' HC2
        go_wp2
        go_roundg (gk - 1)
        case measure => simp only [List.length_cons] at hrk; omega
        case rel => exact ⟨v1', v2', p1, p2, r, hp1, hp2, by simp only [List.length_cons] at hrk; omega, HQ2.out⟩
end Go.Proofs.Ytginbdgoijeeoaa
