/-
  QueueTurned's walk.
-/
import Derived.Test.YtginbdgoijeeoaaQ18
namespace Go.Proofs.Ytginbdgoijeeoaa
open Go.RowKit Go.V Go.V.Queue
theorem kI2 : KeyOk Try.prog 2 keyI := ⟨⟨_, Try.underlying2, fun _ => rfl⟩, fun a b h => by simp only [keyI, Value.int.injEq, true_and] at h; exact h⟩
theorem key_cell {keys : List Int} {W wx : World} {b o i : Nat} (hr : ∀ i v, (keys.map (.int .i64))[i]? = some v → W.cell? ⟨b, o + i, none⟩ = some v) (hi : i < keys.length) (hk : Keeps [] W wx) :
    wx.cell? ⟨b, o + i, none⟩ = some (.int .i64 (keys.getD i 0)) := by
  have c1 : W.cell? ⟨b, o + i, none⟩ = some (.int .i64 (keys.getD i 0)) := by
    refine hr i _ ?_
    rw [List.getElem?_map, List.getD_eq_getElem?_getD, List.getElem?_eq_getElem hi]; rfl
  exact (World.cell?_of_block (w := W) (hk.block b (Go.block_lt_of_cell c1) (by simp))).trans c1
def T1 (W : World) (pb qb mb : Nat) (keys : List Int) (n k : Nat) (vi : Value) (wx : World) : Prop :=
  ∃ (i : Nat) (seen : List (Int × Bool)), vi = .int .i64 i ∧ i ≤ n ∧ n - i ≤ k ∧ QQ W pb (.slice none 0 0) 0 [] qb (.slice none 0 0) 0 [] wx ∧ MapAt wx mb keyI boolV seen ∧ W.heap.size ≤ mb ∧ V.keys seen = keys.take i ∧ (∀ x ∈ seen, x.2 = true)
def T2 (W : World) (pb qb : Nat) (keys : List Int) (n k : Nat) (vi : Value) (wx : World) : Prop :=
  ∃ (i : Nat) (v1 v2 : Value) (r1 r2 : List Pr), vi = .int .i64 i ∧ i ≤ n ∧ n - i ≤ k ∧ QQ W pb v1 i r1 qb v2 i r2 wx ∧ r1.Perm (prs keys i) ∧ r2.Perm ((prs keys n).drop (n - i))
def T3 (W : World) (pb qb : Nat) (n k : Nat) (vi : Value) (wx : World) : Prop :=
  ∃ (i : Nat) (v1 v2 : Value) (r : List Pr), vi = .int .i64 i ∧ i ≤ n + 1 ∧ n + 1 - i ≤ k ∧ QQ W pb v1 n r qb v2 n r wx
theorem QS.sorted {W wx : World} {qb : Nat} {v : Value} {p : Int} {r : List Pr} (h : QS W qb v p r wx) : r.Pairwise (fun a b => a.1 ≤ b.1) := by obtain ⟨l, _, h, _⟩ := h; exact h.sorted
theorem qq_new {W w2 w3 : World} {pb qb : Nat} (h2 : QS W pb (.slice none 0 0) 0 [] w2) (hb : w2.heap.size ≤ qb) (h3 : QS W qb (.slice none 0 0) 0 [] w3) (hk : Keeps [] w2 w3) : QQ W pb (.slice none 0 0) 0 [] qb (.slice none 0 0) 0 [] w3 := by
  refine ⟨h2.keep hk (by simp) (by simp), h3, fun x hx hx2 => ?_⟩
  have := h2.lt x hx
  simp only [Foot, Value.ownBlock, Option.toList, List.mem_cons, List.not_mem_nil, or_false] at hx2
  omega
set_option maxRecDepth 100000 in
set_option maxHeartbeats 2000000 in
theorem turned_any (keys : List Int) (A : Value) (W : World) (hA : Reads W A (keys.map (.int .i64))) (hf : Fits A) : Calls Try.prog 7 #[A] W (Tells (.bool true) W) := by
  obtain ⟨p, c, rfl, hlc, hr⟩ := hA
  have hc63 := hf _ _ _ rfl
  rw [List.length_map] at hlc hr ⊢
  obtain ⟨L, hL⟩ : ∃ L, L = keys.length := ⟨_, rfl⟩
  rw [← hL] at hlc hr ⊢
  have HR := Lib.hid hr
  have HL := Lib.hid hL
  clear hf hr hL
  obtain ⟨n, hn⟩ : ∃ n, n = min L 200 := ⟨_, rfl⟩
  have hn2 : n ≤ 200 := by omega
  have hnL : n ≤ L := by omega
  have hmin : (if (200 : Int) < (L : Int) then (200 : Int) else (L : Int)) = (n : Int) := by split <;> omega
  have hmin2 : (if (L : Int) < (200 : Int) then (L : Int) else (200 : Int)) = (n : Int) := by split <;> omega
  clear hn
  go_enter Try.func7, Try.ntmps7
  go_wp2_with fail
  refine (awake_ok _).mono ?_
  rintro e w1 ⟨rfl, hk1⟩
  go_wp2_with fail
  refine (qs_new hk1).mono ?_
  rintro e w2 ⟨pb, hpb, rfl, hq2, hk2⟩
  have H2 := Lib.hid hq2
  clear hpb hk2 hk1
  unfold P
  go_wp2_with fail
  refine (qs_new hq2.keeps).mono ?_
  rintro e w3 ⟨qb, hqb, rfl, hq3, hk3⟩
  have H3 := Lib.hid (qq_new hq2 hqb hq3 hk3)
  clear H2 hq2 hqb hq3 hk3
  unfold P
  have hmm := @run_makeMap Try.prog
  go_upto_region 6 with fail
  obtain ⟨wm, hwm⟩ : ∃ wm, wm = w3.alloc (.map #[] 0) := ⟨_, rfl⟩
  obtain ⟨mb, hmb⟩ : ∃ mb, mb = w3.heap.size := ⟨_, rfl⟩
  have HO := Lib.hid (show T1 W pb qb mb keys n n (.int .i64 ((0 : Nat) : Int)) wm from
    ⟨0, [], rfl, Nat.zero_le _, by omega, by rw [hwm]; exact H3.out.keep ((Keeps.refl [] _).alloc _) (by simp) (by simp), by rw [hwm, hmb]; exact MapAt.made w3 keyI boolV, by rw [hmb]; exact H3.out.1.keeps.size, rfl, by simp⟩)
  rw [← hwm, ← hmb]
  clear hwm hmb hmm H3
  go_upto_block 0 with fail
  go_cut [7] (fun _ wx => (QQ W pb (.slice none 0 0) 0 [] qb (.slice none 0 0) 0 [] wx) ∧ (keys.take n).Nodup)
  case first =>
    go_wp2_with fail
    go_loopg [7] n (fun k vi wx => T1 W pb qb mb keys n k vi wx)
    case atStart => exact HO.out
    case round =>
      obtain ⟨i, seen, rfl, hi, hik, hq, hm, hmW, hks, hall⟩ := hrel
      have HQ := Lib.hid (And.intro hq (And.intro hm (And.intro hmW (And.intro hks hall))))
      clear HO hq hmW hks hall
      by_cases hlt : i < n
      · obtain ⟨b, o, rfl, hr⟩ := HR.out (by omega)
        have c2 := key_cell hr (i := i) (by rw [← HL.out]; omega) HQ.out.1.1.keeps
        obtain ⟨K, hK⟩ : ∃ K, K = keys.getD i 0 := ⟨_, rfl⟩
        rw [← hK] at c2
        have HK := Lib.hid hK
        have hlk := hm.lookup kI2 Try.underlying44 (z := .bool false) (et := 4) (show (zeroValue 4).run Try.prog wr = .ok (.bool false) wr by kernel_rfl) K false
        clear hr hK hm
        by_cases hin : K ∈ V.keys seen
        · have hlk' : (Instr.lookup 44 (.map (some mb)) (.int .i64 K) false).run Try.prog wr = .ok (.bool true) wr := by
            obtain ⟨x, hx⟩ := Option.isSome_iff_exists.1 (get_isSome.2 hin)
            have : x = true := HQ.out.2.2.2.2 (K, x) (mem_of_get hx)
            rw [hx, this] at hlk
            exact hlk
          clear hlk
          go_wp2
          go_ret
          exact ⟨rfl, HQ.out.1.1.keeps⟩
        · have hlk' : (Instr.lookup 44 (.map (some mb)) (.int .i64 K) false).run Try.prog wr = .ok (.bool false) wr := by
            rw [get_none.2 hin] at hlk
            exact hlk
          have HIN := Lib.hid hin
          clear hlk hin
          go_wp2_with (first | (refine vp_update rfl (.tmp 35) (.tmp 39) (.const (.bool true)) 44 rfl 2 4 Try.underlying44 kI2 rfl K rfl true rfl HQ.out.2.1 ?_; intro w4 hm4 hk4; have HM4 := Lib.hid (And.intro hm4 hk4); clear hm4 hk4 hlk' c2) | fail)
          go_roundg (gk - 1)
          case measure => omega
          case rel =>
            obtain ⟨hq, hm, hmW, hks, hall⟩ := HQ.out
            obtain ⟨hm4, hk4⟩ := HM4.out
            refine ⟨i + 1, _, by push_cast; rfl, by omega, by omega, hq.keep hk4 (fun z hz => ?_) (fun z hz => ?_), hm4, hmW, ?_, fun x hx => ?_⟩
            · obtain rfl := List.mem_singleton.1 hz
              exact ⟨hq.1.ne_map hm, hq.2.1.ne_map hm⟩
            · obtain rfl := List.mem_singleton.1 hz
              exact hmW
            · rw [keys_put, if_neg HIN.out, hks, List.take_add_one, HK.out]
              rw [List.getD_eq_getElem?_getD, List.getElem?_eq_getElem (by rw [← HL.out]; omega)]
              rfl
            · rcases mem_put hx with q | q
              · rw [q]
              · exact hall x q
      · have e : i = n := by omega
        subst e
        clear hm
        go_wp2
        go_meet
        case rel =>
          obtain ⟨hq, hm, hmW, hks, hall⟩ := HQ.out
          exact ⟨hq, by rw [← hks]; exact hm.nodup⟩
  case rest =>
    obtain ⟨hq, hnd⟩ := hcut
    have HQ := Lib.hid hq
    have HND := Lib.hid hnd
    clear hq hnd HO
    go_upto_block 2 with fail
    go_cut [8] (fun _ wx => ∃ v1 v2 r, QQ W pb v1 n r qb v2 n r wx)
    case first =>
      go_wp2_with fail
      go_loopg [8] n (fun k vi wx => T2 W pb qb keys n k vi wx)
      case atStart => exact ⟨0, _, _, [], [], rfl, Nat.zero_le _, by omega, HQ.out, List.Perm.refl _, by rw [Nat.sub_zero, List.drop_of_length_le (by rw [length_prs]; omega)]⟩
      case round =>
        obtain ⟨i, v1, v2, r1, r2, rfl, hi, hik, hq, hp1, hp2⟩ := hrel
        have HP := Lib.hid (And.intro hq (And.intro hp1 hp2))
        clear HQ hp1 hp2
        by_cases hlt : i < n
        · obtain ⟨b, o, rfl, hr⟩ := HR.out (by omega)
          have c1 := key_cell hr (i := i) (by rw [← HL.out]; omega) hq.1.keeps
          have HS := Lib.hid hr
          have HC := Lib.hid (qs_push hq.1 (by omega) (keys.getD i 0) i)
          obtain ⟨j, hj⟩ : ∃ j, j = n - 1 - i := ⟨_, rfl⟩
          have hji : (n : Int) - 1 - (i : Int) = (j : Int) := by omega
          have hjn : j < n := by omega
          have HJ := Lib.hid hj
          clear hr hq hj
          unfold P at *
          go_wp2_with fail
          refine HC.out.mono ?_
          rintro e w4 ⟨rfl, hd⟩
          obtain ⟨v1', hq'⟩ := HP.out.1.left hd
          have c2 := key_cell HS.out (i := j) (by rw [← HL.out]; omega) hq'.1.keeps
          have HC2 := Lib.hid (qs_push hq'.2.1 (by omega) (keys.getD j 0) j)
          have HQ' := Lib.hid hq'
          clear c1 hd hq' HC
          unfold P at *
          go_wp2_with fail
          refine HC2.out.mono ?_
          rintro e w5 ⟨rfl, hd⟩
          obtain ⟨v2', hq'⟩ := HQ'.out.right hd
          have HQ2 := Lib.hid hq'
          clear hd hq' c2
          go_wp2
          go_roundg (gk - 1)
          case measure => omega
          case rel =>
            refine ⟨i + 1, v1', v2', _, _, by push_cast; rfl, by omega, by omega, by push_cast; exact HQ2.out, ?_, ?_⟩
            · rw [prs_succ]
              exact (insP_perm _ _).trans ((HP.out.2.1.cons _).trans (List.perm_append_singleton _ _).symm)
            · have := prs_drop keys n i hlt
              rw [← HJ.out] at this
              rw [show n - (i + 1) = j by rw [HJ.out]; omega, this]
              exact (insP_perm _ _).trans (HP.out.2.2.cons _)
        · have e : i = n := by omega
          subst e
          clear hq
          go_wp2
          go_meet
          case rel =>
            obtain ⟨hq, hp1, hp2⟩ := HP.out
            rw [Nat.sub_self, List.drop_zero] at hp2
            have := turned_eq (by rw [← HL.out]; omega) HND.out hq.1.sorted hq.2.1.sorted hp1 hp2
            subst this
            exact ⟨v1, v2, _, hq⟩
    case rest =>
      obtain ⟨v1, v2, r, hq⟩ := hcut
      have HQ := Lib.hid hq
      clear hq HND
      go_upto_block 4 with fail
      go_wp2_with fail
      go_loopg [9] (n + 1) (fun k vi wx => T3 W pb qb n k vi wx)
      case atStart => exact ⟨0, v1, v2, r, rfl, Nat.zero_le _, by omega, HQ.out⟩
      case round =>
        clear HQ
        obtain ⟨i, v1, v2, r, rfl, hi, hik, hq⟩ := hrel
        have HQ := Lib.hid hq
        by_cases hle : i ≤ n
        · have HC := Lib.hid (qs_pop hq.1 (by omega))
          obtain ⟨a, ha⟩ : ∃ a, a = tk r := ⟨_, rfl⟩
          obtain ⟨b, hb⟩ : ∃ a, a = tn r := ⟨_, rfl⟩
          obtain ⟨c, hc⟩ : ∃ a, a = tb r := ⟨_, rfl⟩
          unfold PopP at HC
          rw [← ha, ← hb, ← hc] at HC
          have HA := Lib.hid (And.intro ha (And.intro hb hc))
          have e1 : (a != a) = false := by simp
          have e2 : (b != b) = false := by simp
          have e3 : (c != c) = false := by simp
          clear hq ha hb hc
          unfold P at *
          go_wp2_with fail
          refine HC.out.mono ?_
          rintro e w4 ⟨rfl, hd⟩
          obtain ⟨v1', hq'⟩ := HQ.out.left hd
          have HC2 := Lib.hid (qs_pop hq'.2.1 (by omega))
          unfold PopP at HC2
          rw [← HA.out.1, ← HA.out.2.1, ← HA.out.2.2] at HC2
          have HQ' := Lib.hid hq'
          clear hd hq' HC
          unfold P at *
          go_wp2_with fail
          refine HC2.out.mono ?_
          rintro e w5 ⟨rfl, hd⟩
          obtain ⟨v2', hq'⟩ := HQ'.out.right hd
          have HQ2 := Lib.hid hq'
          clear hd hq' HC2
          go_wp2
          go_roundg (gk - 1)
          case measure => omega
          case rel => exact ⟨i + 1, v1', v2', _, by push_cast; rfl, by omega, by omega, HQ2.out⟩
        · clear hq
          go_wp2
          go_ret
          exact ⟨rfl, HQ.out.1.keeps⟩
end Go.Proofs.Ytginbdgoijeeoaa
