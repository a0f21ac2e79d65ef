/-
  QueueRises' walk.
-/
import Derived.Test.YtginbdgoijeeoaaQ14
namespace Go.Proofs.Ytginbdgoijeeoaa
open Go.RowKit Go.V Go.V.Queue
def PI (W : World) (qb : Nat) (keys : List Int) (n k : Nat) (vi : Value) (wx : World) : Prop :=
  ∃ (i : Nat) (v : Value) (l : List It), vi = .int .i64 i ∧ i ≤ n ∧ n - i ≤ k ∧ QI W qb v i l wx ∧ Heap 0 l.length l ∧ l.Perm (mkL keys i)
def PO (W : World) (qb mb : Nat) (keys : List Int) (n k : Nat) (vw vl vi : Value) (wx : World) : Prop :=
  ∃ (i : Nat) (v : Value) (l : List It) (seen : List (Int × Bool)) (was last : Int), vi = .int .i64 i ∧ vw = .int .i64 was ∧ vl = .int .i64 last ∧ i ≤ n ∧ n - i ≤ k ∧ QI W qb v n l wx ∧ MapAt wx mb keyI boolV seen ∧ PopInv keys n i l seen was last
set_option maxRecDepth 100000 in
set_option maxHeartbeats 2000000 in
theorem rises_any (keys : List Int) (A : Value) (W : World) (hA : Reads W A (keys.map (.int .i64))) (hf : Fits A) : Calls Try.prog 4 #[A] W (Tells (.bool true) W) := by
  obtain ⟨p, c, rfl, hlc, hr⟩ := hA
  have hc63 := hf _ _ _ rfl
  rw [List.length_map] at hlc hr ⊢
  obtain ⟨L, hL⟩ : ∃ L, L = keys.length := ⟨_, rfl⟩
  rw [← hL] at hlc hr ⊢
  have HR := Lib.hid hr
  have HL := Lib.hid hL
  clear hf hr hL
  obtain ⟨n, hn⟩ : ∃ n, n = min L 200 := ⟨_, rfl⟩
  have hn2 : n ≤ 200 := by omega
  have hnL : n ≤ L := by omega
  have hmin : (if (200 : Int) < (L : Int) then (200 : Int) else (L : Int)) = (n : Int) := by split <;> omega
  have hmin2 : (if (L : Int) < (200 : Int) then (L : Int) else (200 : Int)) = (n : Int) := by split <;> omega
  clear hn
  go_enter Try.func4, Try.ntmps4
  go_wp2_with fail
  refine (awake_ok _).mono ?_
  rintro e w1 ⟨rfl, hk1⟩
  go_wp2_with fail
  refine (qnew_ok _).mono ?_
  rintro e w2 ⟨qb, hqb, rfl, hq2, hk2⟩
  have h0 : QI W qb (.slice none 0 0) 0 [] w2 := ⟨Nat.le_trans hk1.size hqb, fun g hg => by simp [Value.ownBlock] at hg, hq2, hk1.trans hk2⟩
  have H0 := Lib.hid h0
  clear hk1 hqb hq2 hk2 h0
  unfold P
  go_upto_block 0 with fail
  go_cut [5] (fun _ wx => ∃ (v : Value) (l : List It), QI W qb v n l wx ∧ Heap 0 l.length l ∧ l.Perm (mkL keys n))
  case first =>
    go_wp2_with fail
    go_loopg [5] n (fun k vi wx => PI W qb keys n k vi wx)
    case atStart => exact ⟨0, _, [], rfl, Nat.zero_le _, by omega, H0.out, heap_nil, List.Perm.refl _⟩
    case round =>
      obtain ⟨i, v, l, rfl, hi, hik, hq, hh, hp⟩ := hrel
      have HQ := Lib.hid (And.intro hq (And.intro hh hp))
      clear hq hh hp
      by_cases hlt : i < n
      · obtain ⟨b, o, rfl, hr⟩ := HR.out (by omega)
        have c1 : W.cell? ⟨b, o + i, none⟩ = some (.int .i64 (keys.getD i 0)) := by
          refine hr i _ ?_
          rw [List.getElem?_map, List.getD_eq_getElem?_getD, List.getElem?_eq_getElem (by rw [← HL.out]; omega)]; rfl
        have c2 : wr.cell? ⟨b, o + i, none⟩ = some (.int .i64 (keys.getD i 0)) := (World.cell?_of_block (w := W) (HQ.out.1.2.2.2.block b (Go.block_lt_of_cell c1) (by simp))).trans c1
        obtain ⟨K, hK⟩ : ∃ K, K = keys.getD i 0 := ⟨_, rfl⟩
        rw [← hK] at c2
        have hll : l.length = i := by rw [HQ.out.2.2.length_eq, length_mkL]
        have HC := Lib.hid (qpush_ok qb v l i K i wr HQ.out.1.2.2.1 (by omega) (by omega) (by omega))
        have HK := Lib.hid (And.intro hK hll)
        clear c1 hr hK hll
        unfold P at *
        go_wp2_with fail
        refine HC.out.mono ?_
        rintro e w3 ⟨rfl, v', f1, q1, k1⟩
        have HN := Lib.hid (And.intro f1 (And.intro q1 k1))
        clear f1 q1 k1
        go_wp2
        go_roundg (gk - 1)
        case measure => omega
        case rel =>
          obtain ⟨f1, q1, k1⟩ := HN.out
          obtain ⟨a1, a2, a3⟩ := push_heap HQ.out.2.1 (mk keys i)
          have e1 : (⟨K, i, i⟩ : It) = mk keys i := by rw [HK.out.1]; rfl
          rw [e1] at q1
          refine ⟨i + 1, v', _, by push_cast; rfl, by omega, by omega, by push_cast; exact HQ.out.1.step f1 q1 k1, a1, a2.trans ?_⟩
          rw [mkL_succ]
          exact ((List.Perm.cons _ HQ.out.2.2).trans (List.perm_append_singleton _ _).symm)
      · have e : i = n := by omega
        subst e
        go_wp2
        go_meet
        case rel => exact ⟨v, l, HQ.out⟩
  case rest =>
    obtain ⟨v, l, hq, hh, hp⟩ := hcut
    have HQ := Lib.hid (And.intro hq (And.intro hh hp))
    clear hq hh hp H0
    have hmm := @run_makeMap Try.prog
    go_upto_region 11 with fail
    obtain ⟨wm, hwm⟩ : ∃ wm, wm = wc.alloc (.map #[] 0) := ⟨_, rfl⟩
    obtain ⟨mb, hmb⟩ : ∃ mb, mb = wc.heap.size := ⟨_, rfl⟩
    have hmW : W.heap.size ≤ mb := by rw [hmb]; exact HQ.out.1.2.2.2.size
    have HO := Lib.hid (show PO W qb mb keys n n (.int .i64 0) (.int .i64 (-1)) (.int .i64 ((0 : Nat) : Int)) wm from
      ⟨0, v, l, [], 0, -1, rfl, rfl, rfl, Nat.zero_le _, by omega, by rw [hwm]; exact HQ.out.1.keep ((Keeps.refl _ _).alloc _), by rw [hwm, hmb]; exact MapAt.made wc keyI boolV,
        HQ.out.2.1, by rw [HQ.out.2.2.length_eq, length_mkL]; omega, fun x hx => HQ.out.2.2.mem_iff.1 hx, (HQ.out.2.2.map It.n).nodup_iff.2 (nodup_mkL keys n), fun x hx h => by simp [V.keys] at h, fun h => by omega⟩)
    rw [← hwm, ← hmb]
    have HMW := Lib.hid hmW
    clear hwm hmb hmm HQ hmW
    go_wp2_with fail
    go_loopg [7, 8, 9] n (fun k vw vl vi wx => PO W qb mb keys n k vw vl vi wx)
    case atStart => exact HO.out
    case round =>
      obtain ⟨i, v, l, seen, was, last, rfl, rfl, rfl, hi, hik, hq, hm, hinv⟩ := hrel
      have hll := hinv.2.1
      have hqn := hm.ne_cells hq.2.2.1.1
      have hon : ∀ g, v.ownBlock = some g → g ≠ mb := by
        intro g hg e
        rcases hq.2.2.1.2.2 with ⟨rfl, _⟩ | ⟨g', _, _, rfl, _, hh, _⟩
        · simp [Value.ownBlock] at hg
        · have hg' : g' = g := by simpa [Value.ownBlock] using hg
          rw [hg'] at hh
          exact hm.ne_cells hh e
      have HQ := Lib.hid (And.intro hq (And.intro hm (And.intro hinv (And.intro hqn hon))))
      clear hinv hqn hon hm
      by_cases hlt : i < n
      · obtain ⟨m, hmn, hat, hns, hord, hinv'⟩ := pop_step HQ.out.2.2.1 hlt
        have hpo := qpop_ok qb v (.int .i64 n) l wr hq.2.2.1 (by omega) (by omega)
        unfold QPopPost at hpo
        rw [hat] at hpo
        obtain ⟨K, hK⟩ : ∃ K, K = keys.getD m 0 := ⟨_, rfl⟩
        have hmk : mk keys m = ⟨K, m, m⟩ := by rw [hK]; rfl
        rw [hmk] at hpo
        rw [← hK] at hord hinv'
        have HC := Lib.hid hpo
        have HI := Lib.hid hinv'
        have HNS := Lib.hid hns
        obtain ⟨b, o, rfl, hr⟩ := HR.out (by omega)
        have c1 : W.cell? ⟨b, o + m, none⟩ = some (.int .i64 K) := by
          refine hr m _ ?_
          rw [hK, List.getElem?_map, List.getD_eq_getElem?_getD, List.getElem?_eq_getElem (by rw [← HL.out]; omega)]; rfl
        have HC1 := Lib.hid c1
        have HORD := Lib.hid hord
        clear hq hpo hK hmk hinv' hns hat hr c1 hord
        unfold P at *
        go_wp2_with fail
        refine HC.out.mono ?_
        rintro e w3 ⟨rfl, v', f1, q1, k1⟩
        have hq3 := HQ.out.1.step (from_same f1) q1 k1
        have hm3 := HQ.out.2.1.keep k1 (by
          intro hx
          simp only [List.mem_cons, Option.mem_toList] at hx
          rcases hx with hx | hx
          · exact HQ.out.2.2.2.1 hx.symm
          · exact HQ.out.2.2.2.2 _ hx rfl)
        have c2 : w3.cell? ⟨b, o + m, none⟩ = some (.int .i64 K) := (World.cell?_of_block (w := W) (hq3.2.2.2.block b (Go.block_lt_of_cell HC1.out) (by simp))).trans HC1.out
        have hlk := hm3.lookup kI Try.underlying40 (z := .bool false) (et := 4) (show (zeroValue 4).run Try.prog w3 = .ok (.bool false) w3 by kernel_rfl) (m : Int) false
        rw [get_none.2 HNS.out] at hlk
        have hlk' : (Instr.lookup 40 (.map (some mb)) (.int .i64 (m : Int)) false).run Try.prog w3 = .ok (.bool false) w3 := hlk
        have hKK : (K != K) = false := by simp
        have H3 := Lib.hid (And.intro hq3 (And.intro hm3 (And.intro HQ.out.2.2.2.1 HQ.out.2.2.2.2)))
        have hmnI : ¬ (n : Int) ≤ (m : Int) := by omega
        have hmL : (m : Int) < (L : Int) := by omega
        have HF := Lib.hid f1
        clear hq3 hm3 f1 q1 k1 hlk
        go_upto_region 17 with fail
        clear hlk' c2 hKK
        go_cut [86] (fun v wx => v = .bool false ∧ w3 = wx)
        case first =>
          by_cases hi0 : i = 0
          · subst hi0
            go_wp2
            go_meet
            case rel => exact ⟨rfl, rfl⟩
          · have hi1 : (0 : Int) < (i : Int) := by omega
            rcases HORD.out (by omega) with ho | ⟨ho, ho2⟩
            · have g1 : ¬ K < was := by omega
              have g2 : (K == was) = false := beq_eq_false_iff_ne.2 (by omega)
              clear ho
              go_wp2
              go_meet
              case rel => exact ⟨rfl, rfl⟩
            · subst ho
              have g1 : ¬ was < was := by omega
              have g3 : ¬ (m : Int) < last := by omega
              clear ho2
              go_wp2
              go_meet
              case rel => exact ⟨rfl, rfl⟩
        case rest =>
          obtain ⟨rfl, rfl⟩ := hcut
          clear HORD
          go_wp2_with (first | (refine vp_update rfl (.tmp 87) (.tmp 88) (.const (.bool true)) 40 rfl 3 4 Try.underlying40 kI rfl (m : Int) rfl true rfl H3.out.2.1 ?_; intro w4 hm4 hk4; have HM4 := Lib.hid (And.intro hm4 hk4); clear hm4 hk4) | fail)
          go_roundg (gk - 1)
          case measure => omega
          case rel =>
            obtain ⟨hq3, hm3, hqn, hon⟩ := H3.out
            obtain ⟨hm4, hk4⟩ := HM4.out
            refine ⟨i + 1, v', _, _, K, m, by push_cast; rfl, rfl, rfl, by omega, by omega, ⟨hq3.1, hq3.2.1, hq3.2.2.1.keep hk4 (by simp; exact hqn) (fun z hz => ?_), hq3.2.2.2.trans' hk4 (fun z hz => Or.inr (by obtain rfl := List.mem_singleton.1 hz; exact HMW.out))⟩, hm4, HI.out⟩
            obtain rfl := List.mem_singleton.1 hz
            intro hq
            rw [HF.out] at hq
            exact hon _ hq rfl
      · have hl0 : l = [] := List.eq_nil_of_length_eq_zero (by omega)
        have hqk := HQ.out.1.2.2.2
        subst hl0
        have HP := Lib.hid (qpop_nil qb v _ wr hq.2.2.1)
        have HN := Lib.hid (qlen_ok qb v _ _ wr hq.2.2.1)
        have HKW := Lib.hid hqk
        clear hq hqk hll
        unfold P at *
        go_wp2_with fail
        refine HP.out.mono ?_
        rintro e w' ⟨rfl, rfl⟩
        go_wp2_with fail
        refine HN.out.mono ?_
        rintro e w' ⟨rfl, rfl⟩
        go_wp2
        go_ret
        exact ⟨rfl, HKW.out⟩
end Go.Proofs.Ytginbdgoijeeoaa
