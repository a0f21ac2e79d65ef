/-
  The reference: Text, walked.
-/
import Derived.Test.YtpfmhjokcpkliaaL12
namespace Go.V.Path
open Go Go.V
/-- what is left of a text -/
def rt : List (List UInt8) → Bool → List UInt8
  | [], _ => []
  | x :: l, d => x ++ (if !l.isEmpty || d then [47] else []) ++ rt l d
theorem rt_join (d : Bool) : ∀ ns : List (List UInt8), rt ns d = Lib.join ns [47] ++ (if d && !ns.isEmpty then [47] else [])
  | [] => by simp [rt, Lib.join]
  | [x] => by cases d <;> simp [rt, Lib.join]
  | x :: y :: l => by
    rw [rt, rt_join d (y :: l)]
    simp [Lib.join]
theorem textL_rt (ns : List (List UInt8)) (d : Bool) : textL ns d = 47 :: rt ns d := by unfold textL; rw [rt_join]
theorem bs_cat (a b : List UInt8) : bs a ++ bs b = bs (a ++ b) := bytes_cat a b
theorem drop_at_l {l : List (List UInt8)} {i : Nat} {c : List UInt8} (h : l[i]? = some c) : l.drop i = c :: l.drop (i + 1) := by
  obtain ⟨h1, h2⟩ := List.getElem?_eq_some_iff.1 h
  rw [List.drop_eq_getElem_cons h1, h2]
end Go.V.Path
namespace Go.Proofs.Ytpfmhjokcpkliaa
open Go.RowKit Go.V Go.V.Path
theorem one_box (w : World) (v1 : Value) (d1 : Bool) : ∃ (w2 : World) (ab : Nat), w2 = w.alloc (.cells #[v1, .bool d1] 25) ∧ ab = w.heap.size ∧ w2.heap[ab]? = some (.cells #[v1, .bool d1] 25 (0, 0)) ∧ Keeps [] w w2 :=
  ⟨_, _, rfl, rfl, heap_alloc w _, (Keeps.refl _ _).alloc _⟩
set_option maxHeartbeats 2000000 in
theorem rtext_ok (v : Value) (ns : List (List UInt8)) (d : Bool) (w : World) (hv : SG FB w v ns) (hb : (textL ns d).length ≤ 9000000000000000000) : Calls Try.prog 24 #[pathV v d] w (SPost (textL ns d) w) := by
  obtain ⟨p, c, rfl, hc, hd1, _⟩ := id hv
  obtain ⟨N, hN⟩ : ∃ N, N = ns.length := ⟨_, rfl⟩
  rw [← hN] at hv hc ⊢
  obtain ⟨T0, hT0⟩ : ∃ T0, T0 = textL ns d := ⟨_, rfl⟩
  rw [← hT0] at hb ⊢
  have H := Lib.hid (And.intro hN (And.intro hv hT0))
  clear hN hv hT0
  unfold pathV
  go_enter Try.func24, Try.ntmps24
  go_upto_region 1 with fail
  obtain ⟨w2, ab, hw, ha, g1, hk⟩ := one_box w (.slice p N c) d
  rw [← hw, ← ha]
  have H2 := Lib.hid (And.intro g1 hk)
  clear hw ha g1 hk
  have a0 : w2.cell? ⟨ab, 0, none⟩ = some (.slice p N c) := cell_of H2.out.1 rfl
  have a1 : w2.cell? ⟨ab, 1, none⟩ = some (.bool d) := cell_of H2.out.1 rfl
  go_upto_block 0 with fail
  go_cut [3] (fun vs wx => vs = .string (bs T0) ∧ wx = w2)
  case first =>
    go_wp2_with fail
    go_loopg [3, 4] N (fun m vs vi wx => ∃ (i : Nat) (T : List UInt8), vi = .int .i64 i ∧ i + m = N ∧ vs = .string (bs T) ∧ T ++ rt (ns.drop i) d = T0 ∧ wx = w2)
    case atStart => exact ⟨0, [47], rfl, by omega, rfl, by rw [H.out.2.2, textL_rt]; rfl, rfl⟩
    case round =>
      obtain ⟨i, T, rfl, hi, rfl, hT, hww⟩ := hrel
      subst wr
      have HT := Lib.hid (And.intro hT hi)
      have hTl : T.length ≤ 9000000000000000000 := by rw [← hT, List.length_append] at hb; omega
      have hTs := bs_size T
      clear hT hi
      by_cases hlt : i < N
      · have hii : (i : Int) < (N : Int) := by omega
        obtain ⟨x, hx⟩ : ∃ x, ns[i]? = some x := ⟨_, List.getElem?_eq_getElem (by rw [← H.out.1]; exact hlt)⟩
        obtain ⟨gx, ox, rfl, x0⟩ := sg_str (H.out.2.1.keep H2.out.2 (by simp)) hx
        have hrt : T ++ (x ++ (if !(ns.drop (i + 1)).isEmpty || d then [47] else []) ++ rt (ns.drop (i + 1)) d) = T0 := by
          rw [← HT.out.1, drop_at_l hx, rt]
        have hemp : (!(ns.drop (i + 1)).isEmpty) = decide (i < N - 1) := by
          rw [Bool.eq_iff_iff, decide_eq_true_eq, Bool.not_eq_true', List.isEmpty_eq_false_iff]
          constructor
          · intro h
            have : 0 < (ns.drop (i + 1)).length := List.length_pos_iff.2 h
            rw [List.length_drop, ← H.out.1] at this
            omega
          · intro h e
            have : (ns.drop (i + 1)).length = 0 := by rw [e]; rfl
            rw [List.length_drop, ← H.out.1] at this
            omega
        rw [hemp] at hrt
        have hcx := bs_cat T x
        have hxs := bs_size x
        have hxl : T.length + x.length ≤ 9000000000000000000 := by
          rw [← hrt] at hb
          simp only [List.length_append] at hb
          omega
        obtain ⟨T1, hT1⟩ : ∃ T1, T1 = T ++ x := ⟨_, rfl⟩
        rw [← hT1] at hcx
        have hT1s := bs_size T1
        have hc47 : bs T1 ++ ⟨#[47]⟩ = bs (T1 ++ [47]) := bs_cat T1 [47]
        have hT1l : T1.length ≤ 9000000000000000000 := by rw [hT1, List.length_append]; exact hxl
        have HRT := Lib.hid (And.intro hrt hT1)
        clear hx hrt hemp hT1
        by_cases hl1 : i < N - 1
        · have hn1 : (i : Int) < (N : Int) - 1 := by omega
          have HL1 := Lib.hid hl1
          clear hl1
          go_wp2
          go_roundg (gk - 1)
          case measure => have := HT.out.2; omega
          case rel => exact ⟨i + 1, T1 ++ [47], by push_cast; rfl, by have := HT.out.2; omega, rfl, by
            rw [← HRT.out.1, HRT.out.2, decide_eq_true HL1.out, Bool.true_or, if_pos rfl]
            simp only [List.append_assoc], rfl⟩
        · have hn1 : ¬ (i : Int) < (N : Int) - 1 := by omega
          have HL1 := Lib.hid hl1
          clear hl1
          cases d with
          | true =>
            go_wp2
            go_roundg (gk - 1)
            case measure => have := HT.out.2; omega
            case rel => exact ⟨i + 1, T1 ++ [47], by push_cast; rfl, by have := HT.out.2; omega, rfl, by
              rw [← HRT.out.1, HRT.out.2, Bool.or_true, if_pos rfl]
              simp only [List.append_assoc], rfl⟩
          | false =>
            go_wp2
            go_roundg (gk - 1)
            case measure => have := HT.out.2; omega
            case rel => exact ⟨i + 1, T1, by push_cast; rfl, by have := HT.out.2; omega, rfl, by
              rw [← HRT.out.1, HRT.out.2, decide_eq_false HL1.out, Bool.false_or, if_neg (by decide), List.append_nil]
              simp only [List.append_assoc], rfl⟩
      · have hii : ¬ (i : Int) < (N : Int) := by omega
        have hf : T = T0 := by
          have := HT.out.1
          rw [List.drop_eq_nil_of_le (by rw [← H.out.1]; omega)] at this
          simpa [rt] using this
        have HF := Lib.hid hf
        clear hf hlt
        go_wp2
        go_meet
        case rel => exact ⟨by rw [HF.out], rfl⟩
  case rest =>
    obtain ⟨rfl, hww⟩ := hcut
    subst wc
    go_wp2
    go_ret
    exact ⟨rfl, H2.out.2⟩
end Go.Proofs.Ytpfmhjokcpkliaa
