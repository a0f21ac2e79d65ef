/-
  The reference's queue, walked: Pop, Drop.
-/
import Derived.Test.YtginbdgoijeeoaaQ25
namespace Go.Proofs.Ytginbdgoijeeoaa
open Go.RowKit Go.V Go.V.Queue
variable {W wx w' : World} {rb : Nat} {v : Value} {r : List Pr}
theorem rpop_ok (h : RQ W rb v r wx) (hl : r.length ≤ 1000000) : Calls Try.prog 13 #[P rb] wx (RPopP W wx rb v r) := by
  have hpk := rpeek_ok h
  unfold PeekP at hpk
  cases r with
  | nil =>
    rw [show tk [] = 0 from rfl, show tn [] = 0 from rfl, show tb [] = false from rfl] at hpk
    have HP := Lib.hid hpk
    have H := Lib.hid h
    clear hpk h
    unfold P at *
    go_enter Try.func13, Try.ntmps13
    go_wp2_with fail
    refine HP.out.mono ?_
    rintro e w1 ⟨rfl, k, rfl⟩
    go_wp2
    go_ret3
    refine ⟨rfl, v, H.out.keep ((Keeps.refl [] wx).drewN k) (by simp) (by simp), ((Keeps.refl [] wx).drewN k).mono (by simp), fun x hx => Or.inl hx⟩
  | cons x r =>
    obtain ⟨a, b⟩ := x
    rw [show tk ((a, b) :: r) = a from rfl, show tn ((a, b) :: r) = b from rfl, show tb ((a, b) :: r) = true from rfl] at hpk
    have HP := Lib.hid hpk
    obtain ⟨p, c, rfl, hlc, hc63⟩ := h.2.2.1.value
    obtain ⟨N, hN⟩ : ∃ N, N = ((a, b) :: r).length := ⟨_, rfl⟩
    rw [← hN] at h hlc hl ⊢
    have H := Lib.hid h
    have HN := Lib.hid hN
    have hN1 : 1 ≤ N := by rw [hN]; simp
    clear hpk h hN
    unfold P at *
    go_enter Try.func13, Try.ntmps13
    go_wp2_with fail
    refine HP.out.mono ?_
    rintro e w1 ⟨rfl, k, rfl⟩
    obtain ⟨w1, hw1⟩ : ∃ w1, w1 = wx.drewN k := ⟨_, rfl⟩
    have hk1 : Keeps [] wx w1 := by rw [hw1]; exact (Keeps.refl [] wx).drewN k
    rw [← hw1]
    have hq1 := H.out.keep hk1 (by simp) (by simp)
    have HE := Lib.hid (Made.empty FP 54 w1)
    obtain ⟨w2, hw2⟩ : ∃ w2, w2 = w1.alloc (.cells #[] 54) := ⟨_, rfl⟩
    have HQ1 := Lib.hid (And.intro hq1 hk1)
    have hq2 := hq1.keep (show Keeps [] w1 (w1.alloc (.cells #[] 54)) from (Keeps.refl [] w1).alloc _) (by simp) (by simp)
    have c0 : (w1.alloc (.cells #[] 54)).cell? ⟨rb, 0, none⟩ = some (.slice p N c) := cell_of hq2.2.1 rfl
    have HQ2 := Lib.hid hq2
    clear hw1 hk1 hq1 hw2 hq2 HP
    go_wp2_with (first | (refine vp_tail_g (F := FP) rfl (.tmp 20) (.const (.int .i64 1)) 27 rfl Try.underlying27 (by kernel_rfl) _ ((a, b) :: r) rfl HQ2.out.2.2.1.sg 1 (by simp) rfl ?_; intro v2 hv2 hb2; have HV := Lib.hid hv2; clear hv2 hb2) | (refine vp_append_sg rfl (.tmp 16) (.tmp 21) 27 rfl (.agg #[.int .i64 0, .int .i64 0]) 16 Try.underlying27 infoz54 rfl (by decide) _ [] rfl HE.out.1 _ _ rfl HV.out (by simp; have := HN.out; simp at this; omega) (by simp; have := HN.out; simp at this; omega) ?_; intro v3 w3 k1 k2 k3; have HM := Lib.hid (HE.out.app k1 k2 k3); clear k1 k2 k3 c0; have hq3 := HQ1.out.1.keep HM.out.2.2 (by simp) (by simp); have c0 : w3.cell? ⟨rb, 0, none⟩ = some (.slice p N c) := cell_of hq3.2.1 rfl; have f0 : w3.frozen? ⟨rb, 0, none⟩ = false := frozen_of 0 hq3.2.1; obtain ⟨pb, cb, hvb, _, _⟩ := HM.out.1.value; subst hvb; clear hq3) | fail)
    go_ret3
    refine ⟨rfl, ?_⟩
    have hd := HQ1.out.1.put HM.out
    obtain ⟨v', d1, d2, d3⟩ := hd
    exact ⟨v', d1, (HQ1.out.2.mono (by simp)).trans d2, fun x hx => (d3 x hx).elim Or.inl (fun q => Or.inr (Nat.le_trans HQ1.out.2.size q))⟩
def DLoop (w : World) (r : List Pr) (n : Int) (m : Nat) (va vi : Value) (wx : World) : Prop :=
  ∃ i : Nat, vi = .int .i64 i ∧ i + m = r.length ∧ Made FP 54 w va (keepP n (r.take i)) wx
set_option maxHeartbeats 4000000 in
theorem rdrop_ok (h : RQ W rb v r wx) (hl : r.length ≤ 1000000) (n : Int) : Calls Try.prog 15 #[P rb, .int .i64 n] wx (RDropP W wx rb v n r) := by
  obtain ⟨p, c, rfl, hlc, hc63⟩ := h.2.2.1.value
  obtain ⟨N, hN⟩ : ∃ N, N = r.length := ⟨_, rfl⟩
  rw [← hN] at h hl hlc ⊢
  have c0 : wx.cell? ⟨rb, 0, none⟩ = some (.slice p N c) := cell_of h.2.1 rfl
  have H := Lib.hid h
  have HN := Lib.hid hN
  have HE := Lib.hid (Made.empty FP 54 wx)
  clear h hN
  unfold P
  go_enter Try.func15, Try.ntmps15
  go_upto_block 0 with fail
  go_cut [5] (fun va wx' => Made FP 54 wx va (keepP n r) wx')
  case first =>
    go_wp2_with fail
    go_loopg [5, 6] N (fun m va vi wx' => DLoop wx r n m va vi wx')
    case atStart => exact ⟨0, rfl, by rw [← HN.out, Nat.zero_add], HE.out⟩
    case round =>
      obtain ⟨i, rfl, hi, hm⟩ := hrel
      rw [← HN.out] at hi
      have hal : (keepP n (r.take i)).length ≤ i := Nat.le_trans (List.length_filter_le _ _) (by rw [List.length_take]; omega)
      obtain ⟨acc, hacc⟩ : ∃ acc, acc = keepP n (r.take i) := ⟨_, rfl⟩
      rw [← hacc] at hm hal
      have HM := Lib.hid hm
      have HA := Lib.hid hacc
      have c0' : wr.cell? ⟨rb, 0, none⟩ = some (.slice p N c) := cell_of (hm.2.2.get H.out.2.1 (by simp)) rfl
      clear c0 hm hacc HE
      by_cases hlt : i < N
      · obtain ⟨y, hy⟩ : ∃ y, r[i]? = some y := ⟨_, List.getElem?_eq_getElem (by rw [← HN.out]; exact hlt)⟩
        obtain ⟨g, c', cur, hv, _⟩ := H.out.2.2.1.shape (by rw [← HN.out]; omega)
        simp only [Value.slice.injEq] at hv
        obtain ⟨rfl, hv1, hv2⟩ := hv
        clear hv1 hv2
        have hrw := H.out.2.2.1.keep HM.out.2.2 (by simp)
        obtain ⟨ky, ny⟩ := y
        have d0 : wr.cell? ⟨g, i * 2, none⟩ = some (.int .i64 ky) := hrw.item rfl hy (j := 0) rfl
        have d1 : wr.cell? ⟨g, i * 2 + 1, none⟩ = some (.int .i64 ny) := hrw.item rfl hy (j := 1) rfl
        have hii : (i : Int) < (N : Int) := by omega
        have htk : keepP n (r.take (i + 1)) = acc ++ (if ny = n then [] else [(ky, ny)]) := by
          rw [List.take_add_one, hy, HA.out]
          unfold keepP
          rw [List.filter_append]
          congr 1
          by_cases e : ny = n <;> simp [e]
        have HT := Lib.hid htk
        obtain ⟨pa, ca, hva, _, _⟩ := HM.out.1.value
        subst hva
        clear htk hy hrw
        by_cases he : ny = n
        · have e1 : (ny != n) = false := by simp [he]
          have HE := Lib.hid he
          clear he
          go_wp2
          go_roundg (gk - 1)
          case measure => omega
          case rel =>
            refine ⟨i + 1, by push_cast; rfl, by rw [← HN.out]; omega, ?_⟩
            rw [HT.out, if_pos HE.out, List.append_nil]
            exact HM.out
        · have e1 : (ny != n) = true := by simp [he]
          have HE := Lib.hid he
          clear he
          go_wp2_with (first | (refine vp_append_g rfl (.tmp 28) (.tmp 36) 27 rfl (.agg #[.int .i64 0, .int .i64 0]) 16 Try.underlying27 infoz54 rfl (by decide) _ acc rfl (HM.out.1.keep ((Keeps.refl [] wr).alloc _) (by simp)) ⟨wr.heap.size, 0, none⟩ 1 1 [(ky, ny)] rfl rfl (by intro j u hj; rw [add_none, Nat.zero_add]; exact cell_of (heap_alloc wr _) (by simpa [FP, Form.all] using hj)) (by omega) (by omega) ?_; intro v1 w1 k1 k2 k3; have HM1 := Lib.hid ((HM.out.keep ((Keeps.refl [] wr).alloc _)).app k1 k2 k3); clear k1 k2 k3 c0' d0 d1) | fail)
          go_wp2
          go_roundg (gk - 1)
          case measure => omega
          case rel =>
            refine ⟨i + 1, by push_cast; rfl, by rw [← HN.out]; omega, ?_⟩
            rw [HT.out, if_neg HE.out]
            exact HM1.out
      · have hiN : i = N := by omega
        have htk : acc = keepP n r := by rw [HA.out, List.take_of_length_le (by rw [← HN.out]; omega)]
        have HT := Lib.hid htk
        clear htk hiN
        go_wp2
        go_meet
        case rel => rw [← HT.out]; exact HM.out
  case rest =>
    have hm := hcut
    have hal : (keepP n r).length ≤ N := by rw [HN.out]; exact List.length_filter_le _ _
    obtain ⟨acc, hacc⟩ : ∃ acc, acc = keepP n r := ⟨_, rfl⟩
    rw [← hacc] at hm hal
    have HM := Lib.hid hm
    have HA := Lib.hid hacc
    obtain ⟨pa, ca, hva, _, _⟩ := HM.out.1.value
    subst hva
    have c1 : wc.cell? ⟨rb, 0, none⟩ = some (.slice p N c) := cell_of (HM.out.2.2.get H.out.2.1 (by simp)) rfl
    have f1 : wc.frozen? ⟨rb, 0, none⟩ = false := frozen_of 0 (HM.out.2.2.get H.out.2.1 (by simp))
    clear hm hacc c0 HE hcut
    go_wp2
    go_ret
    refine ⟨?_, ?_⟩
    · rw [← HA.out, ← HN.out]; rfl
    · rw [← HA.out]; exact H.out.put HM.out
end Go.Proofs.Ytginbdgoijeeoaa
