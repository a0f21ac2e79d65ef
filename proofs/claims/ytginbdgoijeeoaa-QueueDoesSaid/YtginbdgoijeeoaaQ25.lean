/-
  The reference's queue, walked: Push, Pop, Drop.
-/
import Derived.Test.YtginbdgoijeeoaaQ24
namespace Go.Proofs.Ytginbdgoijeeoaa
open Go.RowKit Go.V Go.V.Queue
variable {W wx w' : World} {rb : Nat} {v : Value} {r : List Pr}
theorem infoz54 : (Try.prog.info? 54).map (fun i => (i.zero, i.size, i.bytes)) = some (some (.agg #[.int .i64 0, .int .i64 0]), FP.s, 16) := by kernel_rfl
theorem RQ.put (h : RQ W rb v r wx) {va : Value} {acc : List Pr} {w1 : World} (hm : Made FP 54 wx va acc w1) : RDone W wx rb v acc (w1.setCell ⟨rb, 0, none⟩ va) := by
  obtain ⟨m1, m2, m3⟩ := hm
  have hb := m3.get h.2.1 (by simp)
  have hks : Keeps [rb] w1 (w1.setCell ⟨rb, 0, none⟩ va) := (Keeps.refl _ _).setCell (Or.inl (by simp)) _
  have hrb : W.heap.size ≤ rb := h.1 rb (by simp [Foot])
  refine ⟨va, ⟨fun x hx => ?_, heap_setCell hb, m1.keep hks (fun z hz => ?_), (h.2.2.2.trans m3).trans' hks (fun z hz => Or.inr ?_)⟩, (m3.mono (by simp)).trans (hks.mono (fun z hz => ?_)), fun x hx => ?_⟩
  · simp only [Foot, List.mem_cons, Option.mem_toList] at hx
    rcases hx with rfl | hx
    · exact hrb
    · exact Nat.le_trans h.2.2.2.size (m2 x hx)
  · obtain rfl := List.mem_singleton.1 hz
    exact m1.ne hb (by decide)
  · obtain rfl := List.mem_singleton.1 hz
    exact hrb
  · obtain rfl := List.mem_singleton.1 hz
    simp [Foot]
  · simp only [Foot, List.mem_cons, Option.mem_toList] at hx
    rcases hx with rfl | hx
    · exact Or.inl (by simp [Foot])
    · exact Or.inr (m2 x hx)
def PLoop (w : World) (r : List Pr) (x : Pr) (m : Nat) (va vd vi : Value) (wx : World) : Prop :=
  ∃ (i : Nat) (d : Bool) (acc : List Pr), vi = .int .i64 i ∧ vd = .bool d ∧ i + m = r.length ∧ Made FP 54 w va acc wx ∧ acc.length ≤ i + 1 ∧ acc ++ (if d then r.drop i else insP x (r.drop i)) = insP x r
def PCut (w : World) (r : List Pr) (x : Pr) (va vd : Value) (wx : World) : Prop :=
  ∃ (d : Bool) (acc : List Pr), vd = .bool d ∧ Made FP 54 w va acc wx ∧ acc.length ≤ r.length + 1 ∧ acc ++ (if d then [] else [x]) = insP x r
set_option maxRecDepth 100000 in
set_option maxHeartbeats 4000000 in
theorem rpush_ok (h : RQ W rb v r wx) (hl : r.length ≤ 1000000) (k n : Int) : Calls Try.prog 11 #[P rb, .int .i64 k, .int .i64 n] wx (RPushP W wx rb v (insP (k, n) r)) := by
  obtain ⟨p, c, rfl, _, _⟩ := h.2.2.1.value
  obtain ⟨N, hN⟩ : ∃ N, N = r.length := ⟨_, rfl⟩
  rw [← hN] at h hl ⊢
  have c0 : wx.cell? ⟨rb, 0, none⟩ = some (.slice p N c) := cell_of h.2.1 rfl
  have H := Lib.hid h
  have HN := Lib.hid hN
  have HE := Lib.hid (Made.empty FP 54 wx)
  clear h hN
  unfold P
  go_enter Try.func11, Try.ntmps11
  go_upto_block 0 with fail
  go_cut [6, 7] (fun va vd wx' => PCut wx r (k, n) va vd wx')
  case first =>
    go_wp2_with fail
    go_loopg [6, 7, 8] N (fun m va vd vi wx' => PLoop wx r (k, n) m va vd vi wx')
    case atStart => exact ⟨0, false, [], rfl, rfl, by rw [← HN.out, Nat.zero_add], HE.out, Nat.zero_le _, by simp⟩
    case round =>
      obtain ⟨i, d, acc, rfl, rfl, hi, hm, hal, hacc⟩ := hrel
      rw [← HN.out] at hi
      have HM := Lib.hid hm
      have HA := Lib.hid hacc
      have c0' : wr.cell? ⟨rb, 0, none⟩ = some (.slice p N c) := cell_of (hm.2.2.get H.out.2.1 (by simp)) rfl
      clear c0 hm hacc HE
      by_cases hlt : i < N
      · obtain ⟨y, hy⟩ : ∃ y, r[i]? = some y := ⟨_, List.getElem?_eq_getElem (by rw [← HN.out]; exact hlt)⟩
        obtain ⟨g, c', cur, hv, _⟩ := H.out.2.2.1.shape (by rw [← HN.out]; omega)
        simp only [Value.slice.injEq] at hv
        obtain ⟨rfl, hv1, hv2⟩ := hv
        clear hv1 hv2
        have hrw := H.out.2.2.1.keep HM.out.2.2 (by simp)
        obtain ⟨ky, ny⟩ := y
        have d0 : wr.cell? ⟨g, i * 2, none⟩ = some (.int .i64 ky) := hrw.item rfl hy (j := 0) rfl
        have d1 : wr.cell? ⟨g, i * 2 + 1, none⟩ = some (.int .i64 ny) := hrw.item rfl hy (j := 1) rfl
        have hii : (i : Int) < (N : Int) := by omega
        have hdr : r.drop i = (ky, ny) :: r.drop (i + 1) := by
          rw [List.drop_eq_getElem_cons (by rw [← HN.out]; exact hlt)]
          congr 1
          exact (List.getElem?_eq_some_iff.1 hy).2
        have HT := Lib.hid hdr
        obtain ⟨pa, ca, hva, _, _⟩ := HM.out.1.value
        subst hva
        have HY := Lib.hid hy
        clear hdr hy hrw
        by_cases hins : d = false ∧ k < ky
        · obtain ⟨rfl, hk⟩ := hins
          have hk2 : ky > k := hk
          go_wp2_with (first | (refine vp_append_g rfl (.tmp 33) (.tmp 37) 27 rfl (.agg #[.int .i64 0, .int .i64 0]) 16 Try.underlying27 infoz54 rfl (by decide) _ acc rfl (HM.out.1.keep ((Keeps.refl [] wr).alloc _) (by simp)) ⟨wr.heap.size, 0, none⟩ 1 1 [(k, n)] rfl rfl (by intro j u hj; rw [add_none, Nat.zero_add]; exact cell_of (heap_alloc wr _) (by simpa [FP, Form.all] using hj)) (by skip; omega) (by skip; omega) ?_; intro v1 w1 k1 k2 k3; obtain ⟨acc1, ha1⟩ : ∃ a, a = acc ++ [(k, n)] := ⟨_, rfl⟩; rw [← ha1] at k1; have HA1 := Lib.hid ha1; have hl1 : acc1.length ≤ i + 2 := (by rw [ha1]; simp; omega); clear ha1; have HM1 := Lib.hid ((HM.out.keep ((Keeps.refl [] wr).alloc _)).app k1 k2 k3); clear k1 k2 k3 c0' d0 d1; have c1 : w1.cell? ⟨rb, 0, none⟩ = some (.slice (some ⟨g, 0, none⟩) N c) := cell_of (HM1.out.2.2.get H.out.2.1 (by simp)) rfl; have hrw := H.out.2.2.1.keep HM1.out.2.2 (by simp); have d0 : w1.cell? ⟨g, i * 2, none⟩ = some (.int .i64 ky) := hrw.item rfl HY.out (j := 0) rfl; have d1 : w1.cell? ⟨g, i * 2 + 1, none⟩ = some (.int .i64 ny) := hrw.item rfl HY.out (j := 1) rfl; obtain ⟨pb, cb, hvb, _, _⟩ := HM1.out.1.value; subst hvb; clear hrw) | (refine vp_append_g rfl (.tmp 39) (.tmp 47) 27 rfl (.agg #[.int .i64 0, .int .i64 0]) 16 Try.underlying27 infoz54 rfl (by decide) _ acc1 rfl (HM1.out.1.keep ((Keeps.refl [] w1).alloc _) (by simp)) ⟨w1.heap.size, 0, none⟩ 1 1 [(ky, ny)] rfl rfl (by intro j u hj; rw [add_none, Nat.zero_add]; exact cell_of (heap_alloc w1 _) (by simpa [FP, Form.all] using hj)) (by skip; omega) (by skip; omega) ?_; intro v2 w2 k1 k2 k3; have HM2 := Lib.hid ((HM1.out.keep ((Keeps.refl [] w1).alloc _)).app k1 k2 k3); clear k1 k2 k3 c1 d0 d1) | fail)
          go_wp2
          go_roundg (gk - 1)
          case measure => omega
          case rel =>
            have hfin : acc ++ (k, n) :: (ky, ny) :: r.drop (i + 1) = insP (k, n) r := by
              have := HA.out
              rw [HT.out] at this
              simp only [Bool.false_eq_true, if_false] at this
              rw [insP_cons, if_pos (show k < ky by omega)] at this
              exact this
            refine ⟨i + 1, true, acc1 ++ [(ky, ny)], by push_cast; rfl, rfl, by rw [← HN.out]; omega, HM2.out, ?_, by rw [HA1.out]; simpa using hfin⟩
            have h1 := congrArg List.length hfin
            rw [length_insP] at h1
            rw [HA1.out]
            simp only [List.length_append, List.length_cons, List.length_drop, List.length_nil] at h1 ⊢
            rw [← HN.out] at h1
            omega
        · cases d with
          | true =>
            go_wp2_with (first | (refine vp_append_g rfl (.tmp 39) (.tmp 47) 27 rfl (.agg #[.int .i64 0, .int .i64 0]) 16 Try.underlying27 infoz54 rfl (by decide) _ acc rfl (HM.out.1.keep ((Keeps.refl [] wr).alloc _) (by simp)) ⟨wr.heap.size, 0, none⟩ 1 1 [(ky, ny)] rfl rfl (by intro j u hj; rw [add_none, Nat.zero_add]; exact cell_of (heap_alloc wr _) (by simpa [FP, Form.all] using hj)) (by skip; omega) (by skip; omega) ?_; intro v1 w1 k1 k2 k3; have HM1 := Lib.hid ((HM.out.keep ((Keeps.refl [] wr).alloc _)).app k1 k2 k3); clear k1 k2 k3 c0' d0 d1) | fail)
            go_wp2
            go_roundg (gk - 1)
            case measure => omega
            case rel =>
              refine ⟨i + 1, true, acc ++ [(ky, ny)], by push_cast; rfl, rfl, by rw [← HN.out]; omega, HM1.out, by simp; omega, ?_⟩
              have := HA.out
              rw [HT.out] at this
              simpa using this
          | false =>
            have hk : ¬ k < ky := fun h => hins ⟨rfl, h⟩
            have hk2 : ¬ ky > k := hk
            clear hins
            go_wp2_with (first | (refine vp_append_g rfl (.tmp 39) (.tmp 47) 27 rfl (.agg #[.int .i64 0, .int .i64 0]) 16 Try.underlying27 infoz54 rfl (by decide) _ acc rfl (HM.out.1.keep ((Keeps.refl [] wr).alloc _) (by simp)) ⟨wr.heap.size, 0, none⟩ 1 1 [(ky, ny)] rfl rfl (by intro j u hj; rw [add_none, Nat.zero_add]; exact cell_of (heap_alloc wr _) (by simpa [FP, Form.all] using hj)) (by skip; omega) (by skip; omega) ?_; intro v1 w1 k1 k2 k3; have HM1 := Lib.hid ((HM.out.keep ((Keeps.refl [] wr).alloc _)).app k1 k2 k3); clear k1 k2 k3 c0' d0 d1) | fail)
            go_wp2
            go_roundg (gk - 1)
            case measure => omega
            case rel =>
              refine ⟨i + 1, false, acc ++ [(ky, ny)], by push_cast; rfl, rfl, by rw [← HN.out]; omega, HM1.out, by simp; omega, ?_⟩
              have := HA.out
              rw [HT.out] at this
              simp only [Bool.false_eq_true, if_false] at this
              rw [insP_cons, if_neg (show ¬ k < ky by omega)] at this
              simpa using this
      · have hiN : i = N := by omega
        have hdr : r.drop i = [] := List.drop_eq_nil_of_le (by rw [← HN.out]; omega)
        have HD := Lib.hid hdr
        clear hdr hiN
        go_wp2
        go_meet
        case rel =>
          refine ⟨d, acc, rfl, HM.out, by rw [← HN.out]; omega, ?_⟩
          have := HA.out
          rw [HD.out] at this
          exact this
  case rest =>
    obtain ⟨d, acc, rfl, hm, hal, hacc⟩ := hcut
    rw [← HN.out] at hal
    have HM := Lib.hid hm
    have HA := Lib.hid hacc
    obtain ⟨pa, ca, hva, _, _⟩ := HM.out.1.value
    subst hva
    have c1 : wc.cell? ⟨rb, 0, none⟩ = some (.slice p N c) := cell_of (HM.out.2.2.get H.out.2.1 (by simp)) rfl
    have f1 : wc.frozen? ⟨rb, 0, none⟩ = false := frozen_of 0 (HM.out.2.2.get H.out.2.1 (by simp))
    clear hm hacc c0 HE
    cases d with
    | true =>
      have hfin : acc = insP (k, n) r := by have := HA.out; simpa using this
      have HF := Lib.hid hfin
      clear hfin
      go_wp2
      go_end0
      refine ⟨rfl, ?_⟩
      rw [← HF.out]
      exact H.out.put HM.out
    | false =>
      have hfin : acc ++ [(k, n)] = insP (k, n) r := by have := HA.out; simpa using this
      have HF := Lib.hid hfin
      clear hfin
      go_wp2_with (first | (refine vp_append_g rfl (.tmp 51) (.tmp 55) 27 rfl (.agg #[.int .i64 0, .int .i64 0]) 16 Try.underlying27 infoz54 rfl (by decide) _ acc rfl (HM.out.1.keep ((Keeps.refl [] wc).alloc _) (by simp)) ⟨wc.heap.size, 0, none⟩ 1 1 [(k, n)] rfl rfl (by intro j u hj; rw [add_none, Nat.zero_add]; exact cell_of (heap_alloc wc _) (by simpa [FP, Form.all] using hj)) (by skip; omega) (by skip; omega) ?_; intro v1 w1 k1 k2 k3; have HM1 := Lib.hid ((HM.out.keep ((Keeps.refl [] wc).alloc _)).app k1 k2 k3); clear k1 k2 k3 c1 f1; have c1 : w1.cell? ⟨rb, 0, none⟩ = some (.slice p N c) := cell_of (HM1.out.2.2.get H.out.2.1 (by simp)) rfl; have f1 : w1.frozen? ⟨rb, 0, none⟩ = false := frozen_of 0 (HM1.out.2.2.get H.out.2.1 (by simp)); obtain ⟨pb, cb, hvb, _, _⟩ := HM1.out.1.value; subst hvb) | fail)
      go_end0
      refine ⟨rfl, ?_⟩
      rw [← HF.out]
      have hm1 := HM1.out
      rw [List.length_append] at hm1
      exact H.out.put hm1
end Go.Proofs.Ytginbdgoijeeoaa
