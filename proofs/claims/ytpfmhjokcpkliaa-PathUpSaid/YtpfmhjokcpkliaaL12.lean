/-
  The reference: Same, walked.
-/
import Derived.Test.YtpfmhjokcpkliaaL11
namespace Go.Proofs.Ytpfmhjokcpkliaa
open Go.RowKit Go.V Go.V.Path
def sameB (d1 d2 : Bool) (n1 n2 : List (List UInt8)) : Bool := (d1 == d2) && (n1 == n2)
/-- two boxes -/
theorem two_boxes (w : World) (v1 v2 : Value) (d1 d2 : Bool) : ∃ (w2 : World) (ab bb : Nat), w2 = (w.alloc (.cells #[v1, .bool d1] 25)).alloc (.cells #[v2, .bool d2] 25) ∧ ab = w.heap.size ∧ bb = w.heap.size + 1 ∧
    w2.heap[ab]? = some (.cells #[v1, .bool d1] 25 (0, 0)) ∧ w2.heap[bb]? = some (.cells #[v2, .bool d2] 25 (0, 0)) ∧ Keeps [] w w2 := by
  refine ⟨_, _, _, rfl, rfl, rfl, heap_alloc_ne _ _ (heap_alloc w _), ?_, ((Keeps.refl _ _).alloc _).alloc _⟩
  have := heap_alloc (w.alloc (.cells #[v1, .bool d1] 25)) (.cells #[v2, .bool d2] 25)
  rwa [show (w.alloc (.cells #[v1, .bool d1] 25)).heap.size = w.heap.size + 1 from by show (w.heap.push _).size = _; simp] at this
theorem sg_str {w : World} {p : Option Addr} {n c : Nat} {l : List (List UInt8)} (h : SG FB w (.slice p n c) l) {i : Nat} {x : List UInt8} (hx : l[i]? = some x) : ∃ b o, p = some ⟨b, o, none⟩ ∧ w.cell? ⟨b, o + i, none⟩ = some (.string (bs x)) := by
  obtain ⟨b, o, c', hv⟩ := h.shape (by have := (List.getElem?_eq_some_iff.1 hx).1; omega)
  simp only [Value.slice.injEq] at hv
  obtain ⟨rfl, h2, h3⟩ := hv
  refine ⟨b, o, rfl, ?_⟩
  have := h.item rfl hx (j := 0) (u := .string (bs x)) rfl
  rwa [show o + i * FB.s + 0 = o + i from by show o + i * 1 = _; rw [Nat.mul_one]] at this
set_option maxHeartbeats 2000000 in
theorem same_ok (v1 v2 : Value) (n1 n2 : List (List UInt8)) (d1 d2 : Bool) (w : World) (h1 : SG FB w v1 n1) (h2 : SG FB w v2 n2) :
    Calls Try.prog 15 #[pathV v1 d1, pathV v2 d2] w (BK (sameB d1 d2 n1 n2) w) := by
  obtain ⟨p1, c1, rfl, hc1, hd1, _⟩ := id h1
  obtain ⟨p2, c2, rfl, hc2, hd2, _⟩ := id h2
  obtain ⟨A, hA⟩ : ∃ A, A = n1.length := ⟨_, rfl⟩
  obtain ⟨B, hB⟩ : ∃ B, B = n2.length := ⟨_, rfl⟩
  rw [← hA] at h1 hc1 ⊢
  rw [← hB] at h2 hc2 ⊢
  have H := Lib.hid (And.intro hA (And.intro hB (And.intro h1 h2)))
  clear hA hB h1 h2
  obtain ⟨R, hR⟩ : ∃ R, R = sameB d1 d2 n1 n2 := ⟨_, rfl⟩
  rw [← hR]
  have HR := Lib.hid hR
  clear hR
  unfold pathV
  go_enter Try.func15, Try.ntmps15
  go_upto_region 1 with fail
  obtain ⟨w2, ab, bb, hw, ha, hb, g1, g2, hk⟩ := two_boxes w (.slice p1 A c1) (.slice p2 B c2) d1 d2
  rw [← hw, ← hb, ← ha]
  have H2 := Lib.hid (And.intro g1 (And.intro g2 hk))
  clear hw ha hb g1 g2 hk
  have cells : ∀ wr : World, Keeps [] w2 wr → wr.cell? ⟨ab, 0, none⟩ = some (.slice p1 A c1) ∧ wr.cell? ⟨ab, 1, none⟩ = some (.bool d1) ∧ wr.cell? ⟨bb, 0, none⟩ = some (.slice p2 B c2) ∧ wr.cell? ⟨bb, 1, none⟩ = some (.bool d2) := by
    intro wr hk
    have a := hk.get H2.out.1 (by simp)
    have b := hk.get H2.out.2.1 (by simp)
    exact ⟨cell_of a rfl, cell_of a rfl, cell_of b rfl, cell_of b rfl⟩
  have HC := Lib.hid cells
  clear cells
  obtain ⟨a0, a1, b0, b1⟩ := HC.out w2 (Keeps.refl _ _)
  by_cases hd : d1 = d2
  · by_cases hl : A = B
    · have hsb : R = (n1 == n2) := by rw [HR.out]; unfold sameB; rw [hd]; simp
      have HB := Lib.hid hsb
      have HL := Lib.hid hl
      have e1 : (d1 == d2) = true := by rw [hd]; simp
      have e2 : ((A : Int) == (B : Int)) = true := by rw [hl]; simp
      clear hsb hd hl
      go_upto_block 0 with fail
      rw [show ((A : Int) != (B : Int)) = false by rw [HL.out]; simp]
      clear a0 a1 b0 b1
      go_cut [5] (fun _ wx => Keeps [] w wx ∧ R = true)
      case first =>
        go_wp2_with fail
        go_loopg [5] A (fun m vi wx => ∃ i : Nat, vi = .int .i64 i ∧ i + m = A ∧ n1.take i = n2.take i ∧ Keeps [] w2 wx)
        case atStart => exact ⟨0, rfl, by omega, rfl, Keeps.refl _ _⟩
        case round =>
          obtain ⟨i, rfl, hi, htk, hk⟩ := hrel
          obtain ⟨a0, a1, b0, b1⟩ := HC.out wr hk
          have HK := Lib.hid (And.intro hk (And.intro htk hi))
          clear hk htk hi
          by_cases hlt : i < A
          · have hii : (i : Int) < (A : Int) := by omega
            obtain ⟨x, hx⟩ : ∃ x, n1[i]? = some x := ⟨_, List.getElem?_eq_getElem (by rw [← H.out.1]; exact hlt)⟩
            obtain ⟨y, hy⟩ : ∃ y, n2[i]? = some y := ⟨_, List.getElem?_eq_getElem (by rw [← H.out.2.1, ← HL.out]; exact hlt)⟩
            obtain ⟨gx, ox, rfl, x0⟩ := sg_str H.out.2.2.1 hx
            obtain ⟨gy, oy, rfl, y0⟩ := sg_str H.out.2.2.2 hy
            have hS : ∀ w', Keeps [] w2 w' → w'.cell? ⟨gx, ox + i, none⟩ = some (.string (bs x)) ∧ w'.cell? ⟨gy, oy + i, none⟩ = some (.string (bs y)) := fun w' hk =>
              ⟨(World.cell?_of_block ((H2.out.2.2.trans hk).block _ (Go.block_lt_of_cell x0) (by simp))).trans x0, (World.cell?_of_block ((H2.out.2.2.trans hk).block _ (Go.block_lt_of_cell y0) (by simp))).trans y0⟩
            have HS := Lib.hid hS
            have hiB : (i : Int) < (B : Int) := by have := HL.out; omega
            have hiB2 : i < B := by have := HL.out; omega
            have hxt := bs_toList x
            have hyt := bs_toList y
            have HX := Lib.hid (And.intro hx hy)
            clear hS x0 y0 hx hy
            cases hxy : (x == y) with
            | true =>
              go_upto_region 6 with fail
              refine vp_region_all (fun w' => Keeps [] w2 w') (by kernel_rfl) (by kernel_rfl) (by intro _ d _ _ _ h; cases d <;> exact h) (HK.out.1.drew) ?_
              intro wd hwd
              repeat
                first
                  | (refine all_free rfl (v := ?_) ?_ ?_
                     rotate_left
                     · intro w' hw'
                       obtain ⟨a0, a1, b0, b1⟩ := HC.out w' hw'
                       obtain ⟨x0, y0⟩ := HS.out w' hw'
                       go_simp
                       first | done | with_reducible rfl
                     simp only [Act.put, List.setIfInBounds_toArray, List.set_cons_zero, List.set_cons_succ])
                  | (refine all_free_g (by first | rfl | decide) (v := ?_) ?_ ?_
                     rotate_left
                     · intro w' hw'
                       obtain ⟨a0, a1, b0, b1⟩ := HC.out w' hw'
                       obtain ⟨x0, y0⟩ := HS.out w' hw'
                       go_simp
                       first | done | with_reducible rfl
                     simp only [Act.put, List.setIfInBounds_toArray, List.set_cons_zero, List.set_cons_succ])
                  | (refine all_skip (by first | rfl | decide) ?_
                     simp only [Act.put, List.setIfInBounds_toArray, List.set_cons_zero, List.set_cons_succ])
              refine all_nil ?_
              have hkd : Keeps [] w2 wd := by rw [hwd]; exact HK.out.1.drew
              have HKD := Lib.hid hkd
              clear hwd hkd
              go_wp2
              go_roundg (gk - 1)
              case measure => have := HK.out.2.2; omega
              case rel => exact ⟨i + 1, by push_cast; rfl, by have := HK.out.2.2; omega, by rw [List.take_add_one, List.take_add_one, HK.out.2.1, HX.out.1, HX.out.2, beq_iff_eq.1 hxy], HKD.out⟩
            | false =>
              have hne : R = false := by
                rw [HB.out, beq_eq_false_iff_ne]
                intro e
                have := HX.out.1
                rw [e, HX.out.2] at this
                simp only [Option.some.injEq] at this
                rw [this] at hxy
                simp at hxy
              have HNE := Lib.hid hne
              clear hne
              go_upto_region 6 with fail
              refine vp_region_all (fun w' => Keeps [] w2 w') (by kernel_rfl) (by kernel_rfl) (by intro _ d _ _ _ h; cases d <;> exact h) (HK.out.1.drew) ?_
              intro wd hwd
              repeat
                first
                  | (refine all_free rfl (v := ?_) ?_ ?_
                     rotate_left
                     · intro w' hw'
                       obtain ⟨a0, a1, b0, b1⟩ := HC.out w' hw'
                       obtain ⟨x0, y0⟩ := HS.out w' hw'
                       go_simp
                       first | done | with_reducible rfl
                     simp only [Act.put, List.setIfInBounds_toArray, List.set_cons_zero, List.set_cons_succ])
                  | (refine all_free_g (by first | rfl | decide) (v := ?_) ?_ ?_
                     rotate_left
                     · intro w' hw'
                       obtain ⟨a0, a1, b0, b1⟩ := HC.out w' hw'
                       obtain ⟨x0, y0⟩ := HS.out w' hw'
                       go_simp
                       first | done | with_reducible rfl
                     simp only [Act.put, List.setIfInBounds_toArray, List.set_cons_zero, List.set_cons_succ])
                  | (refine all_skip (by first | rfl | decide) ?_
                     simp only [Act.put, List.setIfInBounds_toArray, List.set_cons_zero, List.set_cons_succ])
              refine all_nil ?_
              have hkd : Keeps [] w wd := by rw [hwd]; exact (H2.out.2.2.trans HK.out.1).drew
              have HKD := Lib.hid hkd
              clear hwd hkd
              go_wp2
              go_ret
              exact ⟨by rw [HNE.out]; rfl, HKD.out⟩
          · have hii : ¬ (i : Int) < (A : Int) := by omega
            clear hlt
            go_wp2
            go_meet
            case rel =>
              refine ⟨H2.out.2.2.trans HK.out.1, ?_⟩
              have h1 := HK.out.2.1
              rw [List.take_of_length_le (by rw [← H.out.1]; omega), List.take_of_length_le (by rw [← H.out.2.1, ← HL.out]; omega)] at h1
              rw [HB.out, h1]
              simp
      case rest =>
        obtain ⟨hk, hr⟩ := hcut
        have HK := Lib.hid (And.intro hk hr)
        clear hk hr
        go_wp2
        go_ret
        exact ⟨by rw [HK.out.2]; rfl, HK.out.1⟩
    · have hsb : R = false := by
        rw [HR.out]
        unfold sameB
        rw [Bool.and_eq_false_iff]
        right
        rw [beq_eq_false_iff_ne]
        intro e
        exact hl (by rw [H.out.1, H.out.2.1, e])
      have HB := Lib.hid hsb
      have e1 : (d1 == d2) = true := by rw [hd]; simp
      have e2 : ((A : Int) == (B : Int)) = false := by rw [beq_eq_false_iff_ne]; omega
      clear hsb hd hl
      go_wp2
      go_ret
      exact ⟨by rw [HB.out]; rfl, H2.out.2.2⟩
  · have hsb : R = false := by rw [HR.out]; unfold sameB; rw [beq_eq_false_iff_ne.2 hd, Bool.false_and]
    have HB := Lib.hid hsb
    have e1 : (d1 == d2) = false := by simpa using hd
    clear hsb hd
    go_wp2
    go_ret
    exact ⟨by rw [HB.out]; rfl, H2.out.2.2⟩
end Go.Proofs.Ytpfmhjokcpkliaa
