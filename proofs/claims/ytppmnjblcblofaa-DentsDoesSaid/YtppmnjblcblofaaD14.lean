/-
  Package veneerlaw04: same, walked.
-/
import Derived.Test.YtppmnjblcblofaaD13
namespace Go.Proofs.Ytppmnjblcblofaa
open Go.RowKit Go.V Go.V.Path Go.V.Dents
theorem ent_eq (a b : ByteArray) (x y : Int) (w : World) : (Op.equalIn 10000 37 (.agg #[.string a, .int .i64 x]) (.agg #[.string b, .int .i64 y])).run Try.prog w = .ok (a.toList == b.toList && x == y) w := by
  have u9 := Try.underlying9
  have u3 := Try.underlying3
  have hS : Try.prog.underlying 37 = some (.struct (Try.prog.fieldsOf 37)) := by kernel_rfl
  have hp : Try.prog.stoodInHeld 37 = false := by kernel_rfl
  rw [show (10000 : Nat) = 9999 + 1 from rfl, run_equalIn_agg w 9999 37 _ _ hS hp]
  simp only [Program.fieldsOf, Try.underlying37]
  go_simp
  cases h1 : (a.toList == b.toList) <;> cases h2 : (x == y) <;> simp_all
theorem guard37 : Try.prog.eqGuardType Try.prog.depth 37 = false := by kernel_rfl
theorem ent_beq (x y : Ent) : (((bs x.name).toList == (bs y.name).toList) && (x.ino == y.ino)) = decide (x = y) := by
  rw [bs_toList, bs_toList]
  obtain ⟨n, i⟩ := x
  obtain ⟨m, j⟩ := y
  rw [Bool.eq_iff_iff]
  simp
def sameE (l1 l2 : List Ent) : Bool := decide (l1 = l2)
set_option maxHeartbeats 4000000 in
theorem same_ok (v1 v2 : Value) (l1 l2 : List Ent) (w : World) (h1 : SG FE w v1 l1) (h2 : SG FE w v2 l2) : Calls Try.prog 19 #[v1, v2] w (BK (sameE l1 l2) w) := by
  obtain ⟨p1, c1, rfl, hc1, hm1, _⟩ := id h1
  obtain ⟨p2, c2, rfl, _, _, _⟩ := id h2
  obtain ⟨A, hA⟩ : ∃ A, A = l1.length := ⟨_, rfl⟩
  obtain ⟨B, hB⟩ : ∃ B, B = l2.length := ⟨_, rfl⟩
  have hA63 : A ≤ 9223372036854775807 := by omega
  clear hc1 hm1
  rw [← hA] at h1 ⊢
  rw [← hB] at h2 ⊢
  obtain ⟨R, hR⟩ : ∃ R, R = sameE l1 l2 := ⟨_, rfl⟩
  rw [← hR]
  have H := Lib.hid (And.intro hA (And.intro hB (And.intro h1 (And.intro h2 hR))))
  clear hA hB h1 h2 hR
  by_cases hl : A = B
  · have HL := Lib.hid hl
    have e1 : ((A : Int) == (B : Int)) = true := by rw [hl]; simp
    clear hl
    go_enter Try.func19, Try.ntmps19
    go_upto_block 0 with fail
    (try rw [show ((A : Int) != (B : Int)) = false by rw [HL.out]; simp])
    go_cut [] (fun wx => Keeps [] w wx ∧ R = true)
    case first =>
      go_wp2_with fail
      go_loopg [13] A (fun m vi wx => ∃ i : Nat, vi = .int .i64 i ∧ i + m = A ∧ l1.take i = l2.take i ∧ Keeps [] w wx)
      case atStart => exact ⟨0, rfl, by omega, rfl, Keeps.refl _ _⟩
      case round =>
        obtain ⟨i, rfl, hi, htk, hk⟩ := hrel
        have HK := Lib.hid (And.intro hk (And.intro htk hi))
        clear hk htk hi
        by_cases hlt : i < A
        · have hii : (i : Int) < (A : Int) := by omega
          have hiB : (i : Int) < (B : Int) := by have := HL.out; omega
          have hiB2 : i < B := by have := HL.out; omega
          obtain ⟨x, hx⟩ : ∃ x, l1[i]? = some x := ⟨_, List.getElem?_eq_getElem (by rw [← H.out.1]; exact hlt)⟩
          obtain ⟨y, hy⟩ : ∃ y, l2[i]? = some y := ⟨_, List.getElem?_eq_getElem (by rw [← H.out.2.1]; exact hiB2)⟩
          have hall : ∀ w', Keeps [] w w' → ∃ gx ox gy oy, p1 = some ⟨gx, ox, none⟩ ∧ p2 = some ⟨gy, oy, none⟩ ∧ w'.cell? ⟨gx, ox + i * 2, none⟩ = some (.string (bs x.name)) ∧ w'.cell? ⟨gx, ox + i * 2 + 1, none⟩ = some (.int .i64 x.ino) ∧
              w'.cell? ⟨gy, oy + i * 2, none⟩ = some (.string (bs y.name)) ∧ w'.cell? ⟨gy, oy + i * 2 + 1, none⟩ = some (.int .i64 y.ino) := fun w' hk => by
            obtain ⟨gx, ox, e1, a1, a2⟩ := sg_ent (H.out.2.2.1.keep hk (by simp)) hx
            obtain ⟨gy, oy, e2, b1, b2⟩ := sg_ent (H.out.2.2.2.1.keep hk (by simp)) hy
            exact ⟨gx, ox, gy, oy, e1, e2, a1, a2, b1, b2⟩
          obtain ⟨gx, ox, gy, oy, rfl, rfl, _⟩ := hall w (Keeps.refl _ _)
          have hall2 : ∀ w', Keeps [] w w' → w'.cell? ⟨gx, ox + i * 2, none⟩ = some (.string (bs x.name)) ∧ w'.cell? ⟨gx, ox + i * 2 + 1, none⟩ = some (.int .i64 x.ino) ∧
              w'.cell? ⟨gy, oy + i * 2, none⟩ = some (.string (bs y.name)) ∧ w'.cell? ⟨gy, oy + i * 2 + 1, none⟩ = some (.int .i64 y.ino) := fun w' hk => by
            obtain ⟨gx', ox', gy', oy', e1, e2, a1, a2, b1, b2⟩ := hall w' hk
            simp only [Option.some.injEq, Addr.mk.injEq] at e1 e2
            obtain ⟨rfl, rfl, _⟩ := e1
            obtain ⟨rfl, rfl, _⟩ := e2
            exact ⟨a1, a2, b1, b2⟩
          have HALL := Lib.hid hall2
          have HX := Lib.hid (And.intro hx hy)
          clear hall hall2 hx hy
          cases hxy : decide (x = y) with
          | true =>
            have hxe : x = y := of_decide_eq_true hxy
            go_upto_region 6 with fail
            refine vp_region_all (fun w' => Keeps [] w w') (by kernel_rfl) (by kernel_rfl) (by intro _ d _ _ _ h; cases d <;> exact h) (HK.out.1.drew) ?_
            intro wd hwd
            repeat
              first
                | (refine all_free rfl (v := ?_) ?_ ?_
                   rotate_left
                   · intro w' hw'
                     obtain ⟨a1, a2, b1, b2⟩ := HALL.out w' hw'
                     have hg := guard37
                     have heq : ∀ W, (Op.equalIn 10000 37 (.agg #[.string (bs x.name), .int .i64 x.ino]) (.agg #[.string (bs y.name), .int .i64 y.ino])).run Try.prog W = .ok true W := fun W => by rw [ent_eq, ent_beq, hxy]
                     go_simp
                     first | done | with_reducible rfl
                   simp only [Act.put, List.setIfInBounds_toArray, List.set_cons_zero, List.set_cons_succ])
                | (refine all_free_g (by first | rfl | decide) (v := ?_) ?_ ?_
                   rotate_left
                   · intro w' hw'
                     obtain ⟨a1, a2, b1, b2⟩ := HALL.out w' hw'
                     have hg := guard37
                     have heq : ∀ W, (Op.equalIn 10000 37 (.agg #[.string (bs x.name), .int .i64 x.ino]) (.agg #[.string (bs y.name), .int .i64 y.ino])).run Try.prog W = .ok true W := fun W => by rw [ent_eq, ent_beq, hxy]
                     go_simp
                     first | done | with_reducible rfl
                   simp only [Act.put, List.setIfInBounds_toArray, List.set_cons_zero, List.set_cons_succ])
                | (refine all_skip (by first | rfl | decide) ?_
                   simp only [Act.put, List.setIfInBounds_toArray, List.set_cons_zero, List.set_cons_succ])
            refine all_nil ?_
            have hkd : Keeps [] w wd := by rw [hwd]; exact HK.out.1.drew
            have HKD := Lib.hid hkd
            have HXE := Lib.hid hxe
            clear hwd hkd hxe
            go_wp2
            go_roundg (gk - 1)
            case measure => have := HK.out.2.2; omega
            case rel => exact ⟨i + 1, by push_cast; rfl, by have := HK.out.2.2; omega, by rw [List.take_add_one, List.take_add_one, HK.out.2.1, HX.out.1, HX.out.2, HXE.out], HKD.out⟩
          | false =>
            have hne : R = false := by
              rw [H.out.2.2.2.2]
              unfold sameE
              rw [decide_eq_false_iff_not]
              intro e
              have h := HX.out.1
              rw [e, HX.out.2] at h
              rw [Option.some.injEq] at h
              rw [h] at hxy
              simp at hxy
            have HNE := Lib.hid hne
            clear hne
            go_upto_region 6 with fail
            refine vp_region_all (fun w' => Keeps [] w w') (by kernel_rfl) (by kernel_rfl) (by intro _ d _ _ _ h; cases d <;> exact h) (HK.out.1.drew) ?_
            intro wd hwd
            repeat
              first
                | (refine all_free rfl (v := ?_) ?_ ?_
                   rotate_left
                   · intro w' hw'
                     obtain ⟨a1, a2, b1, b2⟩ := HALL.out w' hw'
                     have hg := guard37
                     have heq : ∀ W, (Op.equalIn 10000 37 (.agg #[.string (bs x.name), .int .i64 x.ino]) (.agg #[.string (bs y.name), .int .i64 y.ino])).run Try.prog W = .ok false W := fun W => by rw [ent_eq, ent_beq, hxy]
                     go_simp
                     first | done | with_reducible rfl
                   simp only [Act.put, List.setIfInBounds_toArray, List.set_cons_zero, List.set_cons_succ])
                | (refine all_free_g (by first | rfl | decide) (v := ?_) ?_ ?_
                   rotate_left
                   · intro w' hw'
                     obtain ⟨a1, a2, b1, b2⟩ := HALL.out w' hw'
                     have hg := guard37
                     have heq : ∀ W, (Op.equalIn 10000 37 (.agg #[.string (bs x.name), .int .i64 x.ino]) (.agg #[.string (bs y.name), .int .i64 y.ino])).run Try.prog W = .ok false W := fun W => by rw [ent_eq, ent_beq, hxy]
                     go_simp
                     first | done | with_reducible rfl
                   simp only [Act.put, List.setIfInBounds_toArray, List.set_cons_zero, List.set_cons_succ])
                | (refine all_skip (by first | rfl | decide) ?_
                   simp only [Act.put, List.setIfInBounds_toArray, List.set_cons_zero, List.set_cons_succ])
            refine all_nil ?_
            have hkd : Keeps [] w wd := by rw [hwd]; exact HK.out.1.drew
            have HKD := Lib.hid hkd
            clear hwd hkd
            go_wp2
            go_ret
            exact ⟨by rw [HNE.out]; rfl, HKD.out⟩
        · have hii : ¬ (i : Int) < (A : Int) := by omega
          clear hlt
          go_wp2
          go_meet
          case rel =>
            refine ⟨HK.out.1, ?_⟩
            have h1 := HK.out.2.1
            rw [List.take_of_length_le (by rw [← H.out.1]; omega), List.take_of_length_le (by rw [← H.out.2.1, ← HL.out]; omega)] at h1
            rw [H.out.2.2.2.2, h1]
            unfold sameE
            simp
    case rest =>
      obtain ⟨hk, hr⟩ := hcut
      have HK := Lib.hid (And.intro hk hr)
      clear hk hr
      go_wp2
      go_ret
      exact ⟨by rw [HK.out.2]; rfl, HK.out.1⟩
  · have hsb : R = false := by
      rw [H.out.2.2.2.2]
      unfold sameE
      rw [decide_eq_false_iff_not]
      intro e
      exact hl (by rw [H.out.1, H.out.2.1, e])
    have HB := Lib.hid hsb
    have e2 : ((A : Int) == (B : Int)) = false := by rw [beq_eq_false_iff_ne]; omega
    clear hsb hl
    go_enter Try.func19, Try.ntmps19
    go_wp2
    go_ret
    exact ⟨by rw [HB.out]; rfl, Keeps.refl _ _⟩
end Go.Proofs.Ytppmnjblcblofaa
