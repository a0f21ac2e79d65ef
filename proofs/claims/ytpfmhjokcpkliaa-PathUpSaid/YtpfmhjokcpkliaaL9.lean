/-
  The reference: Less, walked.
-/
import Derived.Test.YtpfmhjokcpkliaaL8
import Derived.Test.YtpfmhjokcpkliaaV12
namespace Go.V.Path
open Go Go.V
theorem less_cons (x y : UInt8) (a b : List UInt8) : Op.bytesLess (x :: a) (y :: b) = (decide (x < y) || (x == y && Op.bytesLess a b)) := rfl
theorem less_end (a b : List UInt8) (i : Nat) (h : ¬ (i < a.length ∧ i < b.length)) (ha : i ≤ a.length) (hb : i ≤ b.length) : Op.bytesLess (a.drop i) (b.drop i) = decide ((a.length : Int) < (b.length : Int)) := by
  by_cases h2 : i < b.length
  · have h1 : i = a.length := by omega
    rw [show a.drop i = [] from List.drop_eq_nil_of_le (by omega)]
    obtain ⟨y, hy⟩ : ∃ y, b[i]? = some y := ⟨_, List.getElem?_eq_getElem h2⟩
    rw [drop_at hy, decide_eq_true (by omega)]
    rfl
  · rw [show b.drop i = [] from List.drop_eq_nil_of_le (by omega), decide_eq_false (by omega)]
    cases a.drop i <;> rfl
end Go.V.Path
namespace Go.Proofs.Ytpfmhjokcpkliaa
open Go.RowKit Go.V Go.V.Path
def BK (b : Bool) (w : World) (e : Ending) (w' : World) : Prop := e = .returned (.bool b) ∧ Keeps [] w w'
set_option maxHeartbeats 1000000 in
theorem rless_ok (s t : ByteArray) (w : World) (hs : s.size ≤ 4611686018427387904) : Calls Try.prog 26 #[.string s, .string t] w (BK (Op.bytesLess s.data.toList t.data.toList) w) := by
  obtain ⟨a, ha⟩ : ∃ a, a = s.data.toList := ⟨_, rfl⟩
  obtain ⟨b, hb⟩ : ∃ b, b = t.data.toList := ⟨_, rfl⟩
  obtain ⟨A, hA⟩ : ∃ A, A = s.size := ⟨_, rfl⟩
  obtain ⟨B, hB⟩ : ∃ B, B = t.size := ⟨_, rfl⟩
  have hsa := size_len s
  have hsb := size_len t
  rw [← ha] at hsa ⊢
  rw [← hb] at hsb ⊢
  have HL := Lib.hid (And.intro ha (And.intro hb (And.intro hA (And.intro hB (And.intro hsa hsb)))))
  clear ha hb hA hB hsa hsb
  obtain ⟨R, hR⟩ : ∃ R, R = Op.bytesLess a b := ⟨_, rfl⟩
  rw [← hR]
  have HR := Lib.hid hR
  clear hR
  go_enter Try.func26, Try.ntmps26
  go_upto_block 0 with fail
  go_cut [4] (fun _ wx => Keeps [] w wx ∧ R = decide ((A : Int) < (B : Int)))
  case first =>
    go_wp2_with fail
    go_loopg [5] A (fun m vi wx => ∃ i : Nat, vi = .int .i64 i ∧ i + m = A ∧ i ≤ B ∧ R = Op.bytesLess (a.drop i) (b.drop i) ∧ Keeps [] w wx)
    case atStart => exact ⟨0, rfl, by omega, by omega, HR.out, Keeps.refl _ _⟩
    case round =>
      obtain ⟨i, rfl, hi, hib, ht, hk⟩ := hrel
      have HK := Lib.hid hk
      clear hk
      have HT := Lib.hid ht
      have HI := Lib.hid hi
      clear ht hi
      by_cases hla : i < A
      · have hii : (i : Int) < (s.size : Int) := by have := HL.out; omega
        have hisz : i < s.size := by have := HL.out; omega
        obtain ⟨x, hx⟩ : ∃ x, a[i]? = some x := ⟨_, List.getElem?_eq_getElem (by have := HL.out; omega)⟩
        have hbx : s[i]'hisz = x := byte_is hisz (by rw [← HL.out.1]; exact hx)
        by_cases hlb : i < B
        · have hjj : (i : Int) < (t.size : Int) := by have := HL.out; omega
          have hjsz : i < t.size := by have := HL.out; omega
          obtain ⟨y, hy⟩ : ∃ y, b[i]? = some y := ⟨_, List.getElem?_eq_getElem (by have := HL.out; omega)⟩
          have hby : t[i]'hjsz = y := byte_is hjsz (by rw [← HL.out.2.1]; exact hy)
          have hd : R = (decide (x < y) || (x == y && Op.bytesLess (a.drop (i + 1)) (b.drop (i + 1)))) := by
            rw [HT.out, drop_at hx, drop_at hy]; rfl
          by_cases hxy : x = y
          · have e1 : (((s[i]'hisz).toNat : Int) == ((t[i]'hjsz).toNat : Int)) = true := by rw [hbx, hby, hxy]; simp
            have hf : R = Op.bytesLess (a.drop (i + 1)) (b.drop (i + 1)) := by
              rw [hd, hxy]
              simp
            have HF := Lib.hid hf
            clear hf hd hxy hbx hby hx hy
            go_upto_region 4 with fail
            refine vp_region_all (fun _ => True) (by kernel_rfl) (by kernel_rfl) (by intro _ d _ _ _ h; cases d <;> exact h) trivial ?_
            intro wd hwd
            repeat
              first
                | (refine all_free rfl (v := ?_) ?_ ?_
                   rotate_left
                   · intro w' hw'
                     go_simp
                     first | done | with_reducible rfl
                   simp only [Act.put, List.setIfInBounds_toArray, List.set_cons_zero, List.set_cons_succ])
                | (refine all_free_g (by first | rfl | decide) (v := ?_) ?_ ?_
                   rotate_left
                   · intro w' hw'
                     go_simp
                     first | done | with_reducible rfl
                   simp only [Act.put, List.setIfInBounds_toArray, List.set_cons_zero, List.set_cons_succ])
                | (refine all_skip (by first | rfl | decide) ?_
                   simp only [Act.put, List.setIfInBounds_toArray, List.set_cons_zero, List.set_cons_succ])
            refine all_nil ?_
            have hkd : Keeps [] wr wd := by rw [hwd]; exact (Keeps.refl _ _).drew
            have HKD := Lib.hid hkd
            clear hwd hkd
            go_wp2
            go_roundg (gk - 1)
            case measure => have := HI.out; omega
            case rel => exact ⟨i + 1, by push_cast; rfl, by have := HI.out; omega, by omega, HF.out, HK.out.trans HKD.out⟩
          · have e1 : (((s[i]'hisz).toNat : Int) == ((t[i]'hjsz).toNat : Int)) = false := by
              rw [hbx, hby, beq_eq_false_iff_ne]
              intro e
              exact hxy (UInt8.toNat_inj.1 (by omega))
            have e2 : decide ((s[i]'hisz).toNat < (t[i]'hjsz).toNat) = R := by
              rw [hd, hbx, hby, beq_eq_false_iff_ne.2 hxy, Bool.false_and, Bool.or_false]
              refine decide_eq_decide.2 ?_
              rw [UInt8.lt_iff_toNat_lt]
            have HE := Lib.hid e2
            clear hd hbx hby hx hy e2
            go_upto_region 4 with fail
            refine vp_region_all (fun _ => True) (by kernel_rfl) (by kernel_rfl) (by intro _ d _ _ _ h; cases d <;> exact h) trivial ?_
            intro wd hwd
            repeat
              first
                | (refine all_free rfl (v := ?_) ?_ ?_
                   rotate_left
                   · intro w' hw'
                     go_simp
                     first | done | with_reducible rfl
                   simp only [Act.put, List.setIfInBounds_toArray, List.set_cons_zero, List.set_cons_succ])
                | (refine all_free_g (by first | rfl | decide) (v := ?_) ?_ ?_
                   rotate_left
                   · intro w' hw'
                     go_simp
                     first | done | with_reducible rfl
                   simp only [Act.put, List.setIfInBounds_toArray, List.set_cons_zero, List.set_cons_succ])
                | (refine all_skip (by first | rfl | decide) ?_
                   simp only [Act.put, List.setIfInBounds_toArray, List.set_cons_zero, List.set_cons_succ])
            refine all_nil ?_
            have hkd : Keeps [] wr wd := by rw [hwd]; exact (Keeps.refl _ _).drew
            have HKD := Lib.hid hkd
            clear hwd hkd
            go_upto_region 5 with fail
            refine vp_region_all (fun _ => True) (by kernel_rfl) (by kernel_rfl) (by intro _ d _ _ _ h; cases d <;> exact h) trivial ?_
            intro wd hwd
            repeat
              first
                | (refine all_free rfl (v := ?_) ?_ ?_
                   rotate_left
                   · intro w' hw'
                     go_simp
                     first | done | with_reducible rfl
                   simp only [Act.put, List.setIfInBounds_toArray, List.set_cons_zero, List.set_cons_succ])
                | (refine all_free_g (by first | rfl | decide) (v := ?_) ?_ ?_
                   rotate_left
                   · intro w' hw'
                     go_simp
                     first | done | with_reducible rfl
                   simp only [Act.put, List.setIfInBounds_toArray, List.set_cons_zero, List.set_cons_succ])
                | (refine all_skip (by first | rfl | decide) ?_
                   simp only [Act.put, List.setIfInBounds_toArray, List.set_cons_zero, List.set_cons_succ])
            refine all_nil ?_
            have hkd : Keeps [] w wd := by rw [hwd]; exact (HK.out.trans HKD.out).drew
            have HKD2 := Lib.hid hkd
            clear hwd hkd
            go_wp2
            go_ret
            exact ⟨by rw [← HE.out]; rfl, HKD2.out⟩
        · have hjj : ¬ (i : Int) < (t.size : Int) := by have := HL.out; omega
          have HX := Lib.hid (And.intro hla hlb)
          clear hla hlb hbx hx
          go_wp2
          go_meet
          case rel => exact ⟨HK.out, by rw [HT.out, less_end a b i (by have := HL.out; have := HX.out; omega) (by have := HL.out; have := HX.out; omega) (by have := HL.out; omega)]; refine decide_eq_decide.2 ?_; have := HL.out; omega⟩
      · have hii : ¬ (i : Int) < (s.size : Int) := by have := HL.out; omega
        have HX := Lib.hid hla
        clear hla
        go_wp2
        go_meet
        case rel => exact ⟨HK.out, by rw [HT.out, less_end a b i (by have := HL.out; have := HX.out; omega) (by have := HL.out; have := HI.out; omega) (by have := HL.out; omega)]; refine decide_eq_decide.2 ?_; have := HL.out; omega⟩
  case rest =>
    obtain ⟨hk, h2⟩ := hcut
    have H2 := Lib.hid h2
    have HK := Lib.hid hk
    clear h2 hk
    go_wp2
    go_ret
    refine ⟨?_, HK.out⟩
    rw [show R = decide (s.size < t.size) by rw [H2.out, HL.out.2.2.1, HL.out.2.2.2.1]; exact decide_eq_decide.2 (by omega)]
    rfl
end Go.Proofs.Ytpfmhjokcpkliaa
