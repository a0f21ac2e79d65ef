/-
  PathLess, walked.
-/
import Derived.Test.YtpfmhjokcpkliaaL22
namespace Go.V.Path
open Go Go.V Go.Proofs.Ytpfmhjokcpkliaa
theorem lt_self : ∀ a : List UInt8, Op.bytesLess a a = false
  | [] => rfl
  | x :: a => by rw [less_cons, lt_self a]; simp
theorem lt_one : ∀ a b : List UInt8, a ≠ b → Op.bytesLess a b = !Op.bytesLess b a
  | [], [], h => absurd rfl h
  | [], _ :: _, _ => rfl
  | _ :: _, [], _ => rfl
  | x :: a, y :: b, h => by
    rw [less_cons, less_cons]
    by_cases e : x = y
    · subst e
      have := lt_one a b (fun e => h (by rw [e]))
      simpa using this
    · have h1 : (x == y) = false := by simpa using e
      have h2 : (y == x) = false := by simpa using fun e' : y = x => e e'.symm
      rw [h1, h2, Bool.false_and, Bool.false_and, Bool.or_false, Bool.or_false]
      have h3 : x.toNat ≠ y.toNat := fun e' => e (UInt8.toNat_inj.1 e')
      by_cases h4 : x < y
      · have h5 : ¬ y < x := by rw [UInt8.lt_iff_toNat_lt] at h4 ⊢; omega
        rw [decide_eq_true h4, decide_eq_false h5]; rfl
      · have h5 : y < x := by rw [UInt8.lt_iff_toNat_lt] at h4 ⊢; omega
        rw [decide_eq_false h4, decide_eq_true h5]; rfl
theorem lt_trans3 : ∀ a b c : List UInt8, Op.bytesLess a b = true → Op.bytesLess b c = true → Op.bytesLess a c = true
  | [], [], _, h, _ => by cases h
  | _ :: _, [], _, h, _ => by cases h
  | _, _ :: _, [], _, h => by cases h
  | [], _ :: _, _ :: _, _, _ => rfl
  | x :: a, y :: b, z :: c, h, k => by
    rw [less_cons] at h k ⊢
    simp only [Bool.or_eq_true, decide_eq_true_eq, Bool.and_eq_true, beq_iff_eq] at h k ⊢
    rcases h with h | ⟨rfl, h⟩
    · rcases k with k | ⟨rfl, _⟩
      · left; rw [UInt8.lt_iff_toNat_lt] at h k ⊢; omega
      · exact Or.inl h
    · rcases k with k | ⟨rfl, k⟩
      · exact Or.inl k
      · exact Or.inr ⟨rfl, lt_trans3 a b c h k⟩
theorem lt_begin : ∀ a b : List UInt8, Op.bytesLess (a ++ b) a = false
  | [], _ => by simp [Op.bytesLess]
  | x :: a, b => by rw [List.cons_append, less_cons, lt_begin a b]; simp
theorem lt_more : ∀ a b : List UInt8, b ≠ [] → Op.bytesLess a (a ++ b) = true
  | [], [], h => absurd rfl h
  | [], _ :: _, _ => rfl
  | x :: a, b, h => by rw [List.cons_append, less_cons, lt_more a b h]; simp
end Go.V.Path
namespace Go.Proofs.Ytpfmhjokcpkliaa
open Go.RowKit Go.V Go.V.Path
theorem cat_data (a b : ByteArray) : (a ++ b).data.toList = a.data.toList ++ b.data.toList := by
  rw [ByteArray.data_append, Array.toList_append]
set_option maxHeartbeats 8000000 in
theorem less_any (a b c : ByteArray) (w : World) : Calls Try.prog 9 #[.string a, .string b, .string c] w (BK true w) := by
  have hsz := size_len a
  go_enter Try.func9, Try.ntmps9
  go_upto_region 1 with fail
  go_wp2_with fail
  refine (awake_ok w).mono ?_
  rintro e w0 ⟨rfl, hk0⟩
  have K0 := Lib.hid hk0
  clear hk0 hsz
  go_upto_region 3 with fail
  have hself := lt_self a.data.toList
  go_cut [41] (fun v wx => v = .bool false ∧ wx = w0)
  case first =>
    by_cases hab : a = b
    · subst hab
      go_wp2_with fail
      refine (less_ok a a w0).mono ?_
      rintro e w1 ⟨rfl, hw⟩
      subst hw
      rw [hself]
      have heq : (a.toList == a.toList) = true := by simp
      go_wp2_with fail
      refine (less_ok a a w1).mono ?_
      rintro e w2 ⟨rfl, hw⟩
      subst hw
      rw [hself]
      go_wp2
      go_meet
      case rel => exact ⟨rfl, rfl⟩
    · have hl : a.data.toList ≠ b.data.toList := fun e => hab (by rw [← bs_data a, ← bs_data b, e])
      have h1 := lt_one _ _ hl
      have heq : (a.toList == b.toList) = false := by rw [Lib.toList_data, Lib.toList_data, beq_eq_false_iff_ne]; exact hl
      have h3 := lt_trans3 a.data.toList b.data.toList c.data.toList
      obtain ⟨x, hx⟩ : ∃ x, x = Op.bytesLess a.data.toList b.data.toList := ⟨_, rfl⟩
      obtain ⟨y, hy⟩ : ∃ y, y = Op.bytesLess b.data.toList a.data.toList := ⟨_, rfl⟩
      obtain ⟨z, hz⟩ : ∃ z, z = Op.bytesLess b.data.toList c.data.toList := ⟨_, rfl⟩
      obtain ⟨u, hu⟩ : ∃ u, u = Op.bytesLess a.data.toList c.data.toList := ⟨_, rfl⟩
      rw [← hx, ← hy] at h1
      rw [← hx, ← hz, ← hu] at h3
      have HX := Lib.hid (And.intro hx (And.intro hy (And.intro hz hu)))
      have H3 := Lib.hid h3
      clear hx hy hz hu hl hab h3
      go_wp2_with fail
      refine (less_ok a a w0).mono ?_
      rintro e w1 ⟨rfl, hw⟩
      subst hw
      rw [hself]
      go_wp2_with fail
      refine (less_ok a b w1).mono ?_
      rintro e w2 ⟨rfl, hw⟩
      subst hw
      rw [← HX.out.1]
      go_wp2_with fail
      refine (less_ok b a w2).mono ?_
      rintro e w3 ⟨rfl, hw⟩
      subst hw
      rw [← HX.out.2.1]
      have hxy : (x == y) = false := by rw [h1]; cases y <;> rfl
      clear h1
      go_wp2_with fail
      refine (less_ok a b w3).mono ?_
      rintro e w4 ⟨rfl, hw⟩
      subst hw
      rw [← HX.out.1]
      cases x with
      | false =>
        go_wp2
        go_meet
        case rel => exact ⟨rfl, rfl⟩
      | true =>
        go_wp2_with fail
        refine (less_ok b c w4).mono ?_
        rintro e w5 ⟨rfl, hw⟩
        subst hw
        rw [← HX.out.2.2.1]
        cases z with
        | false =>
          go_wp2
          go_meet
          case rel => exact ⟨rfl, rfl⟩
        | true =>
          obtain rfl : u = true := by have h := H3.out; clear H3; revert h; cases u <;> simp
          go_wp2_with fail
          refine (less_ok a c w5).mono ?_
          rintro e w6 ⟨rfl, hw⟩
          subst hw
          rw [← HX.out.2.2.2]
          go_wp2
          go_meet
          case rel => exact ⟨rfl, rfl⟩
  case rest =>
    obtain ⟨rfl, hww⟩ := hcut
    subst wc
    go_upto_region 5 with fail
    by_cases hA : 65536 < a.size
    · have hA2 : (65536 : Int) < (a.size : Int) := by omega
      go_wp2
      (try simp only [Exit.inBlock, Exit.then])
      go_ret
      exact ⟨rfl, K0.out⟩
    · have hA2 : ¬ (65536 : Int) < (a.size : Int) := by omega
      by_cases hB : 65536 < b.size
      · have hB2 : (65536 : Int) < (b.size : Int) := by omega
        go_wp2
        (try simp only [Exit.inBlock, Exit.then])
        go_ret
        exact ⟨rfl, K0.out⟩
      · have hB2 : ¬ (65536 : Int) < (b.size : Int) := by omega
        have h4 : Op.bytesLess (a ++ b).data.toList a.data.toList = false := by rw [cat_data]; exact lt_begin _ _
        have H4 := Lib.hid h4
        clear h4
        by_cases hb0 : b.data.toList = []
        · have he : (b.toList == []) = true := by rw [Lib.toList_data, hb0]; rfl
          clear hb0
          go_wp2_with fail
          refine (less_ok (a ++ b) a w0).mono ?_
          rintro e w1 ⟨rfl, hw⟩
          subst hw
          rw [H4.out]
          go_wp2
          (try simp only [Exit.inBlock, Exit.then])
          go_ret
          exact ⟨rfl, K0.out⟩
        · have he : (b.toList == []) = false := by rw [Lib.toList_data, beq_eq_false_iff_ne]; exact hb0
          have h5 : Op.bytesLess a.data.toList (a ++ b).data.toList = true := by rw [cat_data]; exact lt_more _ _ hb0
          have H5 := Lib.hid h5
          clear hb0 h5
          go_wp2_with fail
          refine (less_ok (a ++ b) a w0).mono ?_
          rintro e w1 ⟨rfl, hw⟩
          subst hw
          rw [H4.out]
          go_wp2_with fail
          refine (less_ok a (a ++ b) w1).mono ?_
          rintro e w2 ⟨rfl, hw⟩
          subst hw
          rw [H5.out]
          go_wp2
          (try simp only [Exit.inBlock, Exit.then])
          go_ret
          exact ⟨rfl, K0.out⟩
end Go.Proofs.Ytpfmhjokcpkliaa
