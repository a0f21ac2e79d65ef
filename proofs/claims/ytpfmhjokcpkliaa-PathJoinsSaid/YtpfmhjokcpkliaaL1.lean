/-
  path.Name, walked.
-/
import Derived.Test.YtpfmhjokcpkliaaL0
import Derived.Test.YtpfmhjokcpkliaaV10
import Derived.Test.YtpfmhjokcpkliaaV5
namespace Go.V.Path
open Go Go.V
theorem ix_ge (l : List UInt8) (c : UInt8) : decide (0 ≤ Lib.indexByte l c) = l.contains c := by
  induction l with
  | nil => rfl
  | cons b l ih =>
    have hge := Lib.indexByte_ge l c
    unfold Lib.indexByte
    rw [List.contains_cons, ← ih]
    by_cases e : b = c
    · subst e
      simp
    · have e1 : (b == c) = false := by simp [e]
      have e2 : (c == b) = false := beq_eq_false_iff_ne.2 (fun h => e h.symm)
      rw [e1, e2, Bool.false_or]
      by_cases h : Lib.indexByte l c = -1
      · simp [h]
      · have h2 : (Lib.indexByte l c == -1) = false := by simp [h]
        simp only [h2, Bool.false_eq_true, if_false]
        refine decide_eq_decide.2 ?_
        omega
/-- what is wrong with a name -/
def nameF (l : List UInt8) : Int := if l = [] then 2 else if 60 < l.length then 36 else if l.contains 0 || l.contains 47 then 22 else 0
theorem size_len (s : ByteArray) : s.size = s.data.toList.length := by
  obtain ⟨a⟩ := s
  show a.size = _
  simp
end Go.V.Path
namespace Go.Proofs.Ytpfmhjokcpkliaa
open Go.RowKit Go.V Go.V.Path
def EPost (n : Int) (w : World) (e : Ending) (w' : World) : Prop := e = .returned (.int .i64 n) ∧ w' = w
set_option maxHeartbeats 1000000 in
theorem name_ok (s : ByteArray) (w : World) : Calls Try.prog 16 #[.string s] w (EPost (nameF s.data.toList) w) := by
  have hsz := size_len s
  have htl := Lib.toList_data s
  obtain ⟨l, hl⟩ : ∃ l, l = s.data.toList := ⟨_, rfl⟩
  have h0 := Try.strings_IndexByte s 0 w
  have h47 := Try.strings_IndexByte s 47 w
  rw [← hl] at hsz htl h0 h47 ⊢
  obtain ⟨i0, hi0⟩ : ∃ i0, i0 = Lib.indexByte l (Int.toNat 0).toUInt8 := ⟨_, rfl⟩
  obtain ⟨i1, hi1⟩ : ∃ i1, i1 = Lib.indexByte l (Int.toNat 47).toUInt8 := ⟨_, rfl⟩
  rw [← hi0] at h0
  rw [← hi1] at h47
  have g0 : decide (0 ≤ i0) = l.contains 0 := by rw [hi0]; exact ix_ge l 0
  have g1 : decide (0 ≤ i1) = l.contains 47 := by rw [hi1]; exact ix_ge l 47
  have H0 := Lib.hid h0
  have H47 := Lib.hid h47
  have HSZ := Lib.hid hsz
  have HTL := Lib.hid htl
  clear h0 h47 hi0 hi1 hl
  by_cases he : l = []
  · have e1 : s.toList.isEmpty = true := by rw [htl, he]; rfl
    have hv : nameF l = 2 := by unfold nameF; rw [if_pos he]
    rw [hv]
    clear hv he htl hsz g0 g1
    go_enter Try.func16, Try.ntmps16
    go_wp2
    go_ret
    exact ⟨rfl, rfl⟩
  · have e1 : s.toList.isEmpty = false := by
      rw [htl]
      cases l with
      | nil => exact absurd rfl he
      | cons => rfl
    by_cases hlong : 60 < l.length
    · have hs : (60 : Int) < (s.size : Int) := by omega
      have hv : nameF l = 36 := by unfold nameF; rw [if_neg he, if_pos hlong]
      rw [hv]
      clear hv he htl hsz g0 g1 hlong
      go_enter Try.func16, Try.ntmps16
      go_wp2
      go_ret
      exact ⟨rfl, rfl⟩
    · have hs : ¬ (60 : Int) < (s.size : Int) := by omega
      have hv : nameF l = if l.contains 0 || l.contains 47 then 22 else 0 := by unfold nameF; rw [if_neg he, if_neg hlong]
      rw [hv]
      obtain ⟨b0, hb0⟩ : ∃ b0, b0 = l.contains 0 := ⟨_, rfl⟩
      obtain ⟨b1, hb1⟩ : ∃ b1, b1 = l.contains 47 := ⟨_, rfl⟩
      rw [← hb0] at g0 ⊢
      rw [← hb1] at g1 ⊢
      obtain ⟨R, hR⟩ : ∃ R : Int, R = if (b0 || b1) = true then 22 else 0 := ⟨_, rfl⟩
      rw [← hR]
      have HR := Lib.hid hR
      clear hv he htl hsz hlong hb0 hb1 hR
      cases b0 with
      | true =>
        have g0' : 0 ≤ i0 := of_decide_eq_true g0
        clear g0
        go_enter Try.func16, Try.ntmps16
        go_wp2_with fail
        refine H0.out.mono ?_
        rintro e w' ⟨rfl, rfl⟩
        go_wp2
        go_ret
        exact ⟨by rw [HR.out]; rfl, rfl⟩
      | false =>
        have g0' : ¬ 0 ≤ i0 := of_decide_eq_false g0
        clear g0
        go_enter Try.func16, Try.ntmps16
        go_wp2_with fail
        refine H0.out.mono ?_
        rintro e w' ⟨rfl, rfl⟩
        go_wp2_with fail
        refine H47.out.mono ?_
        rintro e w' ⟨rfl, rfl⟩
        cases b1 with
        | true =>
          have g1' : 0 ≤ i1 := of_decide_eq_true g1
          clear g1
          go_wp2
          go_ret
          exact ⟨by rw [HR.out]; rfl, rfl⟩
        | false =>
          have g1' : ¬ 0 ≤ i1 := of_decide_eq_false g1
          clear g1
          go_wp2
          go_ret
          exact ⟨by rw [HR.out]; rfl, rfl⟩
end Go.Proofs.Ytpfmhjokcpkliaa
