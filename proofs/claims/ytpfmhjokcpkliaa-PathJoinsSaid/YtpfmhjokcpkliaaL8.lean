/-
  The reference: has, Name, Less, walked.
-/
import Derived.Test.YtpfmhjokcpkliaaL7
namespace Go.Proofs.Ytpfmhjokcpkliaa
open Go.RowKit Go.V Go.V.Path
theorem take_none {l : List UInt8} {i : Nat} {c d : UInt8} (h : (l.take i).contains c = false) (hi : l[i]? = some d) (hd : d ≠ c) : (l.take (i + 1)).contains c = false := by
  rw [List.take_add_one, hi]
  simp only [Option.toList, List.contains_eq_mem, List.mem_append, List.mem_singleton, decide_eq_false_iff_not, not_or] at h ⊢
  exact ⟨h, fun e => hd e.symm⟩
theorem take_some {l : List UInt8} {i : Nat} {c : UInt8} (hi : l[i]? = some c) : l.contains c = true := by
  rw [List.contains_eq_mem, decide_eq_true_eq]
  exact List.mem_of_getElem? hi
set_option maxHeartbeats 1000000 in
theorem has_ok (s : ByteArray) (c : UInt8) (w : World) (hs : s.size ≤ 4611686018427387904) : Calls Try.prog 29 #[.string s, .int .u8 c.toNat] w (BP (s.data.toList.contains c) w) := by
  obtain ⟨l, hl⟩ : ∃ l, l = s.data.toList := ⟨_, rfl⟩
  obtain ⟨N, hN⟩ : ∃ N, N = s.size := ⟨_, rfl⟩
  have hsz := size_len s
  rw [← hl] at hsz ⊢
  have HL := Lib.hid (And.intro hl (And.intro hN hsz))
  clear hl hN hsz
  obtain ⟨C, hC⟩ : ∃ C : Int, C = (c.toNat : Int) := ⟨_, rfl⟩
  rw [← hC]
  have HC := Lib.hid hC
  clear hC
  go_enter Try.func29, Try.ntmps29
  go_upto_block 0 with fail
  go_cut [4] (fun _ wx => wx = w ∧ l.contains c = false)
  case first =>
    go_wp2_with fail
    go_loopg [5] N (fun m vi wx => ∃ i : Nat, vi = .int .i64 i ∧ i + m = l.length ∧ (l.take i).contains c = false ∧ wx = w)
    case atStart => exact ⟨0, rfl, by have := HL.out; omega, by simp, rfl⟩
    case round =>
      obtain ⟨i, rfl, hi, ht, rfl⟩ := hrel
      have HT := Lib.hid ht
      clear ht
      by_cases hlt : i < N
      · have hii : (i : Int) < (s.size : Int) := by have := HL.out; omega
        obtain ⟨d, hd⟩ : ∃ d, l[i]? = some d := ⟨_, List.getElem?_eq_getElem (by have := HL.out; omega)⟩
        have hisz : i < s.size := by have := HL.out; omega
        have hbd : s[i]'hisz = d := byte_is hisz (by rw [← HL.out.1]; exact hd)
        have HD := Lib.hid hd
        by_cases hdc : d = c
        · have e1 : (((s[i]'hisz).toNat : Int) == C) = true := by rw [hbd, hdc, HC.out]; simp
          have HX := Lib.hid hdc
          clear hdc hd hbd
          go_wp2
          go_ret
          exact ⟨by rw [take_some (HX.out ▸ HD.out)]; rfl, rfl⟩
        · have e1 : (((s[i]'hisz).toNat : Int) == C) = false := by
            rw [hbd, HC.out, beq_eq_false_iff_ne]
            intro e
            exact hdc (UInt8.toNat_inj.1 (by omega))
          have HX := Lib.hid hdc
          clear hdc hd hbd
          go_wp2
          go_roundg (gk - 1)
          case measure => have := HL.out; omega
          case rel => exact ⟨i + 1, by push_cast; rfl, by have := HL.out; omega, take_none HT.out HD.out HX.out, rfl⟩
      · have hii : ¬ (i : Int) < (s.size : Int) := by have := HL.out; omega
        go_wp2
        go_meet
        case rel => exact ⟨rfl, by have := HT.out; rwa [List.take_of_length_le (by have := HL.out; omega)] at this⟩
  case rest =>
    obtain ⟨rfl, h2⟩ := hcut
    have H2 := Lib.hid h2
    clear h2
    go_wp2
    go_ret
    exact ⟨by rw [H2.out]; rfl, rfl⟩
set_option maxHeartbeats 1000000 in
theorem rname_ok (s : ByteArray) (w : World) (hs : s.size ≤ 4611686018427387904) : Calls Try.prog 17 #[.string s] w (EPost (nameF s.data.toList) w) := by
  have hsz := size_len s
  have h0 := has_ok s 0 w hs
  have h47 := has_ok s 47 w hs
  obtain ⟨l, hl⟩ : ∃ l, l = s.data.toList := ⟨_, rfl⟩
  rw [← hl] at hsz h0 h47 ⊢
  unfold BP at h0 h47
  by_cases he : l = []
  · have e1 : ((s.size : Int) == 0) = true := by rw [hsz, he]; rfl
    have hv : nameF l = 2 := by unfold nameF; rw [if_pos he]
    rw [hv]
    clear hv he hsz h0 h47 hl
    go_enter Try.func17, Try.ntmps17
    go_wp2
    go_ret
    exact ⟨rfl, rfl⟩
  · have e1 : ((s.size : Int) == 0) = false := by
      rw [beq_eq_false_iff_ne]
      intro e
      exact he (List.eq_nil_of_length_eq_zero (by omega))
    by_cases hlong : 60 < l.length
    · have hs : (60 : Int) < (s.size : Int) := by omega
      have hv : nameF l = 36 := by unfold nameF; rw [if_neg he, if_pos hlong]
      rw [hv]
      clear hv he hsz h0 h47 hl hlong
      go_enter Try.func17, Try.ntmps17
      go_wp2
      go_ret
      exact ⟨rfl, rfl⟩
    · have hs : ¬ (60 : Int) < (s.size : Int) := by omega
      have hv : nameF l = if l.contains 0 || l.contains 47 then 22 else 0 := by unfold nameF; rw [if_neg he, if_neg hlong]
      rw [hv]
      obtain ⟨b0, hb0⟩ : ∃ b0, b0 = l.contains 0 := ⟨_, rfl⟩
      obtain ⟨b1, hb1⟩ : ∃ b1, b1 = l.contains 47 := ⟨_, rfl⟩
      rw [← hb0] at h0 ⊢
      rw [← hb1] at h47 ⊢
      obtain ⟨R, hR⟩ : ∃ R : Int, R = if (b0 || b1) = true then 22 else 0 := ⟨_, rfl⟩
      rw [← hR]
      have HR := Lib.hid hR
      have H0 := Lib.hid h0
      have H47 := Lib.hid h47
      clear hv he hsz hlong hb0 hb1 hR hl h0 h47
      go_enter Try.func17, Try.ntmps17
      go_wp2_with fail
      refine H0.out.mono ?_
      rintro e w' ⟨rfl, rfl⟩
      cases b0 with
      | true =>
        go_wp2
        go_ret
        exact ⟨by rw [HR.out]; rfl, rfl⟩
      | false =>
        go_wp2_with fail
        refine H47.out.mono ?_
        rintro e w' ⟨rfl, rfl⟩
        cases b1 with
        | true =>
          go_wp2
          go_ret
          exact ⟨by rw [HR.out]; rfl, rfl⟩
        | false =>
          go_wp2
          go_ret
          exact ⟨by rw [HR.out]; rfl, rfl⟩
end Go.Proofs.Ytpfmhjokcpkliaa
