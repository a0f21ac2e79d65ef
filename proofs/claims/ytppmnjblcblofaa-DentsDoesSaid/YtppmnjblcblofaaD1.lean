/-
  Names and their order: path.Name, Less, the reference's Name, Less, walked.
-/
import Derived.Test.YtppmnjblcblofaaD0
namespace Go.V.Path
open Go Go.V
theorem ix_ge (l : List UInt8) (c : UInt8) : decide (0 ≤ Lib.indexByte l c) = l.contains c := by
  induction l with
  | nil => rfl
  | cons b l ih =>
    have hge := Lib.indexByte_ge l c
    unfold Lib.indexByte
    rw [List.contains_cons, ← ih]
    by_cases e : b = c
    · subst e
      simp
    · have e1 : (b == c) = false := by simp [e]
      have e2 : (c == b) = false := beq_eq_false_iff_ne.2 (fun h => e h.symm)
      rw [e1, e2, Bool.false_or]
      by_cases h : Lib.indexByte l c = -1
      · simp [h]
      · have h2 : (Lib.indexByte l c == -1) = false := by simp [h]
        simp only [h2, Bool.false_eq_true, if_false]
        refine decide_eq_decide.2 ?_
        omega
/-- what is wrong with a name -/
def nameF (l : List UInt8) : Int := if l = [] then 2 else if 60 < l.length then 36 else if l.contains 0 || l.contains 47 then 22 else 0
theorem size_len (s : ByteArray) : s.size = s.data.toList.length := by
  obtain ⟨a⟩ := s
  show a.size = _
  simp
end Go.V.Path
namespace Go.Proofs.Ytppmnjblcblofaa
open Go.RowKit Go.V Go.V.Path
def EPost (n : Int) (w : World) (e : Ending) (w' : World) : Prop := e = .returned (.int .i64 n) ∧ w' = w
set_option maxHeartbeats 1000000 in
theorem name_ok (s : ByteArray) (w : World) : Calls Try.prog 22 #[.string s] w (EPost (nameF s.data.toList) w) := by
  have hsz := size_len s
  have htl := Lib.toList_data s
  obtain ⟨l, hl⟩ : ∃ l, l = s.data.toList := ⟨_, rfl⟩
  have h0 := Try.strings_IndexByte s 0 w
  have h47 := Try.strings_IndexByte s 47 w
  rw [← hl] at hsz htl h0 h47 ⊢
  obtain ⟨i0, hi0⟩ : ∃ i0, i0 = Lib.indexByte l (Int.toNat 0).toUInt8 := ⟨_, rfl⟩
  obtain ⟨i1, hi1⟩ : ∃ i1, i1 = Lib.indexByte l (Int.toNat 47).toUInt8 := ⟨_, rfl⟩
  rw [← hi0] at h0
  rw [← hi1] at h47
  have g0 : decide (0 ≤ i0) = l.contains 0 := by rw [hi0]; exact ix_ge l 0
  have g1 : decide (0 ≤ i1) = l.contains 47 := by rw [hi1]; exact ix_ge l 47
  have H0 := Lib.hid h0
  have H47 := Lib.hid h47
  have HSZ := Lib.hid hsz
  have HTL := Lib.hid htl
  clear h0 h47 hi0 hi1 hl
  by_cases he : l = []
  · have e1 : s.toList.isEmpty = true := by rw [htl, he]; rfl
    have hv : nameF l = 2 := by unfold nameF; rw [if_pos he]
    rw [hv]
    clear hv he htl hsz g0 g1
    go_enter Try.func22, Try.ntmps22
    go_wp2
    go_ret
    exact ⟨rfl, rfl⟩
  · have e1 : s.toList.isEmpty = false := by
      rw [htl]
      cases l with
      | nil => exact absurd rfl he
      | cons => rfl
    by_cases hlong : 60 < l.length
    · have hs : (60 : Int) < (s.size : Int) := by omega
      have hv : nameF l = 36 := by unfold nameF; rw [if_neg he, if_pos hlong]
      rw [hv]
      clear hv he htl hsz g0 g1 hlong
      go_enter Try.func22, Try.ntmps22
      go_wp2
      go_ret
      exact ⟨rfl, rfl⟩
    · have hs : ¬ (60 : Int) < (s.size : Int) := by omega
      have hv : nameF l = if l.contains 0 || l.contains 47 then 22 else 0 := by unfold nameF; rw [if_neg he, if_neg hlong]
      rw [hv]
      obtain ⟨b0, hb0⟩ : ∃ b0, b0 = l.contains 0 := ⟨_, rfl⟩
      obtain ⟨b1, hb1⟩ : ∃ b1, b1 = l.contains 47 := ⟨_, rfl⟩
      rw [← hb0] at g0 ⊢
      rw [← hb1] at g1 ⊢
      obtain ⟨R, hR⟩ : ∃ R : Int, R = if (b0 || b1) = true then 22 else 0 := ⟨_, rfl⟩
      rw [← hR]
      have HR := Lib.hid hR
      clear hv he htl hsz hlong hb0 hb1 hR
      cases b0 with
      | true =>
        have g0' : 0 ≤ i0 := of_decide_eq_true g0
        clear g0
        go_enter Try.func22, Try.ntmps22
        go_wp2_with fail
        refine H0.out.mono ?_
        rintro e w' ⟨rfl, rfl⟩
        go_wp2
        go_ret
        exact ⟨by rw [HR.out]; rfl, rfl⟩
      | false =>
        have g0' : ¬ 0 ≤ i0 := of_decide_eq_false g0
        clear g0
        go_enter Try.func22, Try.ntmps22
        go_wp2_with fail
        refine H0.out.mono ?_
        rintro e w' ⟨rfl, rfl⟩
        go_wp2_with fail
        refine H47.out.mono ?_
        rintro e w' ⟨rfl, rfl⟩
        cases b1 with
        | true =>
          have g1' : 0 ≤ i1 := of_decide_eq_true g1
          clear g1
          go_wp2
          go_ret
          exact ⟨by rw [HR.out]; rfl, rfl⟩
        | false =>
          have g1' : ¬ 0 ≤ i1 := of_decide_eq_false g1
          clear g1
          go_wp2
          go_ret
          exact ⟨by rw [HR.out]; rfl, rfl⟩
end Go.Proofs.Ytppmnjblcblofaa

namespace Go.V.Path
open Go Go.V
def bs (l : List UInt8) : ByteArray := ⟨l.toArray⟩
theorem bs_data (s : ByteArray) : bs s.data.toList = s := by
  obtain ⟨a⟩ := s
  simp [bs]
theorem byte_is {s : ByteArray} {i : Nat} {c : UInt8} (h : i < s.size) (hc : s.data.toList[i]? = some c) : s[i] = c := by
  obtain ⟨a⟩ := s
  have h2 : a[i]? = some c := by rw [← hc]; simp
  obtain ⟨h3, h4⟩ := Array.getElem?_eq_some_iff.1 h2
  exact h4
theorem drop_at {l : List UInt8} {i : Nat} {c : UInt8} (h : l[i]? = some c) : l.drop i = c :: l.drop (i + 1) := by
  obtain ⟨h1, h2⟩ := List.getElem?_eq_some_iff.1 h
  rw [List.drop_eq_getElem_cons h1, h2]
end Go.V.Path
namespace Go.Proofs.Ytppmnjblcblofaa
open Go.RowKit Go.V Go.V.Path
theorem bs_size (l : List UInt8) : (bs l).size = l.length := by show l.toArray.size = _; simp
theorem bs_toList (l : List UInt8) : (bs l).toList = l := by rw [Lib.toList_data]; show l.toArray.toList = l; simp
theorem bs_dataL (l : List UInt8) : (bs l).data.toList = l := by show l.toArray.toList = l; simp
def BP (b : Bool) (w : World) (e : Ending) (w' : World) : Prop := e = .returned (.bool b) ∧ w' = w
theorem less_ok (a b : ByteArray) (w : World) : Calls Try.prog 23 #[.string a, .string b] w (BP (Op.bytesLess a.data.toList b.data.toList) w) := by
  rw [← Lib.toList_data, ← Lib.toList_data]
  go_enter Try.func23, Try.ntmps23
  go_wp2
  go_ret
  exact ⟨rfl, rfl⟩
end Go.Proofs.Ytppmnjblcblofaa

namespace Go.Proofs.Ytppmnjblcblofaa
open Go.RowKit Go.V Go.V.Path
theorem take_none {l : List UInt8} {i : Nat} {c d : UInt8} (h : (l.take i).contains c = false) (hi : l[i]? = some d) (hd : d ≠ c) : (l.take (i + 1)).contains c = false := by
  rw [List.take_add_one, hi]
  simp only [Option.toList, List.contains_eq_mem, List.mem_append, List.mem_singleton, decide_eq_false_iff_not, not_or] at h ⊢
  exact ⟨h, fun e => hd e.symm⟩
theorem take_some {l : List UInt8} {i : Nat} {c : UInt8} (hi : l[i]? = some c) : l.contains c = true := by
  rw [List.contains_eq_mem, decide_eq_true_eq]
  exact List.mem_of_getElem? hi
set_option maxHeartbeats 1000000 in
theorem has_ok (s : ByteArray) (c : UInt8) (w : World) (hs : s.size ≤ 9223372036854775807) : Calls Try.prog 36 #[.string s, .int .u8 c.toNat] w (BP (s.data.toList.contains c) w) := by
  obtain ⟨l, hl⟩ : ∃ l, l = s.data.toList := ⟨_, rfl⟩
  obtain ⟨N, hN⟩ : ∃ N, N = s.size := ⟨_, rfl⟩
  have hsz := size_len s
  rw [← hl] at hsz ⊢
  have HL := Lib.hid (And.intro hl (And.intro hN hsz))
  clear hl hN hsz
  obtain ⟨C, hC⟩ : ∃ C : Int, C = (c.toNat : Int) := ⟨_, rfl⟩
  rw [← hC]
  have HC := Lib.hid hC
  clear hC
  go_enter Try.func36, Try.ntmps36
  go_upto_block 0 with fail
  go_cut [4] (fun _ wx => wx = w ∧ l.contains c = false)
  case first =>
    go_wp2_with fail
    go_loopg [5] N (fun m vi wx => ∃ i : Nat, vi = .int .i64 i ∧ i + m = l.length ∧ (l.take i).contains c = false ∧ wx = w)
    case atStart => exact ⟨0, rfl, by have := HL.out; omega, by simp, rfl⟩
    case round =>
      obtain ⟨i, rfl, hi, ht, rfl⟩ := hrel
      have HT := Lib.hid ht
      clear ht
      by_cases hlt : i < N
      · have hii : (i : Int) < (s.size : Int) := by have := HL.out; omega
        obtain ⟨d, hd⟩ : ∃ d, l[i]? = some d := ⟨_, List.getElem?_eq_getElem (by have := HL.out; omega)⟩
        have hisz : i < s.size := by have := HL.out; omega
        have hbd : s[i]'hisz = d := byte_is hisz (by rw [← HL.out.1]; exact hd)
        have HD := Lib.hid hd
        by_cases hdc : d = c
        · have e1 : (((s[i]'hisz).toNat : Int) == C) = true := by rw [hbd, hdc, HC.out]; simp
          have HX := Lib.hid hdc
          clear hdc hd hbd
          go_wp2
          go_ret
          exact ⟨by rw [take_some (HX.out ▸ HD.out)]; rfl, rfl⟩
        · have e1 : (((s[i]'hisz).toNat : Int) == C) = false := by
            rw [hbd, HC.out, beq_eq_false_iff_ne]
            intro e
            exact hdc (UInt8.toNat_inj.1 (by omega))
          have HX := Lib.hid hdc
          clear hdc hd hbd
          go_wp2
          go_roundg (gk - 1)
          case measure => have := HL.out; omega
          case rel => exact ⟨i + 1, by push_cast; rfl, by have := HL.out; omega, take_none HT.out HD.out HX.out, rfl⟩
      · have hii : ¬ (i : Int) < (s.size : Int) := by have := HL.out; omega
        go_wp2
        go_meet
        case rel => exact ⟨rfl, by have := HT.out; rwa [List.take_of_length_le (by have := HL.out; omega)] at this⟩
  case rest =>
    obtain ⟨rfl, h2⟩ := hcut
    have H2 := Lib.hid h2
    clear h2
    go_wp2
    go_ret
    exact ⟨by rw [H2.out]; rfl, rfl⟩
set_option maxHeartbeats 1000000 in
theorem rname_ok (s : ByteArray) (w : World) (hs : s.size ≤ 9223372036854775807) : Calls Try.prog 26 #[.string s] w (EPost (nameF s.data.toList) w) := by
  have hsz := size_len s
  have h0 := has_ok s 0 w hs
  have h47 := has_ok s 47 w hs
  obtain ⟨l, hl⟩ : ∃ l, l = s.data.toList := ⟨_, rfl⟩
  rw [← hl] at hsz h0 h47 ⊢
  unfold BP at h0 h47
  by_cases he : l = []
  · have e1 : ((s.size : Int) == 0) = true := by rw [hsz, he]; rfl
    have hv : nameF l = 2 := by unfold nameF; rw [if_pos he]
    rw [hv]
    clear hv he hsz h0 h47 hl
    go_enter Try.func26, Try.ntmps26
    go_wp2
    go_ret
    exact ⟨rfl, rfl⟩
  · have e1 : ((s.size : Int) == 0) = false := by
      rw [beq_eq_false_iff_ne]
      intro e
      exact he (List.eq_nil_of_length_eq_zero (by omega))
    by_cases hlong : 60 < l.length
    · have hs : (60 : Int) < (s.size : Int) := by omega
      have hv : nameF l = 36 := by unfold nameF; rw [if_neg he, if_pos hlong]
      rw [hv]
      clear hv he hsz h0 h47 hl hlong
      go_enter Try.func26, Try.ntmps26
      go_wp2
      go_ret
      exact ⟨rfl, rfl⟩
    · have hs : ¬ (60 : Int) < (s.size : Int) := by omega
      have hv : nameF l = if l.contains 0 || l.contains 47 then 22 else 0 := by unfold nameF; rw [if_neg he, if_neg hlong]
      rw [hv]
      obtain ⟨b0, hb0⟩ : ∃ b0, b0 = l.contains 0 := ⟨_, rfl⟩
      obtain ⟨b1, hb1⟩ : ∃ b1, b1 = l.contains 47 := ⟨_, rfl⟩
      rw [← hb0] at h0 ⊢
      rw [← hb1] at h47 ⊢
      obtain ⟨R, hR⟩ : ∃ R : Int, R = if (b0 || b1) = true then 22 else 0 := ⟨_, rfl⟩
      rw [← hR]
      have HR := Lib.hid hR
      have H0 := Lib.hid h0
      have H47 := Lib.hid h47
      clear hv he hsz hlong hb0 hb1 hR hl h0 h47
      go_enter Try.func26, Try.ntmps26
      go_wp2_with fail
      refine H0.out.mono ?_
      rintro e w' ⟨rfl, rfl⟩
      cases b0 with
      | true =>
        go_wp2
        go_ret
        exact ⟨by rw [HR.out]; rfl, rfl⟩
      | false =>
        go_wp2_with fail
        refine H47.out.mono ?_
        rintro e w' ⟨rfl, rfl⟩
        cases b1 with
        | true =>
          go_wp2
          go_ret
          exact ⟨by rw [HR.out]; rfl, rfl⟩
        | false =>
          go_wp2
          go_ret
          exact ⟨by rw [HR.out]; rfl, rfl⟩
end Go.Proofs.Ytppmnjblcblofaa

namespace Go.V.Path
open Go Go.V
theorem less_cons (x y : UInt8) (a b : List UInt8) : Op.bytesLess (x :: a) (y :: b) = (decide (x < y) || (x == y && Op.bytesLess a b)) := rfl
theorem less_end (a b : List UInt8) (i : Nat) (h : ¬ (i < a.length ∧ i < b.length)) (ha : i ≤ a.length) (hb : i ≤ b.length) : Op.bytesLess (a.drop i) (b.drop i) = decide ((a.length : Int) < (b.length : Int)) := by
  by_cases h2 : i < b.length
  · have h1 : i = a.length := by omega
    rw [show a.drop i = [] from List.drop_eq_nil_of_le (by omega)]
    obtain ⟨y, hy⟩ : ∃ y, b[i]? = some y := ⟨_, List.getElem?_eq_getElem h2⟩
    rw [drop_at hy, decide_eq_true (by omega)]
    rfl
  · rw [show b.drop i = [] from List.drop_eq_nil_of_le (by omega), decide_eq_false (by omega)]
    cases a.drop i <;> rfl
end Go.V.Path
namespace Go.Proofs.Ytppmnjblcblofaa
open Go.RowKit Go.V Go.V.Path
def BK (b : Bool) (w : World) (e : Ending) (w' : World) : Prop := e = .returned (.bool b) ∧ Keeps [] w w'
set_option maxHeartbeats 1000000 in
theorem rless_ok (s t : ByteArray) (w : World) (hs : s.size ≤ 9223372036854775807) : Calls Try.prog 27 #[.string s, .string t] w (BK (Op.bytesLess s.data.toList t.data.toList) w) := by
  obtain ⟨a, ha⟩ : ∃ a, a = s.data.toList := ⟨_, rfl⟩
  obtain ⟨b, hb⟩ : ∃ b, b = t.data.toList := ⟨_, rfl⟩
  obtain ⟨A, hA⟩ : ∃ A, A = s.size := ⟨_, rfl⟩
  obtain ⟨B, hB⟩ : ∃ B, B = t.size := ⟨_, rfl⟩
  have hsa := size_len s
  have hsb := size_len t
  rw [← ha] at hsa ⊢
  rw [← hb] at hsb ⊢
  have HL := Lib.hid (And.intro ha (And.intro hb (And.intro hA (And.intro hB (And.intro hsa hsb)))))
  clear ha hb hA hB hsa hsb
  obtain ⟨R, hR⟩ : ∃ R, R = Op.bytesLess a b := ⟨_, rfl⟩
  rw [← hR]
  have HR := Lib.hid hR
  clear hR
  go_enter Try.func27, Try.ntmps27
  go_upto_block 0 with fail
  go_cut [4] (fun _ wx => Keeps [] w wx ∧ R = decide ((A : Int) < (B : Int)))
  case first =>
    go_wp2_with fail
    go_loopg [5] A (fun m vi wx => ∃ i : Nat, vi = .int .i64 i ∧ i + m = A ∧ i ≤ B ∧ R = Op.bytesLess (a.drop i) (b.drop i) ∧ Keeps [] w wx)
    case atStart => exact ⟨0, rfl, by omega, by omega, HR.out, Keeps.refl _ _⟩
    case round =>
      obtain ⟨i, rfl, hi, hib, ht, hk⟩ := hrel
      have HK := Lib.hid hk
      clear hk
      have HT := Lib.hid ht
      have HI := Lib.hid hi
      clear ht hi
      by_cases hla : i < A
      · have hii : (i : Int) < (s.size : Int) := by have := HL.out; omega
        have hisz : i < s.size := by have := HL.out; omega
        obtain ⟨x, hx⟩ : ∃ x, a[i]? = some x := ⟨_, List.getElem?_eq_getElem (by have := HL.out; omega)⟩
        have hbx : s[i]'hisz = x := byte_is hisz (by rw [← HL.out.1]; exact hx)
        by_cases hlb : i < B
        · have hjj : (i : Int) < (t.size : Int) := by have := HL.out; omega
          have hjsz : i < t.size := by have := HL.out; omega
          obtain ⟨y, hy⟩ : ∃ y, b[i]? = some y := ⟨_, List.getElem?_eq_getElem (by have := HL.out; omega)⟩
          have hby : t[i]'hjsz = y := byte_is hjsz (by rw [← HL.out.2.1]; exact hy)
          have hd : R = (decide (x < y) || (x == y && Op.bytesLess (a.drop (i + 1)) (b.drop (i + 1)))) := by
            rw [HT.out, drop_at hx, drop_at hy]; rfl
          by_cases hxy : x = y
          · have e1 : (((s[i]'hisz).toNat : Int) == ((t[i]'hjsz).toNat : Int)) = true := by rw [hbx, hby, hxy]; simp
            have hf : R = Op.bytesLess (a.drop (i + 1)) (b.drop (i + 1)) := by
              rw [hd, hxy]
              simp
            have HF := Lib.hid hf
            clear hf hd hxy hbx hby hx hy
            go_upto_region 4 with fail
            refine vp_region_all (fun _ => True) (by kernel_rfl) (by kernel_rfl) (by intro _ d _ _ _ h; cases d <;> exact h) trivial ?_
            intro wd hwd
            repeat
              first
                | (refine all_free rfl (v := ?_) ?_ ?_
                   rotate_left
                   · intro w' hw'
                     go_simp
                     first | done | with_reducible rfl
                   simp only [Act.put, List.setIfInBounds_toArray, List.set_cons_zero, List.set_cons_succ])
                | (refine all_free_g (by first | rfl | decide) (v := ?_) ?_ ?_
                   rotate_left
                   · intro w' hw'
                     go_simp
                     first | done | with_reducible rfl
                   simp only [Act.put, List.setIfInBounds_toArray, List.set_cons_zero, List.set_cons_succ])
                | (refine all_skip (by first | rfl | decide) ?_
                   simp only [Act.put, List.setIfInBounds_toArray, List.set_cons_zero, List.set_cons_succ])
            refine all_nil ?_
            have hkd : Keeps [] wr wd := by rw [hwd]; exact (Keeps.refl _ _).drew
            have HKD := Lib.hid hkd
            clear hwd hkd
            go_wp2
            go_roundg (gk - 1)
            case measure => have := HI.out; omega
            case rel => exact ⟨i + 1, by push_cast; rfl, by have := HI.out; omega, by omega, HF.out, HK.out.trans HKD.out⟩
          · have e1 : (((s[i]'hisz).toNat : Int) == ((t[i]'hjsz).toNat : Int)) = false := by
              rw [hbx, hby, beq_eq_false_iff_ne]
              intro e
              exact hxy (UInt8.toNat_inj.1 (by omega))
            have e2 : decide ((s[i]'hisz).toNat < (t[i]'hjsz).toNat) = R := by
              rw [hd, hbx, hby, beq_eq_false_iff_ne.2 hxy, Bool.false_and, Bool.or_false]
              refine decide_eq_decide.2 ?_
              rw [UInt8.lt_iff_toNat_lt]
            have HE := Lib.hid e2
            clear hd hbx hby hx hy e2
            go_upto_region 4 with fail
            refine vp_region_all (fun _ => True) (by kernel_rfl) (by kernel_rfl) (by intro _ d _ _ _ h; cases d <;> exact h) trivial ?_
            intro wd hwd
            repeat
              first
                | (refine all_free rfl (v := ?_) ?_ ?_
                   rotate_left
                   · intro w' hw'
                     go_simp
                     first | done | with_reducible rfl
                   simp only [Act.put, List.setIfInBounds_toArray, List.set_cons_zero, List.set_cons_succ])
                | (refine all_free_g (by first | rfl | decide) (v := ?_) ?_ ?_
                   rotate_left
                   · intro w' hw'
                     go_simp
                     first | done | with_reducible rfl
                   simp only [Act.put, List.setIfInBounds_toArray, List.set_cons_zero, List.set_cons_succ])
                | (refine all_skip (by first | rfl | decide) ?_
                   simp only [Act.put, List.setIfInBounds_toArray, List.set_cons_zero, List.set_cons_succ])
            refine all_nil ?_
            have hkd : Keeps [] wr wd := by rw [hwd]; exact (Keeps.refl _ _).drew
            have HKD := Lib.hid hkd
            clear hwd hkd
            go_upto_region 5 with fail
            refine vp_region_all (fun _ => True) (by kernel_rfl) (by kernel_rfl) (by intro _ d _ _ _ h; cases d <;> exact h) trivial ?_
            intro wd hwd
            repeat
              first
                | (refine all_free rfl (v := ?_) ?_ ?_
                   rotate_left
                   · intro w' hw'
                     go_simp
                     first | done | with_reducible rfl
                   simp only [Act.put, List.setIfInBounds_toArray, List.set_cons_zero, List.set_cons_succ])
                | (refine all_free_g (by first | rfl | decide) (v := ?_) ?_ ?_
                   rotate_left
                   · intro w' hw'
                     go_simp
                     first | done | with_reducible rfl
                   simp only [Act.put, List.setIfInBounds_toArray, List.set_cons_zero, List.set_cons_succ])
                | (refine all_skip (by first | rfl | decide) ?_
                   simp only [Act.put, List.setIfInBounds_toArray, List.set_cons_zero, List.set_cons_succ])
            refine all_nil ?_
            have hkd : Keeps [] w wd := by rw [hwd]; exact (HK.out.trans HKD.out).drew
            have HKD2 := Lib.hid hkd
            clear hwd hkd
            go_wp2
            go_ret
            exact ⟨by rw [← HE.out]; rfl, HKD2.out⟩
        · have hjj : ¬ (i : Int) < (t.size : Int) := by have := HL.out; omega
          have HX := Lib.hid (And.intro hla hlb)
          clear hla hlb hbx hx
          go_wp2
          go_meet
          case rel => exact ⟨HK.out, by rw [HT.out, less_end a b i (by have := HL.out; have := HX.out; omega) (by have := HL.out; have := HX.out; omega) (by have := HL.out; omega)]; refine decide_eq_decide.2 ?_; have := HL.out; omega⟩
      · have hii : ¬ (i : Int) < (s.size : Int) := by have := HL.out; omega
        have HX := Lib.hid hla
        clear hla
        go_wp2
        go_meet
        case rel => exact ⟨HK.out, by rw [HT.out, less_end a b i (by have := HL.out; have := HX.out; omega) (by have := HL.out; have := HI.out; omega) (by have := HL.out; omega)]; refine decide_eq_decide.2 ?_; have := HL.out; omega⟩
  case rest =>
    obtain ⟨hk, h2⟩ := hcut
    have H2 := Lib.hid h2
    have HK := Lib.hid hk
    clear h2 hk
    go_wp2
    go_ret
    refine ⟨?_, HK.out⟩
    rw [show R = decide (s.size < t.size) by rw [H2.out, HL.out.2.2.1, HL.out.2.2.2.1]; exact decide_eq_decide.2 (by omega)]
    rfl
end Go.Proofs.Ytppmnjblcblofaa
