/-
  The closure, slices.BinarySearchFunc, find, slices.Clone, walked.
-/
import Derived.Test.YtppmnjblcblofaaD4
import Derived.Test.YtppmnjblcblofaaD3
import Derived.IntWalk
namespace Go.Proofs.Ytppmnjblcblofaa
open Go.RowKit Go.V Go.V.Path Go.V.Dents
def IK (n : Int) (w : World) (e : Ending) (w' : World) : Prop := e = .returned (.int .i64 n) ∧ Keeps [] w w'
theorem clos_ok (n t : List UInt8) (k : Int) (w : World) : Calls Try.prog 32 #[.agg #[.string (bs n), .int .i64 k], .string (bs t)] w (IK (Lib.compareBytes n t) w) := by
  have hk : Keeps [] w (w.alloc (.cells #[.string (bs n), .int .i64 k] 37)) := (Keeps.refl _ _).alloc _
  have HK := Lib.hid hk
  clear hk
  go_enter Try.func32, Try.ntmps32
  go_wp2_with fail
  refine (Try.strings_Compare (bs n) (bs t) _).mono ?_
  rw [bs_dataL, bs_dataL]
  rintro e w2 ⟨rfl, hw⟩
  subst hw
  go_wp2
  go_ret
  exact ⟨rfl, HK.out⟩
theorem sg_ent {w : World} {p : Option Addr} {n c : Nat} {l : List Ent} (h : SG FE w (.slice p n c) l) {i : Nat} {x : Ent} (hx : l[i]? = some x) :
    ∃ b o, p = some ⟨b, o, none⟩ ∧ w.cell? ⟨b, o + i * 2, none⟩ = some (.string (bs x.name)) ∧ w.cell? ⟨b, o + i * 2 + 1, none⟩ = some (.int .i64 x.ino) := by
  obtain ⟨b, o, c', hv⟩ := h.shape (by have := (List.getElem?_eq_some_iff.1 hx).1; omega)
  simp only [Value.slice.injEq] at hv
  obtain ⟨rfl, h2, h3⟩ := hv
  exact ⟨b, o, rfl, h.item rfl hx (j := 0) (u := .string (bs x.name)) rfl, h.item rfl hx (j := 1) (u := .int .i64 x.ino) rfl⟩
theorem srt_below {l : List Ent} {t : List UInt8} {h : Nat} {x : Ent} (hs : Srt l) (hx : l[h]? = some x) (hxt : lt t x = true) : ∀ j y, j < h + 1 → l[j]? = some y → lt t y = true := by
  intro j y hj hy
  rcases Nat.lt_or_ge j h with q | q
  · exact bl_trans _ _ _ (hs.get hy hx q) hxt
  · have : j = h := by omega
    subst this
    rw [hx] at hy
    cases hy
    exact hxt
theorem srt_above {l : List Ent} {t : List UInt8} {h : Nat} {x : Ent} (hs : Srt l) (hx : l[h]? = some x) (hxt : lt t x = false) : ∀ j y, h ≤ j → l[j]? = some y → lt t y = false := by
  intro j y hj hy
  cases hq : lt t y with
  | false => rfl
  | true =>
    exfalso
    rcases Nat.lt_or_ge h j with q | q
    · have h3 := bl_trans _ _ _ (hs.get hx hy q) hq
      unfold lt at hxt
      rw [h3] at hxt
      cases hxt
    · have : j = h := by omega
      subst this
      rw [hx] at hy
      cases hy
      rw [hxt] at hq
      cases hq
def FindPost (l : List Ent) (t : List UInt8) (w : World) (e : Ending) (w' : World) : Prop :=
  e = .returned (.tuple #[.int .i64 (pos l t : Nat), .bool (has l t)]) ∧ Keeps [] w w'
def BS (l : List Ent) (t : List UInt8) (w : World) (m : Nat) (vi vj : Value) (wx : World) : Prop :=
  ∃ lo hi : Nat, vi = .int .i64 lo ∧ vj = .int .i64 hi ∧ lo ≤ hi ∧ hi ≤ l.length ∧ hi - lo ≤ m ∧ (∀ j x, j < lo → l[j]? = some x → lt t x = true) ∧ (∀ j x, hi ≤ j → l[j]? = some x → lt t x = false) ∧ Keeps [] w wx
set_option maxHeartbeats 4000000 in
theorem search_ok (v : Value) (l : List Ent) (t : List UInt8) (w : World) (hv : SG FE w v l) (hs : Srt l) (hl : l.length ≤ 1000) :
    Calls Try.prog 31 #[v, .string (bs t), .func (.func 32) #[] #[]] w (FindPost l t w) := by
  obtain ⟨p, c, rfl, hc, hm, _⟩ := id hv
  obtain ⟨N, hN⟩ : ∃ N, N = l.length := ⟨_, rfl⟩
  rw [← hN] at hv hc hl ⊢
  have H := Lib.hid (And.intro hv (And.intro hs hN))
  clear hv hs hN
  obtain ⟨q, hq⟩ : ∃ q, q = pos l t := ⟨_, rfl⟩
  obtain ⟨r, hr⟩ : ∃ r, r = has l t := ⟨_, rfl⟩
  have hqN : q ≤ N := by rw [hq, H.out.2.2]; exact pos_le l t
  have goalQ : FindPost l t w = fun e w' => e = .returned (.tuple #[.int .i64 (q : Nat), .bool r]) ∧ Keeps [] w w' := by
    unfold FindPost; rw [hq, hr]
  rw [goalQ]
  have HQ := Lib.hid (And.intro hq hr)
  clear hq hr goalQ
  go_enter Try.func31, Try.ntmps31
  go_upto_block 0 with fail
  go_cut [9] (fun vi wx => vi = .int .i64 (q : Nat) ∧ Keeps [] w wx)
  case first =>
    go_wp2_with fail
    go_loopg [9, 10] N (fun m vi vj wx => BS l t w m vi vj wx)
    case atStart => exact ⟨0, N, rfl, rfl, by omega, by rw [← H.out.2.2]; exact Nat.le_refl _, by omega, fun j x hj => by omega, fun j x hj hx => by have := (List.getElem?_eq_some_iff.1 hx).1; rw [← H.out.2.2] at this; omega, Keeps.refl _ _⟩
    case round =>
      obtain ⟨lo, hi, rfl, rfl, hlh, hhN, hgk, i1, i2, hk⟩ := hrel
      rw [← H.out.2.2] at hhN
      have HI := Lib.hid (And.intro i1 (And.intro i2 (And.intro hk hgk)))
      clear i1 i2 hk hgk
      by_cases hlt : lo < hi
      · have hii : (lo : Int) < (hi : Int) := by omega
        obtain ⟨h, hh⟩ : ∃ h, h = (lo + hi) / 2 := ⟨_, rfl⟩
        have hdiv : ((lo : Int) + (hi : Int)) / 2 = (h : Int) := by omega
        have hhi : h < hi := by omega
        have hlo : lo ≤ h := by omega
        have hhN2 : h < N := by omega
        obtain ⟨x, hx⟩ : ∃ x, l[h]? = some x := ⟨_, List.getElem?_eq_getElem (by rw [← H.out.2.2]; exact hhN2)⟩
        obtain ⟨b, o, rfl, x0, x1⟩ := sg_ent (H.out.1.keep HI.out.2.2.1 (by simp)) hx
        have HX := Lib.hid hx
        have HC := Lib.hid (clos_ok x.name t x.ino wr)
        clear hx hh
        go_wp2_with fail
        refine HC.out.mono ?_
        rintro e w2 ⟨rfl, hk2⟩
        have HK2 := Lib.hid (HI.out.2.2.1.trans hk2)
        clear hk2 x0 x1
        by_cases hneg : Lib.compareBytes x.name t < 0
        · have hxt : lt t x = true := (cmp_neg _ _).1 hneg
          have HXT := Lib.hid hxt
          clear hxt
          go_wp2
          go_roundg (hi - (h + 1))
          case measure => have := HI.out.2.2.2; omega
          case rel => exact ⟨h + 1, hi, by push_cast; rfl, rfl, by omega, by rw [← H.out.2.2]; exact hhN, Nat.le_refl _, srt_below H.out.2.1 HX.out HXT.out, HI.out.2.1, HK2.out⟩
        · have hxt : lt t x = false := by
            cases hq : lt t x with
            | false => rfl
            | true => exact absurd ((cmp_neg _ _).2 hq) hneg
          have HXT := Lib.hid hxt
          clear hxt
          go_wp2
          go_roundg (h - lo)
          case measure => have := HI.out.2.2.2; omega
          case rel => exact ⟨lo, h, rfl, rfl, hlo, by rw [← H.out.2.2]; omega, Nat.le_refl _, HI.out.1, srt_above H.out.2.1 HX.out HXT.out, HK2.out⟩
      · have hii : ¬ (lo : Int) < (hi : Int) := by omega
        obtain rfl : lo = hi := by omega
        have hp := pos_of (l := l) (t := t) (k := lo) (by rw [← H.out.2.2]; exact hhN) HI.out.1 HI.out.2.1
        have HP := Lib.hid hp
        clear hp
        go_wp2
        go_meet
        case rel => exact ⟨by rw [HQ.out.1, HP.out], HI.out.2.2.1⟩
  case rest =>
    obtain ⟨rfl, hk⟩ := hcut
    have HK := Lib.hid hk
    clear hk
    by_cases hlt : q < N
    · have hii : (q : Int) < (N : Int) := by omega
      obtain ⟨x, hx⟩ : ∃ x, l[q]? = some x := ⟨_, List.getElem?_eq_getElem (by rw [← H.out.2.2]; exact hlt)⟩
      obtain ⟨b, o, rfl, x0, x1⟩ := sg_ent (H.out.1.keep HK.out (by simp)) hx
      have hr : r = decide (Lib.compareBytes x.name t = 0) := by
        rw [HQ.out.2, Bool.eq_iff_iff, decide_eq_true_eq, cmp_zero, H.out.2.1.has_iff, ← HQ.out.1]
        constructor
        · rintro ⟨y, hy, he⟩
          rw [hx] at hy; cases hy; exact he
        · exact fun he => ⟨x, hx, he⟩
      have HR := Lib.hid hr
      have HC := Lib.hid (clos_ok x.name t x.ino wc)
      clear hx hr
      go_wp2_with fail
      refine HC.out.mono ?_
      rintro e w2 ⟨rfl, hk2⟩
      have HK2 := Lib.hid (HK.out.trans hk2)
      clear hk2 x0 x1
      go_wp2
      go_ret2
      exact ⟨by rw [HR.out]; rfl, HK2.out⟩
    · have hii : ¬ (q : Int) < (N : Int) := by omega
      have hr : r = false := by
        rw [HQ.out.2]
        cases hh : has l t with
        | false => rfl
        | true =>
          obtain ⟨x, hx, _⟩ := (H.out.2.1.has_iff t).1 hh
          have := (List.getElem?_eq_some_iff.1 hx).1
          rw [← HQ.out.1, ← H.out.2.2] at this
          omega
      have HR := Lib.hid hr
      clear hr
      go_wp2
      go_ret2
      exact ⟨by rw [HR.out]; rfl, HK.out⟩
end Go.Proofs.Ytppmnjblcblofaa
