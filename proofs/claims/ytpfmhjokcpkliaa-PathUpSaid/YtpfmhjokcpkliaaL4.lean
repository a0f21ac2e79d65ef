/-
  path.Text, Less, walked.
-/
import Derived.Test.YtpfmhjokcpkliaaL3
namespace Go.V.Path
open Go Go.V
/-- a path's text -/
def textL (ns : List (List UInt8)) (d : Bool) : List UInt8 := 47 :: (Lib.join ns [47] ++ (if d && !ns.isEmpty then [47] else []))
end Go.V.Path
namespace Go.Proofs.Ytpfmhjokcpkliaa
open Go.RowKit Go.V Go.V.Path
def pathV (v : Value) (d : Bool) : Value := .agg #[v, .bool d]
def SPost (l : List UInt8) (w : World) (e : Ending) (w' : World) : Prop := e = .returned (.string (bs l)) ∧ Keeps [] w w'
theorem below_keeps {w w' : World} (h : Below w.heap.size w w') : Keeps [] w w' := by
  exact ⟨h.os, h.tape, h.output, h.size, fun k hk _ => h.block k hk⟩
theorem bs_dataL (l : List UInt8) : (bs l).data.toList = l := by show l.toArray.toList = l; simp
def JPost (ns : List (List UInt8)) (w : World) (e : Ending) (w' : World) : Prop := e = .returned (.string (bs (Lib.join ns [47]))) ∧ Keeps [] w w'
theorem sjoin_ok (v : Value) (ns : List (List UInt8)) (w : World) (hv : SG FB w v ns) (hl : ns.length ≤ 1000) (hb : (Lib.join ns [47]).length ≤ 140737488355328) : Calls Try.prog 33 #[v, .string ⟨#[47]⟩] w (JPost ns w) := by
  have hf := hv.fresh (by decide)
  obtain ⟨p, c, rfl, hc, hc2, hr⟩ := hv
  by_cases h0 : 0 < ns.length
  · obtain ⟨b, o, rfl, hx⟩ := hr h0
    obtain ⟨b', hb', hlt⟩ := hf h0
    simp only [Value.ownBlock, Option.some.injEq] at hb'
    subst hb'
    have hm : (ns.map bs).map (·.data.toList) = ns := by
      rw [List.map_map]
      conv => rhs; rw [← List.map_id ns]
      exact List.map_congr_left (fun x _ => bs_dataL x)
    have hsep : (⟨#[47]⟩ : ByteArray).data.toList = [47] := rfl
    have h := Try.strings_Join b o c (ns.map bs) ⟨#[47]⟩ w (fun j x hj => by
      refine hx j _ ?_
      rw [List.getElem?_map] at hj
      cases hn : ns[j]? with
      | none => rw [hn] at hj; cases hj
      | some y =>
        rw [hn] at hj
        simp only [Option.map_some, Option.some.injEq] at hj
        have := FB.all_get ns j 0 y hn (by decide)
        rw [show j * FB.s + 0 = j from Nat.mul_one j] at this
        rw [this, ← hj]
        rfl) hlt (by rw [List.length_map]; omega) (by rw [List.length_map]; exact hc) (by rw [hm, hsep]; omega)
    rw [hm, hsep, List.length_map] at h
    refine h.mono ?_
    rintro e w' ⟨rfl, hk⟩
    exact ⟨rfl, below_keeps hk⟩
  · have hn : ns = [] := List.eq_nil_of_length_eq_zero (by omega)
    subst hn
    refine (Try.strings_Join_none p c ⟨#[47]⟩ w).mono ?_
    rintro e w' ⟨rfl, rfl⟩
    exact ⟨rfl, Keeps.refl _ _⟩
set_option maxHeartbeats 1000000 in
theorem text_ok (v : Value) (ns : List (List UInt8)) (d : Bool) (w : World) (hv : SG FB w v ns) (hl : ns.length ≤ 1000) (hb : (Lib.join ns [47]).length ≤ 140737488355328) : Calls Try.prog 23 #[pathV v d] w (SPost (textL ns d) w) := by
  have hv2 := hv
  obtain ⟨p, c, rfl, hc, hc2, _⟩ := hv2
  obtain ⟨N, hN⟩ : ∃ N, N = ns.length := ⟨_, rfl⟩
  rw [← hN] at hv hl hc ⊢
  obtain ⟨J, hJ⟩ : ∃ J, J = Lib.join ns [47] := ⟨_, rfl⟩
  have hk1 : Keeps [] w (w.alloc (.cells #[.slice p N c, .bool d] 25)) := (Keeps.refl _ _).alloc _
  have hj := sjoin_ok _ ns _ (hv.keep hk1 (by simp)) (by omega) hb
  unfold JPost at hj
  rw [← hJ] at hj hb
  have HJ := Lib.hid hj
  have HH := Lib.hid (And.intro hJ (And.intro hN hk1))
  have hsz := bs_size J
  have HSZ := Lib.hid hsz
  have hsb : (bs J).size ≤ 140737488355328 := by omega
  clear hv hJ hN hj hk1 hsz
  unfold pathV
  go_enter Try.func23, Try.ntmps23
  go_wp2_with fail
  refine HJ.out.mono ?_
  rintro e w1 ⟨rfl, hk1⟩
  have hb1 := hk1.get (heap_alloc w _) (by simp)
  have c0 : w1.cell? ⟨w.heap.size, 0, none⟩ = some (.slice p N c) := cell_of hb1 rfl
  have c1 : w1.cell? ⟨w.heap.size, 1, none⟩ = some (.bool d) := cell_of hb1 rfl
  have HK := Lib.hid (HH.out.2.2.trans hk1)
  clear hk1 hb1 HJ
  have hcat : (⟨#[47]⟩ : ByteArray) ++ bs J = bs (47 :: J) := bytes_cat [47] J
  go_upto_region 2 with fail
  obtain ⟨T, hT⟩ : ∃ T, T = bs (47 :: J) := ⟨_, rfl⟩
  have hts : T.size ≤ 140737488355329 := by rw [hT, bs_size, List.length_cons]; omega
  rw [← hT]
  have HT := Lib.hid hT
  clear hcat hT
  cases d with
  | false =>
    go_wp2
    go_ret
    refine ⟨?_, HK.out⟩
    have : textL ns false = 47 :: J := by unfold textL; rw [HH.out.1]; simp
    rw [this, ← HT.out]
    rfl
  | true =>
    by_cases h0 : N = 0
    · have e0 : decide (0 < N) = false := decide_eq_false (by omega)
      have hn : ns = [] := List.eq_nil_of_length_eq_zero (by rw [← HH.out.2.1]; exact h0)
      have HN := Lib.hid hn
      clear h0 hn
      go_wp2
      go_ret
      refine ⟨?_, HK.out⟩
      have : textL ns true = 47 :: J := by unfold textL; rw [HH.out.1, HN.out]; simp
      rw [this, ← HT.out]
      rfl
    · have e0 : decide (0 < N) = true := decide_eq_true (by omega)
      have hn : ns ≠ [] := fun e => h0 (by rw [HH.out.2.1, e]; rfl)
      have HN := Lib.hid hn
      clear h0 hn
      go_wp2
      go_ret
      refine ⟨?_, HK.out⟩
      have h1 : textL ns true = (47 :: J) ++ [47] := by
        unfold textL
        rw [HH.out.1]
        have : ns.isEmpty = false := by
          cases hh : ns with
          | nil => exact absurd hh HN.out
          | cons => rfl
        rw [this]
        simp
      have h2 : T ++ ⟨#[47]⟩ = bs ((47 :: J) ++ [47]) := by rw [HT.out]; exact bytes_cat (47 :: J) [47]
      rw [h1, ← h2]
      rfl
def BP (b : Bool) (w : World) (e : Ending) (w' : World) : Prop := e = .returned (.bool b) ∧ w' = w
theorem less_ok (a b : ByteArray) (w : World) : Calls Try.prog 25 #[.string a, .string b] w (BP (Op.bytesLess a.data.toList b.data.toList) w) := by
  rw [← Lib.toList_data, ← Lib.toList_data]
  go_enter Try.func25, Try.ntmps25
  go_wp2
  go_ret
  exact ⟨rfl, rfl⟩
end Go.Proofs.Ytpfmhjokcpkliaa
