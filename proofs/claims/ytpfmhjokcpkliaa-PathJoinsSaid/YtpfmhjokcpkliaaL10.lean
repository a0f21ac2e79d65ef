/-
  The reference: Parts, walked.
-/
import Derived.Test.YtpfmhjokcpkliaaL9
namespace Go.V.Path
open Go Go.V
/-- where the reference stands in a text -/
def PG (l : List UInt8) (i f : Nat) (acc : List (List UInt8)) : Prop :=
  (i ≤ l.length → f ≤ i ∧ acc ++ partsG ((l.drop f).take (i - f)) (l.drop i) = partsL l) ∧ (l.length < i → acc = partsL l)
theorem PG.start (l : List UInt8) : PG l 0 0 [] := ⟨fun _ => ⟨Nat.le_refl _, rfl⟩, fun h => absurd h (by omega)⟩
theorem PG.sep {l : List UInt8} {i f : Nat} {acc : List (List UInt8)} (h : PG l i f acc) (hi : i ≤ l.length) (hs : i = l.length ∨ l[i]? = some 47) :
    PG l (i + 1) (i + 1) (if f < i then acc ++ [(l.drop f).take (i - f)] else acc) := by
  obtain ⟨hf, he⟩ := h.1 hi
  obtain ⟨cur, hcur⟩ : ∃ cur, cur = (l.drop f).take (i - f) := ⟨_, rfl⟩
  rw [← hcur] at he ⊢
  have hlen : cur.length = i - f := by rw [hcur, List.length_take, List.length_drop]; omega
  have key : ∀ r : List (List UInt8), (if f < i then acc ++ [cur] else acc) ++ r = acc ++ (if cur = [] then r else cur :: r) := by
    intro r
    by_cases h : f < i
    · rw [if_pos h, if_neg (by intro e; rw [e] at hlen; simp at hlen; omega), List.append_assoc]; rfl
    · rw [if_neg h, if_pos (List.eq_nil_of_length_eq_zero (by omega))]
  refine ⟨fun h1 => ⟨Nat.le_refl _, ?_⟩, fun h1 => ?_⟩
  · rcases hs with hs | hs
    · omega
    · rw [drop_at hs, partsG_sep] at he
      rw [Nat.sub_self, List.take_zero, key]
      exact he
  · have hn : i = l.length := by omega
    rw [List.drop_eq_nil_of_le (by omega)] at he
    have : acc ++ (if cur = [] then [] else [cur]) = partsL l := by rw [← he]; rfl
    rw [← this, ← key, List.append_nil]
theorem PG.byte {l : List UInt8} {i f : Nat} {acc : List (List UInt8)} {c : UInt8} (h : PG l i f acc) (hc : l[i]? = some c) (hn : c ≠ 47) : PG l (i + 1) f acc := by
  have hi : i < l.length := (List.getElem?_eq_some_iff.1 hc).1
  obtain ⟨hf, he⟩ := h.1 (by omega)
  refine ⟨fun _ => ⟨by omega, ?_⟩, fun h => absurd h (by omega)⟩
  rw [drop_at hc, partsG_byte _ _ hn] at he
  rw [show i + 1 - f = (i - f) + 1 by omega, List.take_add_one, List.getElem?_drop, show f + (i - f) = i by omega, hc]
  exact he
end Go.V.Path
namespace Go.Proofs.Ytpfmhjokcpkliaa
open Go.RowKit Go.V Go.V.Path
set_option maxHeartbeats 1000000 in
theorem rparts_ok (s : ByteArray) (w : World) (hs : s.size ≤ 1000000) : Calls Try.prog 30 #[.string s] w (PartsPost s.data.toList w) := by
  obtain ⟨l, hl⟩ : ∃ l, l = s.data.toList := ⟨_, rfl⟩
  obtain ⟨N, hN⟩ : ∃ N, N = s.size := ⟨_, rfl⟩
  have hsz := size_len s
  rw [← hl] at hsz ⊢
  have HL := Lib.hid (And.intro hl (And.intro hN hsz))
  clear hl hN hsz
  go_enter Try.func30, Try.ntmps30
  go_upto_block 0 with fail
  go_cut [3] (fun va wx => Made FB 9 w va (partsL l) wx)
  case first =>
    go_wp2_with fail
    go_loopg [3, 4, 5] (N + 1) (fun m va vf vi wx => ∃ (i f : Nat) (acc : List (List UInt8)), vi = .int .i64 i ∧ vf = .int .i64 f ∧ i + m = N + 1 ∧ f ≤ i ∧ acc.length ≤ i ∧ Made FB 9 w va acc wx ∧ PG l i f acc)
    case atStart => exact ⟨0, 0, [], rfl, rfl, by omega, Nat.le_refl _, Nat.le_refl _, Made.empty FB 9 w, PG.start l⟩
    case round =>
      obtain ⟨i, f, acc, rfl, rfl, hi, hfi, hal, hm, hpg⟩ := hrel
      have HM := Lib.hid hm
      have HPG := Lib.hid hpg
      have HI := Lib.hid hi
      obtain ⟨pv, cv, hv, _, _⟩ := hm.1.value
      subst hv
      clear hm hpg hi
      by_cases hin : i ≤ N
      · have hii : (i : Int) ≤ (s.size : Int) := by have := HL.out; omega
        have main : (i = N ∨ l[i]? = some 47) ∨ (∃ c, i < N ∧ l[i]? = some c ∧ c ≠ 47) := by
          by_cases h : i = N
          · exact Or.inl (Or.inl h)
          · obtain ⟨c, hc⟩ : ∃ c, l[i]? = some c := ⟨_, List.getElem?_eq_getElem (by have := HL.out; omega)⟩
            by_cases h47 : c = 47
            · exact Or.inl (Or.inr (by rw [hc, h47]))
            · exact Or.inr ⟨c, by omega, hc, h47⟩
        rcases main with hsep | ⟨c, hlt, hc, h47⟩
        · have hnx := HPG.out.sep (by have := HL.out; omega) (hsep.imp (fun h => by have := HL.out; omega) id)
          have HNX := Lib.hid hnx
          clear hnx
          have hin2 : (i : Int) = (s.size : Int) ∨ (i < s.size ∧ i ≠ N) := by
            have := HL.out; omega
          obtain ⟨cur, hcur⟩ : ∃ cur, cur = (l.drop f).take (i - f) := ⟨_, rfl⟩
          have hx : bs cur = s.extract f i := by
            rw [← bs_data (s.extract f i), Lib.extract_data, ← HL.out.1, hcur]
          rw [← hcur] at HNX
          have HX := Lib.hid hx
          have hns : (i : Int) ≤ (s.size : Int) := hii
          have hfi2 : (f : Int) ≤ (i : Int) := by omega
          clear hx hcur
          by_cases hfl : f < i
          · rw [if_pos hfl] at HNX
            have hgt : (f : Int) < (i : Int) := by omega
            by_cases hend : i = N
            · have e1 : ((i : Int) == (s.size : Int)) = true := by rw [beq_iff_eq]; have := HL.out; omega
              have HE := Lib.hid hend
              clear hend hsep hin2
              go_wp2_with (first | (refine vp_append_g (F := FB) rfl (.tmp 26) (.tmp 31) 23 rfl (.string ByteArray.empty) 16 Try.underlying23 infoz9 rfl (by decide) _ acc rfl (HM.out.1.keep ((Keeps.refl [] wr).alloc _) (by simp)) ⟨wr.heap.size, 0, none⟩ 1 1 [cur] rfl rfl (by intro j u hj; rw [add_none, Nat.zero_add]; exact cell_of (heap_alloc wr _) (by rw [← HX.out]; simpa [FB, Form.all] using hj)) (by omega) (by omega) ?_; intro v6 w6 k1 k2 k3; have HM6 := Lib.hid ((HM.out.keep ((Keeps.refl [] wr).alloc _)).app k1 k2 k3); clear k1 k2 k3) | fail)
              go_roundg (gk - 1)
              case measure => have := HI.out; have := HL.out; omega
              case rel => exact ⟨i + 1, i + 1, (acc ++ [cur]), by push_cast; rfl, by push_cast; rfl, by have := HI.out; have := HL.out; omega, Nat.le_refl _, by simp; omega, HM6.out, HNX.out⟩
            · have e1 : ((i : Int) == (s.size : Int)) = false := by rw [beq_eq_false_iff_ne]; have := HL.out; omega
              have hisz : i < s.size := by have := HL.out; omega
              have hbc : s[i]'hisz = 47 := byte_is hisz (by rw [← HL.out.1]; exact hsep.resolve_left hend)
              have e2 : (((s[i]'hisz).toNat : Int) == 47) = true := by rw [hbc]; rfl
              have HE := Lib.hid hend
              have hi3 : (i : Int) < (s.size : Int) := by omega
              clear hend hsep hin2 hbc
              go_wp2_with (first | (refine vp_append_g (F := FB) rfl (.tmp 26) (.tmp 31) 23 rfl (.string ByteArray.empty) 16 Try.underlying23 infoz9 rfl (by decide) _ acc rfl (HM.out.1.keep ((Keeps.refl [] wr).alloc _) (by simp)) ⟨wr.heap.size, 0, none⟩ 1 1 [cur] rfl rfl (by intro j u hj; rw [add_none, Nat.zero_add]; exact cell_of (heap_alloc wr _) (by rw [← HX.out]; simpa [FB, Form.all] using hj)) (by omega) (by omega) ?_; intro v6 w6 k1 k2 k3; have HM6 := Lib.hid ((HM.out.keep ((Keeps.refl [] wr).alloc _)).app k1 k2 k3); clear k1 k2 k3) | fail)
              go_roundg (gk - 1)
              case measure => have := HI.out; have := HL.out; omega
              case rel => exact ⟨i + 1, i + 1, (acc ++ [cur]), by push_cast; rfl, by push_cast; rfl, by have := HI.out; have := HL.out; omega, Nat.le_refl _, by simp; omega, HM6.out, HNX.out⟩
          · rw [if_neg hfl] at HNX
            have hgt : ¬ (f : Int) < (i : Int) := by omega
            by_cases hend : i = N
            · have e1 : ((i : Int) == (s.size : Int)) = true := by rw [beq_iff_eq]; have := HL.out; omega
              have HE := Lib.hid hend
              clear hend hsep hin2
              go_wp2
              go_roundg (gk - 1)
              case measure => have := HI.out; have := HL.out; omega
              case rel => exact ⟨i + 1, i + 1, acc, by push_cast; rfl, by push_cast; rfl, by have := HI.out; have := HL.out; omega, Nat.le_refl _, by omega, HM.out, HNX.out⟩
            · have e1 : ((i : Int) == (s.size : Int)) = false := by rw [beq_eq_false_iff_ne]; have := HL.out; omega
              have hisz : i < s.size := by have := HL.out; omega
              have hbc : s[i]'hisz = 47 := byte_is hisz (by rw [← HL.out.1]; exact hsep.resolve_left hend)
              have e2 : (((s[i]'hisz).toNat : Int) == 47) = true := by rw [hbc]; rfl
              have HE := Lib.hid hend
              have hi3 : (i : Int) < (s.size : Int) := by omega
              clear hend hsep hin2 hbc
              go_wp2
              go_roundg (gk - 1)
              case measure => have := HI.out; have := HL.out; omega
              case rel => exact ⟨i + 1, i + 1, acc, by push_cast; rfl, by push_cast; rfl, by have := HI.out; have := HL.out; omega, Nat.le_refl _, by omega, HM.out, HNX.out⟩
        · have e1 : ((i : Int) == (s.size : Int)) = false := by rw [beq_eq_false_iff_ne]; have := HL.out; omega
          have hisz : i < s.size := by have := HL.out; omega
          have hbc : s[i]'hisz = c := byte_is hisz (by rw [← HL.out.1]; exact hc)
          have e2 : (((s[i]'hisz).toNat : Int) == 47) = false := by
            rw [hbc, beq_eq_false_iff_ne]
            intro e
            exact h47 (UInt8.toNat_inj.1 (by show c.toNat = 47; omega))
          have HB := Lib.hid (HPG.out.byte hc h47)
          have hi3 : (i : Int) < (s.size : Int) := by omega
          clear hbc hc h47 hlt
          go_wp2
          go_roundg (gk - 1)
          case measure => have := HI.out; omega
          case rel => exact ⟨i + 1, f, acc, by push_cast; rfl, rfl, by have := HI.out; omega, by omega, by omega, HM.out, HB.out⟩
      · have hii : ¬ (i : Int) ≤ (s.size : Int) := by have := HL.out; omega
        have hf : acc = partsL l := HPG.out.2 (by have := HL.out; omega)
        have HF := Lib.hid hf
        clear hf
        go_wp2
        go_meet
        case rel => rw [← HF.out]; exact HM.out
  case rest =>
    have hm := hcut
    have HM := Lib.hid hm
    clear hcut hm
    go_wp2
    go_ret
    exact ⟨_, rfl, HM.out⟩
end Go.Proofs.Ytpfmhjokcpkliaa
