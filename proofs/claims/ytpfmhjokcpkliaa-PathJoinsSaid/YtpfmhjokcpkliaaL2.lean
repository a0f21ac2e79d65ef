/-
  path.parts, walked.
-/
import Derived.Test.YtpfmhjokcpkliaaL1
import Derived.WalkMore
namespace Go.V.Path
open Go Go.V
/-- a text's parts -/
def partsG : List UInt8 → List UInt8 → List (List UInt8)
  | cur, [] => if cur = [] then [] else [cur]
  | cur, c :: l => if c = 47 then (if cur = [] then partsG [] l else cur :: partsG [] l) else partsG (cur ++ [c]) l
def partsL (l : List UInt8) : List (List UInt8) := partsG [] l
def bs (l : List UInt8) : ByteArray := ⟨l.toArray⟩
theorem bs_data (s : ByteArray) : bs s.data.toList = s := by
  obtain ⟨a⟩ := s
  simp [bs]
theorem byte_is {s : ByteArray} {i : Nat} {c : UInt8} (h : i < s.size) (hc : s.data.toList[i]? = some c) : s[i] = c := by
  obtain ⟨a⟩ := s
  have h2 : a[i]? = some c := by rw [← hc]; simp
  obtain ⟨h3, h4⟩ := Array.getElem?_eq_some_iff.1 h2
  exact h4
theorem partsG_sep (cur l : List UInt8) : partsG cur (47 :: l) = if cur = [] then partsG [] l else cur :: partsG [] l := by
  rw [partsG, if_pos rfl]
theorem partsG_byte (cur l : List UInt8) {c : UInt8} (h : c ≠ 47) : partsG cur (c :: l) = partsG (cur ++ [c]) l := by
  rw [partsG, if_neg h]
theorem drop_at {l : List UInt8} {i : Nat} {c : UInt8} (h : l[i]? = some c) : l.drop i = c :: l.drop (i + 1) := by
  obtain ⟨h1, h2⟩ := List.getElem?_eq_some_iff.1 h
  rw [List.drop_eq_getElem_cons h1, h2]
/-- texts in memory -/
def FB : Form (List UInt8) := ⟨1, fun l => [.string (bs l)], fun _ => rfl, fun _ u hu => by
  simp only [List.mem_cons, List.not_mem_nil, or_false] at hu
  subst hu; rfl⟩
end Go.V.Path
namespace Go.Proofs.Ytpfmhjokcpkliaa
open Go.RowKit Go.V Go.V.Path
theorem infoz9 : (Try.prog.info? 9).map (fun i => (i.zero, i.size, i.bytes)) = some (some (.string ByteArray.empty), FB.s, 16) := by kernel_rfl
def PI (w : World) (l : List UInt8) (m : Nat) (va vi : Value) (wx : World) : Prop := ∃ (i : Nat) (acc : List (List UInt8)), vi = .int .i64 i ∧ i + m = l.length ∧ acc.length ≤ i ∧ Made FB 9 w va acc wx ∧ acc ++ partsG [] (l.drop i) = partsL l
def PartsPost (l : List UInt8) (w : World) (e : Ending) (w' : World) : Prop := ∃ va, e = .returned va ∧ Made FB 9 w va (partsL l) w'
set_option maxHeartbeats 1000000 in
theorem parts_ok (s : ByteArray) (w : World) (hs : s.size ≤ 1000000) : Calls Try.prog 28 #[.string s] w (PartsPost s.data.toList w) := by
  obtain ⟨l, hl⟩ : ∃ l, l = s.data.toList := ⟨_, rfl⟩
  obtain ⟨N, hN⟩ : ∃ N, N = s.size := ⟨_, rfl⟩
  have hsz := size_len s
  rw [← hl] at hsz ⊢
  have HL := Lib.hid (And.intro hl (And.intro hN hsz))
  clear hl hN hsz
  go_enter Try.func28, Try.ntmps28
  go_wp2_with fail
  go_step3
  go_wp2_with fail
  go_step3
  go_upto_block 0 with fail
  go_cut [3] (fun va wx => Made FB 9 w va (partsL l) wx)
  case first =>
    go_wp2_with fail
    go_loopg [3, 4] N (fun m va vi wx => PI w l m va vi wx)
    case atStart => exact ⟨0, [], rfl, by have := HL.out; omega, Nat.le_refl _, Made.nil FB 9 w, rfl⟩
    case round =>
      obtain ⟨i, acc, rfl, hi, hal, hm, hacc⟩ := hrel
      have HM := Lib.hid hm
      have HA := Lib.hid hacc
      obtain ⟨pv, cv, hv, _, _⟩ := hm.1.value
      subst hv
      clear hm hacc
      by_cases hlt : i < N
      · have hii : (i : Int) < (s.size : Int) := by have := HL.out; omega
        obtain ⟨c, hc⟩ : ∃ c, l[i]? = some c := ⟨_, List.getElem?_eq_getElem (by have := HL.out; omega)⟩
        have hisz : i < s.size := by have := HL.out; omega
        have hbc : s[i]'hisz = c := byte_is hisz (by rw [← HL.out.1]; exact hc)
        have hdr := drop_at hc
        by_cases h47 : c = 47
        · have e1 : (((s[i]'hisz).toNat : Int) == 47) = true := by rw [hbc, h47]; rfl
          have hf : acc ++ partsG [] (l.drop (i + 1)) = partsL l := by
            have := HA.out
            rw [hdr, h47, partsG_sep, if_pos rfl] at this
            exact this
          have HF := Lib.hid hf
          clear hf hbc hdr hc h47
          go_wp2
          go_roundg (gk - 1)
          case measure => have := HL.out; omega
          case rel => exact ⟨i + 1, acc, by push_cast; rfl, by have := HL.out; omega, by omega, HM.out, HF.out⟩
        · have e1 : (((s[i]'hisz).toNat : Int) == 47) = false := by
            rw [hbc, beq_eq_false_iff_ne]
            intro e
            exact h47 (UInt8.toNat_inj.1 (by show c.toNat = 47; omega))
          have HC := Lib.hid (And.intro hc h47)
          clear hbc hdr hc h47
          obtain ⟨g1, hg1⟩ : ∃ g1, g1 = gk := ⟨_, rfl⟩
          have HG := Lib.hid (And.intro hg1 hi)
          clear hg1 hi
          go_wp2_with fail
          go_loopg [3, 4, 5] (N - i) (fun m va vi vn wx => ∃ n : Nat, va = .slice pv acc.length cv ∧ vi = .int .i64 i ∧ vn = .int .i64 n ∧ i ≤ n ∧ n + m = N ∧ partsG ((l.drop i).take (n - i)) (l.drop n) = partsG [] (l.drop i) ∧ wx = wr)
          case atStart => exact ⟨i, rfl, rfl, rfl, Nat.le_refl _, by omega, by rw [Nat.sub_self]; rfl, rfl⟩
          case round =>
            obtain ⟨n, rfl, rfl, rfl, hin, hnm, hpg, rfl⟩ := hrel
            clear e1
            obtain ⟨cur, hcur⟩ : ∃ cur, cur = (l.drop i).take (n - i) := ⟨_, rfl⟩
            have hx : bs cur = s.extract i n := by
              rw [← bs_data (s.extract i n), Lib.extract_data, ← HL.out.1, hcur]
            rw [← hcur] at hpg
            have hne : i < n → cur ≠ [] := by
              intro h e
              have : cur.length = n - i := by rw [hcur, List.length_take, List.length_drop]; have := HL.out; omega
              rw [e] at this
              simp at this
              omega
            have HX := Lib.hid hx
            have HCUR := Lib.hid (And.intro hcur (And.intro hpg hne))
            have hns : (n : Int) ≤ (s.size : Int) := by have := HL.out; omega
            have hin2 : (i : Int) ≤ (n : Int) := by omega
            clear hx hcur hpg hne
            by_cases hend : n = N
            · have e2 : ((n : Int) == (s.size : Int)) = true := by rw [beq_iff_eq]; have := HL.out; omega
              have hf : (acc ++ [cur]) ++ partsG [] (l.drop n) = partsL l := by
                have h1 := HA.out
                have h2 := HCUR.out.2.1
                have hd : l.drop n = [] := List.drop_eq_nil_of_le (by have := HL.out; omega)
                rw [hd] at h2 ⊢
                rw [partsG, if_neg (HCUR.out.2.2 (by have := HC.out; omega))] at h2
                rw [← h2] at h1
                rw [partsG, if_pos rfl, List.append_nil]
                exact h1
              have HF := Lib.hid hf
              have HN2 := Lib.hid hend
              clear hf hend
              go_wp2_with (first | (refine vp_append_g (F := FB) rfl (.tmp 29) (.tmp 34) 23 rfl (.string ByteArray.empty) 16 Try.underlying23 infoz9 rfl (by decide) _ acc rfl (HM.out.1.keep ((Keeps.refl [] wr).alloc _) (by simp)) ⟨wr.heap.size, 0, none⟩ 1 1 [cur] rfl rfl (by intro j u hj; rw [add_none, Nat.zero_add]; exact cell_of (heap_alloc wr _) (by rw [← HX.out]; simpa [FB, Form.all] using hj)) (by omega) (by omega) ?_; intro v6 w6 k1 k2 k3; have HM6 := Lib.hid ((HM.out.keep ((Keeps.refl [] wr).alloc _)).app k1 k2 k3); clear k1 k2 k3) | fail)
              go_roundg (g1 - (n - i))
              case measure => have := HG.out; have := HL.out; have := HN2.out; omega
              case rel => exact ⟨n, acc ++ [cur], rfl, by have := HG.out; have := HL.out; omega, by have := HN2.out; have := HL.out; simp; omega, HM6.out, HF.out⟩
            · have e2 : ((n : Int) == (s.size : Int)) = false := by rw [beq_eq_false_iff_ne]; have := HL.out; omega
              have hnsz : n < s.size := by have := HL.out; omega
              obtain ⟨d, hd⟩ : ∃ d, l[n]? = some d := ⟨_, List.getElem?_eq_getElem (by have := HL.out; omega)⟩
              have hbd : s[n]'hnsz = d := byte_is hnsz (by rw [← HL.out.1]; exact hd)
              have hdd := drop_at hd
              have hn3 : (n : Int) < (s.size : Int) := by omega
              by_cases h47 : d = 47
              · have e3 : (((s[n]'hnsz).toNat : Int) == 47) = true := by rw [hbd, h47]; rfl
                have hni : i < n := by
                  rcases Nat.lt_or_ge i n with h | h
                  · exact h
                  · have : i = n := by omega
                    have h1 := HC.out
                    rw [this, hd] at h1
                    simp only [Option.some.injEq] at h1
                    exact absurd (h1.1 ▸ h47) h1.2
                have hf : (acc ++ [cur]) ++ partsG [] (l.drop n) = partsL l := by
                  have h1 := HA.out
                  have h2 := HCUR.out.2.1
                  rw [hdd, h47, partsG_sep, if_neg (HCUR.out.2.2 hni)] at h2
                  rw [← h2] at h1
                  rw [hdd, h47, partsG_sep, if_pos rfl, List.append_assoc]
                  exact h1
                have HF := Lib.hid hf
                clear hf hbd hdd hd h47
                go_wp2_with (first | (refine vp_append_g (F := FB) rfl (.tmp 29) (.tmp 34) 23 rfl (.string ByteArray.empty) 16 Try.underlying23 infoz9 rfl (by decide) _ acc rfl (HM.out.1.keep ((Keeps.refl [] wr).alloc _) (by simp)) ⟨wr.heap.size, 0, none⟩ 1 1 [cur] rfl rfl (by intro j u hj; rw [add_none, Nat.zero_add]; exact cell_of (heap_alloc wr _) (by rw [← HX.out]; simpa [FB, Form.all] using hj)) (by omega) (by omega) ?_; intro v6 w6 k1 k2 k3; have HM6 := Lib.hid ((HM.out.keep ((Keeps.refl [] wr).alloc _)).app k1 k2 k3); clear k1 k2 k3) | fail)
                go_roundg (g1 - (n - i))
                case measure => have := HG.out; have := HL.out; omega
                case rel => exact ⟨n, acc ++ [cur], rfl, by have := HG.out; have := HL.out; omega, by simp; omega, HM6.out, HF.out⟩
              · have e3 : (((s[n]'hnsz).toNat : Int) == 47) = false := by
                  rw [hbd, beq_eq_false_iff_ne]
                  intro e
                  exact h47 (UInt8.toNat_inj.1 (by show d.toNat = 47; omega))
                have hf : partsG ((l.drop i).take (n + 1 - i)) (l.drop (n + 1)) = partsG [] (l.drop i) := by
                  have h2 := HCUR.out.2.1
                  rw [hdd, partsG_byte _ _ h47] at h2
                  have : (l.drop i).take (n + 1 - i) = cur ++ [d] := by
                    rw [HCUR.out.1, show n + 1 - i = (n - i) + 1 by omega, List.take_add_one, List.getElem?_drop, show i + (n - i) = n by omega, hd]
                    rfl
                  rw [this]
                  exact h2
                have HF := Lib.hid hf
                clear hf hbd hdd hd h47
                go_wp2
                go_roundg (gk - 1)
                case measure => omega
                case rel => exact ⟨n + 1, rfl, rfl, by push_cast; rfl, by omega, by omega, HF.out, rfl⟩
      · have hii : ¬ (i : Int) < (s.size : Int) := by have := HL.out; omega
        have hf : acc = partsL l := by
          have := HA.out
          rw [List.drop_eq_nil_of_le (by have := HL.out; omega), partsG, if_pos rfl, List.append_nil] at this
          exact this
        have HF := Lib.hid hf
        clear hf
        go_wp2
        go_meet
        case rel => rw [← HF.out]; exact HM.out
  case rest =>
    have hm := hcut
    have HM := Lib.hid hm
    obtain ⟨pv, cv, hv, _, _⟩ := hm.1.value
    subst hv
    clear hcut hm
    go_wp2
    first | (rw [Exit.noGoto_ret]; go_ret) | go_ret
    exact ⟨_, rfl, HM.out⟩
end Go.Proofs.Ytpfmhjokcpkliaa
