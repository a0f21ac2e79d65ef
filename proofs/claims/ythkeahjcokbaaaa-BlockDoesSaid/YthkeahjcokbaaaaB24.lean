/-
  Package veneerref03: Write for all inputs, Read, Chunks, Holes.
-/
import Derived.Test.YthkeahjcokbaaaaB23
namespace Go.Proofs.Ythkeahjcokbaaaa
open Go.RowKit Go.V Go.V.Block
theorem rwrite_neg (s b : Value) (off : Int) (D : Value) (w : World) (h : off < 0) :
    Calls Try.prog 21 #[s, b, .int .i64 off, D] w fun e w' => e = .returned (.tuple #[.int .i64 0, .int .i64 22]) ∧ w = w' := by
  go_enter Try.func21, Try.ntmps21
  go_wp2
  go_ret2
  exact ⟨rfl, rfl⟩
theorem rwrite_none (s b : Value) (off : Int) (p : Option Addr) (cap : Nat) (w : World) (h : 0 ≤ off) :
    Calls Try.prog 21 #[s, b, .int .i64 off, .slice p 0 cap] w fun e w' => e = .returned (.tuple #[.int .i64 0, .int .i64 0]) ∧ w = w' := by
  go_enter Try.func21, Try.ntmps21
  go_wp2
  go_ret2
  exact ⟨rfl, rfl⟩
theorem rwrite_far (s b : Value) (off : Int) (p : Option Addr) (n cap : Nat) (w : World) (h : 65536 ≤ off) (hn : 0 < n) :
    Calls Try.prog 21 #[s, b, .int .i64 off, .slice p n cap] w fun e w' => e = .returned (.tuple #[.int .i64 0, .int .i64 27]) ∧ w = w' := by
  have hn0 : ((n : Int) == 0) = false := beq_eq_false_iff_ne.2 (by omega)
  go_enter Try.func21, Try.ntmps21
  go_wp2
  go_ret2
  exact ⟨rfl, rfl⟩
theorem rwrite_any (rs rb : Nat) (F : List Nat) (room : Int) (s : BS) (off : Int) (data : List UInt8) (D : Value) (w : World) (hs : RAt w rs room s.used) (hb : RB w rb F s.sz s.l) (hF : rs ∉ F ∧ rb ∉ F ∧ ∀ x ∈ F, x < w.heap.size)
    (hu0 : 0 ≤ s.used) (hur : s.used ≤ room) (hroom : room ≤ 65536) (hD : Reads w D (data.map bv)) (hap : 0 < data.length → ∀ g, D.ownBlock = some g → g ∉ [rs, rb] ++ F) (hlen : Fits D) :
    Calls Try.prog 21 #[.pointer (some ⟨rs, 0, none⟩), .pointer (some ⟨rb, 0, none⟩), .int .i64 off, D] w (RWPost rs rb F room (writeM room s off data) w) := by
  have hD2 := hD
  obtain ⟨p, cap, rfl, hcap, hr⟩ := hD
  have hc := hlen _ _ _ rfl
  rw [List.length_map] at hcap hr hD2 hap ⊢
  have none : ∀ e : Int, ∀ w', w = w' → RWPost rs rb F room ((0 : Int), e, s) w (.returned (.tuple #[.int .i64 0, .int .i64 e])) w' := fun e w' hw => by
    subst hw
    exact ⟨rfl, hs, F, Grew.refl _ _, hb, Keeps.refl _ _⟩
  by_cases h0 : off < 0
  · unfold writeM
    rw [if_pos h0]
    exact (rwrite_neg _ _ off _ w h0).mono fun e w' ⟨he, hw⟩ => he ▸ none 22 w' hw
  · by_cases h1 : data.length = 0
    · unfold writeM
      rw [if_neg h0, if_pos h1, h1]
      exact (rwrite_none _ _ off p cap w (by omega)).mono fun e w' ⟨he, hw⟩ => he ▸ none 0 w' hw
    · by_cases h2 : 65536 ≤ off
      · unfold writeM
        rw [if_neg h0, if_neg h1, if_pos h2]
        exact (rwrite_far _ _ off p data.length cap w h2 (by omega)).mono fun e w' ⟨he, hw⟩ => he ▸ none 27 w' hw
      · exact rwrite_main rs rb F room s.used s.sz off s.l off.toNat data.length p cap data w (by omega) (by omega) rfl (by omega) hcap hc hs hu0 hur hroom hb hF hD2 (hap (by omega))

theorem rread_bad (s b : Value) (off n : Int) (w : World) (h : off < 0 ∨ n < 0) :
    Calls Try.prog 22 #[s, b, .int .i64 off, .int .i64 n] w fun e w' => e = .returned (.tuple #[.slice none 0 0, .int .i64 22]) ∧ w = w' := by
  by_cases h0 : off < 0
  · go_enter Try.func22, Try.ntmps22
    go_wp2
    go_ret2
    exact ⟨rfl, rfl⟩
  · have h1 : n < 0 := by omega
    go_enter Try.func22, Try.ntmps22
    go_wp2
    go_ret2
    exact ⟨rfl, rfl⟩
def RRI (l : CL) (off : Int) (at_ m : Nat) (w : World) (k : Nat) (vo vi : Value) (wx : World) : Prop :=
  ∃ (I : Int) (j : Nat), vi = .int .i64 I ∧ I = off + j ∧ j ≤ m ∧ m - j ≤ k ∧ Own wx w.heap.size 5 vo ((bytesFrom l at_ j).map bv) ∧ Keeps [] w wx
set_option maxHeartbeats 1000000 in
theorem rread_main (s : Value) (rb : Nat) (F : List Nat) (sz off n : Int) (l : CL) (at_ m : Nat) (w : World) (hb : RB w rb F sz l) (h0 : 0 ≤ off) (h1 : 0 ≤ n) (hat : off = at_) (hm : (m : Int) = max 0 (min n (sz - off))) :
    Calls Try.prog 22 #[s, .pointer (some ⟨rb, 0, none⟩), .int .i64 off, .int .i64 n] w (RAny (bytesFrom l at_ m, 0) w) := by
  obtain ⟨bs, th, ⟨Bv, Tv, hp, hB, _⟩, hrel⟩ := hb
  obtain ⟨p, c, rfl, hc, hr⟩ := hB.reads
  rw [List.length_map] at hp hc hr
  have hbl : bs.length = sz.toNat := by rw [hrel.1, length_bytesFrom]
  have hs0 := hrel.2.2.2.2.2.2.1
  have hs1 := hrel.2.2.2.2.2.2.2
  obtain ⟨nb, hnb⟩ : ∃ nb, nb = bs.length := ⟨_, rfl⟩
  rw [← hnb] at hp hc hr
  have HP := Lib.hid hp
  have HR := Lib.hid (And.intro hr (And.intro hnb hrel.1))
  have hsz : sz = nb := by omega
  have hnb6 : nb ≤ 65536 := by omega
  have HM := Lib.hid hm
  have HAT := Lib.hid hat
  have HSZ := Lib.hid (And.intro hsz (And.intro hs0 hs1))
  clear hp hr hnb hrel hbl hm hat hsz hs0 hs1 hB
  go_enter Try.func22, Try.ntmps22
  go_wp2_with fail
  go_loopg [10, 11] m (fun k vo vi wx => RRI l off at_ m w k vo vi wx)
  case atStart =>
    refine ⟨off, 0, rfl, by simp, Nat.zero_le _, by omega, ?_, ?_⟩
    · exact Own.row (xs := []) w.heap.size (Nat.le_refl _) (heap_alloc w _) (by simp)
    · exact (Keeps.refl _ _).alloc _
  case round =>
    obtain ⟨I, j, rfl, hI, hjm, hjk, hown, hk⟩ := hrel
    have hsz := HSZ.out
    have hm := HM.out
    obtain ⟨po, co, hv, hco⟩ := own_value hown
    rw [List.length_map, length_bytesFrom] at hv hco
    have c1 : wr.cell? ⟨rb, 0, none⟩ = some (.slice p nb c) := cell_of (hk.get HP.out (by simp)) rfl
    subst hv
    have HO := Lib.hid hown
    have HK := Lib.hid hk
    have HI := Lib.hid hI
    have hI0 : 0 ≤ I := by omega
    clear hown hk
    by_cases hlt : j < m
    · have e1 : I < (nb : Int) := by omega
      have e2 : (j : Int) < n := by omega
      have hj6 : j < nb := by omega
      have hIt : I.toNat = at_ + j := by have := HAT.out; omega
      obtain ⟨b, o, rfl, hr⟩ := HR.out.1 (by omega)
      obtain ⟨z, hz⟩ : ∃ z, z = byteAt l (at_ + j) := ⟨_, rfl⟩
      have c2 : w.cell? ⟨b, o + I.toNat, none⟩ = some (bv z) := by
        refine hr _ _ ?_
        rw [HR.out.2.2, hIt, hz]
        have : at_ + j < sz.toNat := by omega
        simp only [bytesFrom, List.getElem?_map, List.getElem?_range this, Option.map_some, Nat.zero_add]
      have c3 : wr.cell? ⟨b, o + I.toNat, none⟩ = some (.int .u8 (z.toNat : Int)) := by
        rw [World.cell?_of_block (w := w) (HK.out.block b (Go.block_lt_of_cell c2) (by simp))]; exact c2
      obtain ⟨zi, hzi⟩ : ∃ zi : Int, zi = (z.toNat : Int) := ⟨_, rfl⟩
      rw [← hzi] at c3
      have HZ := Lib.hid (And.intro hz hzi)
      clear hz hzi c2 hr hm hsz hI hIt
      go_wp2_with (at_builtin; refine vp_append rfl (.tmp 35) (.tmp 43) 22 rfl 5 (.int .u8 0) 1 Try.underlying22 info5 rfl w.heap.size _ ((bytesFrom l at_ j).map bv) rfl (HO.out.keep ((Keeps.refl [] _).alloc _) (by simp)) ⟨wr.heap.size, 0, none⟩ 1 1 [.int .u8 zi] rfl rfl (cell_one_new _ _ _) (by simp [Value.oneCell']) ?c1 ?c2 (HK.out.alloc _) (Nat.le_refl _) ?c3 ?_; rotate_right; intro v' w2 hown2 hk2 _)
      case c1 => rw [List.length_map, length_bytesFrom]; omega
      case c2 => rw [List.length_map, length_bytesFrom]; omega
      case c3 => exact Nat.le_trans HK.out.size ((Keeps.refl [] wr).alloc _).size
      go_roundg (gk - 1)
      case measure => omega
      case rel =>
        refine ⟨I + 1, j + 1, rfl, by have := HI.out; push_cast; omega, by omega, by omega, ?_, hk2⟩
        rw [bytesFrom_succ, List.map_append, ← HZ.out.1]
        have := HZ.out.2
        rw [this] at hown2
        exact hown2
    · have e : j = m := by omega
      subst e
      by_cases e1 : I < (nb : Int)
      · have e2 : ¬ (j : Int) < n := by omega
        clear hm hsz hI
        go_wp2
        go_ret2
        exact ⟨_, rfl, HO.out, HK.out⟩
      · clear hm hsz hI
        go_wp2
        go_ret2
        exact ⟨_, rfl, HO.out, HK.out⟩
theorem rread_any (s : Value) (rb : Nat) (F : List Nat) (st : BS) (off n : Int) (w : World) (hb : RB w rb F st.sz st.l) :
    Calls Try.prog 22 #[s, .pointer (some ⟨rb, 0, none⟩), .int .i64 off, .int .i64 n] w (RAny (readM st off n) w) := by
  unfold readM
  by_cases h0 : off < 0 ∨ n < 0
  · rw [if_pos h0]
    exact (rread_bad s _ off n w h0).mono fun e w' ⟨he, hw⟩ => ⟨_, he, Own.nil _ _ _, hw ▸ Keeps.refl _ _⟩
  · rw [if_neg h0]
    by_cases h1 : st.sz ≤ off
    · rw [if_pos h1]
      have := rread_main s rb F st.sz off n st.l off.toNat 0 w hb (by omega) (by omega) (by omega) (by omega)
      exact this
    · rw [if_neg h1]
      exact rread_main s rb F st.sz off n st.l off.toNat (min n (st.sz - off)).toNat w hb (by omega) (by omega) (by omega) (by omega)
end Go.Proofs.Ythkeahjcokbaaaa
