/-
  Package veneerref03: Chunks, Holes, Cut.
-/
import Derived.Test.YthkeahjcokbaaaaB24
namespace Go.V.Block
open Go Go.V
def cnt1 (th : List Bool) : Nat := (th.filter id).length
theorem cnt1_nil : cnt1 [] = 0 := rfl
theorem cnt1_append (a b : List Bool) : cnt1 (a ++ b) = cnt1 a + cnt1 b := by simp [cnt1]
theorem cnt1_take (th : List Bool) (k : Nat) (h : k < th.length) : cnt1 (th.take (k + 1)) = cnt1 (th.take k) + if th.getD k false = true then 1 else 0 := by
  rw [List.take_add_one, cnt1_append, List.getElem?_eq_getElem h]
  simp only [Option.toList_some, List.getD_eq_getElem?_getD, List.getElem?_eq_getElem h, Option.getD_some]
  cases th[k] <;> rfl
theorem cnt1_set (th : List Bool) (k : Nat) (h : th.getD k false = true) : cnt1 (th.set k false) + 1 = cnt1 th := by
  induction th generalizing k with
  | nil => simp at h
  | cons b th ih =>
    cases k with
    | zero =>
      have : b = true := by simpa using h
      subst this
      simp [cnt1]
    | succ k =>
      have := ih k (by simpa using h)
      cases b
      · simpa [cnt1] using this
      · simp only [cnt1, List.set_cons_succ, List.filter_cons, id, if_true, List.length_cons] at this ⊢; omega
theorem cnt1_range (th : List Bool) : cnt1 th = ((List.range th.length).filter fun k => th.getD k false).length := by
  induction th with
  | nil => rfl
  | cons b th ih =>
    rw [List.length_cons, List.range_succ_eq_map, List.filter_cons, List.filter_map, cnt1]
    have e : ((fun k => (b :: th).getD k false) ∘ Nat.succ) = fun k => th.getD k false := by funext k; simp
    rw [e]
    cases b
    · simpa [cnt1] using ih
    · simpa [cnt1] using ih
theorem cnt1_keys {l : CL} (hn : (keys l).Nodup) {th : List Bool} (h : ∀ k, th.getD k false = (get l k).isSome) : cnt1 th = l.length := by
  rw [cnt1_range]
  have := length_eq_of_mem (L := (List.range th.length).filter fun k => th.getD k false) (M := keys l) (List.nodup_range.filter _) hn (fun x => by
    simp only [List.mem_filter, List.mem_range, h]
    constructor
    · intro hh; exact get_isSome.1 hh.2
    · intro hh
      refine ⟨?_, get_isSome.2 hh⟩
      have h1 := h x
      rw [get_isSome.2 hh, List.getD_eq_getElem?_getD] at h1
      by_cases c : x < th.length
      · exact c
      · rw [List.getElem?_eq_none (by omega)] at h1; cases h1)
  rw [this]; simp [keys]
end Go.V.Block
namespace Go.Proofs.Ythkeahjcokbaaaa
open Go.RowKit Go.V Go.V.Block
def ChI (th : List Bool) (w : World) (m : Nat) (vc vk : Value) (wx : World) : Prop :=
  ∃ (k : Nat) (c : Nat), vk = .int .i64 k ∧ vc = .int .i64 c ∧ k ≤ th.length ∧ th.length - k ≤ m ∧ c = cnt1 (th.take k) ∧ c ≤ k ∧ w = wx
theorem rchunks_any (rb : Nat) (F : List Nat) (sz : Int) (l : CL) (w : World) (hb : RB w rb F sz l) :
    Calls Try.prog 28 #[.pointer (some ⟨rb, 0, none⟩)] w fun e w' => e = .returned (.int .i64 l.length) ∧ w = w' := by
  obtain ⟨bs, th, ⟨Bv, Tv, hp, _, hT, _⟩, hrel⟩ := hb
  have hcnt := cnt1_keys hrel.2.2.2.1.1 hrel.2.1
  rw [← hcnt]
  have htl := hrel.2.2.1
  obtain ⟨p, c, rfl, hc, hr⟩ := hT.reads
  rw [List.length_map] at hp hc hr
  obtain ⟨n, hn⟩ : ∃ n, n = th.length := ⟨_, rfl⟩
  rw [← hn] at hp hc hr htl
  have HR := Lib.hid (And.intro hr hn)
  have c1 : w.cell? ⟨rb, 1, none⟩ = some (.slice p n c) := cell_of hp rfl
  clear hp hr hn hrel hcnt hT
  go_enter Try.func28, Try.ntmps28
  go_wp2_with fail
  go_loopg [3, 4] n (fun m vc vk wx => ChI th w m vc vk wx)
  case atStart => exact ⟨0, 0, rfl, rfl, Nat.zero_le _, by rw [← HR.out.2]; omega, rfl, by omega, rfl⟩
  case round =>
    obtain ⟨k, q, rfl, rfl, hk, hkm, hq, hqk, rfl⟩ := hrel
    rw [← HR.out.2] at hk hkm
    have HQ := Lib.hid hq
    clear hq
    by_cases hlt : k < n
    · obtain ⟨b, o, rfl, hr⟩ := HR.out.1 (by omega)
      obtain ⟨x, hx⟩ : ∃ x, x = th.getD k false := ⟨_, rfl⟩
      have c2 : w.cell? ⟨b, o + k, none⟩ = some (.bool x) := by
        refine hr k _ ?_
        rw [hx, List.getElem?_map, List.getD_eq_getElem?_getD, List.getElem?_eq_getElem (by rw [← HR.out.2]; exact hlt)]; rfl
      have HX := Lib.hid hx
      clear hr hx
      cases x with
      | true =>
        go_wp2
        go_roundg (gk - 1)
        case measure => omega
        case rel => exact ⟨k + 1, q + 1, by push_cast; rfl, by push_cast; rfl, by rw [← HR.out.2]; omega, by rw [← HR.out.2]; omega, by rw [cnt1_take _ _ (by rw [← HR.out.2]; exact hlt), if_pos HX.out.symm, HQ.out], by omega, rfl⟩
      | false =>
        go_wp2
        go_roundg (gk - 1)
        case measure => omega
        case rel => exact ⟨k + 1, q, by push_cast; rfl, rfl, by rw [← HR.out.2]; omega, by rw [← HR.out.2]; omega, by rw [cnt1_take _ _ (by rw [← HR.out.2]; exact hlt), if_neg (by rw [← HX.out]; simp), HQ.out, Nat.add_zero], by omega, rfl⟩
    · go_wp2
      go_ret
      refine ⟨?_, rfl⟩
      have e := HQ.out
      rw [List.take_of_length_le (by rw [← HR.out.2]; omega)] at e
      rw [← e]
      rfl
def RHI (l : CL) (nn : Nat) (w : World) (m : Nat) (v c : Value) (wx : World) : Prop :=
  ∃ i : Nat, c = .int .i64 i ∧ i ≤ nn ∧ nn - i ≤ m ∧ Own wx w.heap.size 3 v ((holesTo l i).map iv) ∧ Keeps [] w wx
theorem rholes_any (rb : Nat) (F : List Nat) (sz : Int) (l : CL) (w : World) (hb : RB w rb F sz l) :
    Calls Try.prog 29 #[.pointer (some ⟨rb, 0, none⟩)] w (HPost l ((sz + 15) / 16).toNat w) := by
  have hb2 := hb
  obtain ⟨bs, th, ⟨Bv, Tv, hp, hB, _⟩, hrel⟩ := hb2
  have hok := hrel.2.2.2
  have h0 := hok.2.2.2.1
  have h1 := hok.2.2.2.2
  obtain ⟨p, c, hBv, hc⟩ := own_value hB
  rw [List.length_map, hrel.1, length_bytesFrom] at hBv hc
  obtain ⟨nb, hnb⟩ : ∃ nb, nb = sz.toNat := ⟨_, rfl⟩
  rw [← hnb] at hBv hc
  obtain ⟨nn, hnn⟩ : ∃ nn, nn = ((sz + 15) / 16).toNat := ⟨_, rfl⟩
  rw [← hnn]
  have hp' : w.heap[rb]? = some (.cells #[.slice p nb c, Tv] 47 (0, 0)) := by rw [← hBv]; exact hp
  have HB := Lib.hid hb
  have HP := Lib.hid hp'
  have HN := Lib.hid (And.intro hnb (And.intro hnn (And.intro h0 h1)))
  have hn1 : nn ≤ 4096 := by omega
  clear hb hp hp' hrel hok hB hBv hnb hnn h0 h1
  go_enter Try.func29, Try.ntmps29
  go_wp2_with fail
  go_loopg [3, 4] nn (fun m v c wx => RHI l nn w m v c wx)
  case atStart =>
    refine ⟨0, rfl, Nat.zero_le _, by omega, ?_, (Keeps.refl _ _).alloc _⟩
    exact Own.row (xs := []) w.heap.size (Nat.le_refl _) (heap_alloc w _) (by simp)
  case round =>
    obtain ⟨i, rfl, hi, hik, hown, hk⟩ := hrel
    have HO := Lib.hid hown
    have HK := Lib.hid hk
    have c1 : wr.cell? ⟨rb, 0, none⟩ = some (.slice p nb c) := cell_of (hk.get HP.out (by simp)) rfl
    have hbk := HB.out.keep hk (by simp) (by simp)
    obtain ⟨bs, th, hbd, hrel⟩ := hbk
    have hth := there_ok rb F bs th i wr hbd
    rw [hrel.2.1 i] at hth
    obtain ⟨ok, hok⟩ : ∃ ok, ok = (get l i).isSome := ⟨_, rfl⟩
    rw [← hok] at hth
    have HTH := Lib.hid hth
    have HOK := Lib.hid hok
    have hlen := length_holesTo l i
    clear hown hk hbd hrel hth hok
    by_cases hlt : i < nn
    · have hlt16 : (i : Int) * 16 < (nb : Int) := by have := HN.out; omega
      cases ok with
      | true =>
        go_wp2_with fail
        refine HTH.out.mono ?_
        rintro e w' ⟨rfl, rfl⟩
        go_wp2
        go_roundg (gk - 1)
        case measure => omega
        case rel =>
          refine ⟨i + 1, by push_cast; rfl, by omega, by omega, ?_, HK.out⟩
          rw [holesTo_succ, if_neg (by have := HOK.out; cases hq : get l i with | none => rw [hq] at this; cases this | some v => simp)]
          exact HO.out
      | false =>
        go_wp2_with fail
        refine HTH.out.mono ?_
        rintro e w' ⟨rfl, rfl⟩
        go_wp2_with (at_builtin; refine vp_append rfl (.tmp 20) (.tmp 22) 36 rfl 3 (.int .i64 0) 8 Try.underlying36 info3 rfl w.heap.size _ ((holesTo l i).map iv) rfl (HO.out.keep ((Keeps.refl [] _).alloc _) (by simp)) ⟨wr.heap.size, 0, none⟩ 1 1 [.int .i64 i] rfl rfl (cell_one_new _ _ _) (by simp [Value.oneCell']) ?c1 ?c2 (HK.out.alloc _) (Nat.le_refl _) ?c3 ?_; rotate_right; intro v' w2 hown2 hk2 _)
        case c1 => rw [List.length_map]; omega
        case c2 => rw [List.length_map]; omega
        case c3 => exact Nat.le_trans HK.out.size ((Keeps.refl [] wr).alloc _).size
        go_roundg (gk - 1)
        case measure => omega
        case rel =>
          refine ⟨i + 1, by push_cast; rfl, by omega, by omega, ?_, hk2⟩
          rw [holesTo_succ, if_pos (by have := HOK.out; cases hq : get l i with | none => rfl | some v => rw [hq] at this; cases this), List.map_append]
          exact hown2
    · have hge : ¬ (i : Int) * 16 < (nb : Int) := by have := HN.out; omega
      clear HTH
      go_wp2
      go_ret
      have e : i = nn := by omega
      subst e
      exact ⟨_, rfl, HO.out, HK.out⟩
end Go.Proofs.Ythkeahjcokbaaaa
