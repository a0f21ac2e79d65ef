import Derived.Test.YthkeahjcokbaaaaB2
namespace Go.Proofs.Ythkeahjcokbaaaa
open Go.RowKit Go.V Go.V.Block

theorem chunks_ok (bb mb : Nat) (sz : Int) (l : CL) (w : World) (hb : w.heap[bb]? = some (.cells #[.int .i64 sz, .map (some mb)] 68 (0, 0))) (hm : MapAt w mb keyV chunkV l) :
    Calls Try.prog 15 #[.pointer (some ⟨bb, 0, none⟩)] w fun e w' => e = .returned (.int .i64 l.length) ∧ w = w' := by
  have hc : w.cell? ⟨bb, 1, none⟩ = some (.map (some mb)) := cell_of hb rfl
  have HM := Lib.hid hm
  clear hb hm
  go_enter Try.func15, Try.ntmps15
  go_wp2_with (at_len; refine vp_len rfl (.tmp 6) 66 rfl 3 70 Try.underlying66 rfl HM.out ?_)
  go_ret
  exact ⟨rfl, rfl⟩

theorem used_ok (sb : Nat) (room used : Int) (w : World) (hs : w.heap[sb]? = some (.cells #[.int .i64 room, .int .i64 used] 65 (0, 0))) :
    Calls Try.prog 16 #[.pointer (some ⟨sb, 0, none⟩)] w fun e w' => e = .returned (.int .i64 used) ∧ w = w' := by
  have hc : w.cell? ⟨sb, 1, none⟩ = some (.int .i64 used) := cell_of hs rfl
  clear hs
  go_enter Try.func16, Try.ntmps16
  go_wp2
  go_ret
  exact ⟨rfl, rfl⟩

def IInv (xs ys : List Int) (k : Nat) (v : Value) : Prop := ∃ i : Nat, v = .int .i64 i ∧ i ≤ xs.length ∧ xs.length - i ≤ k ∧ xs.take i = ys.take i
def IPost (xs ys : List Int) (w : World) (e : Ending) (w' : World) : Prop := e = .returned (.bool (decide (xs = ys))) ∧ ∃ n, w' = w.drewN n

set_option maxHeartbeats 1000000 in
theorem ints_ok (a b : Value) (xs ys : List Int) (w : World) (ha : Reads w a (xs.map iv)) (hb : Reads w b (ys.map iv)) (hx : xs.length ≤ 140737488351232) (hy : ys.length ≤ 140737488351232) :
    Calls Try.prog 17 #[a, b] w (IPost xs ys w) := by
  obtain ⟨p, cap, rfl, _, hpr⟩ := ha
  obtain ⟨q, cap2, rfl, _, hqr⟩ := hb
  rw [List.length_map] at hpr hqr ⊢
  rw [List.length_map]
  obtain ⟨n, hn⟩ : ∃ n, n = xs.length := ⟨_, rfl⟩
  obtain ⟨m, hm⟩ : ∃ m, m = ys.length := ⟨_, rfl⟩
  rw [← hn] at hx hpr ⊢
  rw [← hm] at hy hqr ⊢
  have HN := Lib.hid (And.intro hn hm)
  clear hn hm
  by_cases hne : n = m
  · subst hne
    have HP := Lib.hid (And.intro hpr hqr)
    clear hpr hqr
    have hnn : ((n : Int) != n) = false := by simp
    go_enter Try.func17, Try.ntmps17
    go_wp2
    go_loopg [13] n (fun k v wx => IInv xs ys k v ∧ ∃ d, wx = w.drewN d)
    case atStart => exact ⟨⟨0, rfl, Nat.zero_le _, by have := HN.out.1; omega, by simp⟩, 0, rfl⟩
    case round =>
      obtain ⟨⟨i, rfl, hi, hk, ht⟩, d, rfl⟩ := hrel
      rw [← HN.out.1] at hi hk
      have HT := Lib.hid ht
      clear ht
      by_cases hlt : i < n
      · have hxi : i < xs.length := by rw [← HN.out.1]; exact hlt
        have hyi : i < ys.length := by rw [← HN.out.2]; exact hlt
        obtain ⟨b1, o1, rfl, h1⟩ := HP.out.1 (by omega)
        obtain ⟨b2, o2, rfl, h2⟩ := HP.out.2 (by omega)
        obtain ⟨x, hx1⟩ : ∃ x, x = xs[i] := ⟨_, rfl⟩
        obtain ⟨y, hy1⟩ : ∃ y, y = ys[i] := ⟨_, rfl⟩
        have c1 : w.cell? ⟨b1, o1 + i, none⟩ = some (.int .i64 x) := h1 i _ (by rw [List.getElem?_map, List.getElem?_eq_getElem hxi, ← hx1]; rfl)
        have c2 : w.cell? ⟨b2, o2 + i, none⟩ = some (.int .i64 y) := h2 i _ (by rw [List.getElem?_map, List.getElem?_eq_getElem hyi, ← hy1]; rfl)
        have HX := Lib.hid (And.intro hx1 hy1)
        clear hx1 hy1 h1 h2 HP
        by_cases hxy : x = y
        · have hb : (x != y) = false := by simp [hxy]
          have HXY := Lib.hid hxy
          clear hxy
          go_wp2
          go_quiet (fail)
          go_wp2
          go_roundg (gk - 1)
          case measure => omega
          case rel =>
            refine ⟨⟨i + 1, by push_cast; rfl, by omega, by have := HN.out.1; omega, ?_⟩, d + nq, by first | rfl | rw [World.drewN_drewN]⟩
            rw [List.take_succ_eq_append_getElem hxi, List.take_succ_eq_append_getElem hyi, HT.out, ← HX.out.1, ← HX.out.2, HXY.out]
        · have hb : (x != y) = true := by simp [hxy]
          go_wp2
          go_quiet (fail)
          go_wp2
          go_ret
          refine ⟨?_, d + nq, by first | rfl | rw [World.drewN_drewN]⟩
          have : xs ≠ ys := fun e => hxy (by rw [HX.out.1, HX.out.2]; subst e; rfl)
          show Ending.returned (.bool false) = _
          rw [decide_eq_false this]
      · have hge : n ≤ i := by omega
        go_wp2
        go_ret
        refine ⟨?_, d, rfl⟩
        have ht := HT.out
        rw [List.take_of_length_le (by rw [← HN.out.1]; exact hge), List.take_of_length_le (by rw [← HN.out.2]; exact hge)] at ht
        show Ending.returned (.bool true) = _
        rw [decide_eq_true ht]
  · have hnn : ((n : Int) != m) = true := by simp; omega
    clear hpr hqr
    go_enter Try.func17, Try.ntmps17
    go_wp2
    go_ret
    refine ⟨?_, 0, rfl⟩
    have : xs ≠ ys := fun e => hne (by rw [HN.out.1, HN.out.2, e])
    show Ending.returned (.bool false) = _
    rw [decide_eq_false this]

/-- what holds at the head of a round of Holes's loop -/
def HI (_bb _mb : Nat) (_sz : Int) (l : CL) (nn : Nat) (w : World) (k : Nat) (v c : Value) (wx : World) : Prop :=
  ∃ i : Nat, c = .int .i64 i ∧ i ≤ nn ∧ nn - i ≤ k ∧ Own wx w.heap.size 3 v ((holesTo l i).map iv) ∧ Keeps [] w wx
def HPost (l : CL) (nn : Nat) (w : World) (e : Ending) (w' : World) : Prop :=
  ∃ v, e = .returned v ∧ Own w' w.heap.size 3 v ((holesTo l nn).map iv) ∧ Keeps [] w w'
theorem info3 : (Try.prog.info? 3).map (fun i => (i.zero, i.size, i.bytes)) = some (some (.int .i64 0), 1, 8) := by kernel_rfl

set_option maxHeartbeats 1000000 in
theorem holes_ok (bb mb : Nat) (sz : Int) (nn : Nat) (l : CL) (w : World) (hb : w.heap[bb]? = some (.cells #[.int .i64 sz, .map (some mb)] 68 (0, 0))) (hm : MapAt w mb keyV chunkV l) (h16 : Len16 l) (hs0 : 0 ≤ sz) (hs : sz ≤ 65536)
    (hnn : (nn : Int) = (sz + 15) / 16) :
    Calls Try.prog 18 #[.pointer (some ⟨bb, 0, none⟩)] w (HPost l nn w) := by
  have HB := Lib.hid hb
  have HM := Lib.hid hm
  have HNN := Lib.hid hnn
  have H16 := Lib.hid h16
  have hn1 : (nn : Int) ≤ 4096 := by omega
  clear hb hm hnn h16
  go_enter Try.func18, Try.ntmps18
  go_wp2
  go_loopg [3, 4] nn (fun k v c wx => HI bb mb sz l nn w k v c wx)
  case atStart => exact ⟨0, rfl, Nat.zero_le _, by omega, Own.nil _ _ _, Keeps.refl _ _⟩
  case round =>
    obtain ⟨i, rfl, hi, hik, hown, hk⟩ := hrel
    have HO := Lib.hid hown
    have HK := Lib.hid hk
    have hbw : wr.heap[bb]? = some (.cells #[.int .i64 sz, .map (some mb)] 68 (0, 0)) := hk.get HB.out (by simp)
    have hbb0 : wr.cell? ⟨bb, 0, none⟩ = some (.int .i64 sz) := cell_of hbw rfl
    have hbb1 : wr.cell? ⟨bb, 1, none⟩ = some (.map (some mb)) := cell_of hbw rfl
    have HMW := Lib.hid (HM.out.keep hk (by simp))
    clear hown hk hbw
    have hnn := HNN.out
    by_cases hlt : i < nn
    · have hlt16 : (i : Int) * 16 < sz := by omega
      obtain ⟨c, hc⟩ : ∃ c, (get l i).getD zero16 = c := ⟨_, rfl⟩
      obtain ⟨ok, hok⟩ : ∃ ok, (get l i).isSome = ok := ⟨_, rfl⟩
      have HC16 := Lib.hid (show c.length = 16 by rw [← hc]; exact len16_chunkOf H16.out i)
      have HC := Lib.hid hc
      have HOK := Lib.hid hok
      clear hc hok hnn
      go_upto_if 26 with (first | (at_lookup; refine vp_lookup_ok rfl (.tmp 20) (.tmp 21) 66 rfl 3 70 Try.underlying66 kk (zero70 _) rfl i rfl HMW.out HC.out HOK.out ?_) | (refine vp_store_row rfl 70 (.tmp 5) (.tmp 23) rfl wr.heap.size rfl (c.map bv).toArray rfl _ 70 (heap_alloc _ _) ?h1 ?h2 ?h3 ?_; rotate_right; intro w1 hc1 hk1 hz1; have hk1 := hk1.fresh))
      case h1 => simp only [List.size_toArray, List.length_map, HC16.out]; rfl
      case h2 => simp only [List.size_toArray, List.length_map, HC16.out]; rfl
      case h3 => rw [Array.all_eq_true_iff_forall_mem]; intro v hv; exact oneCell_bv c v (by simpa using hv)
      have HO1 := Lib.hid (HO.out.keep hk1 (by simp))
      have HK1 := Lib.hid (HK.out.trans hk1)
      have hz2 : w.heap.size ≤ w1.heap.size := HK1.out.size
      clear hk1 hz1 hbb0 hbb1
      cases ok with
      | true =>
        go_wp2
        go_roundg (gk - 1)
        case measure => omega
        case rel =>
          refine ⟨i + 1, by push_cast; rfl, by omega, by omega, ?_, HK1.out⟩
          rw [holesTo_succ, if_neg (by have := HOK.out; cases hq : get l i with | none => rw [hq] at this; cases this | some v => simp)]
          exact HO1.out
      | false =>
        have hlen := length_holesTo l i
        go_wp2_with (at_builtin; refine vp_append rfl (.tmp 27) (.tmp 29) 36 rfl 3 (.int .i64 0) 8 Try.underlying36 info3 rfl w.heap.size _ ((holesTo l i).map iv) rfl (HO1.out.keep ((Keeps.refl [] _).alloc _) (by simp)) ⟨w1.heap.size, 0, none⟩ 1 1 [.int .i64 i] rfl rfl (cell_one_new _ _ _) (by simp [Value.oneCell']) ?c1 ?c2 (HK1.out.alloc _) (Nat.le_refl _) ?c3 ?_; rotate_right; intro v' w2 hown2 hk2 _)
        case c1 => rw [List.length_map]; omega
        case c2 => rw [List.length_map]; omega
        case c3 => exact Nat.le_trans hz2 ((Keeps.refl [] w1).alloc _).size
        go_roundg (gk - 1)
        case measure => omega
        case rel =>
          refine ⟨i + 1, by push_cast; rfl, by omega, by omega, ?_, hk2⟩
          rw [holesTo_succ, if_pos (by have := HOK.out; cases hq : get l i with | none => rfl | some v => rw [hq] at this; cases this), List.map_append]
          exact hown2
    · have hge : ¬ (i : Int) * 16 < sz := by omega
      clear hnn
      go_wp2
      go_ret
      have e : i = nn := by omega
      subst e
      exact ⟨_, rfl, HO.out, HK.out⟩
end Go.Proofs.Ythkeahjcokbaaaa
