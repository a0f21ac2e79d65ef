/-
  Package queue: slices.DeleteFunc with the closure.
-/
import Derived.Test.YtginbdgoijeeoaaQ6
namespace Go.V.Queue
open Go Go.V
def keepL (n : Int) (l : List It) : List It := l.filter fun x => !(x.n == n)
theorem keepL_snoc (n : Int) (l : List It) (x : It) : keepL n (l ++ [x]) = if x.n = n then keepL n l else keepL n l ++ [x] := by
  unfold keepL
  rw [List.filter_append]
  by_cases h : x.n = n
  · rw [if_pos h]; simp [h]
  · rw [if_neg h]; simp [h]
theorem take_snoc (l : List It) (j : Nat) (h : j < l.length) : l.take (j + 1) = l.take j ++ [at_ l j] := by
  rw [List.take_add_one, at_get h]; rfl
theorem keepL_all (n : Int) (l : List It) (h : ∀ x ∈ l, x.n ≠ n) : keepL n l = l := by
  unfold keepL
  rw [List.filter_eq_self]
  intro x hx
  simp [h x hx]
theorem keepL_start {n : Int} {l : List It} {k : Nat} (h : idxL n l 0 = some k) : k < l.length ∧ l.take k = keepL n (l.take (k + 1)) := by
  obtain ⟨j, e, hj, hn, hm⟩ := idxL_some l 0 k h
  have : k = j := by omega
  subst this
  refine ⟨hj, ?_⟩
  rw [take_snoc l k hj, keepL_snoc, if_pos hn]
  refine (keepL_all n _ (fun x hx => ?_)).symm
  obtain ⟨i, hi, rfl⟩ := List.getElem_of_mem hx
  rw [List.length_take] at hi
  have h2 := hm i (by omega)
  unfold at_ at h2
  rw [List.getD_eq_getElem?_getD, List.getElem?_eq_getElem (by omega)] at h2
  simpa [List.getElem_take] using h2
/-- a round of DeleteFunc -/
def DInv (n : Int) (l l' : List It) (i j : Nat) : Prop := i < j ∧ j ≤ l.length ∧ l'.length = l.length ∧ l'.take i = keepL n (l.take j) ∧ l'.drop j = l.drop j
theorem DInv.at {n : Int} {l l' : List It} {i j : Nat} (h : DInv n l l' i j) (hj : j < l.length) : at_ l' j = at_ l j := by
  have h1 := congrArg (fun L => L[0]?) h.2.2.2.2
  simp only [List.getElem?_drop, Nat.add_zero] at h1
  rw [at_get (by rw [h.2.2.1]; exact hj), at_get hj] at h1
  exact Option.some.inj h1
theorem DInv.drop {n : Int} {l l' : List It} {i j : Nat} (h : DInv n l l' i j) (hj : j < l.length) (hx : (at_ l j).n = n) : DInv n l l' i (j + 1) := by
  obtain ⟨h1, h2, h3, h4, h5⟩ := h
  refine ⟨by omega, hj, h3, ?_, ?_⟩
  · rw [take_snoc l j hj, keepL_snoc, if_pos hx, h4]
  · have := congrArg (List.drop 1) h5
    simpa [List.drop_drop, Nat.add_comm] using this
theorem DInv.keep {n : Int} {l l' : List It} {i j : Nat} (h : DInv n l l' i j) (hj : j < l.length) (hx : (at_ l j).n ≠ n) : DInv n l (l'.set i (at_ l j)) (i + 1) (j + 1) := by
  obtain ⟨h1, h2, h3, h4, h5⟩ := h
  refine ⟨by omega, hj, by rw [List.length_set]; exact h3, ?_, ?_⟩
  · rw [take_snoc l j hj, keepL_snoc, if_neg hx, ← h4, List.take_add_one, List.getElem?_set_self (by omega), List.take_set_of_le (Nat.le_refl i)]
    rfl
  · rw [List.drop_set_of_lt (by omega)]
    have := congrArg (List.drop 1) h5
    simpa [List.drop_drop, Nat.add_comm] using this
end Go.V.Queue
namespace Go.Proofs.Ytginbdgoijeeoaa
open Go.RowKit Go.V Go.V.Queue
def XD (v : Value) (l : List It) (n : Int) (w : World) (k : Nat) (vi vj : Value) (wx : World) : Prop :=
  ∃ (i j : Nat) (l' : List It), vi = .int .i64 i ∧ vj = .int .i64 j ∧ l.length - j ≤ k ∧ DInv n l l' i j ∧ Row wx v l' ∧ Keeps v.ownBlock.toList w wx
def DelPost (v : Value) (l : List It) (w : World) (e : Ending) (w' : World) : Prop :=
  ∃ v', e = .returned v' ∧ v'.ownBlock = v.ownBlock ∧ Row w' v' l ∧ Keeps v.ownBlock.toList w w'
theorem zero52 (w : World) : (zeroValue 52).run Try.prog w = .ok (.agg #[.int .i64 0, .int .i64 0, .int .i64 0]) w := by kernel_rfl
set_option maxHeartbeats 1000000 in
theorem delete25_ok (v : Value) (l : List It) (ca cb : Nat) (n : Int) (w : World) (h : Row w v l) (hc : Cap w ca cb n) : Calls Try.prog 24 #[v, .func (.func 25) #[] #[P ca, P cb]] w (DelPost v (keepL n l) w) := by
  have HI := Lib.hid (index25_ok v l ca cb n w h hc)
  obtain ⟨r, hr⟩ : ∃ r, r = idxL n l 0 := ⟨_, rfl⟩
  rw [← hr] at HI
  cases r with
  | none =>
    have hall := (idxL_none l 0).1 hr.symm
    obtain ⟨p, c, rfl, _, _⟩ := h.value
    obtain ⟨m, hm⟩ : ∃ m, m = l.length := ⟨_, rfl⟩
    rw [← hm] at h HI ⊢
    have H := Lib.hid h
    clear h hc hr hm
    go_enter Try.func24, Try.ntmps24
    go_wp2_with fail
    refine HI.out.mono ?_
    rintro e w1 ⟨rfl, hk⟩
    have hv : idxV none = -1 := rfl
    rw [hv]
    go_wp2
    go_ret
    refine ⟨_, rfl, rfl, ?_, hk.mono (by simp)⟩
    have hr := H.out.keep hk (by simp)
    rw [keepL_all n l hall]
    exact hr
  | some k =>
    obtain ⟨hkl, hst⟩ := keepL_start hr.symm
    obtain ⟨g, c, cur, rfl, _⟩ := h.shape (by omega)
    obtain ⟨p', c'', hv', hlc, hc63⟩ := h.value
    simp only [Value.slice.injEq] at hv'
    obtain ⟨rfl, _, rfl⟩ := hv'
    obtain ⟨m, hm⟩ : ∃ m, m = l.length := ⟨_, rfl⟩
    rw [← hm] at h HI hlc ⊢
    have hga : g ≠ ca := fun e => row_ne h hc.1 (by decide) (by rw [e]; rfl)
    have hgb : g ≠ cb := fun e => row_ne h hc.2 (by decide) (by rw [e]; rfl)
    have H := Lib.hid (And.intro h (And.intro hc (And.intro hga (And.intro hgb (And.intro hm (And.intro hkl hst))))))
    have hkm : k < m := by omega
    clear h hc hr hkl hst hga hgb hm
    go_enter Try.func24, Try.ntmps24
    go_wp2_with fail
    refine HI.out.mono ?_
    rintro e w1 ⟨rfl, hk1⟩
    have hv : idxV (some k) = (k : Int) := rfl
    rw [hv]
    have hne : ((k : Int) == -1) = false := beq_eq_false_iff_ne.2 (by omega)
    have HX0 := Lib.hid (show XD (.slice (some ⟨g, 0, none⟩) m c) l n w m (.int .i64 k) (.int .i64 ((k : Int) + 1)) w1 from
      ⟨k, k + 1, l, rfl, by push_cast; rfl, by have := H.out.2.2.2.2.1; omega, ⟨by omega, H.out.2.2.2.2.2.1, rfl, H.out.2.2.2.2.2.2, rfl⟩, H.out.1.keep hk1 (by simp), hk1.mono (by simp)⟩)
    clear hk1
    go_wp2_with fail
    go_loopg [5, 6] m (fun k vi vj wx => XD (.slice (some ⟨g, 0, none⟩) m c) l n w k vi vj wx)
    case atStart =>
      exact HX0.out
    case round =>
      obtain ⟨i, j, l', rfl, rfl, hjk, hinv, hrow, hk⟩ := hrel
      have hm := H.out.2.2.2.2.1
      have hij := hinv.1
      have hjm : j ≤ m := by rw [hm]; exact hinv.2.1
      rw [← hm] at hjk
      have HR := Lib.hid (And.intro hinv (And.intro hrow hk))
      clear hinv hrow hk hm
      by_cases hlt : j < m
      · have hjl : j < l.length := by rw [← H.out.2.2.2.2.1]; exact hlt
        have hat := HR.out.1.at hjl
        obtain ⟨x, hx⟩ : ∃ x, x = at_ l j := ⟨_, rfl⟩
        have hg1 : l'[j]? = some x := by rw [at_get (by rw [HR.out.1.2.2.1]; exact hjl), hat, hx]
        obtain ⟨d0, d1, d2⟩ := HR.out.2.1.item rfl hg1
        have HXX := Lib.hid hx
        clear hat hg1 hx
        go_upto_region 8 with fail
        obtain ⟨wa, hwa⟩ : ∃ wa, wa = wr.alloc (.cells #[.int .i64 x.key, .int .i64 x.n, .int .i64 x.push] 52) := ⟨_, rfl⟩
        obtain ⟨xb, hxb⟩ : ∃ xb, xb = wr.heap.size := ⟨_, rfl⟩
        have hka : Keeps [] wr wa := by rw [hwa]; exact (Keeps.refl _ _).alloc _
        have hya : wa.heap[xb]? = some (.cells #[.int .i64 x.key, .int .i64 x.n, .int .i64 x.push] 52 (0, 0)) := by rw [hwa, hxb]; exact heap_alloc wr _
        rw [← hwa, ← hxb]
        have hkw := HR.out.2.2.trans' hka (by simp)
        have hcap := H.out.2.1.keep hkw (by simp [Value.ownBlock]; exact fun e => H.out.2.2.1 e.symm) (by simp [Value.ownBlock]; exact fun e => H.out.2.2.2.1 e.symm)
        have HC := Lib.hid (clos25_ok x ca cb n wa hcap)
        have a0 : wa.cell? ⟨xb, 0, none⟩ = some (.int .i64 x.key) := cell_of hya rfl
        have a1 : wa.cell? ⟨xb, 1, none⟩ = some (.int .i64 x.n) := cell_of hya rfl
        have a2 : wa.cell? ⟨xb, 2, none⟩ = some (.int .i64 x.push) := cell_of hya rfl
        have HA := Lib.hid (And.intro hka hya)
        clear hwa hxb hka hya hkw hcap d0 d1 d2
        go_wp2_with fail
        refine HC.out.mono ?_
        rintro e w2 ⟨rfl, hk2⟩
        have hya2 := hk2.get HA.out.2 (by simp)
        have b0 : w2.cell? ⟨xb, 0, none⟩ = some (.int .i64 x.key) := cell_of hya2 rfl
        have b1 : w2.cell? ⟨xb, 1, none⟩ = some (.int .i64 x.n) := cell_of hya2 rfl
        have b2 : w2.cell? ⟨xb, 2, none⟩ = some (.int .i64 x.push) := cell_of hya2 rfl
        have HK2 := Lib.hid (HA.out.1.trans hk2)
        clear hk2 hya2 a0 a1 a2
        by_cases hn : x.n = n
        · have hb : (x.n == n) = true := by simp [hn]
          rw [hb]
          go_wp2
          go_roundg (gk - 1)
          case measure => omega
          case rel => exact ⟨i, j + 1, l', rfl, by push_cast; rfl, by rw [← H.out.2.2.2.2.1]; omega, HR.out.1.drop hjl (by rw [← HXX.out]; exact hn), HR.out.2.1.keep HK2.out (by simp), HR.out.2.2.trans' HK2.out (by simp)⟩
        · have hb : (x.n == n) = false := by simp [hn]
          rw [hb]
          obtain ⟨s1, s2, s3⟩ := (HR.out.2.1.keep HK2.out (by simp)).set rfl (i := i) (by rw [HR.out.1.2.2.1]; omega) x
          have HS := Lib.hid (And.intro s1 (And.intro s2 s3))
          clear s1 s2 s3
          have him : (i : Int) < (m : Int) := by omega
          go_wp2_with (first | (refine wpList_store_mid rfl 52 (.tmp 33) (.tmp 32) rfl g (i * 3) #[.int .i64 x.key, .int .i64 x.n, .int .i64 x.push] rfl rfl HS.out.1 info52 (by simp [Value.oneCell']) ?_) | fail)
          go_roundg (gk - 1)
          case measure => omega
          case rel =>
            refine ⟨i + 1, j + 1, l'.set i x, by push_cast; rfl, by push_cast; rfl, by rw [← H.out.2.2.2.2.1]; omega, ?_, HS.out.2.1, (HR.out.2.2.trans' HK2.out (by simp)).trans (HS.out.2.2.mono (by simp [Value.ownBlock]))⟩
            rw [HXX.out]
            exact HR.out.1.keep hjl (by rw [← HXX.out]; exact hn)
      · have him : i < m := by omega
        have hjm2 : j = l.length := by have := H.out.2.2.2.2.1; omega
        have hti : l'.take i = keepL n l := by
          have h4 := HR.out.1.2.2.2.1
          rw [hjm2, List.take_length] at h4
          exact h4
        have hlm : m = l'.length := by rw [HR.out.1.2.2.1]; exact H.out.2.2.2.2.1
        have HT := Lib.hid (And.intro hti hlm)
        clear hti hlm hjm2
        go_wp2_with (first
          | (refine vp_tail_at rfl (.tmp 36) (.tmp 37) 46 rfl 52 Try.underlying46 info52 g m c i rfl him hlc hc63 rfl ?_)
          | (refine vp_clear_row rfl (.tmp 38) 46 rfl Try.underlying46 (zero52 _) HR.out.2.1 HT.out.2 him (c - i) rfl ?_; intro w2 hr2 hk2; have HC2 := Lib.hid (And.intro hr2 hk2); clear hr2 hk2)
          | (refine vp_head_at rfl (.tmp 39) (.tmp 40) 46 rfl 52 Try.underlying46 3 info52 g m c i rfl (by omega) hlc hc63 rfl ?_)
          | fail)
        go_ret
        refine ⟨_, rfl, rfl, ?_, HR.out.2.2.trans (HC2.out.2.mono (by simp [Value.ownBlock]))⟩
        rw [← HT.out.1]
        exact HC2.out.1
end Go.Proofs.Ytginbdgoijeeoaa
