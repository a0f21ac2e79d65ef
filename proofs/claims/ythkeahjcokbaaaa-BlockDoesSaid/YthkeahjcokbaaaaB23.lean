/-
  Package veneerref03: Write.
-/
import Derived.Test.YthkeahjcokbaaaaB22
namespace Go.Proofs.Ythkeahjcokbaaaa
open Go.RowKit Go.V Go.V.Block
def RRel (bs : List UInt8) (th : List Bool) (sz : Int) (l : CL) : Prop := bs = bytesFrom l 0 sz.toNat ∧ (∀ k, th.getD k false = (get l k).isSome) ∧ th.length ≤ 4096 ∧ OkB sz l
/-- a body of the document's as chunks -/
def RB (w : World) (rb : Nat) (F : List Nat) (sz : Int) (l : CL) : Prop := ∃ bs th, RBody w rb F bs th ∧ RRel bs th sz l
theorem RB.keep {w w' : World} {rb : Nat} {F S : List Nat} {sz : Int} {l : CL} (h : RB w rb F sz l) (hk : Keeps S w w') (h1 : rb ∉ S) (h2 : ∀ x ∈ S, x ∉ F) : RB w' rb F sz l := by
  obtain ⟨bs, th, h, hr⟩ := h
  exact ⟨bs, th, h.keep hk h1 h2, hr⟩
theorem RB.block {w : World} {rb : Nat} {F : List Nat} {sz : Int} {l : CL} (h : RB w rb F sz l) : ∃ Bv Tv, w.heap[rb]? = some (.cells #[Bv, Tv] 47 (0, 0)) := by
  obtain ⟨bs, th, ⟨Bv, Tv, h, _⟩, _⟩ := h
  exact ⟨Bv, Tv, h⟩
def szD (sz off : Int) (d : Nat) : Int := if d = 0 then sz else max sz (off + d)
theorem szD_succ (sz off : Int) (d : Nat) (p : Nat) (h : (p : Int) = off + d) : max (szD sz off d) ((p : Int) + 1) = szD sz off (d + 1) := by
  unfold szD
  split <;> rw [if_neg (by omega)] <;> omega
theorem grew_not {w : World} {F F' : List Nat} (h : Grew w F F') {x : Nat} (hx : x ∉ F) (hl : x < w.heap.size) : x ∉ F' := fun hq => (h x hq).elim hx (fun q => by omega)
def RWI (rs rb : Nat) (F : List Nat) (room sz off : Int) (N at_ : Nat) (dat : List UInt8) (RES : Nat × Int × CL) (w : World) (m : Nat) (v : Value) (wx : World) : Prop :=
  ∃ (D : Int) (d : Nat) (u : Int) (l : CL) (F' : List Nat), v = .int .i64 D ∧ D = d ∧ d ≤ N ∧ 0 ≤ u ∧ u ≤ room ∧ N - d ≤ m ∧ wrB room at_ dat (N - d) d u l = RES ∧ RAt wx rs room u ∧ Grew w F F' ∧ RB wx rb F' (szD sz off d) l ∧ Keeps ([rs, rb] ++ F) w wx
def RWE (rs rb : Nat) (F : List Nat) (room sz off : Int) (N : Nat) (RES : Nat × Int × CL) (w : World) (v : Value) (wx : World) : Prop :=
  ∃ (D : Int) (d : Nat) (u : Int) (l : CL) (F' : List Nat), v = .int .i64 D ∧ D = d ∧ d ≤ N ∧ RES = (d, u, l) ∧ RAt wx rs room u ∧ Grew w F F' ∧ RB wx rb F' (szD sz off d) l ∧ Keeps ([rs, rb] ++ F) w wx
/-- once the chunk is there -/
def RWM (rs rb : Nat) (F : List Nat) (room u sz off : Int) (d K : Nat) (l : CL) (w wx : World) : Prop :=
  ∃ (F' : List Nat) (u' : Int) (th : List Bool), Grew w F F' ∧ RBody wx rb F' (bytesFrom l 0 (szD sz off d).toNat) th ∧ (∀ j, th.getD j false = if j = K then true else (get l j).isSome) ∧ th.length ≤ 4096 ∧ u' = (if (get l K).isSome = true then u else u + 1) ∧ ((get l K).isSome = true ∨ u ≠ room) ∧ RAt wx rs room u' ∧ Keeps ([rs, rb] ++ F) w wx
/-- while B grows -/
def RWB (rs rb : Nat) (F : List Nat) (room u' : Int) (bs : List UInt8) (th : List Bool) (p : Nat) (w : World) (m : Nat) (wx : World) : Prop :=
  ∃ (i : Nat) (F' : List Nat), Grew w F F' ∧ RBody wx rb F' (bs ++ List.replicate i 0) th ∧ (i = 0 ∨ bs.length + i ≤ p + 1) ∧ p + 1 - (bs.length + i) ≤ m ∧ RAt wx rs room u' ∧ Keeps ([rs, rb] ++ F) w wx
def RWPost (rs rb : Nat) (F : List Nat) (room : Int) (r : Int × Int × BS) (w : World) (e : Ending) (w' : World) : Prop :=
  e = .returned (.tuple #[.int .i64 r.1, .int .i64 r.2.1]) ∧ RAt w' rs room r.2.2.used ∧ ∃ F', Grew w F F' ∧ RB w' rb F' r.2.2.sz r.2.2.l ∧ Keeps ([rs, rb] ++ F) w w'

theorem mono2 {rs rb : Nat} {F : List Nat} {w w' : World} (h : Keeps ([rb] ++ F) w w') : Keeps ([rs, rb] ++ F) w w' := h.mono (fun x hx => by simp only [List.cons_append, List.nil_append, List.mem_cons] at hx ⊢; exact Or.inr hx)

set_option maxRecDepth 100000 in
set_option maxHeartbeats 2000000 in
theorem rwrite_main (rs rb : Nat) (F : List Nat) (room used sz off : Int) (l : CL) (at_ n : Nat) (dp : Option Addr) (dc : Nat) (data : List UInt8) (w : World) (hoff : off = at_) (hoff2 : off < 65536) (hn : n = data.length) (hn0 : 0 < n) (hnc : n ≤ dc) (hdc : dc ≤ 9223372036854775807)
    (hs : RAt w rs room used) (hu0 : 0 ≤ used) (hur : used ≤ room) (hroom : room ≤ 65536) (hb : RB w rb F sz l) (hF : rs ∉ F ∧ rb ∉ F ∧ ∀ x ∈ F, x < w.heap.size) (hD : Reads w (.slice dp n dc) (data.map bv)) (hdF : ∀ g, Value.ownBlock (.slice dp n dc) = some g → g ∉ [rs, rb] ++ F) :
    Calls Try.prog 21 #[.pointer (some ⟨rs, 0, none⟩), .pointer (some ⟨rb, 0, none⟩), .int .i64 off, .slice dp n dc] w (RWPost rs rb F room (writeM room ⟨used, sz, l⟩ off data) w) := by
  obtain ⟨N, hN⟩ : ∃ N, N = min n (65536 - at_) := ⟨_, rfl⟩
  obtain ⟨dat, hdat⟩ : ∃ dat, dat = data.take (65536 - at_) := ⟨_, rfl⟩
  have hdl : dat.length = N := by rw [hdat, List.length_take, hN, hn]; omega
  obtain ⟨RES, hRES⟩ : ∃ RES, RES = wrB room at_ dat N 0 used l := ⟨_, rfl⟩
  have h16 : Len16 l := by obtain ⟨_, _, _, hr⟩ := hb; exact hr.2.2.2.1.2.2
  have hW : writeM room ⟨used, sz, l⟩ off data = ((RES.1 : Int), (if RES.1 = 0 then 28 else 0 : Int), (⟨RES.2.1, if RES.1 = 0 then sz else max sz (off + RES.1), RES.2.2⟩ : BS)) := by
    unfold writeM
    rw [if_neg (by omega), if_neg (by omega), if_neg (by omega)]
    have : off.toNat = at_ := by omega
    simp only [this]
    rw [← hdat, wr_eq _ 0 used l (by rw [hdl, hN, hn]; omega) h16 N (by omega), ← hRES]
  obtain ⟨WR, hWR⟩ : ∃ WR, WR = writeM room ⟨used, sz, l⟩ off data := ⟨_, rfl⟩
  rw [← hWR]
  rw [hW] at hWR
  have HWR := Lib.hid hWR
  clear hWR
  have hrsb : rs ≠ rb := by
    obtain ⟨Bv, Tv, hbl⟩ := hb.block
    intro e
    rw [← e, hs] at hbl
    simp at hbl
  have hoff0 : 0 ≤ off := by omega
  have HNN := Lib.hid (And.intro hN (And.intro hdat (And.intro hdl hn)))
  have HRES := Lib.hid hRES
  have HOFF := Lib.hid hoff
  have HS := Lib.hid hs
  have HB := Lib.hid hb
  have HF := Lib.hid hF
  have HD := Lib.hid hD
  have HDF := Lib.hid hdF
  have HU := Lib.hid (And.intro hu0 hur)
  have HRB := Lib.hid hrsb
  obtain ⟨nI, hnI⟩ : ∃ nI : Int, nI = n := ⟨_, rfl⟩
  have HNI := Lib.hid hnI
  clear hN hdat hdl hRES hoff hs hb hF hD hdF hu0 hur hrsb hW h16 hn hnI
  have hn0' : ((n : Int) == 0) = false := beq_eq_false_iff_ne.2 (by omega)
  go_enter Try.func21, Try.ntmps21
  go_upto_block 0 with fail
  go_cut [10] (fun v wx => RWE rs rb F room sz off N RES w v wx)
  case first =>
    go_wp2_with fail
    go_loopg [10] N (fun m v wx => RWI rs rb F room sz off N at_ dat RES w m v wx)
    case atStart =>
      exact ⟨0, 0, used, l, F, rfl, rfl, Nat.zero_le _, HU.out.1, HU.out.2, by omega, HRES.out.symm, HS.out, Grew.refl _ _, HB.out, Keeps.refl _ _⟩
    case round =>
      obtain ⟨D, d, u, l1, F1, rfl, hD1, hdN, hu0, hur, hm, hres, hs1, hg1, hb1, hk1⟩ := hrel
      have HRS := Lib.hid hres
      have HP := Lib.hid (And.intro hs1 (And.intro hg1 (And.intro hb1 hk1)))
      have HD1 := Lib.hid hD1
      have hD0 : 0 ≤ D := by omega
      have hD65 : D ≤ 65536 := by have := HNN.out.1; omega
      have hr0 : wr.cell? ⟨rs, 0, none⟩ = some (.int .i64 room) := cell_of hs1 rfl
      have hr1 : wr.cell? ⟨rs, 1, none⟩ = some (.int .i64 u) := cell_of hs1 rfl
      have hrf : wr.frozen? ⟨rs, 1, none⟩ = false := frozen_of 1 hs1
      clear hres hs1 hg1 hb1 hk1 hD1
      by_cases hdn : D < (n : Int)
      · by_cases hlt : off + D < 65536
        · have hdN2 : d < N := by have := HNN.out.1; have := HD1.out; have := HOFF.out; omega
          have hgt := HOFF.out
          have hdd := HD1.out
          obtain ⟨K, hK⟩ : ∃ K : Nat, (off + D) / 16 = K ∧ K = (at_ + d) / 16 := ⟨(at_ + d) / 16, by omega, rfl⟩
          have hK1 := hK.1
          have HKI := Lib.hid hK.2
          clear hK hgt hdd
          obtain ⟨bs, th, hbd, hrl⟩ := HP.out.2.2.1
          have hth := there_ok rb F1 bs th K wr hbd
          obtain ⟨ok, hok⟩ : ∃ ok, ok = (get l1 K).isSome := ⟨_, rfl⟩
          rw [hrl.2.1 K, ← hok] at hth
          have HTH := Lib.hid hth
          have HBD := Lib.hid (And.intro hbd hrl)
          have HOK := Lib.hid hok
          clear hth hbd hrl hok
          go_wp2_with fail
          refine HTH.out.mono ?_
          rintro e w1 ⟨rfl, rfl⟩
          go_upto_if 36 with fail
          go_cut [] (fun wx => RWM rs rb F room u sz off d K l1 w wx)
          case first =>
            cases ok with
            | true =>
              go_wp2
              go_meet
              case rel =>
                obtain ⟨p1, p2, p3, p4⟩ := HP.out
                obtain ⟨hbd, r1, r2, r3, r4⟩ := HBD.out
                refine ⟨F1, u, th, p2, r1 ▸ hbd, fun j => ?_, r3, by rw [if_pos HOK.out.symm], Or.inl HOK.out.symm, p1, p4⟩
                rw [r2 j]
                split
                · next e => rw [e]; exact HOK.out.symm
                · rfl
            | false =>
              by_cases hfull : u = room
              · have hfl : (u == room) = true := by rw [hfull]; exact beq_self_eq_true _
                go_wp2
                go_quiet (fail)
                go_wp2
                go_meet
                case rel =>
                  obtain ⟨p1, p2, p3, p4⟩ := HP.out
                  refine ⟨D, d, u, l1, F1, rfl, HD1.out, hdN, ?_, p1, p2, p3.keep ((Keeps.refl [] wr).drewN nq) (by simp) (by simp), p4.drewN nq⟩
                  rw [← HRS.out]
                  obtain ⟨f, hf⟩ : ∃ f, N - d = f + 1 := ⟨N - d - 1, by omega⟩
                  rw [hf, wrB, if_neg (by rw [HNN.out.2.2.1]; omega), if_neg (by rw [← HKI.out, ← HOK.out]; simp), if_pos hfull]
              · have hfl : (u == room) = false := beq_eq_false_iff_ne.2 hfull
                go_wp2
                go_quiet (fail)
                go_wp2_with fail
                have hrsF : rs ∉ F1 := grew_not HP.out.2.1 HF.out.1 (lt_of_heap HS.out)
                have hks : Keeps [rs] wr ((wr.drewN nq).setCell ⟨rs, 1, none⟩ (.int .i64 (u + 1))) := ((Keeps.refl [rs] wr).drewN nq).setCell (Or.inl (by simp)) _
                have hK4 : K < 4096 := by omega
                refine (lay_ok rb F1 bs th K _ (HBD.out.1.keep hks (by simp; exact Ne.symm HRB.out) (by simp; exact hrsF)) hK4 HBD.out.2.2.2.1).mono ?_
                rintro e w2 ⟨rfl, F2, th2, q1, q2, q3, q4, q5⟩
                have Q := Lib.hid (And.intro q1 (And.intro q2 (And.intro q3 (And.intro q4 (And.intro q5 (And.intro hks hrsF))))))
                clear q1 q2 q3 q4 q5 hks hrsF
                go_wp2
                go_meet
                case rel =>
                  obtain ⟨p1, p2, p3, p4⟩ := HP.out
                  obtain ⟨q1, q2, q3, q4, q5, hks, hrsF⟩ := Q.out
                  have hkw := p4.trans (hks.mono (T := [rs, rb] ++ F) (by simp))
                  refine ⟨F2, u + 1, th2, p2.trans q1 hkw.size, HBD.out.2.1 ▸ q2, fun j => ?_, q3, by rw [if_neg (by rw [← HOK.out]; simp)], Or.inr hfull, ?_, hkw.trans' q5 (fun x hx => ?_)⟩
                  · rw [q4 j, HBD.out.2.2.1 j]
                  · exact q5.get (heap_setCell (w := wr.drewN nq) p1) (by simp; exact ⟨HRB.out, hrsF⟩)
                  · simp only [List.cons_append, List.nil_append, List.mem_cons] at hx ⊢
                    rcases hx with hx | hx
                    · exact Or.inl (Or.inr (Or.inl hx))
                    · exact (p2 x hx).elim (fun q => Or.inl (Or.inr (Or.inr q))) Or.inr
          case rest =>
            obtain ⟨F2, u2, th2, g2, hbd2, r2, r3, hu2, hfull, hs2, hk2⟩ := hcut
            obtain ⟨bs0, hbs0⟩ : ∃ bs0, bs0 = bytesFrom l1 0 (szD sz off d).toNat := ⟨_, rfl⟩
            rw [← hbs0] at hbd2
            have HBS := Lib.hid hbs0
            have HM := Lib.hid (And.intro r2 (And.intro r3 (And.intro hu2 hfull)))
            have HI2 := Lib.hid (show RWB rs rb F room u2 bs0 th2 (at_ + d) w (at_ + d + 1 - bs0.length) wc from ⟨0, F2, g2, by simpa using hbd2, Or.inl rfl, by omega, hs2, hk2⟩)
            clear g2 hbd2 r2 r3 hu2 hfull hs2 hk2 hbs0
            obtain ⟨g1, hg1⟩ : ∃ g1, g1 = gk := ⟨_, rfl⟩
            have HG1 := Lib.hid hg1
            clear hg1
            go_wp2_with fail
            go_loopg [] (at_ + d + 1 - bs0.length) (fun m wx => RWB rs rb F room u2 bs0 th2 (at_ + d) w m wx)
            case atStart => exact HI2.out
            case round =>
              obtain ⟨i, F3, g3, ⟨Bv, Tv, hp⟩, hi, him, hs3, hk3⟩ := hrel
              obtain ⟨ts, hts⟩ : ∃ ts, ts = bs0 ++ List.replicate i 0 := ⟨_, rfl⟩
              rw [← hts] at hp
              have htl : ts.length = bs0.length + i := by rw [hts]; simp
              have HPP := Lib.hid hp
              have HTS := Lib.hid hts
              have HI := Lib.hid (And.intro hi (And.intro him (And.intro htl (And.intro hs3 (And.intro hk3 g3)))))
              obtain ⟨p, c, hBv, hc⟩ := own_value hp.2.1
              rw [List.length_map] at hBv hc
              obtain ⟨m, hm⟩ : ∃ m, m = ts.length := ⟨_, rfl⟩
              rw [← hm] at hBv hc
              have c1 : wr.cell? ⟨rb, 0, none⟩ = some (.slice p m c) := by rw [← hBv]; exact cell_of hp.1 rfl
              have HBV := Lib.hid hBv
              have HMM := Lib.hid hm
              clear hp hts hi him htl hs3 hk3 g3 hBv hm
              have hm6 : m ≤ 65536 := by
                have h1 := HI.out
                have h2 := HMM.out
                have h3 := HBS.out
                have h4 := HBD.out.2.2.2.2.2.2.2
                have h5 := HOFF.out
                have h6 := HD1.out
                have h7 : bs0.length = (szD sz off d).toNat := by rw [h3, length_bytesFrom]
                omega
              by_cases hmp : (m : Int) ≤ off + D
              · have hlen : (ts.map bv ++ [Value.int .u8 0]).length = m + 1 := by rw [List.length_append, List.length_map, ← HMM.out]; rfl
                go_wp2_with (at_builtin; refine vp_append_at rfl (.tmp 68) (.tmp 69) 22 rfl 5 (.int .u8 0) 1 Try.underlying22 info5 rfl (.slice p m c) (ts.map bv) rfl (by rw [← HBV.out]; exact HPP.out.2.1.keep ((Keeps.refl [] _).alloc _) (by simp)) ⟨wr.heap.size, 0, none⟩ 1 1 [.int .u8 0] rfl rfl (cell_one_new _ _ _) (by simp [Value.oneCell']) ?c1 ?c2 ?_; rotate_right; intro v' w2 hown2 hbl hg; rw [← HBV.out] at hbl hg; obtain ⟨q1, q2, q3, q4⟩ := HPP.out.growB (bs' := ts ++ [0]) (by rw [List.map_append]; exact hown2) hbl hg; obtain ⟨p', c', hv', _⟩ := own_value hown2; rw [hlen] at hv'; subst hv'; have f1 := frozen_of 0 q1; have f2 : w2.cell? ⟨rb, 0, none⟩ = some Bv := cell_of q1 rfl; have Q := Lib.hid (And.intro q2 (And.intro q3 q4)); clear q1 q2 q3 q4 hown2 hbl hg)
                case c1 => rw [List.length_map, ← HMM.out]; omega
                case c2 => rw [List.length_map, ← HMM.out]; omega
                go_roundg (gk - 1)
                case measure => have := HI.out; have := HMM.out; have := HOFF.out; have := HD1.out; omega
                case rel =>
                  obtain ⟨h1, h2, h3, h4, h5, h6⟩ := HI.out
                  have h7 := HMM.out
                  have h8 := HOFF.out
                  have h9 := HD1.out
                  have hks := Q.out.2.2
                  have hrsF : rs ∉ F3 := grew_not h6 HF.out.1 (lt_of_heap HS.out)
                  refine ⟨i + 1, _, h6.trans Q.out.2.1 h5.size, ?_, Or.inr (by omega), by omega, hks.get h4 (by simp; exact ⟨HRB.out, hrsF⟩), h5.trans' hks (fun x hx => ?_)⟩
                  · have := Q.out.1
                    rw [HTS.out, List.append_assoc, ← List.replicate_succ'] at this
                    exact ⟨_, _, this⟩
                  · simp only [List.cons_append, List.nil_append, List.mem_cons] at hx ⊢
                    rcases hx with hx | hx
                    · exact Or.inl (Or.inr (Or.inl hx))
                    · exact (h6 x hx).elim (fun q => Or.inl (Or.inr (Or.inr q))) Or.inr
              · obtain ⟨x, hx⟩ : ∃ x, x = data.getD d 0 := ⟨_, rfl⟩
                have hDt : D.toNat = d := by have := HD1.out; omega
                have hAt : (off + D).toNat = at_ + d := by have := HD1.out; have := HOFF.out; omega
                obtain ⟨g, c2, hv, q1, q2, ⟨y, q3⟩, q4⟩ := HPP.out.setB (k := (off + D).toNat) (by have := HMM.out; omega) x
                have hv2 := HBV.out.symm.trans hv
                simp only [Value.slice.injEq] at hv2
                obtain ⟨rfl, _, _⟩ := hv2
                obtain ⟨bd, od, rfl, hcd⟩ : ∃ bd od, dp = some ⟨bd, od, none⟩ ∧ w.cell? ⟨bd, od + d, none⟩ = some (.int .u8 (x.toNat : Int)) := by
                  obtain ⟨p', c', hv', _, hr⟩ := HD.out
                  obtain ⟨b', o', hp', hr2⟩ := hr (by rw [List.length_map, ← HNN.out.2.2.2]; exact hn0)
                  simp only [Value.slice.injEq] at hv'
                  refine ⟨b', o', hv'.1.trans hp', ?_⟩
                  rw [hx]
                  exact cell_getD hr2 (by rw [← HNN.out.2.2.2]; have := HNN.out.1; omega)
                have hcd2 : wr.cell? ⟨bd, od + D.toNat, none⟩ = some (.int .u8 (x.toNat : Int)) := by
                  rw [hDt, World.cell?_of_block (w := w) (HI.out.2.2.2.2.1.block bd (Go.block_lt_of_cell hcd) (HDF.out bd rfl))]
                  exact hcd
                obtain ⟨z, hz⟩ : ∃ z : Int, z = (x.toNat : Int) := ⟨_, rfl⟩
                rw [← hz] at hcd2
                have HZ := Lib.hid (And.intro hx (And.intro hz (And.intro hDt hAt)))
                have Q := Lib.hid (And.intro q1 q4)
                have HCD := Lib.hid hcd
                have HV := Lib.hid hv
                clear hx hz hDt hAt hcd q1 q4 hv
                have hmq : off + D < (m : Int) := by omega
                have hmq0 : 0 ≤ off + D := by omega
                go_upto_region 16 with fail
                refine vp_region (fun w' => w'.cell? ⟨rb, 0, none⟩ = some (.slice (some ⟨g, 0, none⟩) m c) ∧ w'.cell? ⟨bd, od + D.toNat, none⟩ = some (.int .u8 z)) [(0, true), (1, true), (2, true), (3, true), (4, true), (5, true), (6, true), (7, true), (8, true), (9, true), (10, false)] (by kernel_rfl) (by kernel_rfl) (by intro _ d _ _ _ h; cases d <;> exact h) ⟨c1, hcd2⟩ ?_
                intro w5 hw5
                simp only [pick, List.map_cons, List.map_nil, List.getD_cons_zero, List.getD_cons_succ]
                repeat
                  refine ord_free rfl (v := ?_) ?_ ?_
                  rotate_left
                  · intro w' hw'
                    obtain ⟨c0, c1⟩ := hw'
                    go_simp
                    with_reducible rfl
                  simp only [Act.put, List.setIfInBounds_toArray, List.set_cons_zero, List.set_cons_succ]
                subst hw5
                refine ord_eff ?_
                have f2 : wr.drew.frozen? ⟨g, (off + D).toNat, none⟩ = false := q2
                have f3 : wr.drew.cell? ⟨g, (off + D).toNat, none⟩ = some y := q3
                have HQ : RParts (wr.drew.setCell ⟨g, (off + D).toNat, none⟩ (.int .u8 z)) rb F3 Bv Tv (ts.set (at_ + d) x) th2 ∧ Keeps ([rb] ++ F3) wr (wr.drew.setCell ⟨g, (off + D).toNat, none⟩ (.int .u8 z)) := by
                  have h1 := Q.out.1
                  have h2 := Q.out.2
                  obtain ⟨_, e2, _, e4⟩ := HZ.out
                  have e5 : bv x = .int .u8 z := by rw [e2]; rfl
                  rw [e5] at h1 h2
                  rw [← e4]
                  exact ⟨h1, h2.os, h2.tape, h2.output, h2.size, h2.block⟩
                have HQ := Lib.hid HQ
                go_wp2_with fail
                refine ⟨⟨?_, ?_⟩, ?_⟩
                · have h1 : _ = _ := cell_of (j := 0) HQ.out.1.1 rfl
                  rw [HV.out] at h1
                  exact h1
                · refine (World.cell?_of_block (w := wr) (w' := wr.drew.setCell ⟨g, (off + D).toNat, none⟩ (.int .u8 z)) (a := ⟨bd, od + D.toNat, none⟩) (HQ.out.2.block bd (Go.block_lt_of_cell hcd2) ?_)).trans hcd2
                  have h1 := HDF.out bd rfl
                  simp only [List.cons_append, List.nil_append, List.mem_cons, not_or] at h1 ⊢
                  exact ⟨h1.2.1, grew_not HI.out.2.2.2.2.2 h1.2.2 (Go.block_lt_of_cell HCD.out)⟩
                · refine ord_nil ?_
                  go_wp2
                  go_roundg (g1 - 1)
                  case measure => have := HG1.out; omega
                  case rel =>
                    obtain ⟨p1, p2, p3, p4⟩ := HP.out
                    obtain ⟨e1, e2, e3, e4⟩ := HZ.out
                    obtain ⟨h1, h2, h3, h4, h5, h6⟩ := HI.out
                    obtain ⟨r2, r3, hu2, hfull⟩ := HM.out
                    have h8 := HOFF.out
                    have h9 := HD1.out
                    have hok := HBD.out.2.2.2.2
                    have hrsF : rs ∉ F3 := grew_not h6 HF.out.1 (lt_of_heap HS.out)
                    have hx : x = dat.getD d 0 := by
                      rw [e1, HNN.out.2.1]
                      simp only [List.getD_eq_getElem?_getD]
                      rw [List.getElem?_take, if_pos (by have := HNN.out.1; omega)]
                    refine ⟨D + 1, d + 1, u2, byteL l1 (at_ + d) x, F3, rfl, by push_cast; omega, hdN2, ?_, ?_, by have := HG1.out; omega, ?_, HQ.out.2.get h4 (by simp; exact ⟨HRB.out, hrsF⟩), h6, ⟨_, th2, ⟨Bv, Tv, HQ.out.1⟩, ?_, fun k => ?_, r3, ?_⟩, h5.trans' HQ.out.2 (fun x hx => ?_)⟩
                    · rw [hu2]; split <;> omega
                    · rw [hu2]; split
                      · exact hur
                      · rcases hfull with h | h
                        · contradiction
                        · omega
                    · rw [← HRS.out]
                      obtain ⟨f, hf⟩ : ∃ f, N - d = f + 1 := ⟨N - d - 1, by omega⟩
                      rw [hf, wrB, if_neg (by rw [HNN.out.2.2.1]; omega), ← HKI.out, ← hx, show N - (d + 1) = f by omega]
                      by_cases hs : (get l1 K).isSome = true
                      · rw [if_pos hs, hu2, if_pos hs]
                      · rw [if_neg hs, if_neg (by rcases hfull with h | h; exact absurd h hs; exact h), hu2, if_neg hs]
                    · rw [← szD_succ sz off d (at_ + d) (by push_cast; omega), byteL_bytes hok, HTS.out, HBS.out]
                      have h7 : bs0.length = (szD sz off d).toNat := by rw [HBS.out, length_bytesFrom]
                      have : i = at_ + d + 1 - (szD sz off d).toNat := by omega
                      rw [this]
                    · rw [r2 k, byteL_get, HKI.out]
                    · rw [← szD_succ sz off d (at_ + d) (by push_cast; omega)]
                      exact byteL_okB hok (by omega) x
                    · simp only [List.cons_append, List.nil_append, List.mem_cons] at hx ⊢
                      rcases hx with hx | hx
                      · exact Or.inl (Or.inr (Or.inl hx))
                      · exact (h6 _ hx).elim (fun q => Or.inl (Or.inr (Or.inr q))) Or.inr
        · go_wp2
          go_meet
          case rel =>
            obtain ⟨p1, p2, p3, p4⟩ := HP.out
            have hres := HRS.out
            have : N - d = 0 := by have := HNN.out.1; have := HD1.out; have := HOFF.out; omega
            rw [this] at hres
            exact ⟨D, d, u, l1, F1, rfl, HD1.out, hdN, hres.symm, p1, p2, p3, p4⟩
      · go_wp2
        go_meet
        case rel =>
          obtain ⟨p1, p2, p3, p4⟩ := HP.out
          have hres := HRS.out
          have : N - d = 0 := by have := HNN.out.1; have := HD1.out; omega
          rw [this] at hres
          exact ⟨D, d, u, l1, F1, rfl, HD1.out, hdN, hres.symm, p1, p2, p3, p4⟩
  case rest =>
    obtain ⟨D, d, u, l1, F1, rfl, hD1, hdN, hres, hs1, hg1, hb1, hk1⟩ := hcut
    subst hres
    have HP := Lib.hid (And.intro hs1 (And.intro hg1 (And.intro hb1 hk1)))
    have HD1 := Lib.hid hD1
    clear hs1 hg1 hb1 hk1
    by_cases hd0 : d = 0
    · subst hd0
      have hD0 : D = 0 := hD1
      subst hD0
      clear hD1
      go_wp2
      go_ret2
      obtain ⟨p1, p2, p3, p4⟩ := HP.out
      rw [HWR.out]
      exact ⟨rfl, p1, F1, p2, p3, p4⟩
    · have hD0 : (D == 0) = false := beq_eq_false_iff_ne.2 (by omega)
      clear hD1
      go_wp2
      go_ret2
      obtain ⟨p1, p2, p3, p4⟩ := HP.out
      rw [HWR.out]
      refine ⟨?_, p1, F1, p2, ?_, p4⟩
      · show _ = Ending.returned (.tuple #[.int .i64 d, .int .i64 (if d = 0 then 28 else 0)])
        rw [if_neg hd0, ← HD1.out]; rfl
      · show RB _ rb F1 (if d = 0 then sz else max sz (off + d)) l1
        exact p3
end Go.Proofs.Ythkeahjcokbaaaa
