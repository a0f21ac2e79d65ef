/-
  DentsTurned, walked.
-/
import Derived.Test.YtppmnjblcblofaaD18
namespace Go.Proofs.Ytppmnjblcblofaa
open Go.RowKit Go.V Go.V.Path Go.V.Dents
set_option maxRecDepth 100000 in
set_option maxHeartbeats 16000000 in
theorem turned_any (v : Value) (ns : List (List UInt8)) (w : World) (hv : SG FB w v ns) : Calls Try.prog 5 #[v] w (BK true w) := by
  obtain ⟨p, c, hv0, hc, hm, _⟩ := id hv
  obtain ⟨N, hN⟩ : ∃ N, N = ns.length := ⟨_, rfl⟩
  rw [← hN] at hv0 hc
  obtain ⟨K, hK⟩ : ∃ K, K = min N 100 := ⟨_, rfl⟩
  have hKN : K ≤ N := by omega
  have hK1 : K ≤ 100 := by omega
  have HV := Lib.hid (And.intro hv (And.intro hN hK))
  have hmin : min (N : Int) 100 = (K : Int) := by omega
  subst hv0
  clear hv hN hK
  go_enter Try.func5, Try.ntmps5
  go_upto_region 1 with fail
  go_wp2_with fail
  refine (awake_ok w).mono ?_
  rintro e w0 ⟨rfl, hk0⟩
  have K0 := Lib.hid hk0
  clear hk0
  go_upto_region 3 with fail
  go_wp2_with fail
  refine (dnew_ok w0).mono ?_
  rintro e w1 ⟨a, rfl, ha, hd0, hk1⟩
  have DA : Hid (DI w a (.slice none 0 0) [] w1) := Lib.hid ⟨Nat.le_trans K0.out.size ha, (fun g hg => by cases hg), hd0, Srt.nil, K0.out.trans hk1⟩
  clear hd0 hk1
  unfold PT
  go_wp2_with fail
  refine (dnew_ok w1).mono ?_
  rintro e w2 ⟨b, rfl, hb, hd0, hk2⟩
  have hab : a ≠ b := by have := DA.out.2.2.1.1; have := (Array.getElem?_eq_some_iff.1 this).1; omega
  have TW : Hid (Two w a b (.slice none 0 0) (.slice none 0 0) [] [] w2) := Lib.hid ⟨DA.out.keep hk2, ⟨Nat.le_trans DA.out.2.2.2.2.size hb, (fun g hg => by cases hg), hd0, Srt.nil, DA.out.2.2.2.2.trans hk2⟩, hab, fun g hg => by cases hg⟩
  have ha2 : a < w2.heap.size := (Array.getElem?_eq_some_iff.1 TW.out.ea.2.2.1.1).1
  have HAB := Lib.hid (And.intro hab ha2)
  clear hd0 hk2 ha hb hab ha2 DA
  unfold PT
  obtain ⟨w3, mb, hw3, hmb, hsm, hk3⟩ : ∃ w3 mb, w3 = w2.alloc (.map #[] 0) ∧ mb = w2.heap.size ∧ SM w3 mb (fun _ => false) ∧ Keeps [] w2 w3 := ⟨_, _, rfl, rfl, SM.made w2, (Keeps.refl _ _).alloc _⟩
  have S3 := Lib.hid (And.intro hsm hk3)
  clear hsm hk3
  have hmm := @run_makeMap Try.prog
  go_upto_block 0 with fail
  rw [← hw3, ← hmb]
  have HMB := Lib.hid hmb
  clear hw3 hmb
  go_cut [] (fun wx => Keeps [] w2 wx ∧ (ns.take K).Nodup)
  case first =>
    go_wp2_with fail
    go_loopg [7] K (fun m vi wx => ∃ i : Nat, vi = .int .i64 i ∧ i + m = K ∧ Keeps [] w2 wx ∧ SM wx mb (fun t => decide (t ∈ ns.take i)) ∧ (ns.take i).Nodup)
    case atStart => exact ⟨0, rfl, by omega, S3.out.2, S3.out.1, List.nodup_nil⟩
    case round =>
      obtain ⟨i, rfl, hi, hk, hsm, hnd⟩ := hrel
      have HI := Lib.hid (And.intro hi (And.intro hk (And.intro hsm hnd)))
      clear hi hk hsm hnd
      by_cases hlt : i < K
      · have hii : (i : Int) < (K : Int) := by omega
        have hiN : i < N := by omega
        obtain ⟨x, hx⟩ : ∃ x, ns[i]? = some x := ⟨_, List.getElem?_eq_getElem (by rw [← HV.out.2.1]; exact hiN)⟩
        obtain ⟨pb, po, rfl, hcells⟩ := sg_txt HV.out.1 hx
        have x0 := hcells wr (TW.out.ea.2.2.2.2.trans HI.out.2.1)
        have lk := sm_look HI.out.2.2.1 x
        have HX := Lib.hid hx
        clear hcells hx
        by_cases hs : x ∈ ns.take i
        · rw [decide_eq_true hs] at lk
          clear hs
          go_wp2
          (try simp only [Exit.inBlock, Exit.then])
          go_ret
          exact ⟨rfl, TW.out.ea.2.2.2.2.trans HI.out.2.1⟩
        · rw [decide_eq_false hs] at lk
          have HS := Lib.hid hs
          clear hs
          go_wp2_with (first | (refine vp_sm rfl (.tmp 28) (.tmp 32) (.const (.bool true)) rfl rfl x rfl true rfl HI.out.2.2.1 ?_; intro w5 s1 s2; have HS5 := Lib.hid (And.intro s1 s2); clear s1 s2 lk) | fail)
          go_roundg (gk - 1)
          case measure => have := HI.out.1; omega
          case rel => exact ⟨i + 1, by push_cast; rfl, by have := HI.out.1; omega, HI.out.2.1.trans' HS5.out.2 (fun z hz => Or.inr (by obtain rfl := List.mem_singleton.1 hz; rw [HMB.out]; exact Nat.le_refl _)), by
            refine (congrArg (SM w5 mb) (funext fun t => ?_)).mp HS5.out.1
            rw [List.take_add_one, HX.out]
            by_cases e : x = t
            · subst e; simp
            · rw [if_neg e]; simp only [Option.toList_some, List.mem_append, List.mem_singleton, show (t = x) = False from eq_false (fun q => e q.symm), or_false], by
            rw [List.take_add_one, HX.out]
            refine List.nodup_append.2 ⟨HI.out.2.2.2, by simp, fun u hu y hy => ?_⟩
            obtain rfl : y = x := by simpa using hy
            rintro rfl
            exact HS.out hu⟩
      · have hii : ¬ (i : Int) < (K : Int) := by omega
        have hiK : i = K := by have := HI.out.1; omega
        have HK := Lib.hid hiK
        clear hiK
        go_wp2
        go_meet
        case rel => exact ⟨HI.out.2.1, by have := HI.out.2.2.2; rw [HK.out] at this; exact this⟩
  case rest =>
    obtain ⟨w5, hw5⟩ : ∃ x, x = wc := ⟨_, rfl⟩
    subst hw5
    obtain ⟨hk5, hnd⟩ := hcut
    obtain ⟨nm, hnm⟩ : ∃ nm : Nat → List UInt8, nm = fun i => ns.getD i [] := ⟨_, rfl⟩
    have hget : ∀ i x, ns[i]? = some x → nm i = x := fun i x hx => by rw [hnm]; show ns.getD i [] = x; rw [List.getD_eq_getElem?_getD, hx]; rfl
    have hinj : ∀ i j, i < K → j < K → nm i = nm j → i = j := fun i j hi hj he => by
      have hl : K ≤ ns.length := by rw [← HV.out.2.1]; exact hKN
      have hxi : ns[i]? = some (ns[i]'(by omega)) := List.getElem?_eq_getElem _
      have hxj : ns[j]? = some (ns[j]'(by omega)) := List.getElem?_eq_getElem _
      refine (List.getElem?_inj (l := ns.take K) (i := i) (j := j) (by rw [List.length_take]; omega) hnd).1 ?_
      rw [List.getElem?_take_of_lt hi, List.getElem?_take_of_lt hj, hxi, hxj, ← hget i _ hxi, ← hget j _ hxj, he]
    have HP := Lib.hid (And.intro hget hinj)
    have T5 := Lib.hid (TW.out.keep hk5)
    clear hk5 hnd hnm hget hinj TW
    go_upto_block 2 with fail
    go_cut [] (fun wx => ∃ va vb, Two w a b va vb (LA nm K) (LB nm K K) wx)
    case first =>
      go_wp2_with fail
      go_loopg [8] K (fun m vi wx => ∃ (i : Nat) (va vb : Value), vi = .int .i64 i ∧ i + m = K ∧ Two w a b va vb (LA nm i) (LB nm K i) wx)
      case atStart => exact ⟨0, _, _, rfl, by omega, T5.out⟩
      case round =>
        obtain ⟨i, va, vb, rfl, hi, htw⟩ := hrel
        have HI := Lib.hid (And.intro hi htw)
        clear hi htw
        by_cases hlt : i < K
        · have hii : (i : Int) < (K : Int) := by omega
          have hiN : i < N := by omega
          obtain ⟨x, hx⟩ : ∃ x, ns[i]? = some x := ⟨_, List.getElem?_eq_getElem (by rw [← HV.out.2.1]; exact hiN)⟩
          obtain ⟨q, hq⟩ : ∃ q, q = K - 1 - i := ⟨_, rfl⟩
          have hqN : q < N := by omega
          have hqi : (K : Int) - 1 - (i : Int) = (q : Int) := by omega
          obtain ⟨y, hy⟩ : ∃ y, ns[q]? = some y := ⟨_, List.getElem?_eq_getElem (by rw [← HV.out.2.1]; exact hqN)⟩
          obtain ⟨pb, po, rfl, hcx⟩ := sg_txt HV.out.1 hx
          obtain ⟨pb', po', e1, hcy⟩ := sg_txt HV.out.1 hy
          simp only [Option.some.injEq, Addr.mk.injEq, and_true] at e1
          obtain ⟨rfl, rfl⟩ := e1
          have x0 := hcx wr HI.out.2.ea.2.2.2.2
          have hA : LA nm (i + 1) = setL (LA nm i) x ((i : Int) + 1) := by show setL (LA nm i) (nm i) _ = _; rw [HP.out.1 i x hx]
          have hB : LB nm K (i + 1) = setL (LB nm K i) y ((K : Int) - i) := by show setL (LB nm K i) (nm (K - 1 - i)) _ = _; rw [← hq, HP.out.1 q y hy]
          have HAB2 := Lib.hid (And.intro hA hB)
          have HCY := Lib.hid hcy
          have HQ := Lib.hid hq
          clear hA hB hcx hcy hx hy hq
          go_wp2_with fail
          refine (dset_ok a va (LA nm i) x ((i : Int) + 1) wr HI.out.2.ea.2.2.1 (la_srt nm i).1 (by have := (la_srt nm i).2; omega)).mono ?_
          rintro e w6 ⟨rfl, hch⟩
          rw [← HAB2.out.1] at hch
          obtain ⟨va', h6⟩ := HI.out.2.chg (la_srt nm (i + 1)).1 hch
          have T6 := Lib.hid h6
          have y0 := HCY.out w6 h6.ea.2.2.2.2
          clear hch h6 x0
          go_wp2_with fail
          refine (dset_ok b vb (LB nm K i) y ((K : Int) - i) w6 T6.out.eb.2.2.1 (lb_srt nm K i).1 (by have := (lb_srt nm K i).2; omega)).mono ?_
          rintro e w7 ⟨rfl, hch⟩
          rw [← HAB2.out.2] at hch
          obtain ⟨vb', h7⟩ := T6.out.swap.chg (lb_srt nm K (i + 1)).1 hch
          have T7 := Lib.hid h7.swap
          clear hch h7 y0
          go_wp2
          go_roundg (gk - 1)
          case measure => have := HI.out.1; omega
          case rel => exact ⟨i + 1, va', vb', by push_cast; rfl, by have := HI.out.1; omega, T7.out⟩
        · have hii : ¬ (i : Int) < (K : Int) := by omega
          have hiK : i = K := by have := HI.out.1; omega
          have HK := Lib.hid hiK
          clear hiK
          go_wp2
          go_meet
          case rel => exact ⟨va, vb, by have := HI.out.2; rw [HK.out] at this; exact this⟩
    case rest =>
      obtain ⟨w6, hw6⟩ : ∃ x, x = wc := ⟨_, rfl⟩
      subst hw6
      obtain ⟨va, vb, h6⟩ := hcut
      rw [la_lb HP.out.2] at h6
      obtain ⟨l, hl⟩ : ∃ l, l = LA nm K := ⟨_, rfl⟩
      have hls : Srt l ∧ l.length ≤ 100 := by rw [hl]; exact ⟨(la_srt nm K).1, Nat.le_trans (la_srt nm K).2 hK1⟩
      rw [← hl] at h6
      have T6 := Lib.hid (And.intro h6 hls)
      clear h6 hl hls
      go_wp2_with fail
      refine (dall_ok a va l _ T6.out.1.ea.2.2.1 (by have := T6.out.2.2; omega)).mono ?_
      rintro e w7 ⟨v7, rfl, hm7⟩
      have M7 := Lib.hid hm7.1.sg
      have T7 := Lib.hid (T6.out.1.keep hm7.2.2)
      clear hm7
      go_wp2_with fail
      refine (dall_ok b vb l w7 T7.out.eb.2.2.1 (by have := T6.out.2.2; omega)).mono ?_
      rintro e w8 ⟨v8, rfl, hm8⟩
      have M8 := Lib.hid hm8.1.sg
      have N8 := Lib.hid (M7.out.keep hm8.2.2 (by simp))
      have T8 := Lib.hid (T7.out.keep hm8.2.2)
      clear hm8
      go_wp2_with fail
      refine (same_ok _ _ l l w8 N8.out M8.out).mono ?_
      rw [show sameE l l = true by unfold sameE; simp]
      rintro e w9 ⟨rfl, hk9⟩
      have T9 := Lib.hid (T8.out.keep hk9)
      clear hk9
      go_wp2_with fail
      refine (dlen_ok a va l w9 T9.out.ea.2.2.1).mono ?_
      rintro e w10 ⟨rfl, hk10⟩
      have T10 := Lib.hid (T9.out.keep hk10)
      clear hk10
      go_wp2_with fail
      refine (dlen_ok b vb l w10 T10.out.eb.2.2.1).mono ?_
      rintro e w11 ⟨rfl, hk11⟩
      have T11 := Lib.hid (T10.out.keep hk11)
      have hee : ((l.length : Int) == (l.length : Int)) = true := by simp
      clear hk11
      go_wp2
      (try simp only [Exit.inBlock, Exit.then])
      go_ret
      exact ⟨rfl, T11.out.ea.2.2.2.2⟩
end Go.Proofs.Ytppmnjblcblofaa
