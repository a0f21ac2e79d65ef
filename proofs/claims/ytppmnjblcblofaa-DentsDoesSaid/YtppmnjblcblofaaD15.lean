/-
  DentsNexts, walked.
-/
import Derived.Test.YtppmnjblcblofaaD14
namespace Go.V.Dents
open Go Go.V Go.V.Path
theorem next_head {l : List Ent} (h : Srt l) (t : List UInt8) : nextO l t = (l.filter (gt t)).head? := by
  unfold nextO nextP
  cases hh : has l t with
  | true => rw [← h.drop_has hh, List.head?_drop]; rfl
  | false => rw [← h.drop_none hh, List.head?_drop]; simp
theorem next_some {l : List Ent} (h : Srt l) {t : List UInt8} {x : Ent} (hn : nextO l t = some x) : x ∈ l ∧ gt t x = true ∧ ∀ y ∈ l, gt t y = true → Op.bytesLess y.name x.name = false := by
  rw [next_head h] at hn
  have hs := h.filter (gt t)
  obtain ⟨r, hr⟩ : ∃ r, l.filter (gt t) = x :: r := by
    cases hf : l.filter (gt t) with
    | nil => rw [hf] at hn; cases hn
    | cons y r => rw [hf] at hn; cases hn; exact ⟨r, rfl⟩
  have hx : x ∈ l.filter (gt t) := by rw [hr]; exact List.mem_cons_self
  refine ⟨(List.mem_filter.1 hx).1, (List.mem_filter.1 hx).2, fun y hy hg => ?_⟩
  have hy2 : y ∈ l.filter (gt t) := List.mem_filter.2 ⟨hy, hg⟩
  rw [hr] at hs hy2
  rcases List.mem_cons.1 hy2 with rfl | hy3
  · exact bl_self _
  · exact bl_asym ((List.pairwise_cons.1 hs).1 y hy3)
theorem next_none {l : List Ent} (h : Srt l) {t : List UInt8} (hn : nextO l t = none) : ∀ y ∈ l, gt t y = false := by
  rw [next_head h] at hn
  have hf : l.filter (gt t) = [] := by simpa using hn
  intro y hy
  rw [List.filter_eq_nil_iff] at hf
  simpa using hf y hy
theorem get_mem {l : List Ent} (h : Srt l) {x : Ent} (hx : x ∈ l) : getI l x.name = x.ino ∧ getE l x.name = 0 := by
  have hg := (getO_iff h).2 ⟨hx, rfl⟩
  exact ⟨by unfold getI; rw [hg], by unfold getE; rw [has_getO h, hg]; rfl⟩
end Go.V.Dents
namespace Go.Proofs.Ytppmnjblcblofaa
open Go.RowKit Go.V Go.V.Path Go.V.Dents
def entN : Option Ent → List UInt8
  | none => []
  | some x => x.name
def entI : Option Ent → Int
  | none => 0
  | some x => x.ino
theorem entV_eq (o : Option Ent) : entV o = .agg #[.string (bs (entN o)), .int .i64 (entI o)] := by cases o <;> rfl
set_option maxRecDepth 100000 in
set_option maxHeartbeats 16000000 in
theorem nexts_any (v : Value) (ac : List DAct) (t : List UInt8) (w : World) (hv : SG FA w v ac) : Calls Try.prog 7 #[v, .string (bs t)] w (BK true w) := by
  have HV := Lib.hid hv
  clear hv
  obtain ⟨p, c, hv0, _⟩ := id HV.out
  subst hv0
  go_enter Try.func7, Try.ntmps7
  go_upto_region 1 with fail
  go_wp2_with fail
  refine (awake_ok w).mono ?_
  rintro e w0 ⟨rfl, hk0⟩
  have K0 := Lib.hid hk0
  have HV0 := Lib.hid (HV.out.keep hk0 (by simp))
  clear hk0
  go_upto_region 3 with fail
  go_wp2_with fail
  refine (play_ok _ ac w0 HV0.out).mono ?_
  rintro e w1 ⟨db, v1, rfl, hd⟩
  obtain ⟨hs, hl⟩ := play_srt ac
  obtain ⟨l, hpl⟩ : ∃ l, l = playL ac := ⟨_, rfl⟩
  rw [← hpl] at hd hs hl
  obtain ⟨O, hO⟩ : ∃ O, O = nextO l t := ⟨_, rfl⟩
  have HD := Lib.hid (And.intro hd (And.intro hs (And.intro hl hO)))
  clear hpl hd hs hl hO
  unfold PT
  go_upto_region 4 with fail
  go_wp2_with fail
  refine (dnext_ok db v1 l t w1 HD.out.1.2.2.1 HD.out.2.1 (by have := HD.out.2.2.1; omega)).mono ?_
  rw [← HD.out.2.2.2]
  rintro e w2 ⟨rfl, hk2⟩
  rw [entV_eq]
  obtain ⟨nm, hnm⟩ : ∃ nm, nm = entN O := ⟨_, rfl⟩
  obtain ⟨ni, hni⟩ : ∃ ni, ni = entI O := ⟨_, rfl⟩
  obtain ⟨is, his⟩ : ∃ is, is = O.isSome := ⟨_, rfl⟩
  rw [← hnm, ← hni, ← his]
  obtain ⟨w3, nb, hw3, hnb, hb3, hk3⟩ : ∃ w3 nb, w3 = w2.alloc (.cells #[.string (bs nm), .int .i64 ni] 37) ∧ nb = w2.heap.size ∧ w3.heap[nb]? = some (.cells #[.string (bs nm), .int .i64 ni] 37 (0, 0)) ∧ Keeps [] w2 w3 := ⟨_, _, rfl, rfl, heap_alloc w2 _, (Keeps.refl _ _).alloc _⟩
  have D3 := Lib.hid (HD.out.1.keep (hk2.trans hk3))
  have B3 := Lib.hid hb3
  have HO := Lib.hid (And.intro hnm (And.intro hni his))
  clear hb3 hk2 hk3 hnm hni his
  go_upto_region 5 with fail
  rw [← hw3, ← hnb]
  clear hw3 hnb
  go_wp2_with fail
  refine (dall_ok db v1 l w3 D3.out.2.2.1 (by have := HD.out.2.2.1; omega)).mono ?_
  rintro e w4 ⟨va, rfl, hm⟩
  obtain ⟨pa, Ma, ca, rfl, hMa⟩ := ent_shape hm.1
  have D4 := Lib.hid (D3.out.keep hm.2.2)
  have B4 := Lib.hid (hm.2.2.get B3.out (by simp))
  have HM := Lib.hid (And.intro hm.1.sg hMa)
  have hMb : Ma ≤ 100 := by rw [hMa]; exact HD.out.2.2.1
  clear hm hMa D3 B3
  go_upto_block 0 with fail
  go_cut [] (fun wx => Keeps [] w4 wx)
  case first =>
    go_wp2_with fail
    go_loopg [26] Ma (fun m vi wx => ∃ i : Nat, vi = .int .i64 i ∧ i + m = Ma ∧ Keeps [] w4 wx)
    case atStart => exact ⟨0, rfl, by omega, Keeps.refl _ _⟩
    case round =>
      obtain ⟨i, rfl, hi, hk⟩ := hrel
      have HI := Lib.hid (And.intro hi hk)
      clear hi hk
      by_cases hlt : i < Ma
      · have hii : (i : Int) < (Ma : Int) := by omega
        obtain ⟨y, hy⟩ : ∃ y, l[i]? = some y := ⟨_, List.getElem?_eq_getElem (by rw [← HM.out.2]; exact hlt)⟩
        obtain ⟨g, o, rfl, _⟩ := sg_ent HM.out.1 hy
        have hall : ∀ w', Keeps [] w4 w' → w'.cell? ⟨g, o + i * 2, none⟩ = some (.string (bs y.name)) ∧ w'.cell? ⟨nb, 0, none⟩ = some (.string (bs nm)) := fun w' hk => by
          obtain ⟨g', o', e1, a1, _⟩ := sg_ent (HM.out.1.keep hk (by simp)) hy
          simp only [Option.some.injEq, Addr.mk.injEq] at e1
          obtain ⟨rfl, rfl, _⟩ := e1
          exact ⟨a1, cell_of (hk.get B4.out (by simp)) rfl⟩
        have HALL := Lib.hid hall
        have hym := List.mem_of_getElem? hy
        obtain ⟨G, hG⟩ : ∃ G, G = gt t y := ⟨_, rfl⟩
        have hG1 : Op.bytesLess (bs t).data.toList (bs y.name).data.toList = G := by rw [bs_dataL, bs_dataL, hG]; rfl
        have hcase : G = false ∨ (G = true ∧ is = true ∧ Op.bytesLess (bs y.name).data.toList (bs nm).data.toList = false) := by
          cases hGv : G with
          | false => exact Or.inl rfl
          | true =>
            right
            rw [hGv] at hG
            cases hOv : O with
            | none =>
              have h1 := HD.out.2.2.2
              rw [hOv] at h1
              have := next_none HD.out.2.1 h1.symm y hym
              rw [← hG] at this; cases this
            | some x =>
              have h1 := HD.out.2.2.2
              rw [hOv] at h1
              refine ⟨rfl, by rw [HO.out.2.2, hOv]; rfl, ?_⟩
              rw [bs_dataL, bs_dataL, HO.out.1, hOv]
              exact (next_some HD.out.2.1 h1.symm).2.2 y hym hG.symm
        have HG1 := Lib.hid hG1
        clear hall hy hym hG1 hG
        go_upto_region 9 with fail
        refine vp_region_tree (fun w' => Keeps [] w4 w') (.take 0 (.take 1 (.take 2 (.take 3 (.take 4 (.take 5 (.one 6 (.take 7 (.take 8 (.take 9 (.take 10 (.take 11 (.take 12 (.take 13 (.take 14 (.take 15 (.take 16 (.take 17 (.one 18 (.take 19 (.take 20 .nil))))))))))))))))))))) (by kernel_rfl) (by kernel_rfl) (by intro _ d _ _ _ h; cases d <;> exact h) (HI.out.2.drew) ?_
        intro w5 hw5
        simp only [Tr.pick, List.getD_cons_zero, List.getD_cons_succ]
        have hk5 : Keeps [] w4 w5 := by rw [hw5]; exact HI.out.2.drew
        have K5 := Lib.hid hk5
        clear hw5 hk5
        repeat
          first
            | (refine tr_free rfl (v := ?_) ?_ ?_
               rotate_left
               · intro w' hw'
                 obtain ⟨x0, x1⟩ := HALL.out w' hw'
                 go_simp
                 first | done | with_reducible rfl
               simp only [Act.put, List.setIfInBounds_toArray, List.set_cons_zero, List.set_cons_succ])
            | (refine tr_free_g (by first | rfl | decide) (v := ?_) ?_ ?_
               rotate_left
               · intro w' hw'
                 obtain ⟨x0, x1⟩ := HALL.out w' hw'
                 go_simp
                 first | done | with_reducible rfl
               simp only [Act.put, List.setIfInBounds_toArray, List.set_cons_zero, List.set_cons_succ])
            | (refine tr_skip (by first | rfl | decide) ?_
               simp only [Act.put, List.setIfInBounds_toArray, List.set_cons_zero, List.set_cons_succ])
        refine tr_one ?_
        go_wp2_with fail
        rename_i KK hKK
        refine (less_ok (bs t) (bs y.name) w5).mono ?_
        rw [HG1.out]
        rintro e w6 ⟨rfl, hw6⟩
        subst hw6
        refine hKK _ _ ?_
        clear hKK
        refine tr_next K5.out ?_
        rcases hcase with rfl | ⟨rfl, rfl, hle⟩
        · have hG0 : True := trivial
          clear hG0
          repeat
            first
              | (refine tr_free rfl (v := ?_) ?_ ?_
                 rotate_left
                 · intro w' hw'
                   obtain ⟨x0, x1⟩ := HALL.out w' hw'
                   go_simp
                   first | done | with_reducible rfl
                 simp only [Act.put, List.setIfInBounds_toArray, List.set_cons_zero, List.set_cons_succ])
              | (refine tr_free_g (by first | rfl | decide) (v := ?_) ?_ ?_
                 rotate_left
                 · intro w' hw'
                   obtain ⟨x0, x1⟩ := HALL.out w' hw'
                   go_simp
                   first | done | with_reducible rfl
                 simp only [Act.put, List.setIfInBounds_toArray, List.set_cons_zero, List.set_cons_succ])
              | (refine tr_skip (by first | rfl | decide) ?_
                 simp only [Act.put, List.setIfInBounds_toArray, List.set_cons_zero, List.set_cons_succ])
          refine tr_one ?_
          go_wp2_with fail
          refine ⟨K5.out, ?_⟩
          repeat
            first
              | (refine tr_free rfl (v := ?_) ?_ ?_
                 rotate_left
                 · intro w' hw'
                   skip
                   go_simp
                   first | done | with_reducible rfl
                 simp only [Act.put, List.setIfInBounds_toArray, List.set_cons_zero, List.set_cons_succ])
              | (refine tr_free_g (by first | rfl | decide) (v := ?_) ?_ ?_
                 rotate_left
                 · intro w' hw'
                   skip
                   go_simp
                   first | done | with_reducible rfl
                 simp only [Act.put, List.setIfInBounds_toArray, List.set_cons_zero, List.set_cons_succ])
              | (refine tr_skip (by first | rfl | decide) ?_
                 simp only [Act.put, List.setIfInBounds_toArray, List.set_cons_zero, List.set_cons_succ])
          refine tr_nil ?_
          go_wp2
          go_roundg (gk - 1)
          case measure => have := HI.out.1; omega
          case rel => exact ⟨i + 1, by push_cast; rfl, by have := HI.out.1; omega, K5.out⟩
        · have HLE := Lib.hid hle
          clear hle
          repeat
            first
              | (refine tr_free rfl (v := ?_) ?_ ?_
                 rotate_left
                 · intro w' hw'
                   obtain ⟨x0, x1⟩ := HALL.out w' hw'
                   go_simp
                   first | done | with_reducible rfl
                 simp only [Act.put, List.setIfInBounds_toArray, List.set_cons_zero, List.set_cons_succ])
              | (refine tr_free_g (by first | rfl | decide) (v := ?_) ?_ ?_
                 rotate_left
                 · intro w' hw'
                   obtain ⟨x0, x1⟩ := HALL.out w' hw'
                   go_simp
                   first | done | with_reducible rfl
                 simp only [Act.put, List.setIfInBounds_toArray, List.set_cons_zero, List.set_cons_succ])
              | (refine tr_skip (by first | rfl | decide) ?_
                 simp only [Act.put, List.setIfInBounds_toArray, List.set_cons_zero, List.set_cons_succ])
          refine tr_one ?_
          go_wp2_with fail
          rename_i KK hKK
          refine (less_ok (bs y.name) (bs nm) w6).mono ?_
          rw [HLE.out]
          rintro e w7 ⟨rfl, hw7⟩
          subst hw7
          refine hKK _ _ ?_
          clear hKK
          refine tr_next K5.out ?_
          repeat
            first
              | (refine tr_free rfl (v := ?_) ?_ ?_
                 rotate_left
                 · intro w' hw'
                   skip
                   go_simp
                   first | done | with_reducible rfl
                 simp only [Act.put, List.setIfInBounds_toArray, List.set_cons_zero, List.set_cons_succ])
              | (refine tr_free_g (by first | rfl | decide) (v := ?_) ?_ ?_
                 rotate_left
                 · intro w' hw'
                   skip
                   go_simp
                   first | done | with_reducible rfl
                 simp only [Act.put, List.setIfInBounds_toArray, List.set_cons_zero, List.set_cons_succ])
              | (refine tr_skip (by first | rfl | decide) ?_
                 simp only [Act.put, List.setIfInBounds_toArray, List.set_cons_zero, List.set_cons_succ])
          refine tr_nil ?_
          go_wp2
          go_roundg (gk - 1)
          case measure => have := HI.out.1; omega
          case rel => exact ⟨i + 1, by push_cast; rfl, by have := HI.out.1; omega, K5.out⟩
      · have hii : ¬ (i : Int) < (Ma : Int) := by omega
        go_wp2
        go_meet
        case rel => exact HI.out.2
  case rest =>
    have D5 := Lib.hid (D4.out.keep hcut)
    have hb5 := hcut.get B4.out (by simp)
    have n0 : wc.cell? ⟨nb, 0, none⟩ = some (.string (bs nm)) := cell_of hb5 rfl
    have n1 : wc.cell? ⟨nb, 1, none⟩ = some (.int .i64 ni) := cell_of hb5 rfl
    have HB5 := Lib.hid hb5
    have K5 := Lib.hid (K0.out.trans D5.out.2.2.2.2)
    clear hcut hb5 D4 B4
    cases hOv : O with
    | none =>
      obtain rfl : nm = [] := by rw [HO.out.1, hOv]; rfl
      obtain rfl : ni = 0 := by rw [HO.out.2.1, hOv]; rfl
      obtain rfl : is = false := by rw [HO.out.2.2, hOv]; rfl
      have hg := guard37
      have heq : ∀ W, (Op.equalIn 10000 37 (.agg #[.string (bs []), .int .i64 0]) (.agg #[.string ⟨#[]⟩, .int .i64 0])).run Try.prog W = .ok true W := fun W => by
        rw [ent_eq]
        show Result.ok ((bs []).toList == (bs []).toList && (0 : Int) == 0) W = _
        simp
      clear hOv
      go_wp2
      (try simp only [Exit.inBlock, Exit.then])
      go_ret
      exact ⟨rfl, K5.out⟩
    | some x =>
      obtain rfl : nm = x.name := by rw [HO.out.1, hOv]; rfl
      obtain rfl : ni = x.ino := by rw [HO.out.2.1, hOv]; rfl
      obtain rfl : is = true := by rw [HO.out.2.2, hOv]; rfl
      have h1 := HD.out.2.2.2
      rw [hOv] at h1
      obtain ⟨hx1, hx2, _⟩ := next_some HD.out.2.1 h1.symm
      obtain ⟨q1, q2⟩ := get_mem HD.out.2.1 hx1
      have HQ := Lib.hid (And.intro q1 (And.intro q2 hx2))
      clear hOv h1 hx1 hx2 q1 q2
      go_wp2_with fail
      refine (dget_ok db v1 l x.name wc D5.out.2.2.1 HD.out.2.1 (by have := HD.out.2.2.1; omega)).mono ?_
      rw [HQ.out.1, HQ.out.2.1]
      rintro e w6 ⟨rfl, hk6⟩
      have hb6 := hk6.get HB5.out (by simp)
      have m0 : w6.cell? ⟨nb, 0, none⟩ = some (.string (bs x.name)) := cell_of hb6 rfl
      have m1 : w6.cell? ⟨nb, 1, none⟩ = some (.int .i64 x.ino) := cell_of hb6 rfl
      have K6 := Lib.hid (K5.out.trans hk6)
      clear hk6 hb6 n0 n1
      go_wp2_with fail
      refine (less_ok (bs t) (bs x.name) w6).mono ?_
      rw [bs_dataL, bs_dataL, show Op.bytesLess t x.name = true from HQ.out.2.2]
      rintro e w7 ⟨rfl, hw7⟩
      subst hw7
      have hii : (x.ino == x.ino) = true := by simp
      go_wp2
      (try simp only [Exit.inBlock, Exit.then])
      go_ret
      exact ⟨rfl, K6.out⟩
theorem nexts_row (v : Value) (ac : List DAct) (s : ByteArray) (w : World) (hv : SG FA w v ac) : Calls Try.prog 7 #[v, .string s] w (BK true w) := by
  rw [← bs_data s]
  exact nexts_any v ac s.data.toList w hv
end Go.Proofs.Ytppmnjblcblofaa
