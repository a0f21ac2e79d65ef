/-
  The reference of package dents: Set, Del, walked.
-/
import Derived.Test.YtppmnjblcblofaaD20
namespace Go.V.Dents
open Go Go.V Go.V.Path
/-- the row that the reference's Set makes -/
def accP (t : List UInt8) (new : Ent) (m : List Ent) : List Ent := if m.all (lt t) = true then m else m.filter (lt t) ++ new :: m.filter (gt t)
def midP (t : List UInt8) (new : Ent) (m : List Ent) (x : Ent) : List Ent := if m.all (lt t) = true ∧ lt t x = false then accP t new m ++ [new] else accP t new m
theorem filter_all {m : List Ent} {t : List UInt8} (h : m.all (lt t) = true) : m.filter (lt t) = m ∧ m.filter (gt t) = [] := by
  rw [List.all_eq_true] at h
  exact ⟨List.filter_eq_self.2 h, List.filter_eq_nil_iff.2 (fun y hy => by rw [lt_gt (h y hy)]; exact Bool.false_ne_true)⟩
theorem len_acc (t : List UInt8) (new : Ent) (m : List Ent) : (accP t new m).length ≤ m.length + 1 := by
  unfold accP
  split
  · omega
  · rename_i h
    have h1 : (m.filter (lt t)).length + (m.filter (gt t)).length ≤ m.length := by
      clear h
      induction m with
      | nil => simp
      | cons y m ih =>
        cases hl : lt t y with
        | true => rw [List.filter_cons_of_pos hl, List.filter_cons_of_neg (by rw [lt_gt hl]; exact Bool.false_ne_true)]; simp only [List.length_cons]; omega
        | false =>
          rw [List.filter_cons_of_neg (by rw [hl]; exact Bool.false_ne_true)]
          have := List.length_filter_le (gt t) (y :: m)
          cases hg : gt t y with
          | true => rw [List.filter_cons_of_pos hg]; simp only [List.length_cons]; omega
          | false => rw [List.filter_cons_of_neg (by rw [hg]; exact Bool.false_ne_true)]; simp only [List.length_cons]; omega
    simp only [List.length_append, List.length_cons]
    omega
theorem all_snoc (m : List Ent) (x : Ent) (t : List UInt8) : (m ++ [x]).all (lt t) = (m.all (lt t) && lt t x) := by
  rw [List.all_append]; simp
theorem past {l : List Ent} (h : Srt l) {t : List UInt8} {i : Nat} {x : Ent} (hx : l[i]? = some x) (hn : (l.take i).all (lt t) = false) : gt t x = true := by
  obtain ⟨y, hy, hyl⟩ := List.all_eq_false.1 hn
  have hyl : lt t y = false := by simpa using hyl
  obtain ⟨j, hj⟩ := List.mem_iff_getElem?.1 hy
  have hji : j < i := by
    have := (List.getElem?_eq_some_iff.1 hj).1
    rw [List.length_take] at this
    omega
  rw [List.getElem?_take_of_lt hji] at hj
  have hyx := h.get hj hx hji
  rcases three t x with q | q | q
  · have := bl_trans _ _ _ hyx q
    unfold lt at hyl
    rw [hyl] at this; cases this
  · rw [q] at hyx
    unfold lt at hyl
    rw [hyl] at hyx; cases hyx
  · exact q
theorem acc_step {l : List Ent} (h : Srt l) {t : List UInt8} (new : Ent) {i : Nat} {x : Ent} (hx : l[i]? = some x) :
    accP t new (l.take (i + 1)) = if x.name = t then midP t new (l.take i) x else midP t new (l.take i) x ++ [x] := by
  rw [show l.take (i + 1) = l.take i ++ [x] from by rw [List.take_add_one, hx]; rfl]
  obtain ⟨m, hm⟩ : ∃ m, m = l.take i := ⟨_, rfl⟩
  have hp : m.all (lt t) = false → gt t x = true := by rw [hm]; exact past h hx
  rw [← hm]
  cases ha : m.all (lt t) with
  | true =>
    obtain ⟨f1, f2⟩ := filter_all ha
    have hacc : accP t new m = m := by unfold accP; rw [if_pos ha]
    rcases three t x with q | q | q
    · have hne : x.name ≠ t := fun e => by rw [lt_of_eq e] at q; cases q
      rw [if_neg hne]
      unfold midP
      rw [if_neg (by rw [q]; simp), hacc]
      unfold accP
      rw [if_pos (by rw [all_snoc, ha, q]; rfl)]
    · have hl := lt_of_eq q
      rw [if_pos q]
      unfold midP
      rw [if_pos ⟨ha, hl⟩, hacc]
      unfold accP
      rw [if_neg (by rw [all_snoc, hl]; simp), List.filter_append, List.filter_append, f1, f2, List.filter_cons_of_neg (by rw [hl]; exact Bool.false_ne_true), List.filter_cons_of_neg (by rw [gt_of_eq q]; exact Bool.false_ne_true)]
      simp
    · have hl := gt_lt q
      have hne : x.name ≠ t := fun e => by rw [gt_of_eq e] at q; cases q
      rw [if_neg hne]
      unfold midP
      rw [if_pos ⟨ha, hl⟩, hacc]
      unfold accP
      rw [if_neg (by rw [all_snoc, hl]; simp), List.filter_append, List.filter_append, f1, f2, List.filter_cons_of_neg (by rw [hl]; exact Bool.false_ne_true), List.filter_cons_of_pos q]
      simp
  | false =>
    have q := hp ha
    have hl := gt_lt q
    have hne : x.name ≠ t := fun e => by rw [gt_of_eq e] at q; cases q
    rw [if_neg hne]
    unfold midP
    rw [if_neg (by rw [ha]; simp)]
    unfold accP
    rw [if_neg (by rw [all_snoc, ha]; simp), if_neg (by rw [ha]; simp), List.filter_append, List.filter_append, List.filter_cons_of_neg (by rw [hl]; exact Bool.false_ne_true), List.filter_cons_of_pos q]
    simp
theorem acc_end {l : List Ent} (h : Srt l) (t : List UInt8) (ino : Int) : (if l.all (lt t) = true then accP t ⟨t, ino⟩ l ++ [⟨t, ino⟩] else accP t ⟨t, ino⟩ l) = putL l t ino := by
  rw [put_eq h]
  unfold accP
  split
  · rename_i ha
    obtain ⟨f1, f2⟩ := filter_all ha
    rw [f1, f2]
  · rfl
theorem del_ne {l : List Ent} (h : Srt l) (t : List UInt8) : l.filter (fun x => !(x.name == t)) = delL l t := by
  refine (h.filter _).ext (h.del t) fun x => ?_
  rw [mem_del h, List.mem_filter]
  simp
end Go.V.Dents
namespace Go.Proofs.Ytppmnjblcblofaa
open Go.RowKit Go.V Go.V.Path Go.V.Dents
def RSet (rb : Nat) (v : Value) (l' : List Ent) (w w' : World) : Prop :=
  ∃ v', RAt w' rb v' l' ∧ (∀ g, v'.ownBlock = some g → v.ownBlock = some g ∨ w.heap.size ≤ g) ∧ Keeps [rb] w w'
theorem RSet.same {rb : Nat} {v : Value} {l : List Ent} {w w' : World} (h : RAt w rb v l) (hk : Keeps [] w w') : RSet rb v l w w' := ⟨v, h.keep hk, fun _ h => Or.inl h, hk.mono (by simp)⟩
theorem RSet.made {rb : Nat} {v u : Value} {l l' : List Ent} {w wx : World} (h : RAt w rb v l) (hm : Made FE 37 w u l' wx) : wx.frozen? ⟨rb, 0, none⟩ = false ∧ wx.cell? ⟨rb, 0, none⟩ = some v ∧ RSet rb v l' w (wx.setCell ⟨rb, 0, none⟩ u) := by
  have hb := hm.2.2.get h.1 (by simp)
  have hk : Keeps [rb] wx (wx.setCell ⟨rb, 0, none⟩ u) := (Keeps.refl [rb] wx).setCell (Or.inl (by simp)) _
  refine ⟨frozen_of 0 hb, cell_of hb rfl, u, ⟨heap_setCell hb, hm.1.keep hk (fun x hx => ?_)⟩, fun g hg => Or.inr (hm.2.1 g hg), (hm.2.2.mono (by simp)).trans hk⟩
  obtain rfl := List.mem_singleton.1 hx
  exact hm.1.ne hb (by decide)
def RDelD (rb : Nat) (v : Value) (l' : List Ent) (n e : Int) (w : World) (x : Ending) (w' : World) : Prop := x = .returned (.tuple #[.int .i64 n, .int .i64 e]) ∧ RSet rb v l' w w'
set_option maxHeartbeats 4000000 in
theorem rdel_ok (rb : Nat) (v : Value) (l : List Ent) (t : List UInt8) (w : World) (h : RAt w rb v l) (hs : Srt l) (hl : l.length ≤ 999) :
    Calls Try.prog 13 #[PT rb, .string (bs t)] w (RDelD rb v (delL l t) (getI l t) (getE l t) w) := by
  have HG := Lib.hid (rget_ok rb v l t w h hs (by omega))
  obtain ⟨p, M, c, rfl, hM⟩ := ent_shape h.2
  have H := Lib.hid (And.intro h (And.intro hs hM))
  have hM1 : M ≤ 999 := by omega
  have hbt := bs_toList t
  obtain ⟨I, hI⟩ : ∃ I, I = getI l t := ⟨_, rfl⟩
  obtain ⟨E, hE⟩ : ∃ E, E = getE l t := ⟨_, rfl⟩
  rw [← hI, ← hE] at HG ⊢
  clear h hs hl hM hI hE
  unfold PT at *
  go_enter Try.func13, Try.ntmps13
  go_wp2_with fail
  refine HG.out.mono ?_
  rintro e w1 ⟨rfl, hk1⟩
  have K1 := Lib.hid hk1
  have H1 := Lib.hid (H.out.1.keep hk1)
  clear hk1 HG
  go_upto_block 0 with fail
  go_cut [8] (fun vx wx => Made FE 37 w1 vx (delL l t) wx)
  case first =>
    go_wp2_with fail
    go_loopg [8, 9] M (fun m vx vi wx => ∃ i : Nat, vi = .int .i64 i ∧ i + m = M ∧ Made FE 37 w1 vx ((l.take i).filter (fun x => !(x.name == t))) wx)
    case atStart => exact ⟨0, rfl, by omega, Made.empty FE 37 w1⟩
    case round =>
      obtain ⟨i, rfl, hi, hm⟩ := hrel
      have HR := Lib.hid (H1.out.keep hm.2.2)
      have c0 := HR.out.c0
      have HI := Lib.hid (And.intro hi hm)
      clear hi hm
      by_cases hlt : i < M
      · have hii : (i : Int) < (M : Int) := by omega
        obtain ⟨y, hy⟩ : ∃ y, l[i]? = some y := ⟨_, List.getElem?_eq_getElem (by rw [← H.out.2.2]; exact hlt)⟩
        obtain ⟨g, o, rfl, y0, y1⟩ := sg_ent HR.out.2.sg hy
        have hby := bs_toList y.name
        have HY := Lib.hid hy
        have hst : (l.take (i + 1)).filter (fun x => !(x.name == t)) = (l.take i).filter (fun x => !(x.name == t)) ++ (if y.name = t then [] else [y]) := by
          rw [← take_snocE hy, List.filter_append]
          congr 1
          by_cases hn : y.name = t
          · rw [if_pos hn, List.filter_cons_of_neg (by simpa using hn)]; rfl
          · rw [if_neg hn, List.filter_cons_of_pos (by simpa using hn)]; rfl
        obtain ⟨acc, hacc⟩ : ∃ acc, acc = (l.take i).filter (fun x => !(x.name == t)) := ⟨_, rfl⟩
        have hal : acc.length ≤ i := by rw [hacc]; exact Nat.le_trans (List.length_filter_le _ _) (by rw [List.length_take]; omega)
        rw [← hacc] at hst
        have HA := Lib.hid (And.intro hacc hst)
        clear hy hst hacc
        by_cases hn : y.name = t
        · have e1 : (y.name == t) = true := by simpa using hn
          have HN := Lib.hid hn
          clear hn
          go_wp2
          go_roundg (gk - 1)
          case measure => have := HI.out.1; omega
          case rel => exact ⟨i + 1, by push_cast; rfl, by have := HI.out.1; omega, by rw [HA.out.2, if_pos HN.out, List.append_nil, HA.out.1]; exact HI.out.2⟩
        · have e1 : (y.name == t) = false := by simpa using hn
          have HN := Lib.hid hn
          have hka : Keeps [] wr (wr.alloc (.cells #[.string (bs y.name), .int .i64 y.ino] 37)) := (Keeps.refl _ _).alloc _
          have hm8 := HI.out.2.keep hka
          rw [← HA.out.1] at hm8
          have M8 := Lib.hid hm8
          clear hn hka hm8
          go_wp2_with (first | (refine vp_append_g (F := FE) rfl (.tmp 36) (.tmp 44) 27 rfl (.agg #[.string ByteArray.empty, .int .i64 0]) 24 Try.underlying27 infoE rfl (by decide) _ acc rfl M8.out.1 ⟨wr.heap.size, 0, none⟩ 1 1 [y] rfl rfl (by intro j u hj; rw [add_none, Nat.zero_add]; exact cell_of (heap_alloc wr _) (by simpa [FE, Form.all] using hj)) (by omega) (by omega) ?_; intro v6 w8 k1 k2 k3; have HM8 := Lib.hid (M8.out.app k1 k2 k3); clear k1 k2 k3) | fail)
          go_roundg (gk - 1)
          case measure => have := HI.out.1; omega
          case rel => exact ⟨i + 1, by push_cast; rfl, by have := HI.out.1; omega, by rw [HA.out.2, if_neg HN.out]; exact HM8.out⟩
      · have hii : ¬ (i : Int) < (M : Int) := by omega
        have hiM : M ≤ i := by omega
        have HK := Lib.hid hiM
        clear hiM
        go_wp2
        go_meet
        case rel => have := HI.out.2; rw [List.take_of_length_le (by rw [← H.out.2.2]; exact HK.out), del_ne H.out.2.1] at this; exact this
  case rest =>
    obtain ⟨pg, Mg, cg, rfl, hMg⟩ := ent_shape hcut.1
    obtain ⟨z0, d0, hset⟩ := RSet.made H1.out hcut
    have HS := Lib.hid hset
    clear hcut hset hMg
    go_wp2
    go_ret2
    refine ⟨rfl, ?_⟩
    obtain ⟨v', h1, h2, h3⟩ := HS.out
    exact ⟨v', h1, fun g hg => (h2 g hg).imp id (fun q => Nat.le_trans K1.out.size q), (K1.out.mono (by simp)).trans h3⟩
end Go.Proofs.Ytppmnjblcblofaa
