/-
  The reference of package dents: Get, Next, walked.
-/
import Derived.Test.YtppmnjblcblofaaD16
namespace Go.V.Dents
open Go Go.V Go.V.Path
theorem getO_at {l : List Ent} (h : Srt l) {t : List UInt8} {i : Nat} {x : Ent} (hx : l[i]? = some x) (hn : x.name = t) : getI l t = x.ino ∧ getE l t = 0 := by
  subst hn
  exact get_mem h (List.mem_of_getElem? hx)
theorem getO_not {l : List Ent} (h : Srt l) {t : List UInt8} (hn : ∀ x ∈ l, x.name ≠ t) : getI l t = 0 ∧ getE l t = 2 := by
  have hg : getO l t = none := by
    cases hq : getO l t with
    | none => rfl
    | some x => exact absurd ((getO_iff h).1 hq).2 (hn x ((getO_iff h).1 hq).1)
  exact ⟨by unfold getI; rw [hg], by unfold getE; rw [has_getO h, hg]; rfl⟩
theorem next_of {l : List Ent} (h : Srt l) {t : List UInt8} {i : Nat} {x : Ent} (hx : l[i]? = some x) (hg : gt t x = true) (hb : ∀ y ∈ l.take i, gt t y = false) : nextO l t = some x := by
  rw [next_head h]
  have hd : l = l.take i ++ x :: l.drop (i + 1) := by
    obtain ⟨h1, h2⟩ := List.getElem?_eq_some_iff.1 hx
    rw [← h2, ← List.drop_eq_getElem_cons h1, List.take_append_drop]
  rw [hd, List.filter_append, List.filter_eq_nil_iff.2 (fun y hy => by rw [hb y hy]; exact Bool.false_ne_true), List.nil_append, List.filter_cons_of_pos hg]
  rfl
theorem next_not {l : List Ent} (h : Srt l) {t : List UInt8} (hb : ∀ y ∈ l, gt t y = false) : nextO l t = none := by
  rw [next_head h, List.filter_eq_nil_iff.2 (fun y hy => by rw [hb y hy]; exact Bool.false_ne_true)]
  rfl
end Go.V.Dents
namespace Go.Proofs.Ytppmnjblcblofaa
open Go.RowKit Go.V Go.V.Path Go.V.Dents
/-- the reference's directory in memory -/
def RAt (w : World) (rb : Nat) (v : Value) (l : List Ent) : Prop := w.heap[rb]? = some (.cells #[v] 29 (0, 0)) ∧ RowG FE 37 w v l
theorem RAt.keep {w w' : World} {rb : Nat} {v : Value} {l : List Ent} (h : RAt w rb v l) (hk : Keeps [] w w') : RAt w' rb v l := ⟨hk.get h.1 (by simp), h.2.keep hk (by simp)⟩
theorem RAt.c0 {w : World} {rb : Nat} {v : Value} {l : List Ent} (h : RAt w rb v l) : w.cell? ⟨rb, 0, none⟩ = some v := cell_of h.1 rfl
set_option maxHeartbeats 4000000 in
theorem rget_ok (rb : Nat) (v : Value) (l : List Ent) (t : List UInt8) (w : World) (h : RAt w rb v l) (hs : Srt l) (hl : l.length ≤ 1000) :
    Calls Try.prog 15 #[PT rb, .string (bs t)] w (GetD (getI l t) (getE l t) w) := by
  obtain ⟨p, M, c, rfl, hM⟩ := ent_shape h.2
  have H := Lib.hid (And.intro h (And.intro hs hM))
  have hM1 : M ≤ 1000 := by omega
  have c0 := h.c0
  have hbt := bs_toList t
  clear h hs hl hM
  unfold PT at *
  go_enter Try.func15, Try.ntmps15
  go_upto_block 0 with fail
  go_cut [] (fun wx => wx = w ∧ ∀ x ∈ l, x.name ≠ t)
  case first =>
    go_wp2_with fail
    go_loopg [6] M (fun m vi wx => ∃ i : Nat, vi = .int .i64 i ∧ i + m = M ∧ (∀ x ∈ l.take i, x.name ≠ t) ∧ wx = w)
    case atStart => exact ⟨0, rfl, by omega, fun x hx => (by cases hx), rfl⟩
    case round =>
      obtain ⟨i, rfl, hi, hb, hwr⟩ := hrel
      subst hwr
      have HI := Lib.hid (And.intro hi hb)
      clear hi hb
      by_cases hlt : i < M
      · have hii : (i : Int) < (M : Int) := by omega
        obtain ⟨y, hy⟩ : ∃ y, l[i]? = some y := ⟨_, List.getElem?_eq_getElem (by rw [← H.out.2.2]; exact hlt)⟩
        obtain ⟨g, o, rfl, y0, y1⟩ := sg_ent H.out.1.2.sg hy
        have hby := bs_toList y.name
        have HY := Lib.hid hy
        clear hy
        by_cases hn : y.name = t
        · have e1 : (y.name == t) = true := by simpa using hn
          have HN := Lib.hid hn
          clear hn
          go_wp2
          go_ret2
          obtain ⟨q1, q2⟩ := getO_at H.out.2.1 HY.out HN.out
          exact ⟨by rw [q1, q2]; rfl, Keeps.refl _ _⟩
        · have e1 : (y.name == t) = false := by simpa using hn
          have HN := Lib.hid hn
          clear hn
          go_wp2
          go_roundg (gk - 1)
          case measure => have := HI.out.1; omega
          case rel => exact ⟨i + 1, by push_cast; rfl, by have := HI.out.1; omega, fun x hx => by
            rw [← take_snocE HY.out] at hx
            rcases List.mem_append.1 hx with hx | hx
            · exact HI.out.2 x hx
            · obtain rfl := List.mem_singleton.1 hx
              exact HN.out, rfl⟩
      · have hii : ¬ (i : Int) < (M : Int) := by omega
        have hiM : M ≤ i := by omega
        have HK := Lib.hid hiM
        clear hiM
        go_wp2
        go_meet
        case rel => exact ⟨rfl, by have := HI.out.2; rwa [List.take_of_length_le (by rw [← H.out.2.2]; exact HK.out)] at this⟩
  case rest =>
    obtain ⟨rfl, hb⟩ := hcut
    obtain ⟨q1, q2⟩ := getO_not H.out.2.1 hb
    have HQ := Lib.hid (And.intro q1 q2)
    clear q1 q2 hb
    go_wp2
    go_ret2
    exact ⟨by rw [HQ.out.1, HQ.out.2]; rfl, Keeps.refl _ _⟩
set_option maxHeartbeats 4000000 in
theorem rnext_ok (rb : Nat) (v : Value) (l : List Ent) (t : List UInt8) (w : World) (h : RAt w rb v l) (hs : Srt l) (hl : l.length ≤ 1000) (ht : (bs t).size ≤ 9223372036854775807) :
    Calls Try.prog 17 #[PT rb, .string (bs t)] w (NextD (nextO l t) w) := by
  obtain ⟨p, M, c, rfl, hM⟩ := ent_shape h.2
  have H := Lib.hid (And.intro h (And.intro hs hM))
  have hM1 : M ≤ 1000 := by omega
  have HT := Lib.hid ht
  clear h hs hl hM ht
  unfold PT at *
  go_enter Try.func17, Try.ntmps17
  go_upto_region 1 with fail
  obtain ⟨w1, hw1⟩ : ∃ w1, w1 = w.alloc (.cells #[.string ⟨#[]⟩, .int .i64 0] 37) := ⟨_, rfl⟩
  obtain ⟨eb, heb⟩ : ∃ eb, eb = w.heap.size := ⟨_, rfl⟩
  have he1 : w1.heap[eb]? = some (.cells #[.string ⟨#[]⟩, .int .i64 0] 37 (0, 0)) := by rw [hw1, heb]; exact heap_alloc w _
  have hk1 : Keeps [] w w1 := by rw [hw1]; exact (Keeps.refl _ _).alloc _
  rw [← hw1, ← heb]
  have HE := Lib.hid (And.intro he1 (And.intro hk1 (show w.heap.size ≤ eb by omega)))
  have fin : ∀ o, nextO l t = o → ∀ w2, Keeps [] w1 w2 → ∀ a k, entV o = .agg #[.string a, .int .i64 k] →
      w2.frozen? ⟨eb, 0, none⟩ = false ∧ w2.frozen? ⟨eb, 1, none⟩ = false ∧ w2.cell? ⟨eb, 0, none⟩ = some (.string ⟨#[]⟩) ∧ w2.cell? ⟨eb, 1, none⟩ = some (.int .i64 0) ∧
      ((w2.setCell ⟨eb, 0, none⟩ (.string a)).setCell ⟨eb, 1, none⟩ (.int .i64 k)).heap[eb]? = some (.cells #[.string a, .int .i64 k] 37 (0, 0)) ∧
      NextD (nextO l t) w (.returned (.tuple #[.agg #[.string a, .int .i64 k], .bool o.isSome])) ((w2.setCell ⟨eb, 0, none⟩ (.string a)).setCell ⟨eb, 1, none⟩ (.int .i64 k)) := by
    intro o ho w2 hk2 a k hak
    have he2 := hk2.get HE.out.1 (by simp)
    have hk : Keeps [eb] w2 ((w2.setCell ⟨eb, 0, none⟩ (.string a)).setCell ⟨eb, 1, none⟩ (.int .i64 k)) := ((Keeps.refl [eb] w2).setCell (Or.inl (by simp)) _).setCell (Or.inl (by simp)) _
    exact ⟨frozen_of 0 he2, frozen_of 1 he2, cell_of he2 rfl, cell_of he2 rfl, heap_setCell (heap_setCell he2), by rw [ho, hak],
      (HE.out.2.1.trans hk2).trans' hk (fun z hz => Or.inr (by obtain rfl := List.mem_singleton.1 hz; exact HE.out.2.2))⟩
  have FIN := Lib.hid fin
  clear hw1 heb he1 hk1 fin
  go_upto_block 0 with fail
  go_cut [] (fun wx => Keeps [] w1 wx ∧ nextO l t = none)
  case first =>
    go_wp2_with fail
    go_loopg [6] M (fun m vi wx => ∃ i : Nat, vi = .int .i64 i ∧ i + m = M ∧ (∀ x ∈ l.take i, gt t x = false) ∧ Keeps [] w1 wx)
    case atStart => exact ⟨0, rfl, by omega, fun x hx => (by cases hx), Keeps.refl _ _⟩
    case round =>
      obtain ⟨i, rfl, hi, hb, hk⟩ := hrel
      have HI := Lib.hid (And.intro hi (And.intro hb hk))
      have HR := Lib.hid (H.out.1.keep (HE.out.2.1.trans hk))
      have c0 := HR.out.c0
      clear hi hb hk
      by_cases hlt : i < M
      · have hii : (i : Int) < (M : Int) := by omega
        obtain ⟨y, hy⟩ : ∃ y, l[i]? = some y := ⟨_, List.getElem?_eq_getElem (by rw [← H.out.2.2]; exact hlt)⟩
        obtain ⟨g, o, rfl, y0, y1⟩ := sg_ent HR.out.2.sg hy
        have HY := Lib.hid hy
        clear hy
        go_wp2_with fail
        refine (rless_ok (bs t) (bs y.name) wr HT.out).mono ?_
        rw [bs_dataL, bs_dataL]
        rintro e w2 ⟨rfl, hk2⟩
        have K2 := Lib.hid (HI.out.2.2.trans hk2)
        have R2 := Lib.hid (HR.out.keep hk2)
        have d0 := R2.out.c0
        clear c0 y0 y1 hk2
        obtain ⟨g', o', e1, y0, y1⟩ := sg_ent R2.out.2.sg HY.out
        simp only [Option.some.injEq, Addr.mk.injEq, and_true] at e1
        obtain ⟨rfl, rfl⟩ := e1
        cases hg : Op.bytesLess t y.name with
        | true =>
          obtain ⟨z0, z1, r0, r1, hcell, hfin⟩ := FIN.out (some y) (next_of H.out.2.1 HY.out hg HI.out.2.1) w2 K2.out (bs y.name) y.ino rfl
          have HC := Lib.hid (And.intro hcell hfin)
          clear hcell hfin hg
          go_wp2
          exact bodyPost_ret (results_ct rfl rfl (load37 HC.out.1)) rfl HC.out.2
        | false =>
          have HG := Lib.hid hg
          clear hg
          go_wp2
          go_roundg (gk - 1)
          case measure => have := HI.out.1; omega
          case rel => exact ⟨i + 1, by push_cast; rfl, by have := HI.out.1; omega, fun x hx => by
            rw [← take_snocE HY.out] at hx
            rcases List.mem_append.1 hx with hx | hx
            · exact HI.out.2.1 x hx
            · obtain rfl := List.mem_singleton.1 hx
              exact HG.out, K2.out⟩
      · have hii : ¬ (i : Int) < (M : Int) := by omega
        have hiM : M ≤ i := by omega
        have HK := Lib.hid hiM
        clear hiM
        go_wp2
        go_meet
        case rel => exact ⟨HI.out.2.2, next_not H.out.2.1 (by have := HI.out.2.1; rwa [List.take_of_length_le (by rw [← H.out.2.2]; exact HK.out)] at this)⟩
  case rest =>
    obtain ⟨w2, hw2⟩ : ∃ x, x = wc := ⟨_, rfl⟩
    subst hw2
    obtain ⟨hk2, hn⟩ := hcut
    obtain ⟨z0, z1, r0, r1, hcell, hfin⟩ := FIN.out none hn w2 hk2 ⟨#[]⟩ 0 rfl
    have HC := Lib.hid (And.intro hcell hfin)
    clear hcell hfin hn hk2
    go_wp2
    exact bodyPost_ret (results_ct rfl rfl (load37 HC.out.1)) rfl HC.out.2
end Go.Proofs.Ytppmnjblcblofaa
