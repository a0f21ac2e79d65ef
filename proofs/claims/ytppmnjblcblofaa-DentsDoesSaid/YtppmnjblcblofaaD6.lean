/-
  Package dents: a directory in memory; New, find, Get, Len, All, Next, walked.
-/
import Derived.Test.YtppmnjblcblofaaD5
import Derived.Lib.SliceRun
namespace Go.V.Dents
open Go Go.V Go.V.Path
def getO (l : List Ent) (t : List UInt8) : Option Ent := if has l t then l[pos l t]? else none
def getI (l : List Ent) (t : List UInt8) : Int := match getO l t with | some x => x.ino | none => 0
def getE (l : List Ent) (t : List UInt8) : Int := if has l t = true then 0 else 2
def nextP (l : List Ent) (t : List UInt8) : Nat := pos l t + (if has l t then 1 else 0)
def nextO (l : List Ent) (t : List UInt8) : Option Ent := l[nextP l t]?
end Go.V.Dents
namespace Go.Proofs.Ytppmnjblcblofaa
open Go.RowKit Go.V Go.V.Path Go.V.Dents
def PT (b : Nat) : Value := .pointer (some ⟨b, 0, none⟩)
/-- a directory in memory -/
def DirAt (w : World) (db : Nat) (v : Value) (l : List Ent) : Prop := w.heap[db]? = some (.cells #[v] 53 (0, 0)) ∧ RowG FE 37 w v l
theorem DirAt.keep {w w' : World} {db : Nat} {v : Value} {l : List Ent} (h : DirAt w db v l) (hk : Keeps [] w w') : DirAt w' db v l := ⟨hk.get h.1 (by simp), h.2.keep hk (by simp)⟩
theorem DirAt.c0 {w : World} {db : Nat} {v : Value} {l : List Ent} (h : DirAt w db v l) : w.cell? ⟨db, 0, none⟩ = some v := cell_of h.1 rfl
theorem ent_shape {w : World} {v : Value} {l : List Ent} (h : RowG FE 37 w v l) : ∃ p M c, v = .slice p M c ∧ M = l.length := by
  obtain ⟨p, c, hv, _, _⟩ := h.value
  exact ⟨p, _, c, hv, rfl⟩
theorem find_ok (db : Nat) (v : Value) (l : List Ent) (t : List UInt8) (w : World) (h : DirAt w db v l) (hs : Srt l) (hl : l.length ≤ 1000) :
    Calls Try.prog 24 #[PT db, .string (bs t)] w (FindPost l t w) := by
  obtain ⟨p, M, c, rfl, hM⟩ := ent_shape h.2
  have HC := Lib.hid (search_ok _ l t w h.2.sg hs hl)
  have c0 := h.c0
  clear h hs hl hM
  unfold PT
  go_enter Try.func24, Try.ntmps24
  go_wp2_with fail
  refine HC.out.mono ?_
  rintro e w2 ⟨rfl, hk⟩
  go_wp2
  go_ret2
  exact ⟨rfl, hk⟩
def NewD (w : World) (e : Ending) (w' : World) : Prop := ∃ db, e = .returned (PT db) ∧ w.heap.size ≤ db ∧ DirAt w' db (.slice none 0 0) [] ∧ Keeps [] w w'
theorem dnew_ok (w : World) : Calls Try.prog 9 #[] w (NewD w) := by
  have h0 := heap_alloc w (.cells #[.slice none 0 0] 53)
  have HK := Lib.hid (And.intro h0 ((Keeps.refl [] w).alloc (.cells #[.slice none 0 0] 53)))
  clear h0
  go_enter Try.func9, Try.ntmps9
  go_wp2
  go_ret
  exact ⟨_, rfl, Nat.le_refl _, ⟨HK.out.1, RowG.nil FE 37 _⟩, HK.out.2⟩
theorem dlen_ok (db : Nat) (v : Value) (l : List Ent) (w : World) (h : DirAt w db v l) : Calls Try.prog 18 #[PT db] w (IK (l.length : Nat) w) := by
  obtain ⟨p, M, c, rfl, hM⟩ := ent_shape h.2
  have c0 := h.c0
  have HM := Lib.hid hM
  clear h hM
  unfold PT
  go_enter Try.func18, Try.ntmps18
  go_wp2
  go_ret
  exact ⟨by rw [← HM.out]; rfl, Keeps.refl _ _⟩
def GetD (n e : Int) (w : World) (x : Ending) (w' : World) : Prop := x = .returned (.tuple #[.int .i64 n, .int .i64 e]) ∧ Keeps [] w w'
theorem dget_ok (db : Nat) (v : Value) (l : List Ent) (t : List UInt8) (w : World) (h : DirAt w db v l) (hs : Srt l) (hl : l.length ≤ 1000) :
    Calls Try.prog 14 #[PT db, .string (bs t)] w (GetD (getI l t) (getE l t) w) := by
  obtain ⟨p, M, c, rfl, hM⟩ := ent_shape h.2
  have HC := Lib.hid (find_ok db _ l t w h hs hl)
  have H := Lib.hid (And.intro h (And.intro hs hM))
  have hM1 : M ≤ 1000 := by omega
  clear h hs hl hM
  obtain ⟨q, hq⟩ : ∃ q, q = pos l t := ⟨_, rfl⟩
  obtain ⟨r, hr⟩ : ∃ r, r = has l t := ⟨_, rfl⟩
  have HQ := Lib.hid (And.intro hq hr)
  unfold PT at *
  go_enter Try.func14, Try.ntmps14
  go_wp2_with fail
  refine HC.out.mono ?_
  rintro e w2 ⟨rfl, hk⟩
  have H2 := Lib.hid (H.out.1.keep hk)
  have HK := Lib.hid hk
  rw [← hq, ← hr]
  clear hq hr hk
  cases r with
  | false =>
    go_wp2
    go_ret2
    have h1 : has l t = false := HQ.out.2.symm
    exact ⟨by unfold getI getO getE; rw [h1]; rfl, HK.out⟩
  | true =>
    obtain ⟨x, hx, hxn⟩ := (H.out.2.1.has_iff t).1 HQ.out.2.symm
    rw [← HQ.out.1] at hx
    obtain ⟨g, o, rfl, x0, x1⟩ := sg_ent H2.out.2.sg hx
    have c0 := H2.out.c0
    have hqM : q < M := by rw [H.out.2.2]; exact (List.getElem?_eq_some_iff.1 hx).1
    have HX := Lib.hid hx
    clear hx hxn
    go_wp2
    go_ret2
    have h1 : has l t = true := HQ.out.2.symm
    exact ⟨by unfold getI getO getE; rw [h1, if_pos rfl, ← HQ.out.1, HX.out]; rfl, HK.out⟩
theorem entclone_ok (v : Value) (l : List Ent) (w : World) (hv : RowG FE 37 w v l) (hl : l.length ≤ 1000) : Calls Try.prog 29 #[v] w (fun e w' => ∃ va, e = .returned va ∧ Made FE 37 w va l w') := by
  obtain ⟨p, M, c, rfl, hM⟩ := ent_shape hv
  have H := Lib.hid (And.intro hv hM)
  have hM1 : M ≤ 1000 := by omega
  cases p with
  | none =>
    have hl0 : l = [] := by
      obtain ⟨_, h2⟩ := hv
      rcases h2 with ⟨_, h0⟩ | ⟨g, cap, cur, hv, _⟩
      · exact List.eq_nil_of_length_eq_zero h0
      · simp at hv
    have hM0 : M = 0 := by rw [hM, hl0]; rfl
    have hc0 : c = 0 := by
      obtain ⟨_, h2⟩ := hv
      rcases h2 with ⟨h3, _⟩ | ⟨g, cap, cur, hv, _⟩
      · simpa using (Value.slice.inj h3).2.2
      · simp at hv
    subst hM0 hc0
    have HL := Lib.hid hl0
    clear hv hM hl hl0
    have q27 : ∀ (w : World) (a : Option Addr) (n c n' c' : Nat), (binOp .eql 27 (.slice a n c) (.slice none n' c')).run Try.prog w = .ok (.bool a.isNone) w := fun w a n c n' c' => Lib.run_eql_slice_nil w _ _ a n c n' c' Try.underlying27
    go_enter Try.func29, Try.ntmps29
    go_wp2
    go_ret
    exact ⟨_, rfl, by rw [HL.out]; exact Made.nil FE 37 w⟩
  | some a =>
    have hme := Made.empty FE 37 w
    have HME := Lib.hid hme
    have HS := Lib.hid (hv.sg.keep hme.2.2 (by simp))
    clear hv hM hl hme
    have q27 : ∀ (w : World) (a : Option Addr) (n c n' c' : Nat), (binOp .eql 27 (.slice a n c) (.slice none n' c')).run Try.prog w = .ok (.bool a.isNone) w := fun w a n c n' c' => Lib.run_eql_slice_nil w _ _ a n c n' c' Try.underlying27
    go_enter Try.func29, Try.ntmps29
    go_wp2_with (first | (refine vp_append_sg (F := FE) rfl (.tmp 5) (.tmp 6) 27 rfl (.agg #[.string ByteArray.empty, .int .i64 0]) 24 Try.underlying27 infoE rfl (by decide) (.slice (some ⟨w.heap.size, 0, none⟩) 0 0) [] rfl HME.out.1 _ l rfl HS.out (by have := H.out.2; simp only [List.length_nil]; omega) (by have := H.out.2; simp only [List.length_nil]; omega) ?_; intro v6 w6 k1 k2 k3; rw [List.nil_append] at k1; have HM6 := Lib.hid (HME.out.app k1 k2 k3); clear k1 k2 k3) | fail)
    go_ret
    exact ⟨_, rfl, HM6.out⟩
theorem dall_ok (db : Nat) (v : Value) (l : List Ent) (w : World) (h : DirAt w db v l) (hl : l.length ≤ 1000) : Calls Try.prog 20 #[PT db] w (fun e w' => ∃ va, e = .returned va ∧ Made FE 37 w va l w') := by
  have HC := Lib.hid (entclone_ok v l w h.2 hl)
  obtain ⟨p, M, c, rfl, hM⟩ := ent_shape h.2
  have c0 := h.c0
  clear h hl hM
  unfold PT
  go_enter Try.func20, Try.ntmps20
  go_wp2_with fail
  refine HC.out.mono ?_
  rintro e w2 ⟨va, rfl, hm⟩
  have HM := Lib.hid hm
  clear hm
  go_wp2
  go_ret
  exact ⟨_, rfl, HM.out⟩
end Go.Proofs.Ytppmnjblcblofaa
