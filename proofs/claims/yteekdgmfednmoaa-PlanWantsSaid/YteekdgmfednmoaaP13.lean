/-
  The laws' awake, walked.
-/
import Derived.Test.YteekdgmfednmoaaP12
namespace Go.V.Queue
open Go Go.V
theorem _root_.Go.V.RowG.lit {α : Type} (F : Form α) (e : TypeId) (l : List α) (w : World) (hl : l.length ≤ 1000000) : RowG F e (w.alloc (.cells (F.all l).toArray e)) (.slice (some ⟨w.heap.size, 0, none⟩) l.length l.length) l := by
  refine ⟨F.length_all l, Or.inr ⟨w.heap.size, l.length, (F.all l).toArray, rfl, Nat.zero_le _, heap_alloc w _, Nat.le_refl _, by unfold maxLen; omega, by rw [List.size_toArray, F.length_all], ?_⟩⟩
  rw [← F.length_all l]
  simp
def lA : List It := [⟨2, 5, false⟩, ⟨0, 9, true⟩, ⟨2, 3, false⟩, ⟨1, 5, true⟩]
def oA : List It := [⟨0, 9, true⟩, ⟨1, 5, true⟩, ⟨2, 3, false⟩]
theorem ordA : OrdP lA oA := by
  refine ⟨?_, ?_, ?_, ?_, ?_⟩ <;> simp [lA, oA, ltW, wrB]
def lW : List It := [⟨0, 1, false⟩, ⟨1, 4, true⟩, ⟨2, 7, true⟩]
theorem ordW : OrdP lW lW := by
  refine ⟨?_, ?_, ?_, ?_, ?_⟩ <;> simp [lW, ltW, wrB]
def cW (k : Int) : CV := ⟨k, 0, 0, 0, 0, ByteArray.empty, ByteArray.empty⟩
theorem wantsW : wantsL (cW 13) [1, 4] 7 = lW := by
  simp [wantsL, wantsI, wantAt, kindF, writesF, cW, lW, List.range_succ]
theorem clashA : clashB oA oA = true := by decide
end Go.V.Queue
namespace Go.Proofs.Yteekdgmfednmoaa
open Go.RowKit Go.V Go.V.Queue
set_option maxRecDepth 100000 in
set_option maxHeartbeats 800000 in
theorem awake_ok (w : World) : Calls Try.prog 8 #[] w (BPost true w) := by
  have HL := Lib.hid (RowG.lit F3 39 lA w (by decide))
  have ho := order_ok _ lA (w.alloc (.cells (F3.all lA).toArray 39)) HL.out.sg (by decide)
  have HO := Lib.hid ho
  clear ho
  go_enter Try.func8, Try.ntmps8
  go_wp2_with fail
  refine HO.out.mono ?_
  rintro e w1 ⟨va, o, rfl, h1, h2, h3⟩
  have ho := h1.eq ordA
  subst ho
  obtain ⟨po, co, hvo, _, _⟩ := h3.1.value
  subst hvo
  have HR := Lib.hid (And.intro h3 (RowG.lit FN 3 [1, 4] w1 (by decide)))
  clear h1 h2 h3 HO HL
  go_wp2_with fail
  refine (wants_ok (cW 13) _ [1, 4] 7 _ HR.out.2.sg (by decide)).mono ?_
  rintro e w2 ⟨vb, o, rfl, h1, h2, h3⟩
  rw [wantsW] at h1
  have ho := h1.eq ordW
  subst ho
  obtain ⟨pw, cw, hvo, _, _⟩ := h3.1.value
  subst hvo
  have hra := HR.out.1.1.keep (((Keeps.refl [] w1).alloc (.cells (FN.all [1, 4]).toArray 3)).trans h3.2.2) (by simp)
  have hka : Keeps [] w w2 := (((Keeps.refl [] w).alloc _).trans HR.out.1.2.2).trans (((Keeps.refl [] w1).alloc (.cells (FN.all [1, 4]).toArray 3)).trans h3.2.2)
  have HA := Lib.hid (And.intro hra (And.intro h3.1 hka))
  obtain ⟨ga, ca, _, hv, _⟩ := hra.shape (by decide)
  simp only [Value.slice.injEq] at hv
  obtain ⟨rfl, hv1, hv2⟩ := hv
  clear hv1 hv2
  obtain ⟨gw, cw', _, hv, _⟩ := h3.1.shape (by decide)
  simp only [Value.slice.injEq] at hv
  obtain ⟨rfl, hv1, hv2⟩ := hv
  clear hv1 hv2
  have a00 : w2.cell? ⟨ga, 0, none⟩ = some (.int .i64 0) := hra.item rfl (i := 0) (j := 0) rfl rfl
  have a01 : w2.cell? ⟨ga, 1, none⟩ = some (.int .i64 9) := hra.item rfl (i := 0) (j := 1) rfl rfl
  have a02 : w2.cell? ⟨ga, 2, none⟩ = some (.bool true) := hra.item rfl (i := 0) (j := 2) rfl rfl
  have a10 : w2.cell? ⟨ga, 3, none⟩ = some (.int .i64 1) := hra.item rfl (i := 1) (j := 0) rfl rfl
  have a11 : w2.cell? ⟨ga, 4, none⟩ = some (.int .i64 5) := hra.item rfl (i := 1) (j := 1) rfl rfl
  have a12 : w2.cell? ⟨ga, 5, none⟩ = some (.bool true) := hra.item rfl (i := 1) (j := 2) rfl rfl
  have a20 : w2.cell? ⟨ga, 6, none⟩ = some (.int .i64 2) := hra.item rfl (i := 2) (j := 0) rfl rfl
  have a21 : w2.cell? ⟨ga, 7, none⟩ = some (.int .i64 3) := hra.item rfl (i := 2) (j := 1) rfl rfl
  have a22 : w2.cell? ⟨ga, 8, none⟩ = some (.bool false) := hra.item rfl (i := 2) (j := 2) rfl rfl
  have b0 : w2.cell? ⟨gw, 2, none⟩ = some (.bool false) := h3.1.item rfl (i := 0) (j := 2) rfl rfl
  have b1 : w2.cell? ⟨gw, 5, none⟩ = some (.bool true) := h3.1.item rfl (i := 1) (j := 2) rfl rfl
  have b2 : w2.cell? ⟨gw, 8, none⟩ = some (.bool true) := h3.1.item rfl (i := 2) (j := 2) rfl rfl
  clear h1 h2 h3 HR hra hka
  have e1 : oA.length = 3 := rfl
  have e2 : lW.length = 3 := rfl
  rw [e1, e2]
  go_wp2_with fail
  refine (kind_ok (cW 11) _).mono ?_
  rintro e w3 ⟨rfl, hk3⟩
  rw [show kindF (cW 11).op (cW 11).flag = 2 from rfl]
  have HK3 := Lib.hid hk3
  clear a00 a01 a02 a10 a11 a12 a20 a21 a22 b0 b1 b2 hk3
  go_wp2_with fail
  refine (kind_ok (cW 9) _).mono ?_
  rintro e w4 ⟨rfl, hk4⟩
  rw [show kindF (cW 9).op (cW 9).flag = 1 from rfl]
  have HK4 := Lib.hid (HK3.out.trans hk4)
  clear hk4 HK3
  have hra := (HA.out.1.keep HK4.out (by simp)).sg
  have hc := clash_ok _ _ oA oA w4 hra hra (by decide) (by decide)
  rw [clashA] at hc
  have HC := Lib.hid hc
  clear hra hc
  go_wp2_with fail
  refine HC.out.mono ?_
  rintro e w5 ⟨rfl, hk5⟩
  go_wp2
  go_ret
  exact ⟨rfl, (HA.out.2.2.trans HK4.out).trans hk5⟩
end Go.Proofs.Yteekdgmfednmoaa
