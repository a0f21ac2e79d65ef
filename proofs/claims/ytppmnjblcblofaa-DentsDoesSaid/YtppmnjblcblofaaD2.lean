/-
  slices.Insert of one entry, walked.
-/
import Derived.Test.YtppmnjblcblofaaD1
import Derived.Test.YtppmnjblcblofaaV13
import Derived.Lib.Overlaps
import Derived.Shelf.Spec.SlicesInsert
import Derived.Lib.AppendZeros
import Derived.Lib.AppendZerosOnto
import Derived.Laws.NewBlocks
import Derived.Laws.Externs
namespace Go.V.Dents
open Go Go.V Go.V.Path
/-- an entry of a directory -/
structure Ent where
  name : List UInt8
  ino : Int
deriving DecidableEq
def FE : Form Ent := ⟨2, fun x => [.string (bs x.name), .int .i64 x.ino], fun _ => rfl, fun _ u hu => by
  simp only [List.mem_cons, List.not_mem_nil, or_false] at hu
  rcases hu with rfl | rfl <;> rfl⟩
end Go.V.Dents
namespace Go.Proofs.Ytppmnjblcblofaa
open Go.RowKit Go.V Go.V.Path Go.V.Dents
theorem infoE : (Try.prog.info? 37).map (fun i => (i.zero, i.size, i.bytes)) = some (some (.agg #[.string ByteArray.empty, .int .i64 0]), FE.s, 24) := by kernel_rfl
theorem sizeE (w : World) : (sizeOf 37).run Try.prog w = .ok 2 w := Try.sizeOf37 w
def InsPost (v : Value) (l : List Ent) (w : World) (e : Ending) (w' : World) : Prop :=
  ∃ v', e = .returned v' ∧ RowG FE 37 w' v' l ∧ (∀ g, v'.ownBlock = some g → v.ownBlock = some g ∨ w.heap.size ≤ g) ∧ Keeps v.ownBlock.toList w w'
set_option maxRecDepth 100000 in
set_option maxHeartbeats 4000000 in
theorem insert_end (v : Value) (l : List Ent) (x : Ent) (vb : Nat) (w : World) (hv : RowG FE 37 w v l) (hb : w.heap[vb]? = some (.cells (FE.cs x).toArray 37 (0, 0))) (hl : l.length ≤ 1000) :
    Calls Try.prog 25 #[v, .int .i64 (l.length : Nat), .slice (some ⟨vb, 0, none⟩) 1 1] w (InsPost v (l ++ [x]) w) := by
  obtain ⟨p, c, rfl, hc, hm⟩ := hv.value
  obtain ⟨N, hN⟩ : ∃ N, N = l.length := ⟨_, rfl⟩
  rw [← hN] at hv hc ⊢
  have H := Lib.hid (And.intro hv (And.intro hN hb))
  have hN1 : N ≤ 1000 := by omega
  clear hv hN hb hl
  go_enter Try.func25, Try.ntmps25
  go_wp2_with (first | (refine vp_tail_g (F := FE) (e := 37) rfl (.tmp 10) (.tmp 11) 27 rfl Try.underlying27 (by kernel_rfl) _ l rfl H.out.1.sg N (by rw [← H.out.2.1]; exact Nat.le_refl _) rfl ?_; intro vh hh hho; clear hh hho) | (refine vp_append_g (F := FE) rfl (.tmp 23) (.tmp 24) 27 rfl (.agg #[.string ByteArray.empty, .int .i64 0]) 24 Try.underlying27 infoE rfl (by decide) (.slice p N c) l rfl H.out.1 ⟨vb, 0, none⟩ 1 1 [x] rfl rfl (by intro j u hj; rw [add_none, Nat.zero_add]; exact cell_of H.out.2.2 (by simpa [Form.all] using hj)) (by rw [← H.out.2.1]; omega) (by rw [← H.out.2.1]; omega) ?_; intro v6 w6 k1 k2 k3; have HM6 := Lib.hid (And.intro k1 (And.intro k2 k3)); clear k1 k2 k3) | fail)
  go_ret
  exact ⟨_, rfl, HM6.out.1, HM6.out.2.1, keeps_grown HM6.out.2.2 (fun k hk => by rw [hk]; simp)⟩
theorem shape_row {w : World} {b : Nat} {cs : Array Value} {t : TypeId} {fr : Nat × Nat} (h : w.heap[b]? = some (.cells cs t fr)) : w.shape? b = some (t, cs.size) := by
  simp [World.shape?, h]
theorem frozen_any {w : World} {b k : Nat} {cs : Array Value} {t : TypeId} (h : w.heap[b]? = some (.cells cs t (0, 0))) : w.frozen? ⟨b, k, none⟩ = false := frozen_of k h
set_option maxRecDepth 100000 in
set_option maxHeartbeats 4000000 in
theorem insert_mid (v : Value) (l : List Ent) (i : Nat) (x : Ent) (vb : Nat) (w : World) (hv : RowG FE 37 w v l) (hi : i < l.length) (hb : w.heap[vb]? = some (.cells (FE.cs x).toArray 37 (0, 0))) (hne : v.ownBlock ≠ some vb) (hl : l.length ≤ 1000) :
    Calls Try.prog 25 #[v, .int .i64 (i : Nat), .slice (some ⟨vb, 0, none⟩) 1 1] w (InsPost v (l.take i ++ x :: l.drop i) w) := by
  have hrow := hv
  obtain ⟨hlen, hcase⟩ := hv
  rcases hcase with ⟨_, h0⟩ | ⟨g, c, cur, rfl, _, hg, hnc, hcm, hcs, htake⟩
  · omega
  obtain ⟨N, hN⟩ : ∃ N, N = l.length := ⟨_, rfl⟩
  rw [← hN] at hi hl hnc htake ⊢
  have hgb : vb ≠ g := fun e => hne (by rw [e]; rfl)
  have hcm : c ≤ 9223372036854775807 := hcm
  have hcs : cur.size = c * 2 := hcs
  have htake : cur.toList.take (N * 2) = FE.all l := htake
  have hcl : cur.toList.length = c * 2 := by rw [Array.length_toList]; exact hcs
  have hA : (FE.all (l.take i)).length = i * 2 := by rw [FE.length_all, List.length_take, ← hN, Nat.min_eq_left (by omega)]; rfl
  have hB : (FE.all (l.drop i)).length = (N - i) * 2 := by rw [FE.length_all, List.length_drop, ← hN]; rfl
  have hAB : FE.all l = FE.all (l.take i) ++ FE.all (l.drop i) := by rw [← Form.all_append, List.take_append_drop]
  have hCA : cur.toList.take (i * 2) = FE.all (l.take i) := by
    have h1 := congrArg (List.take (i * 2)) htake
    rw [List.take_take, Nat.min_eq_left (by omega), hAB, ← hA, List.take_left] at h1
    rw [hA] at h1
    exact h1
  have hBcell : ∀ j u, (FE.all (l.drop i))[j]? = some u → w.cell? ⟨g, i * 2 + j, none⟩ = some u := by
    intro j u hu
    refine cell_of hg ?_
    have h1 : (FE.all l)[i * 2 + j]? = some u := by rw [hAB, List.getElem?_append_right (by omega), hA, Nat.add_sub_cancel_left]; exact hu
    rw [← htake, List.getElem?_take] at h1
    split at h1
    · simpa using h1
    · cases h1
  have hone : ∀ (l' : List Ent), ∀ u ∈ FE.all l', u.oneCell' = true := fun l' u hu => by
    obtain ⟨y, _, hy⟩ := List.mem_flatMap.1 hu
    exact FE.one y u hy
  have hX : FE.all [x] = FE.cs x := by simp [Form.all]
  have hXcell : ∀ j u, (FE.all [x])[j]? = some u → w.cell? ⟨vb, j, none⟩ = some u := fun j u hu => cell_of hb (by rw [hX] at hu; simpa using hu)
  have hXl : (FE.all [x]).length = 2 := rfl
  have hz2 : ¬ ((i : Int) = (N : Int)) := by omega
  have hgw : g < w.heap.size := lt_of_heap hg
  have hvw : vb < w.heap.size := lt_of_heap hb
  have hres : (l.take i ++ x :: l.drop i).length = N + 1 := by rw [List.length_append, List.length_cons, List.length_take, List.length_drop, ← hN]; omega
  have hall : FE.all (l.take i ++ x :: l.drop i) = FE.all (l.take i) ++ FE.all [x] ++ FE.all (l.drop i) := by
    rw [Form.all_append, Form.all_cons, ← hX, List.append_assoc]
  by_cases hroom : N + 1 ≤ c
  · have hr2 : ¬ ((c : Int) < (N : Int) + 1) := by omega
    have hov : ∀ lb cb k, (callFunc 34 #[.slice (some ⟨vb, 0, none⟩) 1 1, .slice (some ⟨g, k, none⟩) lb cb]).run Try.prog w = .ok (.value (.bool false)) w := fun lb cb k => by
      rw [run_callFunc_extern Try.func34 (by kernel_rfl) (by kernel_rfl) (by kernel_rfl) (e := Extern.SlicesOverlaps.overlaps #[27, 27] #[4]) (by kernel_rfl)]
      rw [Lib.run_overlaps_apart w 27 4 37 Try.underlying27 2 sizeE ⟨vb, 0, none⟩ ⟨g, k, none⟩ 1 1 lb cb hgb 37 37 2 (c * 2) (shape_row hb) (by rw [← hcs]; exact shape_row hg) (by omega) (frozen_any hb) (frozen_any hb)]
      rfl
    obtain ⟨C1, hC1⟩ : ∃ C1 : Array Value, C1 = (cur.toList.take ((i + 1) * 2) ++ FE.all (l.drop i) ++ cur.toList.drop ((i + 1) * 2 + (FE.all (l.drop i)).length)).toArray := ⟨_, rfl⟩
    have hC1l : C1.toList = cur.toList.take (i * 2 + (FE.all [x]).length) ++ FE.all (l.drop i) ++ cur.toList.drop (i * 2 + (FE.all [x]).length + (FE.all (l.drop i)).length) := by
      rw [hC1, hXl, show (i + 1) * 2 = i * 2 + 2 by omega]
    have hlc : i * 2 + (FE.all [x]).length + (FE.all (l.drop i)).length ≤ cur.toList.length := by rw [hXl, hB, hcl]; omega
    have hC1s : C1.size = c * 2 := by
      rw [← Array.length_toList, hC1l, List.length_append, List.length_append, List.length_take, List.length_drop, hcl]
      rw [hcl] at hlc
      omega
    have hcp1 : ∀ ty dc sc, (Builtin.copy_ #[27, 27] ty #[.slice (some ⟨g, (i + 1) * 2, none⟩) (N - i) dc, .slice (some ⟨g, i * 2, none⟩) (N + 1 - i) sc]).run Try.prog w.drew = .ok (goInt (Nat.min (N + 1 - i) (N - i))) (w.drew.setRow g C1) := fun ty dc sc => by
      rw [hC1]
      exact run_copy_rowK (P := Try.prog) w.drew 27 27 ty 37 2 g ((i + 1) * 2) (N - i) dc ⟨g, i * 2, none⟩ (N + 1 - i) sc cur 37 (FE.all (l.drop i)) Try.underlying27 (by kernel_rfl) hg (by rw [hB]; congr 1; simp only [Nat.min_def]; split <;> omega)
        (fun j u hj => by rw [add_none]; exact hBcell j u hj) (by rw [hB, hcs]; omega) (hone _)
    obtain ⟨W1, hW1⟩ : ∃ W1, W1 = w.drew.setRow g C1 := ⟨_, rfl⟩
    have hg1 : W1.heap[g]? = some (.cells C1 37 (0, 0)) := by rw [hW1]; exact heap_setRow (w := w.drew) hg
    have hb1 : W1.heap[vb]? = some (.cells (FE.cs x).toArray 37 (0, 0)) := by rw [hW1]; exact heap_setRow_ne (w := w.drew) hb hgb
    rw [← hW1] at hcp1
    obtain ⟨C2, hC2⟩ : ∃ C2 : Array Value, C2 = (C1.toList.take (i * 2) ++ FE.all [x] ++ C1.toList.drop (i * 2 + (FE.all [x]).length)).toArray := ⟨_, rfl⟩
    have hC2l : C2.toList = FE.all (l.take i) ++ FE.all [x] ++ FE.all (l.drop i) ++ cur.toList.drop (i * 2 + (FE.all [x]).length + (FE.all (l.drop i)).length) := by
      rw [hC2]
      show C1.toList.take (i * 2) ++ FE.all [x] ++ C1.toList.drop (i * 2 + (FE.all [x]).length) = _
      rw [hC1l]
      exact ins_splice cur.toList (FE.all (l.take i)) (FE.all (l.drop i)) (FE.all [x]) (i * 2) hA hCA hlc
    have hcp2 : ∀ ty dc, (Builtin.copy_ #[27, 27] ty #[.slice (some ⟨g, i * 2, none⟩) (N + 1 - i) dc, .slice (some ⟨vb, 0, none⟩) 1 1]).run Try.prog W1 = .ok (goInt (Nat.min 1 (N + 1 - i))) (W1.setRow g C2) := fun ty dc => by
      rw [hC2]
      exact run_copy_rowK (P := Try.prog) W1 27 27 ty 37 2 g (i * 2) (N + 1 - i) dc ⟨vb, 0, none⟩ 1 1 C1 37 (FE.all [x]) Try.underlying27 (by kernel_rfl) hg1 (by rw [hXl]; simp only [Nat.min_def]; split <;> omega)
        (fun j u hj => by rw [add_none, Nat.zero_add]; exact cell_of hb1 (by rw [hX] at hj; simpa using hj)) (by rw [hXl, hC1s]; omega) (hone _)
    have hfin : RowG FE 37 (W1.setRow g C2) (.slice (some ⟨g, 0, none⟩) (N + 1) c) (l.take i ++ x :: l.drop i) := by
      refine RowG.of_row (heap_setRow hg1) hres.symm (by rw [hres]; exact hroom) (by unfold maxLen; omega) ?_ ?_
      · show C2.size = c * 2
        rw [← Array.length_toList, hC2l, List.length_append, List.length_append, List.length_append, List.length_drop, hA, hcl]
        rw [hcl] at hlc
        omega
      · rw [hC2l, hall, hres]
        have h1 : (FE.all (l.take i) ++ FE.all [x] ++ FE.all (l.drop i)).length = (N + 1) * FE.s := by
          rw [List.length_append, List.length_append, hA, hXl, hB]
          show _ = (N + 1) * 2
          omega
        rw [← h1, List.take_left]
    have hkk : Keeps [g] w (W1.setRow g C2) := by
      have h1 : Keeps [g] w.drew W1 := by rw [hW1]; exact (Keeps.refl _ _).setRow (Or.inl (by simp)) _
      exact (((Keeps.refl [g] w).drew).trans h1).setRow (Or.inl (by simp)) _
    have HFIN := Lib.hid (And.intro hfin hkk)
    have hb2 : ¬ (c = i + 1) := by omega
    have hb4 : ¬ (c = i) := by omega
    have hw1 : IntKind.i64.wrap ((i : Int) + 1) = (i : Int) + 1 := by rw [IntKind.wrap_i64]; omega
    have hb0 : (i : Int) + 1 ≤ (N : Int) + 1 := by omega
    have hin : i ≤ N := by omega
    have htn : ((i : Int) + 1).toNat = i + 1 := by omega
    have hb3 : (i : Int) ≤ (N : Int) + 1 := by omega
    clear hfin hkk hcl hC2l hC2 hC1s hC1l hC1 hg1 hb1 hW1 hlc hres hall hXcell hX hXl hone hBcell hCA hAB hB hA htake hcs hg hb hrow hlen hne hgb hN hgw hvw
    have mixed : Try.prog.follows .mixedOrders = true := by kernel_rfl
    go_enter Try.func25, Try.ntmps25
    go_wp2_with (simp only [hov])
    have hb1 : (0 : Int) ≤ (i : Int) + 1 := by omega
    go_region_law_o (refine step_copy_runI rfl _ _ 27 27 rfl _ _ (by simp [Act.eval, Act.put]) (by simp [Act.eval, Act.put]) (hcp1 _ _ _) ?_)
    go_wp2_with (first | (refine wpList_copy_runI _ rfl (.tmp 80) (.tmp 81) 27 27 rfl _ _ rfl rfl (hcp2 _ _) ?_) | fail)
    go_ret
    exact ⟨_, rfl, HFIN.out.1, fun _ h => Or.inl h, HFIN.out.2⟩
  · have hz3 : (c : Int) < (N : Int) + 1 := by omega
    obtain ⟨i0, hi0, hz0, hzs, hzb⟩ : ∃ i0, Try.prog.info? 37 = some i0 ∧ i0.zero = some (.agg #[.string ByteArray.empty, .int .i64 0]) ∧ i0.size = 2 ∧ i0.bytes = 24 := by
      have hi := infoE
      cases hq : Try.prog.info? 37 with
      | none => rw [hq] at hi; cases hi
      | some k =>
        rw [hq] at hi
        simp only [Option.map_some, Option.some.injEq, Prod.mk.injEq] at hi
        exact ⟨k, rfl, hi.1, hi.2.1, hi.2.2⟩
    have hkk : (N : Int) + 1 - (i : Int) = ((N + 1 - i : Nat) : Int) := by omega
    have hik : i + (N + 1 - i) = N + 1 := by omega
    have hold : (Builtin.firstCells i0.size i (.slice (some ⟨g, 0, none⟩) i c)).run Try.prog w.drew = .ok (FE.all (l.take i)).toArray w.drew := by
      rw [hzs]
      exact run_firstCells_some w.drew 2 i ⟨g, 0, none⟩ i c (FE.all (l.take i)) hA (fun j u hu => by
        rw [add_none, Nat.zero_add]
        refine cell_of (w := w.drew) hg ?_
        have h1 := hu
        rw [← hCA, List.getElem?_take] at h1
        split at h1
        · simpa using h1
        · cases h1)
    obtain ⟨G, hG⟩ : ∃ G, G = grownCap w (N + 1) c 37 := ⟨_, rfl⟩
    obtain ⟨Z, hZ⟩ : ∃ Z : Value, Z = .agg #[.string ByteArray.empty, .int .i64 0] := ⟨_, rfl⟩
    obtain ⟨ROW, hROW⟩ : ∃ ROW : Array Value, ROW = (FE.all (l.take i)).toArray ++ Builtin.zeroCells Z.cells (N + 1 - i) ++ Builtin.zeroCells Z.cells (G - (N + 1)) := ⟨_, rfl⟩
    have hGn : N + 1 ≤ G := by rw [hG]; exact grownCap_ge w _ _ _
    have hG63 : G ≤ 9223372036854775807 := by
      have := grownCap_le_maxLen w (N + 1) c 37 (by unfold maxLen; omega)
      rw [← hG] at this
      unfold maxLen at this
      omega
    have hzc : ∀ k, (Builtin.zeroCells Z.cells k).size = k * 2 := fun k => by rw [size_zeroCells, hZ]; rfl
    have hRs : ROW.size = G * 2 := by
      rw [hROW, Array.size_append, Array.size_append, hzc, hzc, List.size_toArray, hA]
      omega
    have hRl : ROW.toList.length = G * 2 := by rw [Array.length_toList]; exact hRs
    have hRA : ROW.toList.take (i * 2) = FE.all (l.take i) := by
      rw [hROW, Array.toList_append, Array.toList_append, List.append_assoc]
      show (FE.all (l.take i) ++ _).take (i * 2) = _
      rw [← hA, List.take_left]
    have hrz : ∀ ty, (Builtin.append_ #[27, 3] ty #[.slice (some ⟨g, 0, none⟩) i c, .int .i64 ((N : Int) + 1 - (i : Int))]).run Try.prog w =
        .ok (.slice (some ⟨w.heap.size, 0, none⟩) (N + 1) G) (w.drew.alloc (.cells ROW 37)) := fun ty => by
      have h := Lib.run_append_grow_zeros (P := Try.prog) w 27 3 ty 37 i0 Z .i64 .i64 Try.underlying27 Try.underlying3 hi0 (by rw [hZ]; exact hz0) (some ⟨g, 0, none⟩) i c (FE.all (l.take i)) hold (N + 1 - i) (by omega) (by omega) (by omega) (by omega) (by rw [hzb]; omega) (by rw [hzb, hik]; exact growslice_fits (by omega) (by omega))
      rw [hik, ← hG, ← hROW] at h
      rw [hkk]
      exact h
    obtain ⟨W1, hW1⟩ : ∃ W1, W1 = w.drew.alloc (.cells ROW 37) := ⟨_, rfl⟩
    rw [← hW1] at hrz
    obtain ⟨nb, hnb⟩ : ∃ nb, nb = w.heap.size := ⟨_, rfl⟩
    have hg1 : W1.heap[nb]? = some (.cells ROW 37 (0, 0)) := by rw [hW1, hnb]; exact heap_alloc w.drew _
    have hgo1 : W1.heap[g]? = some (.cells cur 37 (0, 0)) := by rw [hW1]; exact heap_alloc_ne w.drew _ hg
    have hb1 : W1.heap[vb]? = some (.cells (FE.cs x).toArray 37 (0, 0)) := by rw [hW1]; exact heap_alloc_ne w.drew _ hb
    have hk1 : Keeps [] w W1 := by rw [hW1]; exact ((Keeps.refl _ w).drew).alloc _
    rw [← hnb] at hrz hgw hvw
    obtain ⟨C1, hC1⟩ : ∃ C1 : Array Value, C1 = (ROW.toList.take (i * 2) ++ FE.all [x] ++ ROW.toList.drop (i * 2 + (FE.all [x]).length)).toArray := ⟨_, rfl⟩
    have hlc : i * 2 + (FE.all [x]).length + (FE.all (l.drop i)).length ≤ ROW.toList.length := by rw [hXl, hB, hRl]; omega
    have hcpA : ∀ ty dc, (Builtin.copy_ #[27, 27] ty #[.slice (some ⟨nb, i * 2, none⟩) (N + 1 - i) dc, .slice (some ⟨vb, 0, none⟩) 1 1]).run Try.prog W1 = .ok (goInt (Nat.min 1 (N + 1 - i))) (W1.setRow nb C1) := fun ty dc => by
      rw [hC1]
      exact run_copy_rowK (P := Try.prog) W1 27 27 ty 37 2 nb (i * 2) (N + 1 - i) dc ⟨vb, 0, none⟩ 1 1 ROW 37 (FE.all [x]) Try.underlying27 (by kernel_rfl) hg1 (by rw [hXl]; simp only [Nat.min_def]; split <;> omega)
        (fun j u hj => by rw [add_none, Nat.zero_add]; exact cell_of hb1 (by rw [hX] at hj; simpa using hj)) (by rw [hXl, hRs]; omega) (hone _)
    obtain ⟨W2, hW2⟩ : ∃ W2, W2 = W1.setRow nb C1 := ⟨_, rfl⟩
    rw [← hW2] at hcpA
    have hg2 : W2.heap[nb]? = some (.cells C1 37 (0, 0)) := by rw [hW2]; exact heap_setRow hg1
    have hgo2 : W2.heap[g]? = some (.cells cur 37 (0, 0)) := by rw [hW2]; exact heap_setRow_ne hgo1 (by omega)
    have hk2 : Keeps [] w W2 := by
      refine hk1.trans' (T := [nb]) ?_ (fun z hz => Or.inr (by obtain rfl := List.mem_singleton.1 hz; omega))
      rw [hW2]; exact (Keeps.refl _ _).setRow (Or.inl (by simp)) _
    obtain ⟨C2, hC2⟩ : ∃ C2 : Array Value, C2 = (C1.toList.take ((i + 1) * 2) ++ FE.all (l.drop i) ++ C1.toList.drop ((i + 1) * 2 + (FE.all (l.drop i)).length)).toArray := ⟨_, rfl⟩
    have hC2l : C2.toList = FE.all (l.take i) ++ FE.all [x] ++ FE.all (l.drop i) ++ ROW.toList.drop (i * 2 + (FE.all [x]).length + (FE.all (l.drop i)).length) := by
      rw [hC2, show (i + 1) * 2 = i * 2 + (FE.all [x]).length by rw [hXl]; omega]
      show C1.toList.take _ ++ FE.all (l.drop i) ++ C1.toList.drop _ = _
      rw [hC1]
      exact ins_splice2 ROW.toList (FE.all (l.take i)) (FE.all (l.drop i)) (FE.all [x]) (i * 2) hA hRA hlc
    have hC1s : C1.size = G * 2 := by
      rw [hC1, List.size_toArray, List.length_append, List.length_append, List.length_take, List.length_drop, hRl, hXl]
      omega
    have hcpB : ∀ ty dc sc, (Builtin.copy_ #[27, 27] ty #[.slice (some ⟨nb, (i + 1) * 2, none⟩) (N - i) dc, .slice (some ⟨g, i * 2, none⟩) (N - i) sc]).run Try.prog W2.drew = .ok (goInt (Nat.min (N - i) (N - i))) (W2.drew.setRow nb C2) := fun ty dc sc => by
      rw [hC2]
      exact run_copy_rowK (P := Try.prog) W2.drew 27 27 ty 37 2 nb ((i + 1) * 2) (N - i) dc ⟨g, i * 2, none⟩ (N - i) sc C1 37 (FE.all (l.drop i)) Try.underlying27 (by kernel_rfl) hg2 (by rw [hB]; congr 1; simp only [Nat.min_def]; split <;> omega)
        (fun j u hj => by
          rw [add_none]
          refine cell_of (w := W2.drew) hgo2 ?_
          have h1 : (FE.all l)[i * 2 + j]? = some u := by rw [hAB, List.getElem?_append_right (by omega), hA, Nat.add_sub_cancel_left]; exact hj
          rw [← htake, List.getElem?_take] at h1
          split at h1
          · simpa using h1
          · cases h1) (by rw [hB, hC1s]; omega) (hone _)
    have hfin : RowG FE 37 (W2.drew.setRow nb C2) (.slice (some ⟨nb, 0, none⟩) (N + 1) G) (l.take i ++ x :: l.drop i) := by
      refine RowG.of_row (heap_setRow (w := W2.drew) hg2) hres.symm (by rw [hres]; exact hGn) (by unfold maxLen; omega) ?_ ?_
      · show C2.size = G * 2
        rw [← Array.length_toList, hC2l, List.length_append, List.length_append, List.length_append, List.length_drop, hA, hRl]
        rw [hRl] at hlc
        omega
      · rw [hC2l, hall, hres]
        have h1 : (FE.all (l.take i) ++ FE.all [x] ++ FE.all (l.drop i)).length = (N + 1) * FE.s := by
          rw [List.length_append, List.length_append, hA, hXl, hB]
          show _ = (N + 1) * 2
          omega
        rw [← h1, List.take_left]
    have hkf : Keeps [] w (W2.drew.setRow nb C2) := by
      refine (hk2.drew).trans' (T := [nb]) ((Keeps.refl [nb] W2.drew).setRow (Or.inl (by simp)) _) (fun z hz => Or.inr (by obtain rfl := List.mem_singleton.1 hz; omega))
    have HFIN := Lib.hid (And.intro hfin (And.intro hkf hnb))
    have hGi : ¬ (G = i) := by omega
    have hGim : ¬ (G = i + 1) := by omega
    have hci : ¬ (c = i) := by omega
    have hw1 : IntKind.i64.wrap ((i : Int) + 1) = (i : Int) + 1 := by rw [IntKind.wrap_i64]; omega
    have hb0 : (i : Int) + 1 ≤ (N : Int) + 1 := by omega
    have hin : i ≤ N := by omega
    have htn : ((i : Int) + 1).toNat = i + 1 := by omega
    have hb3 : (i : Int) ≤ (N : Int) + 1 := by omega
    have hb4 : (i : Int) ≤ (N : Int) := by omega
    have mixed : Try.prog.follows .mixedOrders = true := by kernel_rfl
    clear hfin hkf hC1s hC2l hC2 hk2 hgo2 hg2 hW2 hlc hC1 hnb hk1 hb1 hgo1 hg1 hW1 hRA hRl hRs hzc hROW hZ hG hold hik hkk hi0 hz0 hzs hzb hcl hres hall hXcell hX hXl hone hBcell hCA hAB hB hA htake hcs hg hb hrow hlen hne hgb hN hgw hvw
    go_enter Try.func25, Try.ntmps25
    go_wp2_with (first | (refine Lib.wpList_append_run _ rfl (.tmp 34) (.tmp 39) 27 3 rfl _ _ rfl rfl _ _ (hrz _) ?_) | (refine wpList_copy_runI _ rfl (.tmp 43) (.tmp 44) 27 27 rfl _ _ rfl rfl (hcpA _ _) ?_) | fail)
    have hb1 : (0 : Int) ≤ (i : Int) + 1 := by omega
    go_region_law_o (refine step_copy_runI rfl _ _ 27 27 rfl _ _ (by simp [Act.eval, Act.put]) (by simp [Act.eval, Act.put]) (hcpB _ _ _) ?_)
    go_wp2
    go_ret
    exact ⟨_, rfl, HFIN.out.1, fun q hq => Or.inr (by have h2 := HFIN.out.2.2; obtain rfl : nb = q := (by simpa [Value.ownBlock] using hq); exact Nat.le_of_eq h2.symm), HFIN.out.2.1.mono (by simp)⟩
end Go.Proofs.Ytppmnjblcblofaa
