/-
  slices.Delete of one entry, walked.
-/
import Derived.Test.YtppmnjblcblofaaD2
namespace Go.Proofs.Ytppmnjblcblofaa
open Go.RowKit Go.V Go.V.Path Go.V.Dents
section
variable {P : Program}
theorem step_append_runI {ops : Array Oper} {o : Oper} {a : Act} {w : World} {K : Act → World → Prop} {Q : Exit → Act → World → Prop} {E : Prop}
    (hg : o.guard = none) (d x : Operand) (dT sT : TypeId) (hop : o.op = Op.call { callee := Callee.builtin Builtin.append, args := #[d, x], argTypes := #[dT, sT] })
    (v u : Value) (hd : a.eval d = v) (hx : a.eval x = u) {v' : Value} {w' : World} (hr : (Builtin.append_ #[dT, sT] o.type #[v, u]).run P w = .ok v' w') (hK : K (a.put o.dst v') w') :
    if Region.wanted o (yielded ops a.tmps) = true then Oper.wp P o a w K Q else E := by
  have hw : Region.wanted o (yielded ops a.tmps) = true := by simp [Region.wanted, hg]
  rw [if_pos hw]
  unfold Oper.wp
  simp [execOp, hop, resolve, invoke, builtin, hd, hx, hr, Result.andThen]
  exact hK
theorem vp_clear_run {ops : Array Oper} {rest : List Oper} {o : Oper} {a : Act} {Q : Exit → Act → World → Prop} {w w' : World} (hgd : o.guard = none) (x : Operand) (t : TypeId) (ho : o.op = .call { callee := .builtin .clear, args := #[x], argTypes := #[t] })
    (v : Value) (hx : a.eval x = v) (hrun : (Builtin.clear_ #[t] o.type #[v]).run P w = .ok (.tuple #[]) w') (h : wpList P ops Q rest (a.put o.dst (.tuple #[])) w') : wpList P ops Q (o :: rest) a w := by
  refine wpList_plain hgd fun K' hK' => ?_
  unfold Oper.wp
  simp [execOp, ho, resolve, invoke, builtin, hx, hrun, Result.andThen]
  exact hK' _ _ h
end
def DelPost (v : Value) (l : List Ent) (w : World) (e : Ending) (w' : World) : Prop :=
  ∃ v', e = .returned v' ∧ RowG FE 37 w' v' l ∧ v'.ownBlock = v.ownBlock ∧ Keeps v.ownBlock.toList w w'
set_option maxRecDepth 100000 in
set_option maxHeartbeats 4000000 in
theorem delete_ok (v : Value) (l : List Ent) (i : Nat) (w : World) (hv : RowG FE 37 w v l) (hi : i < l.length) (hl : l.length ≤ 1000) :
    Calls Try.prog 28 #[v, .int .i64 (i : Nat), .int .i64 ((i : Int) + 1)] w (DelPost v (l.take i ++ l.drop (i + 1)) w) := by
  obtain ⟨hlen, hcase⟩ := hv
  rcases hcase with ⟨_, h0⟩ | ⟨g, c, cur, rfl, _, hg, hnc, hcm, hcs, htake⟩
  · omega
  obtain ⟨N, hN⟩ : ∃ N, N = l.length := ⟨_, rfl⟩
  rw [← hN] at hi hl hnc htake ⊢
  have hcm : c ≤ 9223372036854775807 := hcm
  have hcs : cur.size = c * 2 := hcs
  have htake : cur.toList.take (N * 2) = FE.all l := htake
  have hcl : cur.toList.length = c * 2 := by rw [Array.length_toList]; exact hcs
  obtain ⟨M, hM⟩ : ∃ M, M + 1 = N := ⟨N - 1, by omega⟩
  have hA : (FE.all (l.take i)).length = i * 2 := by rw [FE.length_all, List.length_take, ← hN, Nat.min_eq_left (by omega)]; rfl
  have hB : (FE.all (l.drop (i + 1))).length = (M - i) * 2 := by rw [FE.length_all, List.length_drop, ← hN]; show (N - (i + 1)) * 2 = _; congr 1; omega
  have hone : ∀ (l' : List Ent), ∀ u ∈ FE.all l', u.oneCell' = true := fun l' u hu => by
    obtain ⟨y, _, hy⟩ := List.mem_flatMap.1 hu
    exact FE.one y u hy
  have hpre : ∀ k, k ≤ N → cur.toList.take (k * 2) = FE.all (l.take k) := fun k hk => by
    rw [Form.all_take]
    show _ = (FE.all l).take (k * 2)
    rw [← htake, List.take_take, Nat.min_eq_left (by omega)]
  have hcell : ∀ j u, (FE.all (l.drop (i + 1)))[j]? = some u → w.cell? ⟨g, (i + 1) * 2 + j, none⟩ = some u := by
    intro j u hu
    refine cell_of hg ?_
    have h1 : (FE.all l)[(i + 1) * 2 + j]? = some u := by
      have h2 : FE.all l = FE.all (l.take (i + 1)) ++ FE.all (l.drop (i + 1)) := by rw [← Form.all_append, List.take_append_drop]
      have h3 : (FE.all (l.take (i + 1))).length = (i + 1) * 2 := by rw [FE.length_all, List.length_take, ← hN, Nat.min_eq_left (by omega)]; rfl
      rw [h2, List.getElem?_append_right (by omega), h3, Nat.add_sub_cancel_left]
      exact hu
    rw [← htake, List.getElem?_take] at h1
    split at h1
    · simpa using h1
    · cases h1
  obtain ⟨i0, hi0, hzs⟩ : ∃ i0, Try.prog.info? 37 = some i0 ∧ i0.size = 2 := by
    have hi := infoE
    cases hq : Try.prog.info? 37 with
    | none => rw [hq] at hi; cases hi
    | some k =>
      rw [hq] at hi
      simp only [Option.map_some, Option.some.injEq, Prod.mk.injEq] at hi
      exact ⟨k, rfl, hi.2.1⟩
  obtain ⟨C1, hC1⟩ : ∃ C1 : Array Value, C1 = (cur.toList.take (i * 2) ++ FE.all (l.drop (i + 1)) ++ cur.toList.drop (i * 2 + (FE.all (l.drop (i + 1))).length)).toArray := ⟨_, rfl⟩
  have hC1l : C1.toList = FE.all (l.take i) ++ FE.all (l.drop (i + 1)) ++ cur.toList.drop (M * 2) := by
    rw [hC1, hB, hpre i (by omega), show i * 2 + (M - i) * 2 = M * 2 by omega]
  have hC1s : C1.toList.length = c * 2 := by
    rw [hC1l, List.length_append, List.length_append, List.length_drop, hA, hB, hcl]
    omega
  have hap : ∀ ty a cc, (a = ⟨g, (i + 1) * 2, none⟩ ∨ M - i = 0) → (Builtin.append_ #[27, 27] ty #[.slice (some ⟨g, 0, none⟩) i c, .slice (some a) (M - i) cc]).run Try.prog w.drew = .ok (.slice (some ⟨g, 0, none⟩) M c) (w.drew.setRow g C1) := fun ty a cc ha => by
    have h := run_append_room (P := Try.prog) w.drew 27 ty 37 i0 Try.underlying27 hi0 g i c cur hg a (M - i) cc (FE.all (l.drop (i + 1))) (by rw [hB, hzs]) (fun j u hj => by
        rcases ha with ha | ha
        · rw [ha, add_none]; exact hcell j u hj
        · rw [ha] at hB
          rw [List.eq_nil_of_length_eq_zero hB] at hj
          simp at hj) (hone _) (by omega) (by rw [hzs, hB, hcs]; omega)
    rw [hzs, ← hC1, show i + (M - i) = M by omega] at h
    exact h
  obtain ⟨W1, hW1⟩ : ∃ W1, W1 = w.drew.setRow g C1 := ⟨_, rfl⟩
  rw [← hW1] at hap
  have hg1 : W1.heap[g]? = some (.cells C1 37 (0, 0)) := by rw [hW1]; exact heap_setRow (w := w.drew) hg
  obtain ⟨C2, hC2⟩ : ∃ C2 : Array Value, C2 = (C1.toList.take (M * 2) ++ [Value.string ByteArray.empty, Value.int .i64 0] ++ C1.toList.drop (M * 2 + 2)).toArray := ⟨_, rfl⟩
  have hst := run_storeCells_at (P := Try.prog) g (M * 2) 37 [Value.string ByteArray.empty, Value.int .i64 0] 0 C1 W1 hg1 (by rw [← Array.length_toList, hC1s]; simp only [List.length_cons, List.length_nil]; omega) (fun u hu => by simp only [List.mem_cons, List.not_mem_nil, or_false] at hu; rcases hu with rfl | rfl <;> rfl)
  simp only [Nat.add_zero, List.length_cons, List.length_nil, Nat.zero_add] at hst
  rw [show M * 2 + (1 + 1) = M * 2 + 2 from rfl, ← hC2] at hst
  have hclr : ∀ ty cc, (Builtin.clear_ #[27] ty #[.slice (some ⟨g, M * 2, none⟩) 1 cc]).run Try.prog W1 = .ok (.tuple #[]) (W1.setRow g C2) := fun ty cc => by
    have hz : (zeroValue 37).run Try.prog W1 = .ok (.agg #[.string ByteArray.empty, .int .i64 0]) W1 := Try.zeroValue37 W1
    have hzl : (Builtin.zeroCells (Value.agg #[.string ByteArray.empty, .int .i64 0]).cells 1).toList = [Value.string ByteArray.empty, Value.int .i64 0] := by kernel_rfl
    simp [Builtin.clear_, run_underlying Try.underlying27, Sem.run_bind, Result.andThen, hz, hzl, hst]
  have hfin : RowG FE 37 (W1.setRow g C2) (.slice (some ⟨g, 0, none⟩) M c) (l.take i ++ l.drop (i + 1)) := by
    have hll : (l.take i ++ l.drop (i + 1)).length = M := by rw [List.length_append, List.length_take, List.length_drop, ← hN]; omega
    refine RowG.of_row (heap_setRow hg1) hll.symm (by rw [hll]; omega) (by unfold maxLen; omega) ?_ ?_
    · show C2.size = c * 2
      rw [hC2, List.size_toArray, List.length_append, List.length_append, List.length_take, List.length_drop, hC1s]
      show _ + 2 + _ = _
      omega
    · rw [hll, hC2, Form.all_append]
      show List.take (M * 2) (C1.toList.take (M * 2) ++ _ ++ _) = _
      rw [List.append_assoc, List.take_append_of_le_length (by rw [List.length_take, hC1s]; omega), List.take_take, Nat.min_self, hC1l]
      have h1 : (FE.all (l.take i) ++ FE.all (l.drop (i + 1))).length = M * 2 := by rw [List.length_append, hA, hB]; omega
      rw [← h1, List.take_left]
  have hkk : Keeps [g] w (W1.setRow g C2) := by
    have h1 : Keeps [g] w.drew W1 := by rw [hW1]; exact (Keeps.refl _ _).setRow (Or.inl (by simp)) _
    exact (((Keeps.refl [g] w).drew).trans h1).setRow (Or.inl (by simp)) _
  by_cases hlast : i = M
  · subst hlast
    obtain ⟨C3, hC3⟩ : ∃ C3 : Array Value, C3 = (cur.toList.take (i * 2) ++ [Value.string ByteArray.empty, Value.int .i64 0] ++ cur.toList.drop (i * 2 + 2)).toArray := ⟨_, rfl⟩
    have hst3 := run_storeCells_at (P := Try.prog) g (i * 2) 37 [Value.string ByteArray.empty, Value.int .i64 0] 0 cur w.drew hg (by rw [← Array.length_toList, hcl]; simp only [List.length_cons, List.length_nil]; omega) (fun u hu => by simp only [List.mem_cons, List.not_mem_nil, or_false] at hu; rcases hu with rfl | rfl <;> rfl)
    simp only [Nat.add_zero, List.length_cons, List.length_nil, Nat.zero_add] at hst3
    rw [show i * 2 + (1 + 1) = i * 2 + 2 from rfl, ← hC3] at hst3
    have hclr3 : ∀ ty cc, (Builtin.clear_ #[27] ty #[.slice (some ⟨g, i * 2, none⟩) 1 cc]).run Try.prog w.drew = .ok (.tuple #[]) (w.drew.setRow g C3) := fun ty cc => by
      have hz : (zeroValue 37).run Try.prog w.drew = .ok (.agg #[.string ByteArray.empty, .int .i64 0]) w.drew := Try.zeroValue37 w.drew
      have hzl : (Builtin.zeroCells (Value.agg #[.string ByteArray.empty, .int .i64 0]).cells 1).toList = [Value.string ByteArray.empty, Value.int .i64 0] := by kernel_rfl
      simp [Builtin.clear_, run_underlying Try.underlying27, Sem.run_bind, Result.andThen, hz, hzl, hst3]
    have hfin3 : RowG FE 37 (w.drew.setRow g C3) (.slice (some ⟨g, 0, none⟩) i c) (l.take i ++ l.drop (i + 1)) := by
      have hd : l.drop (i + 1) = [] := List.drop_eq_nil_of_le (by omega)
      have hll : (l.take i).length = i := by rw [List.length_take, ← hN]; omega
      rw [hd, List.append_nil]
      refine RowG.of_row (heap_setRow (w := w.drew) hg) hll.symm (by rw [hll]; omega) (by unfold maxLen; omega) ?_ ?_
      · show C3.size = c * 2
        rw [hC3, List.size_toArray, List.length_append, List.length_append, List.length_take, List.length_drop, hcl]
        show _ + 2 + _ = _
        omega
      · rw [hll, hC3]
        show List.take (i * 2) (cur.toList.take (i * 2) ++ _ ++ _) = _
        rw [List.append_assoc, List.take_append_of_le_length (by rw [List.length_take, hcl]; omega), List.take_take, Nat.min_self]
        exact hpre i (by omega)
    have hkk3 : Keeps [g] w (w.drew.setRow g C3) := ((Keeps.refl [g] w).drew).setRow (Or.inl (by simp)) _
    have HFIN := Lib.hid (And.intro hfin3 hkk3)
    clear hfin hkk hst hC2 hg1 hW1 hC1s hC1l hC1 hi0 hzs hcell hpre hone hB hA hcl htake hcs hg hlen hap hclr hfin3 hkk3 hst3 hC3
    have mixed : Try.prog.follows .mixedOrders = true := by kernel_rfl
    subst hM
    clear hN
    have hci : ¬ (c = i) := by omega
    have hie : ¬ ((i : Int) = (i : Int) + 1) := by omega
    by_cases hce : c = i + 1
    · subst hce
      have hb1 : (0 : Int) ≤ (i : Int) + 1 := by omega
      have htn : ((i : Int) + 1).toNat = i + 1 := by omega
      go_enter Try.func28, Try.ntmps28
      go_upto_region 5 with fail
      have hb1 : (0 : Int) ≤ (i : Int) + 1 := by omega
      have htn : ((i : Int) + 1).toNat = i + 1 := by omega
      have hin2 : (i : Int) ≤ (i : Int) + 1 := by omega
      go_region_law_o (fail)
      go_wp2_with (first | (refine vp_clear_run rfl (.tmp 31) 27 rfl _ rfl (hclr3 _ _) ?_) | fail)
      go_ret
      exact ⟨_, rfl, HFIN.out.1, rfl, HFIN.out.2⟩
    · have hb1 : (0 : Int) ≤ (i : Int) + 1 := by omega
      have htn : ((i : Int) + 1).toNat = i + 1 := by omega
      go_enter Try.func28, Try.ntmps28
      go_upto_region 5 with fail
      have hb1 : (0 : Int) ≤ (i : Int) + 1 := by omega
      have htn : ((i : Int) + 1).toNat = i + 1 := by omega
      have hin2 : (i : Int) ≤ (i : Int) + 1 := by omega
      have hin3 : (i : Int) ≤ (c : Int) := by omega
      have hin4 : (i : Int) + 1 ≤ (c : Int) := by omega
      have hin5 : i ≤ c := by omega
      go_region_law_o (fail)
      go_wp2_with (first | (refine vp_clear_run rfl (.tmp 31) 27 rfl _ rfl (hclr3 _ _) ?_) | fail)
      go_ret
      exact ⟨_, rfl, HFIN.out.1, rfl, HFIN.out.2⟩
  have hlt : i < M := by omega
  have HFIN := Lib.hid (And.intro hfin hkk)
  clear hfin hkk hst hC2 hg1 hW1 hC1s hC1l hC1 hi0 hzs hcell hpre hone hB hA hcl htake hcs hg hlen
  have mixed : Try.prog.follows .mixedOrders = true := by kernel_rfl
  subst hM
  clear hN
  have hci : ¬ (c = i) := by omega
  have hcM : ¬ (c = M) := by omega
  have hie : ¬ ((i : Int) = (i : Int) + 1) := by omega
  have hce : ¬ (c = i + 1) := by omega
  have hb1 : (0 : Int) ≤ (i : Int) + 1 := by omega
  have htn : ((i : Int) + 1).toNat = i + 1 := by omega
  have hb0 : (i : Int) + 1 ≤ (M : Int) + 1 := by omega
  have hin : i ≤ M + 1 := by omega
  go_enter Try.func28, Try.ntmps28
  go_upto_region 5 with fail
  have hb1 : (0 : Int) ≤ (i : Int) + 1 := by omega
  have htn : ((i : Int) + 1).toNat = i + 1 := by omega
  have hb0 : (i : Int) + 1 ≤ (M : Int) + 1 := by omega
  have hin2 : (i : Int) ≤ (M : Int) + 1 := by omega
  have hin : i ≤ M + 1 := by omega
  have hic : i ≤ c := by omega
  go_region_law_o (refine step_append_runI rfl _ _ 27 27 rfl (.slice (some ⟨g, 0, none⟩) i c) (.slice (some ⟨g, (i + 1) * 2, none⟩) (M - i) (c - (i + 1))) (by simp [Act.eval, Act.put]) (by simp [Act.eval, Act.put]) (hap _ ⟨g, (i + 1) * 2, none⟩ _ (Or.inl rfl)) ?_)
  go_wp2_with (first | (refine vp_clear_run rfl (.tmp 31) 27 rfl _ rfl (hclr _ _) ?_) | fail)
  go_ret
  exact ⟨_, rfl, HFIN.out.1, rfl, HFIN.out.2⟩
end Go.Proofs.Ytppmnjblcblofaa
