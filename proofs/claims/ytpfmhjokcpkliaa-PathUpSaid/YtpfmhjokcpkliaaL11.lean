/-
  The reference: Parse, walked.
-/
import Derived.Test.YtpfmhjokcpkliaaL10
namespace Go.Proofs.Ytpfmhjokcpkliaa
open Go.RowKit Go.V Go.V.Path
/-- what is parsed so far, with the sign of a directory -/
structure PD (w2 : World) (qb : Nat) (D : Bool) (va : Value) (acc : List (List UInt8)) (wx : World) : Prop where
  q : wx.heap[qb]? = some (.cells #[va, .bool D] 25 (0, 0))
  r : RowG FB 9 wx va acc
  g : ∀ x, va.ownBlock = some x → w2.heap.size ≤ x
  k : Keeps [qb] w2 wx
theorem PD.app {w2 wx w' : World} {qb : Nat} {D : Bool} {va va' : Value} {acc acc' : List (List UInt8)} (h : PD w2 qb D va acc wx) (hq : qb < w2.heap.size) {wb : World} (hk0 : Keeps [] wx wb) (k1 : RowG FB 9 w' va' acc') (k2 : ∀ x, va'.ownBlock = some x → va.ownBlock = some x ∨ wb.heap.size ≤ x) (k3 : wb.grownBy w' va.ownBlock) :
    PD w2 qb D va' acc' (w'.setCell ⟨qb, 0, none⟩ va') ∧ w'.heap[qb]? = some (.cells #[va, .bool D] 25 (0, 0)) ∧ Keeps [qb] w2 w' := by
  have hk : Keeps va.ownBlock.toList wb w' := keeps_grown (S := va.ownBlock.toList) k3 (fun k hk => by rw [hk]; simp)
  have hqb : w'.heap[qb]? = some (.cells #[va, .bool D] 25 (0, 0)) := hk.get (hk0.get h.q (by simp)) (fun hx => by have := h.g qb (by simpa using hx); omega)
  have hks : Keeps [qb] w' (w'.setCell ⟨qb, 0, none⟩ va') := (Keeps.refl _ _).setCell (Or.inl (by simp)) _
  have hk2 : Keeps [qb] w2 w' := (h.k.trans (hk0.mono (by simp))).trans' hk (fun x hx => Or.inr (h.g x (by simpa using hx)))
  refine ⟨⟨heap_setCell hqb, k1.keep hks (fun x hx => by obtain rfl := List.mem_singleton.1 hx; exact k1.ne hqb (by decide)), fun x hx => ?_, hk2.trans hks⟩, hqb, hk2⟩
  rcases k2 x hx with q | q
  · exact h.g x q
  · exact Nat.le_trans (Nat.le_trans h.k.size hk0.size) q
def PLd (w2 : World) (qb : Nat) (D : Bool) (ps : List (List UInt8)) (m : Nat) (vi : Value) (wx : World) : Prop :=
  ∃ (i : Nat) (va : Value), vi = .int .i64 i ∧ i + m = ps.length ∧ longB (ps.take i) = false ∧ PD w2 qb D va (namesL (ps.take i)) wx
/-- an error told -/
theorem err_fin {w w2 wr : World} {pb qb : Nat} {l : List UInt8} {E : Int} (hp : wr.heap[pb]? = some (.cells #[.slice none 0 0, .bool false] 25 (0, 0))) (h0 : w.heap.size ≤ pb) (h1 : w.heap.size ≤ qb) (hk : Keeps [] w w2) (hk2 : Keeps [qb] w2 wr) (hE : parseE l = E) (hn : E ≠ 0) :
    ((wr.setCell ⟨pb, 0, none⟩ (.slice none 0 0)).setCell ⟨pb, 1, none⟩ (.bool false)).heap[pb]? = some (.cells #[.slice none 0 0, .bool false] 25 (0, 0)) ∧
    ParsePost l w (.returned (.tuple #[.agg #[.slice none 0 0, .bool false], .int .i64 E])) ((wr.setCell ⟨pb, 0, none⟩ (.slice none 0 0)).setCell ⟨pb, 1, none⟩ (.bool false)) := by
  have hkk : Keeps [pb] wr ((wr.setCell ⟨pb, 0, none⟩ (.slice none 0 0)).setCell ⟨pb, 1, none⟩ (.bool false)) := ((Keeps.refl [pb] wr).setCell (Or.inl (by simp)) _).setCell (Or.inl (by simp)) _
  refine ⟨heap_setCell (heap_setCell hp), .slice none 0 0, ?_, ?_⟩
  · have hd : parseD l = false := by unfold parseD; rw [hE, if_neg hn]
    rw [hd, hE]
  · have hN : parseN l = [] := by unfold parseN; rw [hE, if_neg hn]
    rw [hN]
    exact ⟨RowG.nil FB 9 _, fun x hx => (by cases hx), fin_keeps hk hk2 hkk h1 h0⟩
set_option maxRecDepth 100000 in
set_option maxHeartbeats 4000000 in
theorem rparse_ok (s : ByteArray) (w : World) (hs0 : s.size ≤ 4611686018427387904) : Calls Try.prog 14 #[.string s] w (ParsePost s.data.toList w) := by
  have hsz := size_len s
  obtain ⟨l, hl⟩ : ∃ l, l = s.data.toList := ⟨_, rfl⟩
  rw [← hl] at hsz ⊢
  have HS := Lib.hid (And.intro hl hsz)
  clear hl hsz
  go_enter Try.func14, Try.ntmps14
  go_upto_region 2 with fail
  obtain ⟨w2, hw2⟩ : ∃ w2, w2 = (w.alloc (.cells #[.slice none 0 0, .bool false] 25)).alloc (.cells #[.slice none 0 0, .bool false] 25) := ⟨_, rfl⟩
  obtain ⟨pb, hpb⟩ : ∃ pb, pb = w.heap.size := ⟨_, rfl⟩
  obtain ⟨nb, hnb⟩ : ∃ nb, nb = w.heap.size + 1 := ⟨_, rfl⟩
  have q1 : w2.heap[pb]? = some (.cells #[.slice none 0 0, .bool false] 25 (0, 0)) := by
    rw [hw2, hpb]; exact heap_alloc_ne _ _ (heap_alloc w _)
  have q2 : w2.heap[nb]? = some (.cells #[.slice none 0 0, .bool false] 25 (0, 0)) := by
    rw [hw2, hnb]
    have := heap_alloc (w.alloc (.cells #[.slice none 0 0, .bool false] 25)) (.cells #[.slice none 0 0, .bool false] 25)
    rwa [show (w.alloc (.cells #[.slice none 0 0, .bool false] 25)).heap.size = w.heap.size + 1 from by show (w.heap.push _).size = _; simp] at this
  have hk2 : Keeps [] w w2 := by rw [hw2]; exact ((Keeps.refl _ _).alloc _).alloc _
  have H2 := Lib.hid (And.intro q1 (And.intro q2 (And.intro hk2 (And.intro (show pb ≠ nb by omega) (show w.heap.size ≤ pb by omega)))))
  rw [← hw2, ← hnb, ← hpb]
  clear hw2 hpb hnb q1 q2 hk2
  have cells : ∀ wr : World, Keeps [] w2 wr → wr.cell? ⟨pb, 0, none⟩ = some (.slice none 0 0) ∧ wr.cell? ⟨pb, 1, none⟩ = some (.bool false) ∧ wr.cell? ⟨nb, 0, none⟩ = some (.slice none 0 0) ∧ wr.cell? ⟨nb, 1, none⟩ = some (.bool false) ∧ wr.frozen? ⟨pb, 0, none⟩ = false ∧ wr.frozen? ⟨pb, 1, none⟩ = false := by
    intro wr hk
    have a := hk.get H2.out.1 (by simp)
    have b := hk.get H2.out.2.1 (by simp)
    exact ⟨cell_of a rfl, cell_of a rfl, cell_of b rfl, cell_of b rfl, frozen_of 0 a, frozen_of 1 a⟩
  have HC := Lib.hid cells
  clear cells
  by_cases he : l = []
  · have hv : parseE l = 2 := by unfold parseE; rw [if_pos he]
    have e1 : ((s.size : Int) == 0) = true := by rw [HS.out.2, he]; rfl
    have HV := Lib.hid (err_fin H2.out.1 H2.out.2.2.2.2 H2.out.2.2.2.2 H2.out.2.2.1 (Keeps.refl [pb] w2) hv (by decide))
    clear hv he
    obtain ⟨p0, p1, n0, n1, z0, z1⟩ := HC.out w2 (Keeps.refl _ _)
    go_wp2
    (try simp only [Exit.inBlock, Exit.then])
    refine bodyPost_ret (results_ct rfl rfl (load25 HV.out.1)) rfl ?_
    exact HV.out.2
  · have e1 : ((s.size : Int) == 0) = false := by
      rw [beq_eq_false_iff_ne]
      intro e
      exact he (List.eq_nil_of_length_eq_zero (by have := HS.out.2; omega))
    by_cases hlong : 400 < l.length
    · have hs : (400 : Int) < (s.size : Int) := by have := HS.out.2; omega
      have hv : parseE l = 36 := by unfold parseE; rw [if_neg he, if_pos hlong]
      have HV := Lib.hid (err_fin H2.out.1 H2.out.2.2.2.2 H2.out.2.2.2.2 H2.out.2.2.1 (Keeps.refl [pb] w2) hv (by decide))
      clear hv he hlong
      obtain ⟨p0, p1, n0, n1, z0, z1⟩ := HC.out w2 (Keeps.refl _ _)
      go_wp2
      (try simp only [Exit.inBlock, Exit.then])
      refine bodyPost_ret (results_ct rfl rfl (load25 HV.out.1)) rfl ?_
      exact HV.out.2
    · have hs : ¬ (400 : Int) < (s.size : Int) := by have := HS.out.2; omega
      have h0 := has_ok s 0 w2 hs0
      rw [← HS.out.1] at h0
      unfold BP at h0
      by_cases hz : l.contains 0 = true
      · rw [hz] at h0
        have H0 := Lib.hid h0
        have hv : parseE l = 22 := by unfold parseE; rw [if_neg he, if_neg hlong, if_pos hz]
        have HV := Lib.hid (err_fin H2.out.1 H2.out.2.2.2.2 H2.out.2.2.2.2 H2.out.2.2.1 (Keeps.refl [pb] w2) hv (by decide))
        clear hv he hlong hz h0
        obtain ⟨p0, p1, n0, n1, z0, z1⟩ := HC.out w2 (Keeps.refl _ _)
        go_wp2_with fail
        refine H0.out.mono ?_
        rintro e w' ⟨rfl, rfl⟩
        go_wp2
        (try simp only [Exit.inBlock, Exit.then])
        refine bodyPost_ret (results_ct rfl rfl (load25 HV.out.1)) rfl ?_
        exact HV.out.2
      · have hz' : l.contains 0 = false := by simpa using hz
        rw [hz'] at h0
        have H0 := Lib.hid h0
        have hE : parseE l = if longB (partsL l) = true then 36 else if 40 < (namesL (partsL l)).length then 36 else 0 := by
          unfold parseE; rw [if_neg he, if_neg hlong, if_neg hz]
        have HE := Lib.hid hE
        have HNE := Lib.hid (And.intro he (show l.length ≤ 400 by omega))
        clear he hlong hz hz' hE h0
        have HPT := Lib.hid (rparts_ok s w2 (by omega))
        go_wp2_with fail
        refine H0.out.mono ?_
        rintro e w' ⟨rfl, hww⟩
        subst w'
        go_wp2_with fail
        refine HPT.out.mono ?_
        rintro e w3 ⟨vps, rfl, hps⟩
        rw [← HS.out.1] at hps
        obtain ⟨ps, hpl⟩ : ∃ ps, ps = partsL l := ⟨_, rfl⟩
        rw [← hpl] at hps
        have hpsl : ps.length ≤ 400 := by
          have h1 := partsG_length l []
          simp only [if_true] at h1
          have h2 := HNE.out.2
          rw [hpl]
          unfold partsL
          omega
        obtain ⟨pp, cp, hvp, _, _⟩ := hps.1.value
        obtain ⟨N, hN⟩ : ∃ N, N = ps.length := ⟨_, rfl⟩
        rw [← hN] at hvp hpsl
        subst hvp
        have HPS := Lib.hid hps
        have HPL := Lib.hid (And.intro hpl hN)
        clear hps hpl hN H0 HPT
        obtain ⟨D, hD⟩ : ∃ D, D = (l.getLastD 0 == 47) := ⟨_, rfl⟩
        have hsp : 0 < s.size := by
          rw [HS.out.2]
          cases hl0 : l with
          | nil => exact absurd hl0 HNE.out.1
          | cons => simp
        have hk : s.size - 1 < s.size := by omega
        have hlast : s[s.size - 1]'hk = l.getLastD 0 := by
          refine byte_is hk ?_
          rw [← HS.out.1, HS.out.2, ← List.getLast?_eq_getElem?, List.getLastD_eq_getLast?]
          cases hl0 : l with
          | nil => exact absurd hl0 HNE.out.1
          | cons a r => rw [List.getLast?_cons]; rfl
        have e47 : (((s[s.size - 1]'hk).toNat : Int) == 47) = D := by
          rw [hlast, hD, Bool.eq_iff_iff, beq_iff_eq, beq_iff_eq]
          constructor
          · intro e; exact UInt8.toNat_inj.1 (by show (l.getLastD 0).toNat = 47; omega)
          · intro e; rw [e]; rfl
        have hsi : (s.size : Int) - 1 = ((s.size - 1 : Nat) : Int) := by omega
        have HD := Lib.hid hD
        clear hD hlast
        go_upto_region 10 with fail
        obtain ⟨w4, hw4⟩ : ∃ w4, w4 = w3.alloc (.cells #[.slice none 0 0, .bool D] 25) := ⟨_, rfl⟩
        obtain ⟨qb, hqb⟩ : ∃ qb, qb = w3.heap.size := ⟨_, rfl⟩
        have hq4 : w4.heap[qb]? = some (.cells #[.slice none 0 0, .bool D] 25 (0, 0)) := by rw [hw4, hqb]; exact heap_alloc w3 _
        have hk34 : Keeps [] w3 w4 := by rw [hw4]; exact (Keeps.refl _ _).alloc _
        have hk24 : Keeps [] w2 w4 := HPS.out.2.2.trans hk34
        have hps4 : RowG FB 9 w4 (.slice pp N cp) ps := HPS.out.1.keep hk34 (by simp)
        have hne4 := hps4.ne hq4 (by decide)
        have hqs : w2.heap.size ≤ qb := by rw [hqb]; exact HPS.out.2.2.size
        have hpq : pb ≠ qb := fun e => by have := lt_of_heap H2.out.1; omega
        have hnq : nb ≠ qb := fun e => by have := lt_of_heap H2.out.2.1; omega
        have hqlt : qb < w4.heap.size := lt_of_heap hq4
        have H4 := Lib.hid (And.intro hq4 (And.intro hk24 (And.intro hps4 (And.intro hne4 (And.intro hpq (And.intro hnq (show w.heap.size ≤ qb by have := H2.out.2.2.1.size; omega)))))))
        rw [← hw4, ← hqb]
        clear hw4 hqb hq4 hk34 hk24 hps4 hne4 hqs hpq hnq
        have cells4 : ∀ wr : World, Keeps [qb] w4 wr → wr.cell? ⟨pb, 0, none⟩ = some (.slice none 0 0) ∧ wr.cell? ⟨pb, 1, none⟩ = some (.bool false) ∧ wr.cell? ⟨nb, 0, none⟩ = some (.slice none 0 0) ∧ wr.cell? ⟨nb, 1, none⟩ = some (.bool false) ∧ wr.frozen? ⟨pb, 0, none⟩ = false ∧ wr.frozen? ⟨pb, 1, none⟩ = false ∧ wr.heap[pb]? = some (.cells #[.slice none 0 0, .bool false] 25 (0, 0)) := by
          intro wr hk
          have a := hk.get (H4.out.2.1.get H2.out.1 (by simp)) (by simp; exact H4.out.2.2.2.2.1)
          have b := hk.get (H4.out.2.1.get H2.out.2.1 (by simp)) (by simp; exact H4.out.2.2.2.2.2.1)
          exact ⟨cell_of a rfl, cell_of a rfl, cell_of b rfl, cell_of b rfl, frozen_of 0 a, frozen_of 1 a, a⟩
        have HC4 := Lib.hid cells4
        clear cells4
        go_upto_block 0 with fail
        go_cut [7] (fun _ wx => ∃ va, longB ps = false ∧ PD w4 qb D va (namesL ps) wx)
        case first =>
          go_wp2_with fail
          go_loopg [7] N (fun m vi wx => PLd w4 qb D ps m vi wx)
          case atStart => exact ⟨0, _, rfl, by rw [← HPL.out.2, Nat.zero_add], rfl, H4.out.1, RowG.nil FB 9 w4, fun x hx => (by cases hx), Keeps.refl _ _⟩
          case round =>
            obtain ⟨i, va, rfl, hi, hlb, hpd⟩ := hrel
            rw [← HPL.out.2] at hi
            have HLB := Lib.hid (And.intro hlb (And.intro hpd hi))
            obtain ⟨pv, cv, hv, _, _⟩ := hpd.r.value
            obtain ⟨acc, hacc⟩ : ∃ acc, acc = namesL (ps.take i) := ⟨_, rfl⟩
            have hal : acc.length ≤ i := by rw [hacc]; exact Nat.le_trans (List.length_filter_le _ _) (by rw [List.length_take]; omega)
            rw [← hacc] at hv
            subst hv
            by_cases hlt : i < N
            · obtain ⟨x, hx⟩ : ∃ x, ps[i]? = some x := ⟨_, List.getElem?_eq_getElem (by rw [← HPL.out.2]; exact hlt)⟩
              obtain ⟨gp, gc, _, hv, _⟩ := H4.out.2.2.1.shape (by rw [← HPL.out.2]; omega)
              simp only [Value.slice.injEq] at hv
              obtain ⟨rfl, hv1, hv2⟩ := hv
              clear hv1 hv2
              have hrw := H4.out.2.2.1.keep hpd.k (fun z hz => by obtain rfl := List.mem_singleton.1 hz; exact H4.out.2.2.2.1)
              have d0 : wr.cell? ⟨gp, i * 1, none⟩ = some (.string (bs x)) := hrw.item rfl hx (j := 0) rfl
              rw [Nat.mul_one] at d0
              have htk : ps.take (i + 1) = ps.take i ++ [x] := by rw [List.take_add_one, hx]; rfl
              have hxs := bs_size x
              have hxt := bs_toList x
              have hii : (i : Int) < (N : Int) := by omega
              have HT := Lib.hid (And.intro htk hx)
              clear htk hx hrw hlb hi
              by_cases hlong : 60 < x.length
              · have hb : (60 : Int) < ((bs x).size : Int) := by omega
                obtain ⟨p0, p1, n0, n1, z0, z1, hpbr⟩ := HC4.out wr hpd.k
                have hv : parseE l = 36 := by
                  rw [HE.out, if_pos]
                  rw [← HPL.out.1]
                  unfold longB
                  rw [List.any_eq_true]
                  exact ⟨x, List.mem_of_getElem? HT.out.2, by simpa using hlong⟩
                have HV := Lib.hid (err_fin hpbr H2.out.2.2.2.2 H4.out.2.2.2.2.2.2 (H2.out.2.2.1.trans H4.out.2.1) hpd.k hv (by decide))
                clear hv hpbr hpd hacc hlong hxs hxt
                go_wp2
                (try simp only [Exit.inBlock, Exit.then])
                refine bodyPost_ret (results_ct rfl rfl (load25 HV.out.1)) rfl ?_
                exact HV.out.2
              · have hb : ¬ (60 : Int) < ((bs x).size : Int) := by omega
                have hl1 : longB [x] = false := by unfold longB; simp [hlong]
                have hlong2 : longB (ps.take (i + 1)) = false := by rw [HT.out.1, longB_append, HLB.out.1, hl1]; rfl
                have HLL := Lib.hid hlong2
                have hnames : namesL (ps.take (i + 1)) = acc ++ namesL [x] := by rw [HT.out.1, namesL_append, hacc]
                have HNM := Lib.hid hnames
                have HACC := Lib.hid hacc
                clear hlong hl1 hlong2 hnames hxs
                by_cases hdot : x = [46]
                · have e2 : (x == [46]) = true := by simp [hdot]
                  have hn0 : namesL [x] = [] := by unfold namesL; simp [hdot]
                  have HN0 := Lib.hid hn0
                  clear hn0 hdot hpd hacc
                  go_wp2
                  go_roundg (gk - 1)
                  case measure => have := HLB.out.2.2; omega
                  case rel =>
                    have h := HLB.out.2.1
                    rw [← HACC.out] at h
                    exact ⟨i + 1, _, by push_cast; rfl, by have := HLB.out.2.2; rw [← HPL.out.2]; omega, HLL.out, by rw [HNM.out, HN0.out, List.append_nil]; exact h⟩
                · have e2 : (x == [46]) = false := by simp [hdot]
                  have hn0 : namesL [x] = [x] := by unfold namesL; simp [hdot]
                  have HN0 := Lib.hid hn0
                  rw [← hacc] at hpd
                  have HPD := Lib.hid hpd
                  have D0 := Lib.hid d0
                  clear hn0 hdot hpd hacc
                  go_upto_region 16 with fail
                  refine vp_region_tree (fun w' => w'.cell? ⟨gp, i, none⟩ = some (.string (bs x))) (.take 0 (.take 2 (.take 3 (.take 4 (.take 5 (.two 1 (.one 6 (.one 7 (.take 8 (.one 9 .nil)))) 6 (.one 1 (.one 7 (.take 8 (.one 9 .nil)))))))))) (by kernel_rfl) (by kernel_rfl) (by intro _ d _ _ _ h; cases d <;> exact h) d0 ?_
                  intro wd hwd
                  simp only [Tr.pick, List.getD_cons_zero, List.getD_cons_succ]
                  repeat
                    refine tr_free rfl (v := ?_) ?_ ?_
                    rotate_left
                    · intro w' hw'
                      go_simp
                      with_reducible rfl
                    simp only [Act.put, List.setIfInBounds_toArray, List.set_cons_zero, List.set_cons_succ]
                  clear d0
                  have hgl : gp < wr.heap.size := Go.block_lt_of_cell D0.out
                  have hkd : Keeps [] wr wd := by rw [hwd]; exact (Keeps.refl _ _).drew
                  have q0 : wd.cell? ⟨qb, 0, none⟩ = some (.slice pv acc.length cv) := cell_of (hkd.get HPD.out.q (by simp)) rfl
                  have dd : wd.cell? ⟨gp, i, none⟩ = some (.string (bs x)) := by rw [hwd]; exact D0.out
                  have HKD := Lib.hid (And.intro hkd hgl)
                  have DD := Lib.hid dd
                  clear hwd hkd hgl
                  have hks : ∀ wz, Keeps [qb] w4 wz → wz.cell? ⟨gp, i, none⟩ = some (.string (bs x)) := by
                    intro wz hk
                    have := (H4.out.2.2.1.keep hk (fun z hz => by obtain rfl := List.mem_singleton.1 hz; exact H4.out.2.2.2.1)).item rfl HT.out.2 (j := 0) (u := .string (bs x)) rfl
                    rwa [show i * FB.s + 0 = i from by show i * 1 = i; rw [Nat.mul_one]] at this
                  have HKS := Lib.hid hks
                  clear hks
                  have qa : (wd.alloc (.cells #[.string (bs x)] 9)).cell? ⟨qb, 0, none⟩ = some (.slice pv acc.length cv) := cell_of ((HKD.out.1.alloc _).get HPD.out.q (by simp)) rfl
                  refine tr_two ?_ ?_
                  · go_wp2_with fail
                    refine ⟨DD.out, ?_⟩
                    refine tr_one ?_
                    go_wp2_with fail
                    refine ⟨HKS.out _ (HPD.out.k.trans ((HKD.out.1.alloc _).mono (by simp))), ?_⟩
                    refine tr_one ?_
                    refine vp_append_g (F := FB) rfl (.tmp 48) (.tmp 53) 23 rfl (.string ByteArray.empty) 16 Try.underlying23 infoz9 rfl (by decide) _ acc rfl (HPD.out.r.keep (HKD.out.1.alloc _) (by simp)) ⟨wd.heap.size, 0, none⟩ 1 1 [x] rfl rfl (by intro j u hj; rw [add_none, Nat.zero_add]; exact cell_of (heap_alloc wd _) (by simpa [FB, Form.all] using hj)) (by omega) (by omega) ?_
                    intro v6 w6 k1 k2 k3
                    have hap := HPD.out.app hqlt (HKD.out.1.alloc (.cells #[.string (bs x)] 9)) k1 k2 k3
                    obtain ⟨p6, c6, hv6, _, _⟩ := k1.value
                    subst hv6
                    have HAP := Lib.hid hap
                    have q6 : w6.cell? ⟨qb, 0, none⟩ = some (.slice pv acc.length cv) := cell_of hap.2.1 rfl
                    have z6 : w6.frozen? ⟨qb, 0, none⟩ = false := frozen_of 0 hap.2.1
                    refine tr_next (HKS.out w6 hap.2.2) ?_
                    simp only [Act.put, List.setIfInBounds_toArray, List.set_cons_zero, List.set_cons_succ]
                    clear k1 k2 k3 hap q0 dd qa
                    refine tr_free rfl (v := ?_) ?_ ?_
                    rotate_left
                    · intro w' hw'
                      go_simp
                      with_reducible rfl
                    simp only [Act.put, List.setIfInBounds_toArray, List.set_cons_zero, List.set_cons_succ]
                    refine tr_one ?_
                    go_wp2_with fail
                    refine ⟨HKS.out _ (by have h := HAP.out.1.k; rwa [show (acc ++ [x]).length = acc.length + 1 from by simp] at h), ?_⟩
                    refine tr_nil ?_
                    go_wp2
                    go_roundg (gk - 1)
                    case measure => have := HLB.out.2.2; omega
                    case rel =>
                      have h := HAP.out.1
                      have hlen : (acc ++ [x]).length = acc.length + 1 := by simp
                      rw [hlen] at h
                      exact ⟨i + 1, .slice p6 (acc.length + 1) c6, by push_cast; rfl, by have := HLB.out.2.2; rw [← HPL.out.2]; omega, HLL.out, by rw [HNM.out, HN0.out]; exact h⟩
                  · go_wp2_with fail
                    refine ⟨HKS.out _ (HPD.out.k.trans ((HKD.out.1.alloc _).mono (by simp))), ?_⟩
                    refine tr_one ?_
                    go_wp2_with fail
                    refine ⟨HKS.out _ (HPD.out.k.trans ((HKD.out.1.alloc _).mono (by simp))), ?_⟩
                    refine tr_one ?_
                    refine vp_append_g (F := FB) rfl (.tmp 48) (.tmp 53) 23 rfl (.string ByteArray.empty) 16 Try.underlying23 infoz9 rfl (by decide) _ acc rfl (HPD.out.r.keep (HKD.out.1.alloc _) (by simp)) ⟨wd.heap.size, 0, none⟩ 1 1 [x] rfl rfl (by intro j u hj; rw [add_none, Nat.zero_add]; exact cell_of (heap_alloc wd _) (by simpa [FB, Form.all] using hj)) (by omega) (by omega) ?_
                    intro v6 w6 k1 k2 k3
                    have hap := HPD.out.app hqlt (HKD.out.1.alloc (.cells #[.string (bs x)] 9)) k1 k2 k3
                    obtain ⟨p6, c6, hv6, _, _⟩ := k1.value
                    subst hv6
                    have HAP := Lib.hid hap
                    have q6 : w6.cell? ⟨qb, 0, none⟩ = some (.slice pv acc.length cv) := cell_of hap.2.1 rfl
                    have z6 : w6.frozen? ⟨qb, 0, none⟩ = false := frozen_of 0 hap.2.1
                    refine tr_next (HKS.out w6 hap.2.2) ?_
                    simp only [Act.put, List.setIfInBounds_toArray, List.set_cons_zero, List.set_cons_succ]
                    clear k1 k2 k3 hap q0 dd qa
                    refine tr_free rfl (v := ?_) ?_ ?_
                    rotate_left
                    · intro w' hw'
                      go_simp
                      with_reducible rfl
                    simp only [Act.put, List.setIfInBounds_toArray, List.set_cons_zero, List.set_cons_succ]
                    refine tr_one ?_
                    go_wp2_with fail
                    refine ⟨HKS.out _ (by have h := HAP.out.1.k; rwa [show (acc ++ [x]).length = acc.length + 1 from by simp] at h), ?_⟩
                    refine tr_nil ?_
                    go_wp2
                    go_roundg (gk - 1)
                    case measure => have := HLB.out.2.2; omega
                    case rel =>
                      have h := HAP.out.1
                      have hlen : (acc ++ [x]).length = acc.length + 1 := by simp
                      rw [hlen] at h
                      exact ⟨i + 1, .slice p6 (acc.length + 1) c6, by push_cast; rfl, by have := HLB.out.2.2; rw [← HPL.out.2]; omega, HLL.out, by rw [HNM.out, HN0.out]; exact h⟩
            · have hiN : ps.take i = ps := List.take_of_length_le (by rw [← HPL.out.2]; omega)
              have h := HLB.out
              rw [hiN] at h
              have HL2 := Lib.hid (And.intro hiN h)
              clear h hiN hpd hlb hacc hi
              go_wp2
              go_meet
              case rel =>
                obtain ⟨h1, h2, h3, h4⟩ := HL2.out
                exact ⟨_, h2, h3⟩
        case rest =>
          obtain ⟨va, hlb, hpd⟩ := hcut
          obtain ⟨pv, cv, hv, _, _⟩ := hpd.r.value
          obtain ⟨M, hM⟩ : ∃ M, M = (namesL ps).length := ⟨_, rfl⟩
          rw [← hM] at hv
          subst hv
          have hMl : M ≤ 400 := by rw [hM]; exact Nat.le_trans (List.length_filter_le _ _) (by rw [← HPL.out.2]; exact hpsl)
          have HPD := Lib.hid hpd
          obtain ⟨p0, p1, n0, n1, z0, z1, hpbr⟩ := HC4.out wc hpd.k
          have q0 : wc.cell? ⟨qb, 0, none⟩ = some (.slice pv M cv) := cell_of hpd.q rfl
          have q1 : wc.cell? ⟨qb, 1, none⟩ = some (.bool D) := cell_of hpd.q rfl
          have zq : wc.frozen? ⟨qb, 1, none⟩ = false := frozen_of 1 hpd.q
          have hE : parseE l = if 40 < M then 36 else 0 := by rw [HE.out, if_neg (by rw [← HPL.out.1, hlb]; simp), ← HPL.out.1, hM]
          have HE2 := Lib.hid hE
          have HPB := Lib.hid hpbr
          clear hE hlb hM
          by_cases hdeep : 40 < M
          · have hdp : (40 : Int) < (M : Int) := by omega
            have hv : parseE l = 36 := by rw [HE2.out, if_pos hdeep]
            have HV := Lib.hid (err_fin hpbr H2.out.2.2.2.2 H4.out.2.2.2.2.2.2 (H2.out.2.2.1.trans H4.out.2.1) hpd.k hv (by decide))
            clear hv hpbr hdeep hpd
            go_wp2
            (try simp only [Exit.inBlock, Exit.then])
            refine bodyPost_ret (results_ct rfl rfl (load25 HV.out.1)) rfl ?_
            exact HV.out.2
          · have hdp : ¬ (40 : Int) < (M : Int) := by omega
            have hv : parseE l = 0 := by rw [HE2.out, if_neg hdeep]
            have hn : parseN l = namesL ps := by unfold parseN; rw [if_pos hv, ← HPL.out.1]
            have hd : parseD l = (D || (lastP ps == [46]) || (lastP ps == [46, 46])) := by unfold parseD dirB; rw [if_pos hv, HD.out, HPL.out.1]
            have HV := Lib.hid (And.intro hv (And.intro hn hd))
            clear hv hn hd hdeep hpbr hpd p0 p1 n0 n1 z0 z1
            go_upto_region 19 with fail
            obtain ⟨lp, hlp⟩ : ∃ lp, lp = lastP ps := ⟨_, rfl⟩
            obtain ⟨b2, hb2⟩ : ∃ b2, b2 = (lp == [46]) := ⟨_, rfl⟩
            obtain ⟨b3, hb3⟩ : ∃ b3, b3 = (lp == [46, 46]) := ⟨_, rfl⟩
            have HLP := Lib.hid (And.intro hlp (And.intro hb2 hb3))
            go_cut [81] (fun v wx => v = .bool (b2 || b3) ∧ wx = wc)
            case first =>
              by_cases hN0 : N = 0
              · have e0 : ((N : Int) == 0) = true := by rw [hN0]; rfl
                have h2 : b2 = true := by
                  have : ps = [] := List.eq_nil_of_length_eq_zero (by rw [← HPL.out.2]; exact hN0)
                  rw [hb2, hlp, this]; rfl
                subst h2
                clear hN0 hb2 hb3 hlp q0 q1 zq
                go_wp2
                go_meet
                case rel => exact ⟨rfl, rfl⟩
              · have e0 : ((N : Int) == 0) = false := by rw [beq_eq_false_iff_ne]; omega
                obtain ⟨gp, gc, _, hv, _⟩ := H4.out.2.2.1.shape (by rw [← HPL.out.2]; omega)
                simp only [Value.slice.injEq] at hv
                obtain ⟨rfl, hv1, hv2⟩ := hv
                clear hv1 hv2
                have hx : ps[N - 1]? = some lp := by
                  rw [hlp]
                  unfold lastP
                  rw [List.getLastD_eq_getLast?, List.getLast?_eq_getElem?, ← HPL.out.2, List.getElem?_eq_getElem (by rw [← HPL.out.2]; omega)]
                  rfl
                have d1 : wc.cell? ⟨gp, N - 1, none⟩ = some (.string (bs lp)) := by
                  have := (H4.out.2.2.1.keep HPD.out.k (fun z hz => by obtain rfl := List.mem_singleton.1 hz; exact H4.out.2.2.2.1)).item rfl hx (j := 0) (u := .string (bs lp)) rfl
                  rwa [show (N - 1) * FB.s + 0 = N - 1 from Nat.mul_one _] at this
                have hlt := bs_toList lp
                have hn1 : (N : Int) - 1 = ((N - 1 : Nat) : Int) := by omega
                have h2' := hb2.symm
                have h3' := hb3.symm
                clear hN0 hb2 hb3 hlp q0 q1 zq hx
                cases b2 with
                | true =>
                  go_wp2
                  go_meet
                  case rel => exact ⟨rfl, rfl⟩
                | false =>
                  cases b3 with
                  | true =>
                    go_wp2
                    go_meet
                    case rel => exact ⟨rfl, rfl⟩
                  | false =>
                    go_wp2
                    go_meet
                    case rel => exact ⟨rfl, rfl⟩
            case rest =>
              obtain ⟨rfl, hww⟩ := hcut
              subst hww
              have hdf : parseD l = (D || (b2 || b3)) := by rw [HV.out.2.2, HLP.out.2.1, HLP.out.2.2, HLP.out.1, Bool.or_assoc]
              have HDF := Lib.hid hdf
              clear hdf hb2 hb3 hlp
              have key : ∃ wf D2, D2 = parseD l ∧ PD w4 qb D2 (.slice pv M cv) (namesL ps) wf ∧ wf = (if (b2 || b3) = true then wc.setCell ⟨qb, 1, none⟩ (.bool true) else wc) := by
                cases hb : (b2 || b3) with
                | true =>
                  have hks : Keeps [qb] wc (wc.setCell ⟨qb, 1, none⟩ (.bool true)) := (Keeps.refl _ _).setCell (Or.inl (by simp)) _
                  exact ⟨_, true, by rw [HDF.out, hb, Bool.or_true], ⟨heap_setCell HPD.out.q, HPD.out.r.keep hks (fun z hz => by obtain rfl := List.mem_singleton.1 hz; exact HPD.out.r.ne HPD.out.q (by decide)), HPD.out.g, HPD.out.k.trans hks⟩, by rw [if_pos rfl]⟩
                | false => exact ⟨_, D, by rw [HDF.out, hb, Bool.or_false], HPD.out, by rw [if_neg (by decide)]⟩
              obtain ⟨wf, D2, hD2, hpd, hwf⟩ := key
              have HPF := Lib.hid hpd
              have HD2 := Lib.hid hD2
              have HWF := Lib.hid hwf
              clear hD2 hpd hwf
              cases hb : (b2 || b3)
              all_goals
                have hwf := HWF.out
                simp only [hb, if_true, Bool.false_eq_true, if_false] at hwf
                go_upto_region 21 with fail
                rw [← hwf]
                clear q0 q1 zq hwf hb HWF
                have hpd := HPF.out
                obtain ⟨p0, p1, n0, n1, z0, z1, hpbr⟩ := HC4.out wf hpd.k
                have q0 : wf.cell? ⟨qb, 0, none⟩ = some (.slice pv M cv) := cell_of hpd.q rfl
                have q1 : wf.cell? ⟨qb, 1, none⟩ = some (.bool D2) := cell_of hpd.q rfl
                have hfin : ((wf.setCell ⟨pb, 0, none⟩ (.slice pv M cv)).setCell ⟨pb, 1, none⟩ (.bool D2)).heap[pb]? = some (.cells #[.slice pv M cv, .bool D2] 25 (0, 0)) := heap_setCell (heap_setCell hpbr)
                have hkk : Keeps [pb] wf ((wf.setCell ⟨pb, 0, none⟩ (.slice pv M cv)).setCell ⟨pb, 1, none⟩ (.bool D2)) := ((Keeps.refl [pb] wf).setCell (Or.inl (by simp)) _).setCell (Or.inl (by simp)) _
                have hrf := hpd.r.keep hkk (fun z hz => by obtain rfl := List.mem_singleton.1 hz; exact hpd.r.ne hpbr (by decide))
                have HF := Lib.hid (And.intro hfin (And.intro hrf (fin_keeps (H2.out.2.2.1.trans H4.out.2.1) hpd.k hkk H4.out.2.2.2.2.2.2 H2.out.2.2.2.2)))
                clear hfin hrf hkk hpbr hpd
                go_wp2
                (try simp only [Exit.inBlock, Exit.then])
                refine bodyPost_ret (results_ct rfl rfl (load25 HF.out.1)) rfl ?_
                obtain ⟨hv, hn, hd⟩ := HV.out
                refine ⟨.slice pv M cv, by rw [hv, ← HD2.out]; rfl, ?_⟩
                rw [hn]
                exact ⟨HF.out.2.1, fun x hx => Nat.le_trans (H2.out.2.2.1.trans H4.out.2.1).size (HPF.out.g x hx), HF.out.2.2⟩
end Go.Proofs.Ytpfmhjokcpkliaa
