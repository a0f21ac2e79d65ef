/-
  path.Parse, walked.
-/
import Derived.Test.YtpfmhjokcpkliaaL2
namespace Go.V.Path
open Go Go.V
def longB (ps : List (List UInt8)) : Bool := ps.any (fun x => decide (60 < x.length))
def namesL (ps : List (List UInt8)) : List (List UInt8) := ps.filter (fun x => !(x == [46]))
def lastP (ps : List (List UInt8)) : List UInt8 := ps.getLastD [46]
def dirB (l : List UInt8) : Bool := (l.getLastD 0 == 47) || (lastP (partsL l) == [46]) || (lastP (partsL l) == [46, 46])
/-- what is wrong with a text -/
def parseE (l : List UInt8) : Int :=
  if l = [] then 2 else if 400 < l.length then 36 else if l.contains 0 = true then 22
  else if longB (partsL l) = true then 36 else if 40 < (namesL (partsL l)).length then 36 else 0
def parseN (l : List UInt8) : List (List UInt8) := if parseE l = 0 then namesL (partsL l) else []
def parseD (l : List UInt8) : Bool := if parseE l = 0 then dirB l else false
end Go.V.Path
namespace Go.Proofs.Ytpfmhjokcpkliaa
open Go.RowKit Go.V Go.V.Path
def ParsePost (l : List UInt8) (w : World) (e : Ending) (w' : World) : Prop := ∃ va, e = .returned (.tuple #[.agg #[va, .bool (parseD l)], .int .i64 (parseE l)]) ∧ Made FB 9 w va (parseN l) w'
theorem results_ct {fn : Func} {a u : Tmp} {t : TypeId} {tmps : Array Value} {P : Program} {w : World} {b : Nat} {v : Value} (h : fn.results = #[.cell a t, .tmp u]) (hp : tmps.getD a undef = .pointer (some ⟨b, 0, none⟩)) (hl : (loadVar t ⟨b, 0, none⟩).run P w = .ok v w) :
    (results fn tmps).run P w = .ok (.tuple #[v, tmps.getD u undef]) w := by
  rw [Array.getD_eq_getD_getElem?] at hp
  simp [results, h, hp, asAddr, hl]
theorem load25 {w : World} {b : Nat} {v u : Value} (hb : w.heap[b]? = some (.cells #[v, u] 25 (0, 0))) : (loadVar 25 ⟨b, 0, none⟩).run Try.prog w = .ok (.agg #[v, u]) w :=
  run_loadVar_row w b 25 25 #[v, u] (0, 0) _ hb Try.underlying25 rfl (by kernel_rfl)
/-- what is parsed so far -/
structure PS (w2 : World) (qb : Nat) (va : Value) (acc : List (List UInt8)) (wx : World) : Prop where
  q : wx.heap[qb]? = some (.cells #[va, .bool false] 25 (0, 0))
  r : RowG FB 9 wx va acc
  g : ∀ x, va.ownBlock = some x → w2.heap.size ≤ x
  k : Keeps [qb] w2 wx
theorem PS.app {w2 wx w' : World} {qb : Nat} {va va' : Value} {acc acc' : List (List UInt8)} (h : PS w2 qb va acc wx) (hq : qb < w2.heap.size) {wb : World} (hk0 : Keeps [] wx wb) (k1 : RowG FB 9 w' va' acc') (k2 : ∀ x, va'.ownBlock = some x → va.ownBlock = some x ∨ wb.heap.size ≤ x) (k3 : wb.grownBy w' va.ownBlock) :
    PS w2 qb va' acc' (w'.setCell ⟨qb, 0, none⟩ va') ∧ w'.heap[qb]? = some (.cells #[va, .bool false] 25 (0, 0)) := by
  have hk : Keeps va.ownBlock.toList wb w' := keeps_grown (S := va.ownBlock.toList) k3 (fun k hk => by rw [hk]; simp)
  have hqb : w'.heap[qb]? = some (.cells #[va, .bool false] 25 (0, 0)) := hk.get (hk0.get h.q (by simp)) (fun hx => by have := h.g qb (by simpa using hx); omega)
  have hks : Keeps [qb] w' (w'.setCell ⟨qb, 0, none⟩ va') := (Keeps.refl _ _).setCell (Or.inl (by simp)) _
  refine ⟨⟨heap_setCell hqb, k1.keep hks (fun x hx => by obtain rfl := List.mem_singleton.1 hx; exact k1.ne hqb (by decide)), fun x hx => ?_, ?_⟩, hqb⟩
  · rcases k2 x hx with q | q
    · exact h.g x q
    · exact Nat.le_trans (Nat.le_trans h.k.size hk0.size) q
  · exact ((h.k.trans (hk0.mono (by simp))).trans' hk (fun x hx => Or.inr (h.g x (by simpa using hx)))).trans hks
def PL (w2 : World) (qb : Nat) (ps : List (List UInt8)) (m : Nat) (vl vi : Value) (wx : World) : Prop :=
  ∃ (i : Nat) (va : Value), vi = .int .i64 i ∧ i + m = ps.length ∧ vl = .string (bs (lastP (ps.take i))) ∧ longB (ps.take i) = false ∧ PS w2 qb va (namesL (ps.take i)) wx
theorem fin_keeps {w w3 wr wf : World} {pb qb : Nat} (h1 : Keeps [] w w3) (h2 : Keeps [qb] w3 wr) (h3 : Keeps [pb] wr wf) (e1 : w.heap.size ≤ qb) (e2 : w.heap.size ≤ pb) : Keeps [] w wf :=
  (h1.trans' h2 (fun z hz => Or.inr (by obtain rfl := List.mem_singleton.1 hz; exact e1))).trans' h3 (fun z hz => Or.inr (by obtain rfl := List.mem_singleton.1 hz; exact e2))
theorem lastP_append (ps : List (List UInt8)) (x : List UInt8) : lastP (ps ++ [x]) = x := by unfold lastP; simp
theorem namesL_append (a b : List (List UInt8)) : namesL (a ++ b) = namesL a ++ namesL b := by unfold namesL; rw [List.filter_append]
theorem longB_append (a b : List (List UInt8)) : longB (a ++ b) = (longB a || longB b) := by unfold longB; rw [List.any_append]
theorem bs_size (l : List UInt8) : (bs l).size = l.length := by show l.toArray.size = _; simp
theorem bs_toList (l : List UInt8) : (bs l).toList = l := by rw [Lib.toList_data]; show l.toArray.toList = l; simp
theorem partsG_length : ∀ (l cur : List UInt8), (partsG cur l).length ≤ l.length + (if cur = [] then 0 else 1)
  | [], cur => by unfold partsG; split <;> simp
  | c :: l, cur => by
    unfold partsG
    by_cases h : c = 47
    · rw [if_pos h]
      by_cases hc : cur = []
      · rw [if_pos hc, if_pos hc]
        have := partsG_length l []
        simp only [if_true] at this
        rw [List.length_cons]
        omega
      · rw [if_neg hc, if_neg hc]
        have := partsG_length l []
        simp only [if_true] at this
        rw [List.length_cons, List.length_cons]
        omega
    · rw [if_neg h]
      have := partsG_length l (cur ++ [c])
      rw [if_neg (by simp)] at this
      rw [List.length_cons]
      split <;> omega
set_option maxRecDepth 100000 in
set_option maxHeartbeats 4000000 in
theorem parse_ok (s : ByteArray) (w : World) : Calls Try.prog 13 #[.string s] w (ParsePost s.data.toList w) := by
  have hsz := size_len s
  have htl := Lib.toList_data s
  obtain ⟨l, hl⟩ : ∃ l, l = s.data.toList := ⟨_, rfl⟩
  have h0 := Try.strings_IndexByte s 0
  rw [← hl] at hsz htl ⊢
  by_cases he : l = []
  · have e1 : s.toList.isEmpty = true := by rw [htl, he]; rfl
    have hv : parseE l = 2 := by unfold parseE; rw [if_pos he]
    have hn : parseN l = [] := by unfold parseN; rw [hv, if_neg (by decide)]
    have hd : parseD l = false := by unfold parseD; rw [hv, if_neg (by decide)]
    have HV := Lib.hid (And.intro hv (And.intro hn hd))
    clear hv hn hd he htl hsz h0 hl
    go_enter Try.func13, Try.ntmps13
    go_wp2
    (try simp only [Exit.inBlock, Exit.then])
    refine bodyPost_ret (results_ct rfl rfl (load25 (heap_alloc w _))) rfl ?_
    obtain ⟨hv, hn, hd⟩ := HV.out
    refine ⟨.slice none 0 0, by rw [hv, hd]; rfl, ?_⟩
    rw [hn]
    exact (Made.nil FB 9 w).keep ((Keeps.refl _ _).alloc _)
  · have e1 : s.toList.isEmpty = false := by
      rw [htl]
      cases l with
      | nil => exact absurd rfl he
      | cons => rfl
    by_cases hlong : 400 < l.length
    · have hs : (400 : Int) < (s.size : Int) := by omega
      have hv : parseE l = 36 := by unfold parseE; rw [if_neg he, if_pos hlong]
      have hn : parseN l = [] := by unfold parseN; rw [hv, if_neg (by decide)]
      have hd : parseD l = false := by unfold parseD; rw [hv, if_neg (by decide)]
      have HV := Lib.hid (And.intro hv (And.intro hn hd))
      clear hv hn hd he htl hsz h0 hl hlong
      go_enter Try.func13, Try.ntmps13
      go_wp2
      (try simp only [Exit.inBlock, Exit.then])
      refine bodyPost_ret (results_ct rfl rfl (load25 (heap_alloc w _))) rfl ?_
      obtain ⟨hv, hn, hd⟩ := HV.out
      refine ⟨.slice none 0 0, by rw [hv, hd]; rfl, ?_⟩
      rw [hn]
      exact (Made.nil FB 9 w).keep ((Keeps.refl _ _).alloc _)
    · have hs : ¬ (400 : Int) < (s.size : Int) := by omega
      have h0 := h0 (w.alloc (.cells #[.slice none 0 0, .bool false] 25))
      rw [← hl] at h0
      obtain ⟨i0, hi0⟩ : ∃ i0, i0 = Lib.indexByte l (Int.toNat 0).toUInt8 := ⟨_, rfl⟩
      rw [← hi0] at h0
      have g0 : decide (0 ≤ i0) = l.contains 0 := by rw [hi0]; exact ix_ge l 0
      have H0 := Lib.hid h0
      by_cases hz : l.contains 0 = true
      · rw [hz] at g0
        have g0' : 0 ≤ i0 := of_decide_eq_true g0
        have hv : parseE l = 22 := by unfold parseE; rw [if_neg he, if_neg hlong, if_pos hz]
        have hn : parseN l = [] := by unfold parseN; rw [hv, if_neg (by decide)]
        have hd : parseD l = false := by unfold parseD; rw [hv, if_neg (by decide)]
        have HV := Lib.hid (And.intro hv (And.intro hn hd))
        clear hv hn hd he htl hsz h0 hl hlong g0 hz hi0
        go_enter Try.func13, Try.ntmps13
        go_wp2_with fail
        refine H0.out.mono ?_
        rintro e w' ⟨rfl, rfl⟩
        go_wp2
        (try simp only [Exit.inBlock, Exit.then])
        refine bodyPost_ret (results_ct rfl rfl (load25 (heap_alloc w _))) rfl ?_
        obtain ⟨hv, hn, hd⟩ := HV.out
        refine ⟨.slice none 0 0, by rw [hv, hd]; rfl, ?_⟩
        rw [hn]
        exact (Made.nil FB 9 w).keep ((Keeps.refl _ _).alloc _)
      · have hz' : l.contains 0 = false := by simpa using hz
        rw [hz'] at g0
        have g0' : ¬ 0 ≤ i0 := of_decide_eq_false g0
        have hE : parseE l = if longB (partsL l) = true then 36 else if 40 < (namesL (partsL l)).length then 36 else 0 := by
          unfold parseE; rw [if_neg he, if_neg hlong, if_neg hz]
        have HE := Lib.hid hE
        have HS := Lib.hid (And.intro hl (And.intro hsz (And.intro he hlong)))
        clear h0 g0 hz hz' hE hi0 he hlong hsz htl hl
        go_enter Try.func13, Try.ntmps13
        go_wp2_with fail
        refine H0.out.mono ?_
        rintro e w' ⟨rfl, rfl⟩
        go_upto_region 7 with fail
        obtain ⟨w1, hw1⟩ : ∃ w1, w1 = w.alloc (.cells #[.slice none 0 0, .bool false] 25) := ⟨_, rfl⟩
        obtain ⟨pb, hpb⟩ : ∃ pb, pb = w.heap.size := ⟨_, rfl⟩
        have hp1 : w1.heap[pb]? = some (.cells #[.slice none 0 0, .bool false] 25 (0, 0)) := by rw [hw1, hpb]; exact heap_alloc w _
        have H1 := Lib.hid (And.intro hp1 (And.intro (show Keeps [] w w1 by rw [hw1]; exact (Keeps.refl _ _).alloc _) (show w.heap.size ≤ pb by omega)))
        rw [← hw1, ← hpb]
        clear hw1 hpb hp1 H0
        go_upto_region 8 with fail
        obtain ⟨w2, hw2⟩ : ∃ w2, w2 = w1.alloc (.cells #[.slice none 0 0, .bool false] 25) := ⟨_, rfl⟩
        obtain ⟨qb, hqb⟩ : ∃ qb, qb = w1.heap.size := ⟨_, rfl⟩
        have hq2 : w2.heap[qb]? = some (.cells #[.slice none 0 0, .bool false] 25 (0, 0)) := by rw [hw2, hqb]; exact heap_alloc w1 _
        have hk12 : Keeps [] w1 w2 := by rw [hw2]; exact (Keeps.refl _ _).alloc _
        have hpq : pb ≠ qb := fun e => by have := lt_of_heap H1.out.1; omega
        have H2 := Lib.hid (And.intro hq2 (And.intro (hk12.get H1.out.1 (by simp)) (And.intro hpq (And.intro (H1.out.2.1.trans hk12) (And.intro H1.out.2.2 (show w.heap.size ≤ qb by have := H1.out.2.1.size; omega))))))
        rw [← hw2, ← hqb]
        clear hw2 hqb hq2 hk12 hpq H1
        have HPT := Lib.hid (parts_ok s w2 (by omega))
        go_wp2_with fail
        refine HPT.out.mono ?_
        rintro e w3 ⟨vps, rfl, hps⟩
        rw [← HS.out.1] at hps
        obtain ⟨hq2, hp2, hpq, hk2, hgp, hgq⟩ := H2.out
        obtain ⟨ps, hpl⟩ : ∃ ps, ps = partsL l := ⟨_, rfl⟩
        rw [← hpl] at hps
        have hpsl : ps.length ≤ 400 := by
          have h1 := partsG_length l []
          simp only [if_true] at h1
          have h2 := HS.out.2.2.2
          rw [hpl]
          unfold partsL
          omega
        obtain ⟨pp, cp, hvp, _, _⟩ := hps.1.value
        obtain ⟨N, hN⟩ : ∃ N, N = ps.length := ⟨_, rfl⟩
        rw [← hN] at hvp hpsl
        subst hvp
        have hps0 : PS w3 qb (.slice none 0 0) (namesL (ps.take 0)) w3 := ⟨hps.2.2.get hq2 (by simp), RowG.nil FB 9 w3, fun x hx => (by cases hx), Keeps.refl _ _⟩
        have HP := Lib.hid (And.intro hps (And.intro (hps.2.2.get hp2 (by simp)) (And.intro hpq (And.intro (hk2.trans hps.2.2) (And.intro hgp hgq)))))
        have HNE := Lib.hid (hps.1.ne hps0.q (by decide))
        have HP0 := Lib.hid hps0
        have HPL := Lib.hid (And.intro hpl hN)
        have hqlt : qb < w3.heap.size := lt_of_heap hps0.q
        clear hps0 hps hq2 hp2 hpq hk2 hgp hgq hpl hN H2 HPT
        go_upto_block 1 with fail
        go_cut [5] (fun vl wx => ∃ va, vl = .string (bs (lastP ps)) ∧ longB ps = false ∧ PS w3 qb va (namesL ps) wx)
        case first =>
          go_wp2_with fail
          go_loopg [5, 25] N (fun m vl vi wx => PL w3 qb ps m vl vi wx)
          case atStart => exact ⟨0, _, rfl, by rw [← HPL.out.2, Nat.zero_add], rfl, rfl, HP0.out⟩
          case round =>
            obtain ⟨i, va, rfl, hi, rfl, hlb, hpss⟩ := hrel
            rw [← HPL.out.2] at hi
            clear HP0
            have HLB := Lib.hid (And.intro hlb hpss)
            obtain ⟨pv, cv, hv, _, _⟩ := hpss.r.value
            obtain ⟨acc, hacc⟩ : ∃ acc, acc = namesL (ps.take i) := ⟨_, rfl⟩
            have hal : acc.length ≤ i := by rw [hacc]; exact Nat.le_trans (List.length_filter_le _ _) (by rw [List.length_take]; omega)
            rw [← hacc] at hv
            subst hv
            by_cases hlt : i < N
            · obtain ⟨x, hx⟩ : ∃ x, ps[i]? = some x := ⟨_, List.getElem?_eq_getElem (by rw [← HPL.out.2]; exact hlt)⟩
              obtain ⟨gp, gc, _, hv, _⟩ := HP.out.1.1.shape (by rw [← HPL.out.2]; omega)
              simp only [Value.slice.injEq] at hv
              obtain ⟨rfl, hv1, hv2⟩ := hv
              clear hv1 hv2
              have hrw := HP.out.1.1.keep hpss.k (fun z hz => by obtain rfl := List.mem_singleton.1 hz; exact HNE.out)
              have d0 : wr.cell? ⟨gp, i * 1, none⟩ = some (.string (bs x)) := hrw.item rfl hx (j := 0) rfl
              rw [Nat.mul_one] at d0
              have hpbr := hpss.k.get HP.out.2.1 (by simp; exact HP.out.2.2.1)
              have htk : ps.take (i + 1) = ps.take i ++ [x] := by rw [List.take_add_one, hx]; rfl
              have hxs := bs_size x
              have hxt := bs_toList x
              have hii : (i : Int) < (N : Int) := by omega
              have HT := Lib.hid (And.intro htk hx)
              clear htk hx hrw hlb
              by_cases hlong : 60 < x.length
              · have hb : (60 : Int) < ((bs x).size : Int) := by omega
                have p0 : wr.cell? ⟨pb, 0, none⟩ = some (.slice none 0 0) := cell_of hpbr rfl
                have p1 : wr.cell? ⟨pb, 1, none⟩ = some (.bool false) := cell_of hpbr rfl
                have z0 : wr.frozen? ⟨pb, 0, none⟩ = false := frozen_of 0 hpbr
                have z1 : wr.frozen? ⟨pb, 1, none⟩ = false := frozen_of 1 hpbr
                have hfin : ((wr.setCell ⟨pb, 0, none⟩ (.slice none 0 0)).setCell ⟨pb, 1, none⟩ (.bool false)).heap[pb]? = some (.cells #[.slice none 0 0, .bool false] 25 (0, 0)) := heap_setCell (heap_setCell hpbr)
                have hkk : Keeps [pb] wr ((wr.setCell ⟨pb, 0, none⟩ (.slice none 0 0)).setCell ⟨pb, 1, none⟩ (.bool false)) := ((Keeps.refl [pb] wr).setCell (Or.inl (by simp)) _).setCell (Or.inl (by simp)) _
                have hv : parseE l = 36 := by
                  rw [HE.out, if_pos]
                  rw [← HPL.out.1]
                  unfold longB
                  rw [List.any_eq_true]
                  exact ⟨x, List.mem_of_getElem? HT.out.2, by simpa using hlong⟩
                have hn : parseN l = [] := by unfold parseN; rw [hv, if_neg (by decide)]
                have hd : parseD l = false := by unfold parseD; rw [hv, if_neg (by decide)]
                have HF := Lib.hid (And.intro hfin (And.intro hkk (And.intro hv (And.intro hn hd))))
                clear hfin hkk hv hn hd hxs hxt hlong hpbr hpss hacc
                go_wp2
                (try simp only [Exit.inBlock, Exit.then])
                refine bodyPost_ret (results_ct rfl rfl (load25 HF.out.1)) rfl ?_
                obtain ⟨hfin, hkk, hv, hn, hd⟩ := HF.out
                refine ⟨.slice none 0 0, by rw [hv, hd]; rfl, ?_⟩
                rw [hn]
                exact ⟨RowG.nil FB 9 _, fun x hx => (by cases hx), fin_keeps HP.out.2.2.2.1 HLB.out.2.k hkk HP.out.2.2.2.2.2 HP.out.2.2.2.2.1⟩
              · have hb : ¬ (60 : Int) < ((bs x).size : Int) := by omega
                have hl1 : longB [x] = false := by unfold longB; simp [hlong]
                have hlong2 : longB (ps.take (i + 1)) = false := by rw [HT.out.1, longB_append, HLB.out.1, hl1]; rfl
                have hlast : lastP (ps.take (i + 1)) = x := by rw [HT.out.1, lastP_append]
                have HLL := Lib.hid (And.intro hlong2 hlast)
                have hnames : namesL (ps.take (i + 1)) = acc ++ namesL [x] := by rw [HT.out.1, namesL_append, hacc]
                have HNM := Lib.hid hnames
                have HACC := Lib.hid hacc
                clear hlong hl1 hlong2 hlast hnames hxs hpbr
                by_cases hdot : x = [46]
                · have e2 : (x == [46]) = true := by simp [hdot]
                  have hn0 : namesL [x] = [] := by unfold namesL; simp [hdot]
                  have HN0 := Lib.hid hn0
                  clear hn0 hdot hpss hacc
                  go_wp2
                  go_roundg (gk - 1)
                  case measure => omega
                  case rel =>
                    have h := HLB.out.2
                    rw [← HACC.out] at h
                    exact ⟨i + 1, _, by push_cast; rfl, by rw [← HPL.out.2]; omega, by rw [HLL.out.2], HLL.out.1, by rw [HNM.out, HN0.out, List.append_nil]; exact h⟩
                · have e2 : (x == [46]) = false := by simp [hdot]
                  have hn0 : namesL [x] = [x] := by unfold namesL; simp [hdot]
                  have HN0 := Lib.hid hn0
                  rw [← hacc] at hpss
                  have HPS := Lib.hid hpss
                  have q0 : wr.cell? ⟨qb, 0, none⟩ = some (.slice pv acc.length cv) := cell_of hpss.q rfl
                  clear hn0 hdot hpss hacc
                  go_wp2_with (first | (refine vp_append_g (F := FB) rfl (.tmp 36) (.tmp 38) 23 rfl (.string ByteArray.empty) 16 Try.underlying23 infoz9 rfl (by decide) _ acc rfl (HPS.out.r.keep ((Keeps.refl [] wr).alloc _) (by simp)) ⟨wr.heap.size, 0, none⟩ 1 1 [x] rfl rfl (by intro j u hj; rw [add_none, Nat.zero_add]; exact cell_of (heap_alloc wr _) (by simpa [FB, Form.all] using hj)) (by omega) (by omega) ?_; intro v6 w6 k1 k2 k3; have hap := HPS.out.app hqlt ((Keeps.refl [] wr).alloc (.cells #[.string (bs x)] 9)) k1 k2 k3; obtain ⟨p6, c6, hv6, _, _⟩ := k1.value; subst hv6; have HAP := Lib.hid hap; have q6 : w6.cell? ⟨qb, 0, none⟩ = some (.slice pv acc.length cv) := cell_of hap.2 rfl; have z6 : w6.frozen? ⟨qb, 0, none⟩ = false := frozen_of 0 hap.2; clear k1 k2 k3 hap q0 d0) | fail)
                  go_roundg (gk - 1)
                  case measure => omega
                  case rel =>
                    have h := HAP.out.1
                    have hlen : (acc ++ [x]).length = acc.length + 1 := by simp
                    rw [hlen] at h
                    exact ⟨i + 1, .slice p6 (acc.length + 1) c6, by push_cast; rfl, by rw [← HPL.out.2]; omega, by rw [HLL.out.2], HLL.out.1, by rw [HNM.out, HN0.out]; exact h⟩
            · have hiN : ps.take i = ps := List.take_of_length_le (by rw [← HPL.out.2]; omega)
              have h := HLB.out
              rw [hiN] at h
              have HL2 := Lib.hid (And.intro hiN (And.intro h hacc))
              clear h hiN hpss hlb hacc
              go_wp2
              go_meet
              case rel =>
                obtain ⟨h1, h2, h3⟩ := HL2.out
                rw [h1]
                exact ⟨_, rfl, h2.1, h2.2⟩
        case rest =>
          obtain ⟨va, rfl, hlb, hpss⟩ := hcut
          have hpbr := hpss.k.get HP.out.2.1 (by simp; exact HP.out.2.2.1)
          obtain ⟨pv, cv, hv, _, _⟩ := hpss.r.value
          obtain ⟨M, hM⟩ : ∃ M, M = (namesL ps).length := ⟨_, rfl⟩
          rw [← hM] at hv
          subst hv
          have hMl : M ≤ 400 := by rw [hM]; exact Nat.le_trans (List.length_filter_le _ _) (by rw [← HPL.out.2]; exact hpsl)
          have HPS := Lib.hid hpss
          have HM := Lib.hid hM
          have q0 : wc.cell? ⟨qb, 0, none⟩ = some (.slice pv M cv) := cell_of hpss.q rfl
          have q1 : wc.cell? ⟨qb, 1, none⟩ = some (.bool false) := cell_of hpss.q rfl
          have zq : wc.frozen? ⟨qb, 1, none⟩ = false := frozen_of 1 hpss.q
          have HPB := Lib.hid hpbr
          have hE : parseE l = if 40 < M then 36 else 0 := by rw [HE.out, if_neg (by rw [← HPL.out.1, hlb]; simp), ← HPL.out.1, hM]
          have HE2 := Lib.hid hE
          clear hlb hpss hM hE HP0
          by_cases hdeep : 40 < M
          · have hdp : (40 : Int) < (M : Int) := by omega
            have p0 : wc.cell? ⟨pb, 0, none⟩ = some (.slice none 0 0) := cell_of hpbr rfl
            have p1 : wc.cell? ⟨pb, 1, none⟩ = some (.bool false) := cell_of hpbr rfl
            have z0 : wc.frozen? ⟨pb, 0, none⟩ = false := frozen_of 0 hpbr
            have z1 : wc.frozen? ⟨pb, 1, none⟩ = false := frozen_of 1 hpbr
            have hfin : ((wc.setCell ⟨pb, 0, none⟩ (.slice none 0 0)).setCell ⟨pb, 1, none⟩ (.bool false)).heap[pb]? = some (.cells #[.slice none 0 0, .bool false] 25 (0, 0)) := heap_setCell (heap_setCell hpbr)
            have hkk : Keeps [pb] wc ((wc.setCell ⟨pb, 0, none⟩ (.slice none 0 0)).setCell ⟨pb, 1, none⟩ (.bool false)) := ((Keeps.refl [pb] wc).setCell (Or.inl (by simp)) _).setCell (Or.inl (by simp)) _
            have hv : parseE l = 36 := by rw [HE2.out, if_pos hdeep]
            have hn : parseN l = [] := by unfold parseN; rw [hv, if_neg (by decide)]
            have hd : parseD l = false := by unfold parseD; rw [hv, if_neg (by decide)]
            have HF := Lib.hid (And.intro hfin (And.intro hkk (And.intro hv (And.intro hn hd))))
            clear hfin hkk hv hn hd hpbr hdeep
            go_wp2
            (try simp only [Exit.inBlock, Exit.then])
            refine bodyPost_ret (results_ct rfl rfl (load25 HF.out.1)) rfl ?_
            obtain ⟨hfin, hkk, hv, hn, hd⟩ := HF.out
            refine ⟨.slice none 0 0, by rw [hv, hd]; rfl, ?_⟩
            rw [hn]
            exact ⟨RowG.nil FB 9 _, fun x hx => (by cases hx), fin_keeps HP.out.2.2.2.1 HPS.out.k hkk HP.out.2.2.2.2.2 HP.out.2.2.2.2.1⟩
          · have hdp : ¬ (40 : Int) < (M : Int) := by omega
            have hv : parseE l = 0 := by rw [HE2.out, if_neg hdeep]
            have hn : parseN l = namesL ps := by unfold parseN; rw [if_pos hv, ← HPL.out.1]
            obtain ⟨lp, hlp⟩ : ∃ lp, lp = lastP ps := ⟨_, rfl⟩
            obtain ⟨b1, hb1⟩ : ∃ b1, b1 = (l.getLastD 0 == 47) := ⟨_, rfl⟩
            obtain ⟨b2, hb2⟩ : ∃ b2, b2 = (lp == [46]) := ⟨_, rfl⟩
            obtain ⟨b3, hb3⟩ : ∃ b3, b3 = (lp == [46, 46]) := ⟨_, rfl⟩
            have hd : parseD l = (b1 || b2 || b3) := by unfold parseD dirB; rw [if_pos hv, hb1, hb2, hb3, hlp, HPL.out.1]
            have hlt := bs_toList lp
            have hs0 : 0 < s.size := by
              rw [HS.out.2.1]
              cases hl0 : l with
              | nil => exact absurd hl0 HS.out.2.2.1
              | cons => simp
            have hk : s.size - 1 < s.size := by omega
            have hlast : s[s.size - 1]'hk = l.getLastD 0 := by
              refine byte_is hk ?_
              rw [← HS.out.1, HS.out.2.1, ← List.getLast?_eq_getElem?, List.getLastD_eq_getLast?]
              cases hl0 : l with
              | nil => exact absurd hl0 HS.out.2.2.1
              | cons a r => rw [List.getLast?_cons]; rfl
            have e47 : (((s[s.size - 1]'hk).toNat : Int) == 47) = b1 := by
              rw [hlast, hb1, Bool.eq_iff_iff, beq_iff_eq, beq_iff_eq]
              constructor
              · intro e; exact UInt8.toNat_inj.1 (by show (l.getLastD 0).toNat = 47; omega)
              · intro e; rw [e]; rfl
            have HV := Lib.hid (And.intro hv (And.intro hn hd))
            rw [← hlp]
            have hsi : (s.size : Int) - 1 = ((s.size - 1 : Nat) : Int) := by omega
            obtain ⟨D, hD⟩ : ∃ D, D = (b1 || b2 || b3) := ⟨_, rfl⟩
            have HD := Lib.hid hD
            have hwq : (wc.setCell ⟨qb, 1, none⟩ (.bool D)).heap[qb]? = some (.cells #[.slice pv M cv, .bool D] 25 (0, 0)) := heap_setCell HPS.out.q
            have hkq : Keeps [qb] wc (wc.setCell ⟨qb, 1, none⟩ (.bool D)) := (Keeps.refl _ _).setCell (Or.inl (by simp)) _
            have hwp : (wc.setCell ⟨qb, 1, none⟩ (.bool D)).heap[pb]? = some (.cells #[.slice none 0 0, .bool false] 25 (0, 0)) := hkq.get hpbr (by simp; exact HP.out.2.2.1)
            have hwr : RowG FB 9 (wc.setCell ⟨qb, 1, none⟩ (.bool D)) (.slice pv M cv) (namesL ps) := HPS.out.r.keep hkq (fun z hz => by obtain rfl := List.mem_singleton.1 hz; exact HPS.out.r.ne HPS.out.q (by decide))
            have HW := Lib.hid (And.intro hwq (And.intro hwp (And.intro hwr (HPS.out.k.trans hkq))))
            clear hwq hkq hwp hwr hv hn hd hb1 hlast hs0 hlp
            go_upto_region 20 with fail
            go_cut [] (fun wx => wx.heap[qb]? = some (.cells #[.slice pv M cv, .bool D] 25 (0, 0)) ∧ wx.heap[pb]? = some (.cells #[.slice none 0 0, .bool false] 25 (0, 0)) ∧ RowG FB 9 wx (.slice pv M cv) (namesL ps) ∧ Keeps [qb] w3 wx)
            case first =>
              cases b1 with
              | true =>
                rw [Bool.true_or, Bool.true_or] at hD
                subst hD
                go_wp2
                go_meet
                case rel => exact HW.out
              | false =>
                cases b2 with
                | true =>
                  rw [Bool.false_or, Bool.true_or] at hD
                  subst hD
                  have hb2' : (lp == [46]) = true := hb2.symm
                  clear hb2
                  go_wp2
                  go_meet
                  case rel => exact HW.out
                | false =>
                  rw [Bool.false_or, Bool.false_or] at hD
                  subst hD
                  have hb2' : (lp == [46]) = false := hb2.symm
                  have hb3' := hb3.symm
                  clear hb2 hb3
                  go_wp2
                  go_meet
                  case rel => exact HW.out
            case rest =>
              obtain ⟨hwq, hwp, hwr, hwk⟩ := hcut
              have a0 : wc.cell? ⟨qb, 0, none⟩ = some (.slice pv M cv) := cell_of hwq rfl
              have a1 : wc.cell? ⟨qb, 1, none⟩ = some (.bool D) := cell_of hwq rfl
              have p0 : wc.cell? ⟨pb, 0, none⟩ = some (.slice none 0 0) := cell_of hwp rfl
              have p1 : wc.cell? ⟨pb, 1, none⟩ = some (.bool false) := cell_of hwp rfl
              have z0 : wc.frozen? ⟨pb, 0, none⟩ = false := frozen_of 0 hwp
              have z1 : wc.frozen? ⟨pb, 1, none⟩ = false := frozen_of 1 hwp
              have hfin : ((wc.setCell ⟨pb, 0, none⟩ (.slice pv M cv)).setCell ⟨pb, 1, none⟩ (.bool D)).heap[pb]? = some (.cells #[.slice pv M cv, .bool D] 25 (0, 0)) := heap_setCell (heap_setCell hwp)
              have hkk : Keeps [pb] wc ((wc.setCell ⟨pb, 0, none⟩ (.slice pv M cv)).setCell ⟨pb, 1, none⟩ (.bool D)) := ((Keeps.refl [pb] wc).setCell (Or.inl (by simp)) _).setCell (Or.inl (by simp)) _
              have hrf := hwr.keep hkk (fun z hz => by obtain rfl := List.mem_singleton.1 hz; exact hwr.ne hwp (by decide))
              have HF := Lib.hid (And.intro hfin (And.intro hrf (fin_keeps HP.out.2.2.2.1 hwk hkk HP.out.2.2.2.2.2 HP.out.2.2.2.2.1)))
              clear hfin hrf hkk hwq hwp hwr hwk hpbr hb2 hb3 hD q0 q1 zq
              go_wp2
              (try simp only [Exit.inBlock, Exit.then])
              refine bodyPost_ret (results_ct rfl rfl (load25 HF.out.1)) rfl ?_
              obtain ⟨hv, hn, hd⟩ := HV.out
              refine ⟨.slice pv M cv, by rw [hv, hd, ← HD.out]; rfl, ?_⟩
              rw [hn]
              exact ⟨HF.out.2.1, fun x hx => Nat.le_trans HP.out.2.2.2.1.size (HPS.out.g x hx), HF.out.2.2⟩
end Go.Proofs.Ytpfmhjokcpkliaa
