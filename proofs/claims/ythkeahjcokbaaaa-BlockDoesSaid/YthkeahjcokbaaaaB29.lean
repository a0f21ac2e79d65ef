/-
  BlockDoes' walk.
-/
import Derived.Test.YthkeahjcokbaaaaB30
namespace Go.Proofs.Ythkeahjcokbaaaa
open Go.RowKit Go.V Go.V.Block
def LD (ab sb : Nat) (ad : Ad) (cb rs : Nat) (rd : Nat → Nat) (room : Int) (n : Nat) (W : World) (k : Nat) (v : Value) (wx : World) : Prop :=
  ∃ (i : Nat) (used : Int) (st : Bo) (F : Nat → List Nat), v = .int .i64 i ∧ i ≤ n ∧ n - i ≤ k ∧ All4 ab sb ad cb rs rd F room used st W wx
def ED (ab sb : Nat) (ad : Ad) (cb rs : Nat) (rd : Nat → Nat) (room : Int) (W : World) (wx : World) : Prop :=
  ∃ (used : Int) (st : Bo) (F : Nat → List Nat), All4 ab sb ad cb rs rd F room used st W wx
def LF (ab sb : Nat) (ad : Ad) (cb rs : Nat) (rd : Nat → Nat) (F : Nat → List Nat) (room used : Int) (st : Bo) (W : World) (m : Nat) (v : Value) (wx : World) : Prop :=
  ∃ k : Nat, v = .int .i64 k ∧ k ≤ 4 ∧ 4 - k ≤ m ∧ All4 ab sb ad cb rs rd F room used st W wx
def SF (ab cb adk rdk k : Nat) (vp vb : Value) (R : List UInt8) (w : World) : Prop :=
  w.cell? ⟨ab, k, none⟩ = some (.pointer (some ⟨adk, 0, none⟩)) ∧ w.cell? ⟨cb, k, none⟩ = some (.pointer (some ⟨rdk, 0, none⟩)) ∧ w.cell? ⟨rdk, 0, none⟩ = some vb ∧ Reads w vp (R.map bv) ∧ Reads w vb (R.map bv)
theorem SF.keep {ab cb adk rdk k : Nat} {vp vb : Value} {R : List UInt8} {w w' : World} (h : SF ab cb adk rdk k vp vb R w) (hk : Keeps [] w w') : SF ab cb adk rdk k vp vb R w' := by
  obtain ⟨a, b, c, d, e⟩ := h
  have f : ∀ {x : Addr} {v : Value}, w.cell? x = some v → w'.cell? x = some v := fun {x v} hx => (World.cell?_of_block (hk.block _ (Go.block_lt_of_cell hx) (by simp))).trans hx
  exact ⟨f a, f b, f c, d.keep hk (by simp), e.keep hk (by simp)⟩

set_option maxRecDepth 100000 in
set_option maxHeartbeats 8000000 in
theorem does_any (room : Int) (A : Value) (acts : List ActV) (W : World) (hA : SliceOf 5 ActOk W A acts) :
    Calls Try.prog 4 #[.int .i64 room, A] W (Tells (.bool true) W) := by
  obtain ⟨p, cap, rfl, hcap, hc, hr⟩ := hA
  obtain ⟨n, hn⟩ : ∃ n, n = acts.length := ⟨_, rfl⟩
  have HR := Lib.hid hr
  have HN := Lib.hid hn
  rw [← hn] at hcap ⊢
  clear hr hn
  by_cases hroom : room < 0 ∨ 65536 < room
  · as_aux_lemma =>
      go_enter Try.func4, Try.ntmps4
      go_wp2_with fail
      refine (awake_any _).mono ?_
      rintro e w1 ⟨rfl, hk1⟩
      go_wp2_with fail
      refine (new_bad room _ hroom).mono ?_
      rintro e w2 ⟨rfl, rfl⟩
      go_wp2_with fail
      refine (rnew_bad room _ hroom).mono ?_
      rintro e w2 ⟨rfl, rfl⟩
      go_wp2
      go_ret
      exact ⟨rfl, hk1⟩
  · obtain ⟨hr0, hr1⟩ : 0 ≤ room ∧ room ≤ 65536 := by omega
    clear hroom
    go_enter Try.func4, Try.ntmps4
    go_wp2_with fail
    refine (awake_any _).mono ?_
    rintro e w1 ⟨rfl, hk1⟩
    go_wp2_with fail
    refine (new_any room _ hr0 hr1).mono ?_
    rintro e w2 ⟨sb, hsb, rfl, hs2, hk2⟩
    go_wp2_with fail
    refine (rnew_any room _ hr0 hr1).mono ?_
    rintro e w3 ⟨rs, hrs, rfl, hs3, hk3⟩
    have HX := Lib.hid (show W.heap.size ≤ sb ∧ sb < rs ∧ rs < w3.heap.size ∧ SAt w3 sb room 0 ∧ RAt w3 rs room 0 ∧ Keeps [] W w3 from ⟨by have := hk1.size; omega, by have := hs2.lt; omega, lt_of_heap hs3, hs2.keep hk3 (by simp), hs3, (hk1.trans hk2).trans hk3⟩)
    clear hk1 hsb hs2 hk2 hrs hs3 hk3
    go_upto_region 9 with fail
    obtain ⟨w4, hw4⟩ : ∃ w4, w4 = (w3.alloc (.cells #[.pointer none, .pointer none, .pointer none, .pointer none] 42)).alloc (.cells #[.pointer none, .pointer none, .pointer none, .pointer none] 44) := ⟨_, rfl⟩
    obtain ⟨ab, hab⟩ : ∃ ab, ab = w3.heap.size := ⟨_, rfl⟩
    obtain ⟨cb, hcb⟩ : ∃ cb, cb = ab + 1 := ⟨_, rfl⟩
    have HK0' : KB ab cb sb rs room W 4 (.int .i64 ((0 : Nat) : Int)) w4 := by
      obtain ⟨x1, x2, x3, x4, x5, x6⟩ := HX.out
      have hka : Keeps [] w3 (w3.alloc (.cells #[.pointer none, .pointer none, .pointer none, .pointer none] 42)) := (Keeps.refl _ _).alloc _
      have hkb : Keeps [] w3 w4 := by rw [hw4]; exact hka.alloc _
      have hsz : w4.heap.size = w3.heap.size + 2 := by rw [hw4]; show ((w3.heap.push _).push _).size = _; simp
      have hsa : (w3.alloc (.cells #[.pointer none, .pointer none, .pointer none, .pointer none] 42)).heap.size = w3.heap.size + 1 := by show (w3.heap.push _).size = _; simp
      refine ⟨0, fun _ => (0, 0), fun _ => 0, fun _ => cb + 1, fun _ => .pointer none, fun _ => .pointer none, rfl, by omega, by omega, ?_, ?_, x4.keep hkb (by simp), hkb.get x5 (by simp), x6.trans hkb, by show cb < cb + 1; omega, by show cb + 1 ≤ _; omega, fun i hi => by omega⟩
      · rw [hw4, hab]; exact heap_alloc_ne _ _ (heap_alloc w3 _)
      · rw [hw4]
        have := heap_alloc (w3.alloc (.cells #[.pointer none, .pointer none, .pointer none, .pointer none] 42)) (.cells #[.pointer none, .pointer none, .pointer none, .pointer none] 44)
        rw [hsa, ← hab, ← hcb] at this
        exact this
    have HK0 := Lib.hid HK0'
    clear HK0'
    have HZW := Lib.hid (show W.heap.size ≤ ab ∧ W.heap.size ≤ cb by obtain ⟨x1, x2, x3, _⟩ := HX.out; omega)
    have HY := Lib.hid (show W.heap.size ≤ sb ∧ sb < rs ∧ rs < ab ∧ ab < cb by obtain ⟨x1, x2, x3, _⟩ := HX.out; omega)
    rw [← hw4, ← hab, ← hcb]
    clear hw4 hab hcb HX
    go_wp2_with fail
    go_loopg [47] 4 (fun m v wx => KB ab cb sb rs room W m v wx)
    case atStart => exact HK0.out
    case round =>
      have HKB := Lib.hid hrel
      obtain ⟨j, ad, rd, z, vb, vc, rfl, hj4, hjm, a1, a2, a3, a4, a5, a6, a7, a8⟩ := hrel
      by_cases hj : j < 4
      · as_aux_lemma =>
          have HH := Lib.hid (And.intro a1 (And.intro a2 (And.intro a3 (And.intro a4 (And.intro a5 (And.intro a6 (And.intro a7 a8)))))))
          clear a1 a2 a3 a4 a5 a6 a7 a8
          go_wp2_with fail
          refine (body_any _ _).mono ?_
          rintro e w5 ⟨bb, mb, hbb, hmb, rfl, p0, hk5⟩
          obtain ⟨a1, a2, a3, a4, a5, a6, a7, a8⟩ := HH.out
          have b1 := hk5.get a1 (by simp)
          have b2 := hk5.get a2 (by simp)
          have f1 : w5.frozen? ⟨ab, j, none⟩ = false := frozen_of j b1
          have f2 : w5.cell? ⟨ab, j, none⟩ = some (vb j) := by
            have : j = 0 ∨ j = 1 ∨ j = 2 ∨ j = 3 := by omega
            rcases this with rfl | rfl | rfl | rfl <;> exact cell_of b1 rfl
          have hacb : cb ≠ ab := by have := HY.out; omega
          have b3 : ((w5.setCell ⟨ab, j, none⟩ (.pointer (some ⟨bb, 0, none⟩))).alloc (.cells #[.slice none 0 0, .slice none 0 0] 47)).heap[cb]? = some (.cells #[vc 0, vc 1, vc 2, vc 3] 44 (0, 0)) := heap_alloc_ne _ _ (heap_setCell_ne b2 hacb)
          have f3 : ((w5.setCell ⟨ab, j, none⟩ (.pointer (some ⟨bb, 0, none⟩))).alloc (.cells #[.slice none 0 0, .slice none 0 0] 47)).frozen? ⟨cb, j, none⟩ = false := frozen_of j b3
          have f4 : ((w5.setCell ⟨ab, j, none⟩ (.pointer (some ⟨bb, 0, none⟩))).alloc (.cells #[.slice none 0 0, .slice none 0 0] 47)).cell? ⟨cb, j, none⟩ = some (vc j) := by
            have : j = 0 ∨ j = 1 ∨ j = 2 ∨ j = 3 := by omega
            rcases this with rfl | rfl | rfl | rfl <;> exact cell_of b3 rfl
          have H5 := Lib.hid (And.intro hbb (And.intro hmb (And.intro p0 (And.intro hk5 (And.intro b1 (And.intro b2 b3))))))
          clear a1 a2 a3 a4 a5 a6 a7 a8 hbb hmb p0 hk5 b1 b2 b3
          go_wp2
          go_roundg (gk - 1)
          case measure => omega
          case rel =>
            obtain ⟨a1, a2, a3, a4, a5, a6, a7, a8⟩ := HH.out
            obtain ⟨hbb, hmb, p0, hk5, b1, b2, b3⟩ := H5.out
            have hY := HY.out
            obtain ⟨W6, hW6⟩ : ∃ W6, W6 = ((w5.setCell ⟨ab, j, none⟩ (.pointer (some ⟨bb, 0, none⟩))).alloc (.cells #[.slice none 0 0, .slice none 0 0] 47)).setCell ⟨cb, j, none⟩ (.pointer (some ⟨w5.heap.size, 0, none⟩)) := ⟨_, rfl⟩
            rw [← hW6]
            have hka : Keeps [ab, cb] w5 W6 := by
              rw [hW6]
              exact (((Keeps.refl [ab, cb] w5).setCell (p := ⟨ab, j, none⟩) (Or.inl (by simp)) _).alloc _).setCell (p := ⟨cb, j, none⟩) (Or.inl (by simp)) _
            have hsz : W6.heap.size = w5.heap.size + 1 := by
              rw [hW6]
              have : ∀ (w : World) (p : Addr) (v : Value), (w.setCell p v).heap.size = w.heap.size := fun w p v => by simp [World.setCell]
              rw [this]
              show ((w5.setCell _ _).heap.push _).size = _
              rw [Array.size_push, this]
            have hz5 := hk5.size
            have hcz : cb < z j := by
              by_cases e : j = 0
              · subst e; exact a6
              · obtain ⟨_, _, _, _, c1, c2⟩ := a8 (j - 1) (by omega)
                unfold BI at c1
                rw [show j - 1 + 1 = j by omega] at c1
                omega
            have hp0 := p0.lt
            refine ⟨j + 1, fun i => if i = j then (bb, mb) else ad i, fun i => if i = j then w5.heap.size else rd i, fun i => if i = j + 1 then w5.heap.size + 1 else z i, fun i => if i = j then .pointer (some ⟨bb, 0, none⟩) else vb i, fun i => if i = j then .pointer (some ⟨w5.heap.size, 0, none⟩) else vc i, by push_cast; rfl, by omega, by omega, ?_, ?_, ?_, ?_, ?_, ?_, ?_, ?_⟩
            · rw [hW6, heap_setCell_ne (heap_alloc_ne _ _ (heap_setCell b1)) (show ab ≠ cb by omega)]
              have : j = 0 ∨ j = 1 ∨ j = 2 ∨ j = 3 := by omega
              rcases this with rfl | rfl | rfl | rfl <;> rfl
            · rw [hW6, heap_setCell b3]
              have : j = 0 ∨ j = 1 ∨ j = 2 ∨ j = 3 := by omega
              rcases this with rfl | rfl | rfl | rfl <;> rfl
            · exact (a3.keep hk5 (by simp)).keep hka (by simp; omega)
            · exact hka.get (hk5.get a4 (by simp)) (by simp; omega)
            · exact (a5.trans hk5).trans' hka (fun x hx => Or.inr (by have := HZW.out; simp at hx; omega))
            · show cb < if 0 = j + 1 then _ else z 0
              rw [if_neg (by omega)]; exact a6
            · show (if j + 1 = j + 1 then w5.heap.size + 1 else _) ≤ _
              rw [if_pos rfl, hsz]; exact Nat.le_refl _
            · intro i hi
              by_cases e : i = j
              · subst e
                have hrb : W6.heap[w5.heap.size]? = some (.cells #[.slice none 0 0, .slice none 0 0] 47 (0, 0)) := by
                  rw [hW6]
                  refine heap_setCell_ne ?_ (show w5.heap.size ≠ cb by have := lt_of_heap b2; omega)
                  have h := heap_alloc (w5.setCell ⟨ab, i, none⟩ (.pointer (some ⟨bb, 0, none⟩))) (.cells #[.slice none 0 0, .slice none 0 0] 47)
                  rw [World.size_setCell] at h
                  exact h
                simp only [if_pos, BI]
                rw [if_neg (by omega)]
                refine ⟨rfl, rfl, p0.keep hka ?_ ?_, rb_new hrb, ⟨by omega, by omega, p0.ne, hp0.1, hp0.2, by omega⟩, hcz⟩
                · simp only [List.mem_cons, List.not_mem_nil, or_false]; have := lt_of_heap a1; have := lt_of_heap a2; omega
                · simp only [List.mem_cons, List.not_mem_nil, or_false]; have := lt_of_heap a1; have := lt_of_heap a2; omega
              · obtain ⟨c1, c2, c3, c4, c5, c6⟩ := a8 i (by omega)
                simp only [if_neg e, BI]
                unfold BI at c5
                rw [if_neg (show ¬ i = j + 1 by omega), if_neg (show ¬ i + 1 = j + 1 by omega)]
                refine ⟨c1, c2, (c3.keep hk5 (by simp) (by simp)).keep hka ?_ ?_, (c4.keep hk5 (by simp) (by simp)).keep hka ?_ (by simp), c5, c6⟩
                · simp only [List.mem_cons, List.not_mem_nil, or_false]; omega
                · simp only [List.mem_cons, List.not_mem_nil, or_false]; omega
                · simp only [List.mem_cons, List.not_mem_nil, or_false]; omega
      · obtain rfl : j = 4 := by omega
        clear a1 a2 a3 a4 a5 a6 a7 a8 hj HK0 hjm
        obtain ⟨ad, rd, hsep, hsep2, hall⟩ := all4_start hr0 HY.out.1 HY.out.2.1 HY.out.2.2.1 HY.out.2.2.2 rfl HKB.out
        have HSEP := Lib.hid hsep
        have HSEP2 := Lib.hid hsep2
        have HALL := Lib.hid hall
        clear hsep hsep2 hall HKB HZW
        go_upto_block 2 with fail
        go_cut [10] (fun _ wx => ED ab sb ad cb rs rd room W wx)
        case first =>
          go_wp2_with fail
          go_loopg [10] n (fun k v wx => LD ab sb ad cb rs rd room n W k v wx)
          case atStart => exact ⟨0, 0, fun _ => (0, []), fun _ => [], rfl, by omega, by omega, HALL.out⟩
          case round =>
            obtain ⟨i, used, st, F, rfl, hin, hk, hall⟩ := hrel
            have HA := Lib.hid hall
            clear hall HALL
            by_cases hlt : i < n ∧ i < 60
            · obtain ⟨hi1, hi2⟩ := hlt
              obtain ⟨x, hx⟩ : ∃ x, acts[i]? = some x := ⟨_, List.getElem?_eq_getElem (by rw [← HN.out]; exact hi1)⟩
              obtain ⟨b, o, rfl, hb, he⟩ := HR.out (by rw [← HN.out]; omega)
              obtain ⟨cs, hcs, hra, hok⟩ := he i x hx
              obtain rfl := hok.1
              have hkW := HA.out.1.2.2.2.2.2
              have hra1 := hra.keep hkW (by simp)
              have hok1 := actOk_keep hok hkW (by simp)
              have c0 : wr.cell? ⟨b, o + i * 5, none⟩ = some (.int .i64 x.kind) := hra1 0 _ rfl
              have c1 : wr.cell? ⟨b, o + i * 5 + 1, none⟩ = some (.int .i64 x.who) := hra1 1 _ rfl
              have c2 : wr.cell? ⟨b, o + i * 5 + 2, none⟩ = some (.int .i64 x.off) := hra1 2 _ rfl
              have c3 : wr.cell? ⟨b, o + i * 5 + 3, none⟩ = some (.int .i64 x.n) := hra1 3 _ rfl
              obtain ⟨pB, cB, hxb, hcB, _⟩ := hok1.2.2.2.2.2.1
              rw [List.length_map] at hxb hcB
              obtain ⟨m, hm⟩ : ∃ m, m = x.dat.length := ⟨_, rfl⟩
              rw [← hm] at hxb hcB
              have c4 : wr.cell? ⟨b, o + i * 5 + 4, none⟩ = some (.slice pB m cB) := by rw [← hxb]; exact hra1 4 _ rfl
              have HX := Lib.hid (And.intro hok1 (And.intro hok (And.intro hxb hm)))
              clear hxb hm
              clear hra1 hok1 hok hb hkW he hx hra hcs
              go_upto_region 19 with fail
              obtain ⟨w1, hw1⟩ : ∃ w1, w1 = wr.alloc (.cells #[.int .i64 x.kind, .int .i64 x.who, .int .i64 x.off, .int .i64 x.n, .slice pB m cB] 49) := ⟨_, rfl⟩
              obtain ⟨xb, hxb⟩ : ∃ xb, xb = wr.heap.size := ⟨_, rfl⟩
              have hrow : w1.heap[xb]? = some (.cells #[.int .i64 x.kind, .int .i64 x.who, .int .i64 x.off, .int .i64 x.n, .slice pB m cB] 49 (0, 0)) := by rw [hw1, hxb]; exact heap_alloc wr _
              have hk1 : Keeps [] wr w1 := by rw [hw1]; exact (Keeps.refl _ _).alloc _
              have HA1 := Lib.hid (HA.out.keep hk1)
              have HAP := Lib.hid (HA.out.apart (g := xb) (by rw [hxb]; exact Nat.le_refl _))
              have HX1 := Lib.hid (And.intro (actOk_keep HX.out.1 hk1 (by simp)) HX.out.2)
              rw [← hw1, ← hxb]
              clear hw1 hxb hk1 HA HX c0 c1 c2 c3 c4
              have HROW := Lib.hid hrow
              have c0 : w1.cell? ⟨xb, 0, none⟩ = some (.int .i64 x.kind) := cell_of hrow rfl
              have c1 : w1.cell? ⟨xb, 1, none⟩ = some (.int .i64 x.who) := cell_of hrow rfl
              have c2 : w1.cell? ⟨xb, 2, none⟩ = some (.int .i64 x.off) := cell_of hrow rfl
              have c3 : w1.cell? ⟨xb, 3, none⟩ = some (.int .i64 x.n) := cell_of hrow rfl
              have c4 : w1.cell? ⟨xb, 4, none⟩ = some (.slice pB m cB) := cell_of hrow rfl
              clear hrow
              have hlc := large_ok x w1 HX1.out.1
              obtain ⟨lb, hlb⟩ : ∃ lb, lb = largeB x := ⟨_, rfl⟩
              rw [← hlb] at hlc
              have HLB := Lib.hid hlb
              have hxe : x.cells.toArray = #[.int .i64 x.kind, .int .i64 x.who, .int .i64 x.off, .int .i64 x.n, .slice pB m cB] := by
                unfold ActV.cells
                rw [HX1.out.2.2.1]
              rw [hxe] at hlc
              have HLC := Lib.hid hlc
              clear hlb hlc hxe
              go_wp2_with fail
              refine HLC.out.mono ?_
              rintro e w5 ⟨rfl, hk5⟩
              have HA5 := Lib.hid (HA1.out.keep hk5)
              have HX5 := Lib.hid (And.intro (actOk_keep HX1.out.1 hk5 (by simp)) HX1.out.2)
              have hrow := hk5.get HROW.out (by simp)
              clear hk5 c0 c1 c2 c3 c4 HROW HA1 HX1 HLC
              cases lb with
              | true =>
                go_wp2
                go_ret
                exact ⟨rfl, HA5.out.1.2.2.2.2.2⟩
              | false =>
                have hsmall : m ≤ 4096 ∧ x.n ≤ 131072 := by
                  have h := HLB.out
                  unfold largeB at h
                  have h := of_decide_eq_false h.symm
                  have := HX5.out.2.2.2
                  omega
                obtain ⟨hsm1, hsm2⟩ := hsmall
                have c0 : w5.cell? ⟨xb, 0, none⟩ = some (.int .i64 x.kind) := cell_of hrow rfl
                have c1 : w5.cell? ⟨xb, 1, none⟩ = some (.int .i64 x.who) := cell_of hrow rfl
                have c2 : w5.cell? ⟨xb, 2, none⟩ = some (.int .i64 x.off) := cell_of hrow rfl
                have c3 : w5.cell? ⟨xb, 3, none⟩ = some (.int .i64 x.n) := cell_of hrow rfl
                have c4 : w5.cell? ⟨xb, 4, none⟩ = some (.slice pB m cB) := cell_of hrow rfl
                obtain ⟨K, hK⟩ : ∃ K, K = x.kind := ⟨_, rfl⟩
                obtain ⟨O, hO⟩ : ∃ O, O = x.off := ⟨_, rfl⟩
                obtain ⟨N, hN⟩ : ∃ N, N = x.n := ⟨_, rfl⟩
                rw [← hK] at c0 hrow
                rw [← hO] at c2 hrow
                rw [← hN] at c3 hsm2 hrow
                have HKON := Lib.hid (And.intro hK (And.intro hO hN))
                clear hK hO hN
                have HROW := Lib.hid hrow
                obtain ⟨kk, hkk⟩ : ∃ kk : Nat, bits .and .i64 x.who 3 = (kk : Int) := ⟨(x.who % 4).toNat, by rw [i64_and3]; omega⟩
                have hk4 : kk < 4 := by rw [i64_and3] at hkk; omega
                clear hrow
                go_upto_block 4 with fail
                go_cut [] (fun wx => ED ab sb ad cb rs rd room W wx)
                case first =>
                  by_cases hk0 : K = 0
                  · subst hk0
                    as_aux_lemma =>
                      go_upto_region 24 with fail
                      go_cut [13] (fun v wx => Own wx w5.heap.size 5 v (x.dat.map bv) ∧ Keeps [] w5 wx)
                      case first =>
                        have c4' : (w5.alloc (.cells #[] 5)).cell? ⟨xb, 4, none⟩ = some (.slice pB m cB) := cell_of (((Keeps.refl [] w5).alloc _).get HROW.out (by simp)) rfl
                        by_cases hm0 : m = 0
                        · subst hm0
                          go_wp2_with (at_builtin; refine vp_append_nothing rfl (.tmp 82) (.tmp 84) 22 rfl 5 (.int .u8 0) 1 Try.underlying22 info5 (some ⟨w5.heap.size, 0, none⟩) 0 0 (Nat.le_refl _) rfl pB cB rfl ?_)
                          go_meet
                          case rel =>
                            have hd : x.dat = [] := List.eq_nil_of_length_eq_zero HX5.out.2.2.2.symm
                            rw [hd]
                            exact ⟨Own.row (xs := []) w5.heap.size (Nat.le_refl _) (heap_alloc w5 _) (by simp), (Keeps.refl _ _).alloc _⟩
                        · obtain ⟨bB, oB, rfl, hrB⟩ : ∃ b o, pB = some ⟨b, o, none⟩ ∧ ∀ j u, (x.dat.map bv)[j]? = some u → w5.cell? ⟨b, o + j, none⟩ = some u := by
                            obtain ⟨p', c', hv, _, hr⟩ := HX5.out.1.2.2.2.2.2.1
                            rw [HX5.out.2.2.1] at hv
                            simp only [Value.slice.injEq] at hv
                            obtain ⟨b', o', hp', hr2⟩ := hr (by rw [List.length_map, ← HX5.out.2.2.2]; omega)
                            exact ⟨b', o', hv.1.trans hp', hr2⟩
                          have HRB := Lib.hid hrB
                          clear hrB
                          go_wp2_with (at_builtin; refine vp_append rfl (.tmp 82) (.tmp 84) 22 rfl 5 (.int .u8 0) 1 Try.underlying22 info5 rfl w5.heap.size (.slice (some ⟨w5.heap.size, 0, none⟩) 0 0) [] rfl (Own.row (xs := []) w5.heap.size (Nat.le_refl _) (heap_alloc w5 _) (by simp)) ⟨bB, oB, none⟩ m cB (x.dat.map bv) rfl (by rw [List.length_map]; exact HX5.out.2.2.2.symm) ?c1 (oneCell_bv _) ?c2 ?c3 ((Keeps.refl [] w5).alloc _) (Nat.le_refl _) ?c4 ?_; rotate_right; intro v' w2 hown2 hk2 _)
                          case c1 =>
                            intro j u hj
                            rw [add_none]
                            have h1 := HRB.out j u hj
                            exact (World.cell?_of_block (w := w5) (((Keeps.refl [] w5).alloc _).block bB (Go.block_lt_of_cell h1) (by simp))).trans h1
                          case c2 => simp; omega
                          case c3 => simp; omega
                          case c4 => exact ((Keeps.refl [] w5).alloc _).size
                          go_meet
                          case rel => exact ⟨hown2, hk2⟩
                      case rest =>
                        obtain ⟨hown, hk6⟩ := hcut
                        obtain ⟨po, co, hv, hco⟩ := own_value hown
                        rw [List.length_map, ← HX5.out.2.2.2] at hv hco
                        subst hv
                        have hrow6 := hk6.get HROW.out (by simp)
                        have HA6 := Lib.hid (HA5.out.keep hk6)
                        have hgb : ∀ g, (Value.slice po m co).ownBlock = some g → w5.heap.size ≤ g ∧ g < wc.heap.size := fun g hg => hown.blk hg
                        have HSD := Lib.hid (SD.of HA6.out hk4 hrow6)
                        have hxlt : xb < wc.heap.size := lt_of_heap hrow6
                        obtain ⟨p1, p2, p3, p4, p5, p6, p7⟩ := HA6.out.prog HSEP.out hk4
                        have hga : ∀ g, (Value.slice po m co).ownBlock = some g → Apart ab sb ad cb rs rd F W g := fun g hg => HA5.out.apart (hgb g hg).1
                        have hwr := write_any sb (ad kk).1 (ad kk).2 room ⟨used, (st kk).1, (st kk).2⟩ O x.dat (.slice po m co) wc.drew p1 p2 p3 p7 p6 hr1 hown.reads (fun _ y hy hq => (hga y hq).p hk4 hy) (own_fits hown)
                        have hg : ∃ (N' E : Int) (R : BS), writeM room ⟨used, (st kk).1, (st kk).2⟩ O x.dat = (N', E, R) ∧ OkB R.sz R.l ∧ R.used ≤ room ∧ R.used - used = (R.l.length : Int) - ((st kk).2.length : Int) := by
                          obtain ⟨n', e', u', l', g1, g2, g3, g4, g5, g6, _⟩ := write_gen (s := ⟨used, (st kk).1, (st kk).2⟩) p4 p6 O x.dat
                          exact ⟨_, _, _, g1, g6, g3, g5⟩
                        obtain ⟨N', E, R, hER, hg1, hg2, hg3⟩ := hg
                        rw [hER] at hwr
                        have HC := Lib.hid hwr
                        have HG := Lib.hid (And.intro hER (And.intro hg1 (And.intro hg2 (And.intro hg3 (And.intro p7 p6)))))
                        have HO := Lib.hid (And.intro hown (And.intro hga (And.intro hgb hxlt)))
                        clear p1 p2 p3 p4 p5 p6 p7 hwr hER hg1 hg2 hg3 c0 c2 c3 c4 hown hk6 hrow6 hgb hga hxlt
                        go_upto_region 25 with fail
                        refine vp_region (SD ab cb ad rd kk xb O N (.slice pB m cB)) [(0, true), (1, true), (2, true), (3, true), (4, true), (5, true), (6, true), (7, false), (8, true), (9, true), (10, true), (11, true), (12, true)] (by kernel_rfl) (by kernel_rfl) (by intro _ d _ _ _ h; cases d <;> exact h) HSD.out ?_
                        intro w6 hw6
                        simp only [pick, List.map_cons, List.map_nil, List.getD_cons_zero, List.getD_cons_succ]
                        repeat
                          refine ord_free rfl (v := ?_) ?_ ?_
                          rotate_left
                          · intro w' hw'
                            obtain ⟨c0, c1, c2, c3, c4⟩ := hw'
                            go_simp
                            first | with_reducible rfl | rw [if_pos (show (kk : Int) < 4 by omega)]
                          simp only [Act.put, List.setIfInBounds_toArray, List.set_cons_zero, List.set_cons_succ]
                        subst hw6
                        refine ord_eff ?_
                        go_wp2_with fail
                        rename_i KK hKK
                        refine HC.out.mono ?_
                        rintro e w7 ⟨rfl, q1, q2, q3⟩
                        refine hKK _ _ ?_
                        have hz7 : Keeps [sb, (ad kk).1, (ad kk).2] wc w7 := ⟨q3.os, q3.tape, q3.output, q3.size, q3.block⟩
                        have hsd7 := HSD.out.keep hz7 (fixed_p HSEP.out HSEP2.out hk4).1 (fixed_p HSEP.out HSEP2.out hk4).2 (HAP.out.p hk4)
                        refine ord_next hsd7 ?_
                        have HQ := Lib.hid (And.intro q1 (And.intro q2 (And.intro hz7 hsd7)))
                        clear q1 q2 q3 hz7 hsd7 HC hKK KK HSD
                        simp only [Act.put, List.setIfInBounds_toArray, List.set_cons_zero, List.set_cons_succ]
                        repeat
                          refine ord_free rfl (v := ?_) ?_ ?_
                          rotate_left
                          · intro w' hw'
                            go_simp
                            with_reducible rfl
                          simp only [Act.put, List.setIfInBounds_toArray, List.set_cons_zero, List.set_cons_succ]
                        refine ord_nil ?_
                        go_upto_region 26 with fail
                        obtain ⟨r1, r2, r3, r4⟩ := HA6.out.ref HSEP2.out hk4 HQ.out.2.2.1
                        have hkW : Keeps [] W w7 := HA6.out.1.2.2.2.2.2.trans' HQ.out.2.2.1 (fun y hy => Or.inr (by
                          refine HSEP2.out.2.1 y ?_
                          simp only [List.mem_cons, List.not_mem_nil, or_false] at hy
                          rcases hy with q | q | q
                          · exact Or.inr (Or.inl q)
                          · exact Or.inr (Or.inr ⟨kk, hk4, Or.inl q⟩)
                          · exact Or.inr (Or.inr ⟨kk, hk4, Or.inr q⟩)))
                        have hxok := actOk_keep HX5.out.2.1 hkW (by simp)
                        have hrd := hxok.2.2.2.2.2.1
                        have hft := hxok.2.2.2.2.2.2.1
                        have hbl := HX5.out.2.1.2.2.2.2.2.2.2
                        rw [HX5.out.2.2.1] at hrd hft hbl
                        have hwr := rwrite_any rs (rd kk) (F kk) room ⟨used, (st kk).1, (st kk).2⟩ O x.dat (.slice pB m cB) w7.drew r1.2.1 (show RB _ _ _ _ _ from r1.2.2 kk hk4) ⟨r2, r3, r4⟩ HG.out.2.2.2.2.1 HG.out.2.2.2.2.2 hr1 hrd (fun h0 g hg q => by
                          have hlt := hbl h0 g hg
                          simp only [List.cons_append, List.nil_append, List.mem_cons] at q
                          rcases q with q | q | q
                          · have := HSEP2.out.2.2.1 g (Or.inr (Or.inl q)); omega
                          · have := HSEP2.out.2.2.1 g (Or.inr (Or.inr ⟨kk, hk4, q⟩)); omega
                          · have := (HA6.out.2.2.1 kk hk4 g q).1; omega) hft
                        rw [HG.out.1] at hwr
                        have HC2 := Lib.hid hwr
                        clear hwr r1 r2 r3 r4 hkW hxok hrd hft hbl
                        refine vp_region (SD ab cb ad rd kk xb O N (.slice pB m cB)) [(0, true), (1, true), (2, true), (3, true), (4, true), (5, true), (6, true), (7, true), (8, false), (9, true), (10, true), (11, true), (12, true), (13, true)] (by kernel_rfl) (by kernel_rfl) (by intro _ d _ _ _ h; cases d <;> exact h) HQ.out.2.2.2 ?_
                        intro w8 hw8
                        simp only [pick, List.map_cons, List.map_nil, List.getD_cons_zero, List.getD_cons_succ]
                        repeat
                          refine ord_free rfl (v := ?_) ?_ ?_
                          rotate_left
                          · intro w' hw'
                            obtain ⟨c0, c1, c2, c3, c4⟩ := hw'
                            go_simp
                            first | with_reducible rfl | rw [if_pos (show (kk : Int) < 4 by omega)]
                          simp only [Act.put, List.setIfInBounds_toArray, List.set_cons_zero, List.set_cons_succ]
                        subst hw8
                        refine ord_eff ?_
                        go_wp2_with fail
                        rename_i KK hKK
                        refine HC2.out.mono ?_
                        rintro e w8 ⟨rfl, t1, F', t2, t3, t4⟩
                        refine hKK _ _ ?_
                        have hz8 : Keeps ([rs, rd kk] ++ F kk) w7 w8 := ⟨t4.os, t4.tape, t4.output, t4.size, t4.block⟩
                        have hsd8 := HQ.out.2.2.2.keep hz8 (fixed_q HSEP2.out HA6.out.2.2 hk4).1 (fixed_q HSEP2.out HA6.out.2.2 hk4).2 (HAP.out.q hk4)
                        refine ord_next hsd8 ?_
                        obtain ⟨F2, hF2, hall⟩ := HA6.out.step HSEP.out HSEP2.out hk4 R HQ.out.1 HQ.out.2.1 HQ.out.2.2.1 HG.out.2.1 HG.out.2.2.1 HG.out.2.2.2.1 t1 (show Grew w7 (F kk) F' from t2) t3 hz8
                        have hapu : ∀ g, Apart ab sb ad cb rs rd F W g → g < wc.heap.size → Apart ab sb ad cb rs rd (updF F kk F2) W g := by
                          intro g hg hlt
                          refine ⟨hg.1, hg.2.1, hg.2.2.1, fun k hk q => ?_⟩
                          have q : g ∈ (if k = kk then F2 else F k) := q
                          by_cases e : k = kk
                          · rw [if_pos e] at q
                            rcases t2 g (hF2 g q) with q2 | q2
                            · exact hg.2.2.2 kk hk4 q2
                            · have h1 := HQ.out.2.2.1.size
                              have h2 : w7.heap.size ≤ g := q2
                              omega
                          · rw [if_neg e] at q
                            exact hg.2.2.2 k hk q
                        have hown8 : Own w8 w5.heap.size 5 (.slice po m co) (x.dat.map bv) := (HO.out.1.keep HQ.out.2.2.1 (fun y hy hq => (HO.out.2.1 y hq).p hk4 hy)).keep hz8 (fun y hy hq => (HO.out.2.1 y hq).q hk4 hy)
                        have hr1' := hown8.reads
                        have hr2' := (actOk_keep HX5.out.2.1 hall.1.2.2.2.2.2 (by simp)).2.2.2.2.2.1
                        rw [HX5.out.2.2.1] at hr2'
                        have c4 : w8.cell? ⟨xb, 4, none⟩ = some (.slice pB m cB) := hsd8.2.2.2.2
                        have v1 := run_bytes_string (P := Try.prog) 22 9 5 Try.underlying22 Try.underlying5 Try.underlying9 hr1'
                        have v2 := run_bytes_string (P := Try.prog) 22 9 5 Try.underlying22 Try.underlying5 Try.underlying9 hr2'
                        have HA8 := Lib.hid hall
                        have hx0 : Own w8 w5.heap.size 5 (.slice po m co) ((x.dat.map (fun x => (x.toNat : Int))).map un) := by rw [← bytes_un]; exact hown8
                        obtain ⟨gg, hgg⟩ : ∃ gg, gg = (Value.slice po m co).ownBlock.getD xb := ⟨_, rfl⟩
                        have hga8 : Apart ab sb ad cb rs rd (updF F kk F2) W gg := by
                          rw [hgg]
                          cases hq : (Value.slice po m co).ownBlock with
                          | none => exact hapu xb HAP.out HO.out.2.2.2
                          | some g => exact hapu g (HO.out.2.1 g hq) (HO.out.2.2.1 g hq).2
                        have HX8 := Lib.hid (And.intro hga8 (And.intro hx0 hgg))
                        have hRm : (x.dat.map (fun x => (x.toNat : Int))).length = m := by rw [List.length_map]; exact HX5.out.2.2.2.symm
                        have HRM := Lib.hid hRm
                        clear hz8 hsd8 hF2 hall hapu hown8 hr1' hr2' hx0 hgg hga8 hRm t1 t2 t3 t4 HC2 hKK KK HQ
                        have hEE : (E != E) = false := by simp
                        have hNN : (N' != N') = false := by simp
                        simp only [Act.put, List.setIfInBounds_toArray, List.set_cons_zero, List.set_cons_succ]
                        repeat
                          refine ord_free rfl (v := ?_) ?_ ?_
                          rotate_left
                          · intro w' hw'
                            go_simp
                            with_reducible rfl
                          simp only [Act.put, List.setIfInBounds_toArray, List.set_cons_zero, List.set_cons_succ]
                        refine ord_nil ?_
                        go_upto_region 29 with fail
                        clear v1 v2 hEE hNN c4
                        go_wp2_with fail
                        go_loopg [127] m (fun k v wx => XI gg m w5.heap.size (.slice po m co) w8 k v wx)
                        case atStart => exact ⟨0, _, rfl, Nat.zero_le _, by omega, HRM.out, HX8.out.2.1, Keeps.refl _ _⟩
                        case round =>
                          obtain ⟨i2, ys, rfl, hi2, hik, hyl, hown, hkx⟩ := hrel
                          by_cases hlt : i2 < m
                          · obtain ⟨g, c', hv, o1, o2, ⟨y, o3⟩, o4⟩ := hown.set (i := i2) (by rw [List.length_map, hyl]; exact hlt) (un (bits .xor .u8 (ys.getD i2 0) 1))
                            rw [List.length_map, hyl] at hv
                            have hgx : gg = g := by rw [HX8.out.2.2, hv]; rfl
                            simp only [Value.slice.injEq] at hv
                            obtain ⟨rfl, _, rfl⟩ := hv
                            have c1 : wr.cell? ⟨g, i2, none⟩ = some (.int .u8 (ys.getD i2 0)) := by
                              obtain ⟨p', c'', hv', _, hr⟩ := hown.reads
                              simp only [Value.slice.injEq] at hv'
                              obtain ⟨b', o', hp', hr2⟩ := hr (by rw [List.length_map, hyl]; omega)
                              have h5 := hv'.1.trans hp'
                              simp only [Option.some.injEq, Addr.mk.injEq] at h5
                              obtain ⟨rfl, rfl, _⟩ := h5
                              have h6 := hr2 i2 (un (ys.getD i2 0)) (by rw [List.getElem?_map, List.getD_eq_getElem?_getD, List.getElem?_eq_getElem (by rw [hyl]; exact hlt)]; rfl)
                              rw [Nat.zero_add] at h6
                              exact h6
                            obtain ⟨z, hz⟩ : ∃ z, z = ys.getD i2 0 := ⟨_, rfl⟩
                            rw [← hz] at c1 o1 o4
                            have HQ := Lib.hid (And.intro o1 (And.intro hyl (And.intro hgx (And.intro o4 hkx))))
                            clear o1 hyl hgx o4 hkx hown hz o3
                            go_wp2
                            go_roundg (gk - 1)
                            case measure => omega
                            case rel =>
                              obtain ⟨o1, hyl, hgx, o4, hkx⟩ := HQ.out
                              refine ⟨i2 + 1, ys.set i2 (bits .xor .u8 z 1), by push_cast; rfl, by omega, by omega, by rw [List.length_set]; exact hyl, by rw [List.map_set]; exact o1, hkx.trans (o4.mono (T := [gg]) (by rw [hgx]; simp))⟩
                          · have HKX := Lib.hid hkx
                            clear hkx hown hyl
                            go_wp2
                            go_meet
                            case rel =>
                              have hap := HX8.out.1
                              exact ⟨_, _, _, HA8.out.other HKX.out hap.1 hap.2.1 hap.2.2.1 hap.2.2.2⟩
                  · by_cases hk1 : K = 1
                    · subst hk1
                      as_aux_lemma =>
                        obtain ⟨p1, p2, p3, p4, p5, p6, p7⟩ := HA5.out.prog HSEP.out hk4
                        have hre := read_any (.pointer (some ⟨sb, 0, none⟩)) (ad kk).1 (ad kk).2 ⟨used, (st kk).1, (st kk).2⟩ O N w5.drew p2
                        obtain ⟨R, E, hER⟩ : ∃ R E, readM ⟨used, (st kk).1, (st kk).2⟩ O N = (R, E) := ⟨_, _, rfl⟩
                        rw [hER] at hre
                        have HC := Lib.hid hre
                        have HE := Lib.hid hER
                        have HSD := Lib.hid (SD.of HA5.out hk4 HROW.out)
                        clear p1 p2 p3 p4 p5 p6 p7 hre hER c0 c2 c3 c4
                        go_upto_region 35 with fail
                        refine vp_region (SD ab cb ad rd kk xb O N (.slice pB m cB)) [(0, true), (1, true), (2, true), (3, true), (4, true), (5, true), (6, true), (7, true), (8, false), (9, true), (10, true), (11, true), (12, true), (13, true)] (by kernel_rfl) (by kernel_rfl) (by intro _ d _ _ _ h; cases d <;> exact h) HSD.out ?_
                        intro w6 hw6
                        simp only [pick, List.map_cons, List.map_nil, List.getD_cons_zero, List.getD_cons_succ]
                        repeat
                          refine ord_free rfl (v := ?_) ?_ ?_
                          rotate_left
                          · intro w' hw'
                            obtain ⟨c0, c1, c2, c3, c4⟩ := hw'
                            go_simp
                            first | with_reducible rfl | rw [if_pos (show (kk : Int) < 4 by omega)]
                          simp only [Act.put, List.setIfInBounds_toArray, List.set_cons_zero, List.set_cons_succ]
                        subst hw6
                        refine ord_eff ?_
                        go_wp2_with fail
                        rename_i KK hKK
                        refine HC.out.mono ?_
                        rintro e w6 ⟨v, rfl, q1, q2⟩
                        refine hKK _ _ ?_
                        have hz5 : Keeps [] w5 w6 := ⟨q2.os, q2.tape, q2.output, q2.size, q2.block⟩
                        have hsd6 := HSD.out.keep hz5 (by simp) (by simp) (by simp)
                        have HA6 := Lib.hid (HA5.out.keep hz5)
                        refine ord_next hsd6 ?_
                        obtain ⟨po, co, hv, hco⟩ := own_value q1
                        rw [List.length_map] at hv hco
                        obtain ⟨mo, hmo⟩ : ∃ mo, mo = R.length := ⟨_, rfl⟩
                        rw [← hmo] at hv hco
                        have HOWN := Lib.hid (And.intro q1 (And.intro hv hmo))
                        have HSD6 := Lib.hid hsd6
                        rw [hv]
                        clear q1 q2 hz5 hsd6 hv hmo HC hKK KK HSD
                        simp only [Act.put, List.setIfInBounds_toArray, List.set_cons_zero, List.set_cons_succ]
                        repeat
                          refine ord_free rfl (v := ?_) ?_ ?_
                          rotate_left
                          · intro w' hw'
                            go_simp
                            with_reducible rfl
                          simp only [Act.put, List.setIfInBounds_toArray, List.set_cons_zero, List.set_cons_succ]
                        refine ord_nil ?_
                        go_upto_region 36 with fail
                        have hre := rread_any (.pointer (some ⟨rs, 0, none⟩)) (rd kk) (F kk) ⟨used, (st kk).1, (st kk).2⟩ O N w6.drew (show RB _ _ _ _ _ from HA6.out.2.1.2.2 kk hk4)
                        rw [HE.out] at hre
                        have HC2 := Lib.hid hre
                        clear hre
                        refine vp_region (SD ab cb ad rd kk xb O N (.slice pB m cB)) [(0, true), (1, true), (2, true), (3, true), (4, true), (5, true), (6, true), (7, true), (8, false), (9, true), (10, true), (11, true), (12, true), (13, true)] (by kernel_rfl) (by kernel_rfl) (by intro _ d _ _ _ h; cases d <;> exact h) HSD6.out ?_
                        intro w7 hw7
                        simp only [pick, List.map_cons, List.map_nil, List.getD_cons_zero, List.getD_cons_succ]
                        repeat
                          refine ord_free rfl (v := ?_) ?_ ?_
                          rotate_left
                          · intro w' hw'
                            obtain ⟨c0, c1, c2, c3, c4⟩ := hw'
                            go_simp
                            first | with_reducible rfl | rw [if_pos (show (kk : Int) < 4 by omega)]
                          simp only [Act.put, List.setIfInBounds_toArray, List.set_cons_zero, List.set_cons_succ]
                        subst hw7
                        refine ord_eff ?_
                        go_wp2_with fail
                        rename_i KK hKK
                        refine HC2.out.mono ?_
                        rintro e w7 ⟨v2, rfl, q1, q2⟩
                        refine hKK _ _ ?_
                        have hz6 : Keeps [] w6 w7 := ⟨q2.os, q2.tape, q2.output, q2.size, q2.block⟩
                        refine ord_next (HSD6.out.keep hz6 (by simp) (by simp) (by simp)) ?_
                        obtain ⟨pr, cr, hv2, hcr⟩ := own_value q1
                        rw [List.length_map] at hv2 hcr
                        have hr2 := q1.reads
                        have hown7 := HOWN.out.1.keep hz6 (by simp)
                        have hr1 := hown7.reads
                        rw [hv2] at hr2 ⊢
                        rw [HOWN.out.2.1] at hr1
                        have v1 := run_bytes_string (P := Try.prog) 22 9 5 Try.underlying22 Try.underlying5 Try.underlying9 hr1
                        have v2' := run_bytes_string (P := Try.prog) 22 9 5 Try.underlying22 Try.underlying5 Try.underlying9 hr2
                        have HA7 := Lib.hid (HA6.out.keep hz6)
                        have HO7 := Lib.hid hown7
                        obtain ⟨mr, hmr⟩ : ∃ mr, mr = R.length := ⟨_, rfl⟩
                        rw [← hmr] at v2' ⊢
                        clear q1 q2 hz6 hv2 hr2 hr1 hown7 HC2 hKK KK HSD6 hmr hcr
                        have hEE : (E != E) = false := by simp
                        simp only [Act.put, List.setIfInBounds_toArray, List.set_cons_zero, List.set_cons_succ]
                        repeat
                          refine ord_free rfl (v := ?_) ?_ ?_
                          rotate_left
                          · intro w' hw'
                            go_simp
                            with_reducible rfl
                          simp only [Act.put, List.setIfInBounds_toArray, List.set_cons_zero, List.set_cons_succ]
                        refine ord_nil ?_
                        go_upto_region 39 with fail
                        clear v1 v2' hEE
                        go_wp2_with fail
                        have hga : ∀ g, (Value.slice po mo co).ownBlock = some g → Apart ab sb ad cb rs rd F W g := fun g hg => HA5.out.apart (Nat.le_trans (show w5.heap.size ≤ w5.drew.heap.size from Nat.le_refl _) (by have h1 := HOWN.out.1; rw [HOWN.out.2.1] at h1; exact (h1.blk hg).1))
                        have hx0 : Own w7 w5.drew.heap.size 5 (.slice po mo co) ((R.map (fun x => (x.toNat : Int))).map un) := by rw [← HOWN.out.2.1, ← bytes_un]; exact HO7.out
                        obtain ⟨gg, hgg⟩ : ∃ gg, gg = (Value.slice po mo co).ownBlock.getD xb := ⟨_, rfl⟩
                        have HX7 := Lib.hid (And.intro hga (And.intro hx0 hgg))
                        have hRm : (R.map (fun x => (x.toNat : Int))).length = mo := by rw [List.length_map]; exact HOWN.out.2.2.symm
                        have HRM := Lib.hid hRm
                        have hmo63 : mo ≤ 9223372036854775807 := by have := own_fits HOWN.out.1 _ _ _ HOWN.out.2.1; omega
                        clear hga hx0 hgg hRm
                        go_loopg [175] mo (fun k v wx => XI gg mo w5.drew.heap.size (.slice po mo co) w7 k v wx)
                        case atStart => exact ⟨0, _, rfl, Nat.zero_le _, by omega, HRM.out, HX7.out.2.1, Keeps.refl _ _⟩
                        case round =>
                          obtain ⟨i2, ys, rfl, hi2, hik, hyl, hown, hkx⟩ := hrel
                          by_cases hlt : i2 < mo
                          · obtain ⟨g, c', hv, o1, o2, ⟨y, o3⟩, o4⟩ := hown.set (i := i2) (by rw [List.length_map, hyl]; exact hlt) (un (bits .xor .u8 (ys.getD i2 0) 1))
                            rw [List.length_map, hyl] at hv
                            have hgx : gg = g := by rw [HX7.out.2.2, hv]; rfl
                            simp only [Value.slice.injEq] at hv
                            obtain ⟨rfl, _, rfl⟩ := hv
                            have c1 : wr.cell? ⟨g, i2, none⟩ = some (.int .u8 (ys.getD i2 0)) := by
                              obtain ⟨p', c'', hv', _, hr⟩ := hown.reads
                              simp only [Value.slice.injEq] at hv'
                              obtain ⟨b', o', hp', hr2⟩ := hr (by rw [List.length_map, hyl]; omega)
                              have h5 := hv'.1.trans hp'
                              simp only [Option.some.injEq, Addr.mk.injEq] at h5
                              obtain ⟨rfl, rfl, _⟩ := h5
                              have h6 := hr2 i2 (un (ys.getD i2 0)) (by rw [List.getElem?_map, List.getD_eq_getElem?_getD, List.getElem?_eq_getElem (by rw [hyl]; exact hlt)]; rfl)
                              rw [Nat.zero_add] at h6
                              exact h6
                            obtain ⟨z, hz⟩ : ∃ z, z = ys.getD i2 0 := ⟨_, rfl⟩
                            rw [← hz] at c1 o1 o4
                            have HQ := Lib.hid (And.intro o1 (And.intro hyl (And.intro hgx (And.intro o4 hkx))))
                            clear o1 hyl hgx o4 hkx hown hz o3
                            go_wp2
                            go_roundg (gk - 1)
                            case measure => omega
                            case rel =>
                              obtain ⟨o1, hyl, hgx, o4, hkx⟩ := HQ.out
                              refine ⟨i2 + 1, ys.set i2 (bits .xor .u8 z 1), by push_cast; rfl, by omega, by omega, by rw [List.length_set]; exact hyl, by rw [List.map_set]; exact o1, hkx.trans (o4.mono (T := [gg]) (by rw [hgx]; simp))⟩
                          · have HKX := Lib.hid hkx
                            clear hkx hown hyl
                            go_wp2
                            go_meet
                            case rel =>
                              have hap : Apart ab sb ad cb rs rd F W gg := by
                                rw [HX7.out.2.2]
                                cases hq : (Value.slice po mo co).ownBlock with
                                | none => exact HAP.out
                                | some g => exact HX7.out.1 g hq
                              exact ⟨used, st, F, HA7.out.other HKX.out hap.1 hap.2.1 hap.2.2.1 hap.2.2.2⟩
                    · by_cases hk2 : K = 2
                      · subst hk2
                        as_aux_lemma =>
                          obtain ⟨p1, p2, p3, p4, p5, p6, p7⟩ := HA5.out.prog HSEP.out hk4
                          have hcu := cut_any sb (ad kk).1 (ad kk).2 room ⟨used, (st kk).1, (st kk).2⟩ O w5.drew p1 p2 p3 p4.1.2.1 p5 (show used ≤ 65536 by omega)
                          have hg := cutM_gen (s := ⟨used, (st kk).1, (st kk).2⟩) p4 O
                          obtain ⟨E, R, hER⟩ : ∃ E R, cutM ⟨used, (st kk).1, (st kk).2⟩ O = (E, R) := ⟨_, _, rfl⟩
                          rw [hER] at hcu hg
                          have HC := Lib.hid hcu
                          have HG := Lib.hid (And.intro hg (And.intro hER (And.intro p5 (show used ≤ 65536 by omega))))
                          have HSD := Lib.hid (SD.of HA5.out hk4 HROW.out)
                          clear p1 p2 p3 p4 p5 hcu hg hER c0 c2 c3 c4
                          go_upto_region 45 with fail
                          refine vp_region (SD ab cb ad rd kk xb O N (.slice pB m cB)) [(0, true), (1, true), (2, true), (3, true), (4, true), (5, true), (7, true), (8, true), (9, true), (10, true), (11, true), (12, true), (6, false), (13, false), (14, true)] (by kernel_rfl) (by kernel_rfl) (by intro _ d _ _ _ h; cases d <;> exact h) HSD.out ?_
                          intro w6 hw6
                          simp only [pick, List.map_cons, List.map_nil, List.getD_cons_zero, List.getD_cons_succ]
                          repeat
                            refine ord_free rfl (v := ?_) ?_ ?_
                            rotate_left
                            · intro w' hw'
                              obtain ⟨c0, c1, c2, c3, c4⟩ := hw'
                              go_simp
                              first | with_reducible rfl | rw [if_pos (show (kk : Int) < 4 by omega)]
                            simp only [Act.put, List.setIfInBounds_toArray, List.set_cons_zero, List.set_cons_succ]
                          subst hw6
                          refine ord_eff ?_
                          go_wp2_with fail
                          rename_i KK hKK
                          refine HC.out.mono ?_
                          rintro e w6 ⟨rfl, q1, q2, q3⟩
                          refine hKK _ _ ?_
                          have hz5 : Keeps [sb, (ad kk).1, (ad kk).2] w5 w6 := ⟨q3.os, q3.tape, q3.output, q3.size, q3.block⟩
                          obtain ⟨r1, r2, r3, r4⟩ := HA5.out.ref HSEP2.out hk4 hz5
                          have hsd6 := HSD.out.keep hz5 (fixed_p HSEP.out HSEP2.out hk4).1 (fixed_p HSEP.out HSEP2.out hk4).2 (HAP.out.p hk4)
                          refine ord_next hsd6 ?_
                          have hcu := rcut_any rs (rd kk) (F kk) room ⟨used, (st kk).1, (st kk).2⟩ O w6 r1.2.1 (r1.2.2 kk hk4) ⟨r2, r3, r4⟩ HG.out.2.2.1 HG.out.2.2.2
                          rw [HG.out.2.1] at hcu
                          have HC2 := Lib.hid hcu
                          have HQ := Lib.hid (And.intro q1 (And.intro q2 (And.intro hz5 hsd6)))
                          clear q1 q2 q3 hz5 r1 r2 r3 r4 hsd6 hcu HC hKK KK
                          refine ord_eff ?_
                          go_wp2_with fail
                          rename_i KK hKK
                          refine HC2.out.mono ?_
                          rintro e w7 ⟨rfl, t1, F', t2, t3, t4⟩
                          refine hKK _ _ ?_
                          refine ord_next (HQ.out.2.2.2.keep t4 (fixed_q HSEP2.out HA5.out.2.2 hk4).1 (fixed_q HSEP2.out HA5.out.2.2 hk4).2 (HAP.out.q hk4)) ?_
                          obtain ⟨F2, _, hall⟩ := HA5.out.step HSEP.out HSEP2.out hk4 R HQ.out.1 HQ.out.2.1 HQ.out.2.2.1 HG.out.1.1 (Int.le_trans HG.out.1.2.1 p6) HG.out.1.2.2 t1 t2 t3 t4
                          have HF := Lib.hid hall
                          clear t1 t2 t3 t4 hall HC2 hKK KK HQ
                          have hEE : (E != E) = false := by simp
                          simp only [Act.put, List.setIfInBounds_toArray, List.set_cons_zero, List.set_cons_succ]
                          refine ord_free rfl (v := ?_) ?_ ?_
                          rotate_left
                          · intro w' hw'
                            go_simp
                            with_reducible rfl
                          simp only [Act.put, List.setIfInBounds_toArray, List.set_cons_zero, List.set_cons_succ]
                          refine ord_nil ?_
                          go_wp2
                          go_meet
                          case rel => exact ⟨_, _, _, HF.out⟩
                      · by_cases hk3 : K = 3
                        · subst hk3
                          as_aux_lemma =>
                            obtain ⟨p1, p2, p3, p4, p5, p6, p7⟩ := HA5.out.prog HSEP.out hk4
                            have c5 : w5.cell? ⟨ab, kk, none⟩ = some (.pointer (some ⟨(ad kk).1, 0, none⟩)) := HA5.out.1.cell hk4
                            have HC := Lib.hid (free_any sb (ad kk).1 (ad kk).2 room ⟨used, (st kk).1, (st kk).2⟩ w5 p1 p2 p3 p4.1.2.1 p5 (show used ≤ 65536 by omega))
                            clear p1 p2 p3
                            go_wp2_with fail
                            refine HC.out.mono ?_
                            rintro e w6 ⟨rfl, q1, q2, q3⟩
                            obtain ⟨r1, r2, r3, r4⟩ := HA5.out.ref HSEP2.out hk4 q3
                            have c6 : w6.cell? ⟨cb, kk, none⟩ = some (.pointer (some ⟨rd kk, 0, none⟩)) := r1.cell hk4
                            have HC2 := Lib.hid (rcut_any rs (rd kk) (F kk) room ⟨used, (st kk).1, (st kk).2⟩ 0 w6 r1.2.1 (r1.2.2 kk hk4) ⟨r2, r3, r4⟩ p5 (show used ≤ 65536 by omega))
                            clear r1 r2 r3 r4
                            go_wp2_with fail
                            refine HC2.out.mono ?_
                            rintro e w7 ⟨rfl, t1, F', t2, t3, t4⟩
                            have hg := cutM_gen (s := ⟨used, (st kk).1, (st kk).2⟩) p4 0
                            obtain ⟨F2, _, hall⟩ := HA5.out.step HSEP.out HSEP2.out hk4 (cutM ⟨used, (st kk).1, (st kk).2⟩ 0).2 q1 q2 q3 hg.1 (Int.le_trans hg.2.1 p6) hg.2.2 t1 t2 t3 t4
                            have HF := Lib.hid hall
                            clear q1 q2 q3 t1 t2 t3 t4 hg hall p4
                            go_wp2
                            go_meet
                            case rel => exact ⟨_, _, _, HF.out⟩
                        · go_wp2
                          go_meet
                          case rel => exact ⟨used, st, F, HA5.out⟩
                case rest =>
                  obtain ⟨used, st, F, hall⟩ := hcut
                  as_aux_lemma =>
                    have HF := Lib.hid hall
                    obtain ⟨p1, p2, p3, p4, p5, p6, p7⟩ := hall.prog HSEP.out hk4
                    have hrb := hall.2.1.2.2 kk hk4
                    have hra := hall.2.1.2.1
                    have c5 : wc.cell? ⟨ab, kk, none⟩ = some (.pointer (some ⟨(ad kk).1, 0, none⟩)) := hall.1.cell hk4
                    have c6 : wc.cell? ⟨cb, kk, none⟩ = some (.pointer (some ⟨rd kk, 0, none⟩)) := hall.2.1.cell hk4
                    have r0 : wc.cell? ⟨rs, 0, none⟩ = some (.int .i64 room) := cell_of hra rfl
                    have r1 : wc.cell? ⟨rs, 1, none⟩ = some (.int .i64 used) := cell_of hra rfl
                    obtain ⟨Z, hZ⟩ : ∃ Z, Z = (st kk).1 := ⟨_, rfl⟩
                    obtain ⟨L, hL⟩ : ∃ L, L = (st kk).2 := ⟨_, rfl⟩
                    rw [← hZ, ← hL] at p2 p4 hrb
                    have HB := Lib.hid hrb
                    obtain ⟨bs, th, ⟨Bv, Tv, hp, hB, _⟩, hrel⟩ := hrb
                    obtain ⟨pb, cc, hBv, hcc⟩ := own_value hB
                    rw [List.length_map, hrel.1, length_bytesFrom] at hBv hcc
                    obtain ⟨nb, hnb⟩ : ∃ nb, nb = Z.toNat := ⟨_, rfl⟩
                    rw [← hnb] at hBv hcc
                    have r2 : wc.cell? ⟨rd kk, 0, none⟩ = some (.slice pb nb cc) := by rw [← hBv]; exact cell_of hp rfl
                    have hZn : Z = (nb : Int) := by have := p4.2.2.2.1; omega
                    have HS := Lib.hid p1
                    have HP := Lib.hid p2
                    clear hall p1 p2 p3 p4 p5 p7 hra hp hB hrel hBv hnb hZ hL
                    subst hZn
                    obtain ⟨lc, hlc⟩ : ∃ lc, lc = L.length := ⟨_, rfl⟩
                    clear hlc
                    have g1 : (used != used) = false := by simp
                    have g2 : (room != room) = false := by simp
                    have g3 : ((nb : Int) != (nb : Int)) = false := by simp
                    have g4 : ((L.length : Int) != (L.length : Int)) = false := by simp
                    have h1 := Lib.hid (show ∀ k, Calls Try.prog 16 #[.pointer (some ⟨sb, 0, none⟩)] (wc.drewN k) fun e w'' => e = Ending.returned (.int .i64 used) ∧ ∃ n, w'' = wc.drewN n from fun k => (used_ok sb room used (wc.drewN k) HS.out).mono fun e w' h => ⟨h.1, k, h.2.symm⟩)
                    have h2 := Lib.hid (show ∀ k, Calls Try.prog 26 #[.pointer (some ⟨sb, 0, none⟩)] (wc.drewN k) fun e w'' => e = Ending.returned (.int .i64 room) ∧ ∃ n, w'' = wc.drewN n from fun k => (room_ok sb room used (wc.drewN k) HS.out).mono fun e w' h => ⟨h.1, k, h.2.symm⟩)
                    have h3 := Lib.hid (show ∀ k, Calls Try.prog 27 #[.pointer (some ⟨(ad kk).1, 0, none⟩)] (wc.drewN k) fun e w'' => e = Ending.returned (.int .i64 nb) ∧ ∃ n, w'' = wc.drewN n from fun k => (size_ok (ad kk).1 (ad kk).2 nb L (wc.drewN k) HP.out).mono fun e w' h => ⟨h.1, k, h.2.symm⟩)
                    have h4 := Lib.hid (show ∀ k, Calls Try.prog 15 #[.pointer (some ⟨(ad kk).1, 0, none⟩)] (wc.drewN k) fun e w'' => e = Ending.returned (.int .i64 L.length) ∧ ∃ n, w'' = wc.drewN n from fun k => (chunks_any (ad kk).1 (ad kk).2 nb L (wc.drewN k) HP.out).mono fun e w' h => ⟨h.1, k, h.2.symm⟩)
                    have h5 := Lib.hid (show ∀ k, Calls Try.prog 28 #[.pointer (some ⟨(rd kk), 0, none⟩)] (wc.drewN k) fun e w'' => e = Ending.returned (.int .i64 L.length) ∧ ∃ n, w'' = wc.drewN n from fun k => (rchunks_any (rd kk) (F kk) nb L (wc.drewN k) HB.out).mono fun e w' h => ⟨h.1, k, h.2.symm⟩)
                    go_wp2_with fail
                    go_quiet (first | exact h1.out _ | exact h2.out _ | exact h3.out _ | exact h4.out _ | exact h5.out _)
                    go_wp2
                    go_roundg (gk - 1)
                    case measure => omega
                    case rel => exact ⟨i + 1, used, st, F, by push_cast; rfl, by omega, by omega, HF.out.keep ((Keeps.refl [] wc).drewN nq)⟩
            · by_cases h1 : i < n
              · have h2 : ¬ i < 60 := fun h => hlt ⟨h1, h⟩
                go_wp2
                go_meet
                case rel => exact ⟨used, st, F, HA.out⟩
              · go_wp2
                go_meet
                case rel => exact ⟨used, st, F, HA.out⟩
        case rest =>
          as_aux_lemma =>
            obtain ⟨used, st, F, hall⟩ := hcut
            have HF := Lib.hid hall
            clear hall HALL
            go_upto_region 52 with fail
            go_wp2_with fail
            go_loopg [255] 4 (fun m v wx => LF ab sb ad cb rs rd F room used st W m v wx)
            case atStart => exact ⟨0, rfl, by omega, by omega, HF.out⟩
            case round =>
              obtain ⟨k, rfl, hk4, hkm, hall⟩ := hrel
              have HA := Lib.hid hall
              clear hall
              by_cases hk : k < 4
              · obtain ⟨p1, p2, p3, p4, p5, p6, p7⟩ := HA.out.prog HSEP.out hk
                have hre := read_any (.pointer (some ⟨sb, 0, none⟩)) (ad k).1 (ad k).2 ⟨used, (st k).1, (st k).2⟩ 0 65536 wr p2
                obtain ⟨R, E, hR⟩ : ∃ R E, readM ⟨used, (st k).1, (st k).2⟩ 0 65536 = (R, E) := ⟨_, _, rfl⟩
                have hRb : R = bytesFrom (st k).2 0 (st k).1.toNat := by
                  have := readAll (u := used) p4
                  rw [hR] at this
                  exact this
                rw [hR] at hre
                have HC := Lib.hid hre
                have HR2 := Lib.hid hRb
                have c5 : wr.cell? ⟨ab, k, none⟩ = some (.pointer (some ⟨(ad k).1, 0, none⟩)) := HA.out.1.cell hk
                clear hre p1 p2 p3 p4 p5 p6 p7 hR hRb
                go_wp2_with fail
                refine HC.out.mono ?_
                rintro e w2 ⟨v, rfl, q1, q2⟩
                obtain ⟨po, co, hv, hco⟩ := own_value q1
                rw [List.length_map] at hv hco
                obtain ⟨mo, hmo⟩ : ∃ mo, mo = R.length := ⟨_, rfl⟩
                rw [← hmo] at hv hco
                subst hv
                have hA2 := HA.out.keep q2
                have hrd1 := q1.reads
                obtain ⟨bs, th, ⟨Bv, Tv, hp, hB, _⟩, hrel⟩ := hA2.2.1.2.2 k hk
                have hrd2 := hB.reads
                obtain ⟨pb, cc, hBv, hcc⟩ := own_value hB
                rw [List.length_map, hrel.1, length_bytesFrom] at hBv hcc
                rw [hrel.1, ← HR2.out, hBv] at hrd2
                obtain ⟨nb, hnb⟩ : ∃ nb, nb = (st k).1.toNat := ⟨_, rfl⟩
                rw [← hnb] at hBv hcc hrd2
                have hsf : SF ab cb (ad k).1 (rd k) k (.slice po mo co) (.slice pb nb cc) R w2 := ⟨hA2.1.cell hk, hA2.2.1.cell hk, by rw [← hBv]; exact cell_of hp rfl, hrd1, hrd2⟩
                have HSF := Lib.hid hsf
                have HA2 := Lib.hid hA2
                clear q1 q2 hA2 hrd1 hp hB hrel hrd2 hBv hcc hnb hsf HC hmo hco c5
                go_upto_region 56 with fail
                refine vp_region (SF ab cb (ad k).1 (rd k) k (.slice po mo co) (.slice pb nb cc) R) [(0, true), (1, true), (2, true), (3, true), (4, true), (5, true), (6, true), (7, true), (8, true), (9, true), (10, true), (11, true), (12, true), (13, true), (15, true), (16, true), (17, true), (14, false), (18, false), (19, false), (20, true), (21, true)] (by kernel_rfl) (by kernel_rfl) (by intro _ d _ _ _ h; cases d <;> exact h) HSF.out ?_
                intro w6 hw6
                simp only [pick, List.map_cons, List.map_nil, List.getD_cons_zero, List.getD_cons_succ]
                repeat
                  refine ord_free rfl (v := ?_) ?_ ?_
                  rotate_left
                  · intro w' hw'
                    obtain ⟨c0, c1, c2, c3, c4⟩ := hw'
                    have v1 := run_bytes_string (P := Try.prog) 22 9 5 Try.underlying22 Try.underlying5 Try.underlying9 c3
                    have v2 := run_bytes_string (P := Try.prog) 22 9 5 Try.underlying22 Try.underlying5 Try.underlying9 c4
                    go_simp
                    first | with_reducible rfl | rw [if_pos (show (k : Int) < 4 by omega)]
                  simp only [Act.put, List.setIfInBounds_toArray, List.set_cons_zero, List.set_cons_succ]
                repeat
                  refine ord_free_g (by first | rfl | decide) (v := ?_) ?_ ?_
                  rotate_left
                  · intro w' hw'
                    obtain ⟨c0, c1, c2, c3, c4⟩ := hw'
                    go_simp
                    first | with_reducible rfl | rw [if_pos (show (k : Int) < 4 by omega)]
                  simp only [Act.put, List.setIfInBounds_toArray, List.set_cons_zero, List.set_cons_succ]
                subst hw6
                refine ord_eff ?_
                go_wp2_with fail
                rename_i KK hKK
                refine (holes_any (ad k).1 (ad k).2 (st k).1 (st k).2 w2.drew (show BAt w2.drew _ _ _ _ from (HA2.out.1.2.2.1 k hk).1)).mono ?_
                rintro e w3 ⟨v3, rfl, o3, k3⟩
                refine hKK _ _ ?_
                have k23 : Keeps [] w2 w3 := ⟨k3.os, k3.tape, k3.output, k3.size, k3.block⟩
                have hsf3 := SF.keep HSF.out k23
                refine ord_next hsf3 ?_
                obtain ⟨nn, hnn⟩ : ∃ nn, nn = (((st k).1 + 15) / 16).toNat := ⟨_, rfl⟩
                rw [← hnn] at o3
                have hnn6 : nn ≤ 4096 := by
                  have h1 := ((HA2.out.1.2.2.1 k hk).2).2.2.2.1
                  have h2 := ((HA2.out.1.2.2.1 k hk).2).2.2.2.2
                  omega
                have hrh := rholes_any (rd k) (F k) (st k).1 (st k).2 w3 ((HA2.out.keep k23).2.1.2.2 k hk)
                rw [← hnn] at hrh
                have HRH := Lib.hid hrh
                have H3 := Lib.hid (And.intro o3 (And.intro k23 hsf3))
                clear o3 k3 k23 hsf3 hKK KK hnn hrh
                refine ord_eff ?_
                go_wp2_with fail
                rename_i KK hKK
                refine HRH.out.mono ?_
                rintro e w4 ⟨v4, rfl, o4, k4⟩
                refine hKK _ _ ?_
                have hsf4 := SF.keep H3.out.2.2 k4
                refine ord_next hsf4 ?_
                have hin := ints_ok v3 v4 _ _ w4 (H3.out.1.keep k4 (by simp)).reads o4.reads (by have := length_holesTo (st k).2 nn; omega) (by have := length_holesTo (st k).2 nn; omega)
                have HIN := Lib.hid hin
                have H4 := Lib.hid (And.intro (H3.out.2.1.trans k4) hsf4)
                clear o4 k4 hsf4 hKK KK hin HRH H3
                refine ord_eff ?_
                go_wp2_with fail
                rename_i KK hKK
                refine HIN.out.mono ?_
                rintro e w5 ⟨he, nq, rfl⟩
                rw [decide_eq_true rfl] at he
                subst he
                refine hKK _ _ ?_
                refine ord_next (SF.keep H4.out.2 ((Keeps.refl [] w4).drewN nq)) ?_
                clear hKK KK HIN
                try simp only [Act.put, List.setIfInBounds_toArray, List.set_cons_zero, List.set_cons_succ]
                refine ord_free_g (by first | rfl | decide) (v := ?_) ?_ ?_
                rotate_left
                · intro w' hw'
                  go_simp
                  with_reducible rfl
                simp only [Act.put, List.setIfInBounds_toArray, List.set_cons_zero, List.set_cons_succ]
                refine ord_free rfl (v := ?_) ?_ ?_
                rotate_left
                · intro w' hw'
                  go_simp
                  with_reducible rfl
                simp only [Act.put, List.setIfInBounds_toArray, List.set_cons_zero, List.set_cons_succ]
                refine ord_nil ?_
                go_wp2
                go_roundg (gk - 1)
                case measure => omega
                case rel => exact ⟨k + 1, by push_cast; rfl, by omega, by omega, HA2.out.keep (H4.out.1.drewN nq)⟩
              · go_wp2
                go_ret
                exact ⟨rfl, HA.out.1.2.2.2.2.2⟩
end Go.Proofs.Ythkeahjcokbaaaa
