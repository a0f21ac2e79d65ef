/-
  Package veneerref03 (the document's answer for block): a body in memory; New, there, lay.
-/
import Derived.Test.YthkeahjcokbaaaaV6
import Derived.Test.YthkeahjcokbaaaaB21
namespace Go.Proofs.Ythkeahjcokbaaaa
open Go.RowKit Go.V Go.V.Block
theorem info4 : (Try.prog.info? 4).map (fun i => (i.zero, i.size, i.bytes)) = some (some (.bool false), 1, 1) := by kernel_rfl
def bl (x : Bool) : Value := .bool x
def FBlk (v : Value) (F : List Nat) : Prop := ∀ g, v.ownBlock = some g → g ∈ F
/-- a body: its bytes, and which chunks are there; its rows' blocks -/
def RParts (w : World) (rb : Nat) (F : List Nat) (Bv Tv : Value) (bs : List UInt8) (th : List Bool) : Prop :=
  w.heap[rb]? = some (.cells #[Bv, Tv] 47 (0, 0)) ∧ Own w 0 5 Bv (bs.map bv) ∧ Own w 0 4 Tv (th.map bl) ∧ FBlk Bv F ∧ FBlk Tv F
def RBody (w : World) (rb : Nat) (F : List Nat) (bs : List UInt8) (th : List Bool) : Prop := ∃ Bv Tv, RParts w rb F Bv Tv bs th
theorem RParts.keep {w w' : World} {rb : Nat} {F S : List Nat} {Bv Tv : Value} {bs : List UInt8} {th : List Bool} (h : RParts w rb F Bv Tv bs th) (hk : Keeps S w w') (h1 : rb ∉ S) (h2 : ∀ x ∈ S, x ∉ F) : RParts w' rb F Bv Tv bs th :=
  ⟨hk.get h.1 h1, h.2.1.keep hk (fun x hx hq => h2 x hx (h.2.2.2.1 x hq)), h.2.2.1.keep hk (fun x hx hq => h2 x hx (h.2.2.2.2 x hq)), h.2.2.2⟩
theorem RBody.keep {w w' : World} {rb : Nat} {F S : List Nat} {bs : List UInt8} {th : List Bool} (h : RBody w rb F bs th) (hk : Keeps S w w') (h1 : rb ∉ S) (h2 : ∀ x ∈ S, x ∉ F) : RBody w' rb F bs th := by
  obtain ⟨Bv, Tv, h⟩ := h
  exact ⟨Bv, Tv, h.keep hk h1 h2⟩
def Grew (w : World) (F F' : List Nat) : Prop := ∀ x ∈ F', x ∈ F ∨ w.heap.size ≤ x
theorem Grew.refl (w : World) (F : List Nat) : Grew w F F := fun _ h => Or.inl h
theorem Grew.trans {w w' : World} {F F' F'' : List Nat} (h : Grew w F F') (h' : Grew w' F' F'') (hz : w.heap.size ≤ w'.heap.size) : Grew w F F'' := fun x hx =>
  (h' x hx).elim (fun q => h x q) (fun q => Or.inr (by omega))
theorem keeps_foot {w w1 w2 : World} {F F' S : List Nat} (h : Keeps (S ++ F) w w1) (h2 : Keeps (S ++ F') w1 w2) (hg : Grew w F F') : Keeps (S ++ F) w w2 :=
  h.trans' h2 (fun x hx => by
    rw [List.mem_append] at hx ⊢
    rcases hx with hx | hx
    · exact Or.inl (Or.inl hx)
    · exact (hg x hx).elim (fun q => Or.inl (Or.inr q)) Or.inr)
/-- what one appends to There -/
theorem RParts.growT {w w2 : World} {rb : Nat} {F : List Nat} {Bv Tv v' : Value} {bs : List UInt8} {th th' : List Bool} {x : Obj} (h : RParts w rb F Bv Tv bs th) (ho : Own w2 0 4 v' (th'.map bl))
    (hb : ∀ g, v'.ownBlock = some g → Tv.ownBlock = some g ∨ (w.alloc x).heap.size ≤ g) (hg : (w.alloc x).grownBy w2 Tv.ownBlock) :
    w2.heap[rb]? = some (.cells #[Bv, Tv] 47 (0, 0)) ∧ RParts (w2.setCell ⟨rb, 1, none⟩ v') rb (F ++ v'.ownBlock.toList) Bv v' bs th' ∧ Grew w F (F ++ v'.ownBlock.toList) ∧ Keeps ([rb] ++ F) w (w2.setCell ⟨rb, 1, none⟩ v') := by
  obtain ⟨h1, h2, h3, h4, h5⟩ := h
  have hk0 : Keeps [] w (w.alloc x) := (Keeps.refl _ _).alloc _
  have hk1 : Keeps Tv.ownBlock.toList (w.alloc x) w2 := keeps_grown hg (fun k hk => by rw [hk]; simp)
  have hTr := own_ne_row h3 h1 (by decide)
  have hTB : ∀ g, Tv.ownBlock = some g → Bv.ownBlock ≠ some g := fun g hg => own_ne h3 h2 (by decide) hg
  have e1 : w2.heap[rb]? = some (.cells #[Bv, Tv] 47 (0, 0)) := hk1.get (hk0.get h1 (by simp)) (by intro hq; rw [Option.mem_toList] at hq; exact hTr hq)
  have e2 : Own w2 0 5 Bv (bs.map bv) := (h2.keep hk0 (by simp)).keep hk1 (fun g hg => by rw [Option.mem_toList] at hg; exact hTB g hg)
  have hks : Keeps [rb] w2 (w2.setCell ⟨rb, 1, none⟩ v') := (Keeps.refl _ _).setCell (Or.inl (by simp)) _
  have hsz : w.heap.size ≤ (w.alloc x).heap.size := hk0.size
  refine ⟨e1, ⟨?_, e2.keep hks (fun y hy => ?_), ho.keep hks (fun y hy => ?_), fun g hg => ?_, fun g hg => ?_⟩, fun y hy => ?_, ?_⟩
  · exact heap_setCell e1
  · obtain rfl := List.mem_singleton.1 hy; exact own_ne_row e2 e1 (by decide)
  · obtain rfl := List.mem_singleton.1 hy; exact own_ne_row ho e1 (by decide)
  · exact List.mem_append.2 (Or.inl (h4 g hg))
  · exact List.mem_append.2 (Or.inr (by rw [hg]; simp))
  · rcases List.mem_append.1 hy with hy | hy
    · exact Or.inl hy
    · rw [Option.mem_toList] at hy
      exact (hb y hy).elim (fun q => Or.inl (h5 y q)) (fun q => Or.inr (by omega))
  · refine ((hk0.mono (fun _ h => by simp at h)).trans (hk1.mono (fun y hy => ?_))).trans (hks.mono (fun y hy => ?_))
    · rw [Option.mem_toList] at hy; exact List.mem_append.2 (Or.inr (h5 y hy))
    · exact List.mem_append.2 (Or.inl hy)
/-- what one appends to B -/
theorem RParts.growB {w w2 : World} {rb : Nat} {F : List Nat} {Bv Tv v' : Value} {bs bs' : List UInt8} {th : List Bool} {x : Obj} (h : RParts w rb F Bv Tv bs th) (ho : Own w2 0 5 v' (bs'.map bv))
    (hb : ∀ g, v'.ownBlock = some g → Bv.ownBlock = some g ∨ (w.alloc x).heap.size ≤ g) (hg : (w.alloc x).grownBy w2 Bv.ownBlock) :
    w2.heap[rb]? = some (.cells #[Bv, Tv] 47 (0, 0)) ∧ RParts (w2.setCell ⟨rb, 0, none⟩ v') rb (F ++ v'.ownBlock.toList) v' Tv bs' th ∧ Grew w F (F ++ v'.ownBlock.toList) ∧ Keeps ([rb] ++ F) w (w2.setCell ⟨rb, 0, none⟩ v') := by
  obtain ⟨h1, h2, h3, h4, h5⟩ := h
  have hk0 : Keeps [] w (w.alloc x) := (Keeps.refl _ _).alloc _
  have hk1 : Keeps Bv.ownBlock.toList (w.alloc x) w2 := keeps_grown hg (fun k hk => by rw [hk]; simp)
  have hBr := own_ne_row h2 h1 (by decide)
  have hBT : ∀ g, Bv.ownBlock = some g → Tv.ownBlock ≠ some g := fun g hg => own_ne h2 h3 (by decide) hg
  have e1 : w2.heap[rb]? = some (.cells #[Bv, Tv] 47 (0, 0)) := hk1.get (hk0.get h1 (by simp)) (by intro hq; rw [Option.mem_toList] at hq; exact hBr hq)
  have e2 : Own w2 0 4 Tv (th.map bl) := (h3.keep hk0 (by simp)).keep hk1 (fun g hg => by rw [Option.mem_toList] at hg; exact hBT g hg)
  have hks : Keeps [rb] w2 (w2.setCell ⟨rb, 0, none⟩ v') := (Keeps.refl _ _).setCell (Or.inl (by simp)) _
  have hsz : w.heap.size ≤ (w.alloc x).heap.size := hk0.size
  refine ⟨e1, ⟨?_, ho.keep hks (fun y hy => ?_), e2.keep hks (fun y hy => ?_), fun g hg => ?_, fun g hg => ?_⟩, fun y hy => ?_, ?_⟩
  · exact heap_setCell e1
  · obtain rfl := List.mem_singleton.1 hy; exact own_ne_row ho e1 (by decide)
  · obtain rfl := List.mem_singleton.1 hy; exact own_ne_row e2 e1 (by decide)
  · exact List.mem_append.2 (Or.inr (by rw [hg]; simp))
  · exact List.mem_append.2 (Or.inl (h5 g hg))
  · rcases List.mem_append.1 hy with hy | hy
    · exact Or.inl hy
    · rw [Option.mem_toList] at hy
      exact (hb y hy).elim (fun q => Or.inl (h4 y q)) (fun q => Or.inr (by omega))
  · refine ((hk0.mono (fun _ h => by simp at h)).trans (hk1.mono (fun y hy => ?_))).trans (hks.mono (fun y hy => ?_))
    · rw [Option.mem_toList] at hy; exact List.mem_append.2 (Or.inr (h4 y hy))
    · exact List.mem_append.2 (Or.inl hy)
/-- an element of There is set -/
theorem RParts.setT {w : World} {rb : Nat} {F : List Nat} {Bv Tv : Value} {bs : List UInt8} {th : List Bool} (h : RParts w rb F Bv Tv bs th) {k : Nat} (hk : k < th.length) (x : Bool) :
    ∃ g c, Tv = .slice (some ⟨g, 0, none⟩) th.length c ∧ RParts (w.setCell ⟨g, k, none⟩ (.bool x)) rb F Bv Tv bs (th.set k x) ∧ w.frozen? ⟨g, k, none⟩ = false ∧ (∃ y, w.cell? ⟨g, k, none⟩ = some y) ∧ Keeps ([rb] ++ F) w (w.setCell ⟨g, k, none⟩ (.bool x)) := by
  obtain ⟨h1, h2, h3, h4, h5⟩ := h
  obtain ⟨g, c, hv, q1, q2, q3, q4⟩ := h3.set (i := k) (by rw [List.length_map]; exact hk) (.bool x)
  rw [List.length_map] at hv
  have hg : Tv.ownBlock = some g := by rw [hv]; rfl
  refine ⟨g, c, hv, ⟨q4.get h1 (fun hq => ?_), h2.keep q4 (fun y hy => ?_), by rw [List.map_set]; exact q1, h4, h5⟩, q2, q3, q4.mono (fun y hy => ?_)⟩
  · obtain rfl := List.mem_singleton.1 hq; exact own_ne_row h3 h1 (by decide) hg
  · obtain rfl := List.mem_singleton.1 hy; exact own_ne h3 h2 (by decide) hg
  · obtain rfl := List.mem_singleton.1 hy; exact List.mem_append.2 (Or.inr (h5 _ hg))
/-- a byte is set -/
theorem RParts.setB {w : World} {rb : Nat} {F : List Nat} {Bv Tv : Value} {bs : List UInt8} {th : List Bool} (h : RParts w rb F Bv Tv bs th) {k : Nat} (hk : k < bs.length) (x : UInt8) :
    ∃ g c, Bv = .slice (some ⟨g, 0, none⟩) bs.length c ∧ RParts (w.setCell ⟨g, k, none⟩ (bv x)) rb F Bv Tv (bs.set k x) th ∧ w.frozen? ⟨g, k, none⟩ = false ∧ (∃ y, w.cell? ⟨g, k, none⟩ = some y) ∧ Keeps ([rb] ++ F) w (w.setCell ⟨g, k, none⟩ (bv x)) := by
  obtain ⟨h1, h2, h3, h4, h5⟩ := h
  obtain ⟨g, c, hv, q1, q2, q3, q4⟩ := h2.set (i := k) (by rw [List.length_map]; exact hk) (bv x)
  rw [List.length_map] at hv
  have hg : Bv.ownBlock = some g := by rw [hv]; rfl
  refine ⟨g, c, hv, ⟨q4.get h1 (fun hq => ?_), by rw [List.map_set]; exact q1, h3.keep q4 (fun y hy => ?_), h4, h5⟩, q2, q3, q4.mono (fun y hy => ?_)⟩
  · obtain rfl := List.mem_singleton.1 hq; exact own_ne_row h2 h1 (by decide) hg
  · obtain rfl := List.mem_singleton.1 hy; exact own_ne h2 h3 (by decide) hg
  · obtain rfl := List.mem_singleton.1 hy; exact List.mem_append.2 (Or.inr (h4 _ hg))

def RAt (w : World) (rs : Nat) (room used : Int) : Prop := w.heap[rs]? = some (.cells #[.int .i64 room, .int .i64 used] 57 (0, 0))
def RNew (room : Int) (w : World) (e : Ending) (w' : World) : Prop :=
  ∃ rs, w.heap.size ≤ rs ∧ e = .returned (.pointer (some ⟨rs, 0, none⟩)) ∧ RAt w' rs room 0 ∧ Keeps [] w w'
theorem rnew_any (room : Int) (w : World) (h0 : 0 ≤ room) (h1 : room ≤ 65536) : Calls Try.prog 19 #[.int .i64 room] w (RNew room w) := by
  go_enter Try.func19, Try.ntmps19
  go_wp2
  go_ret
  exact ⟨w.heap.size, Nat.le_refl _, rfl, heap_alloc w _, (Keeps.refl _ _).alloc _⟩
theorem rnew_bad (room : Int) (w : World) (h : room < 0 ∨ 65536 < room) : Calls Try.prog 19 #[.int .i64 room] w fun e w' => e = .returned (.pointer none) ∧ w = w' := by
  by_cases h0 : room < 0
  · go_enter Try.func19, Try.ntmps19
    go_wp2
    go_ret
    exact ⟨rfl, rfl⟩
  · have h1 : 65536 < room := by omega
    go_enter Try.func19, Try.ntmps19
    go_wp2
    go_ret
    exact ⟨rfl, rfl⟩

theorem there_ok (rb : Nat) (F : List Nat) (bs : List UInt8) (th : List Bool) (k : Nat) (w : World) (h : RBody w rb F bs th) :
    Calls Try.prog 31 #[.pointer (some ⟨rb, 0, none⟩), .int .i64 k] w fun e w' => e = .returned (.bool (th.getD k false)) ∧ w = w' := by
  obtain ⟨Bv, Tv, h1, h2, h3, _⟩ := h
  obtain ⟨p, c, rfl, hc, hr⟩ := h3.reads
  rw [List.length_map] at *
  obtain ⟨n, hn⟩ : ∃ n, n = th.length := ⟨_, rfl⟩
  have HN := Lib.hid hn
  have c1 : w.cell? ⟨rb, 1, none⟩ = some (.slice p n c) := by rw [hn]; exact cell_of h1 rfl
  rw [← hn] at hc hr
  have HR := Lib.hid hr
  clear h1 h2 h3 hr hn
  by_cases hk : k < n
  · obtain ⟨b, o, rfl, hr⟩ := HR.out (by omega)
    obtain ⟨x, hx⟩ : ∃ x, x = th.getD k false := ⟨_, rfl⟩
    have c2 : w.cell? ⟨b, o + k, none⟩ = some (.bool x) := by
      refine hr k _ ?_
      rw [hx, List.getElem?_map, List.getD_eq_getElem?_getD, List.getElem?_eq_getElem (by rw [← HN.out]; exact hk)]; rfl
    have HX := Lib.hid hx
    clear hr hx
    go_enter Try.func31, Try.ntmps31
    go_wp2
    go_ret
    exact ⟨by rw [HX.out]; rfl, rfl⟩
  · go_enter Try.func31, Try.ntmps31
    go_wp2
    go_ret
    refine ⟨?_, rfl⟩
    rw [List.getD_eq_getElem?_getD, List.getElem?_eq_none (by rw [← HN.out]; omega)]
    rfl
def LayI (rb : Nat) (F : List Nat) (bs : List UInt8) (th : List Bool) (k : Nat) (w : World) (m : Nat) (wx : World) : Prop :=
  ∃ i F', k + 1 - (th.length + i) ≤ m ∧ th.length + i ≤ 4096 ∧ Grew w F F' ∧ RBody wx rb F' bs (th ++ List.replicate i false) ∧ Keeps ([rb] ++ F) w wx
def LayPost (rb : Nat) (F : List Nat) (bs : List UInt8) (th : List Bool) (k : Nat) (w : World) (e : Ending) (w' : World) : Prop :=
  e = .returned (.tuple #[]) ∧ ∃ F' th', Grew w F F' ∧ RBody w' rb F' bs th' ∧ th'.length ≤ 4096 ∧ (∀ j, th'.getD j false = if j = k then true else th.getD j false) ∧ Keeps ([rb] ++ F) w w'
theorem lay_ok (rb : Nat) (F : List Nat) (bs : List UInt8) (th : List Bool) (k : Nat) (w : World) (h : RBody w rb F bs th) (hk : k < 4096) (hl : th.length ≤ 4096) :
    Calls Try.prog 32 #[.pointer (some ⟨rb, 0, none⟩), .int .i64 k] w (LayPost rb F bs th k w) := by
  have H := Lib.hid h
  have HL := Lib.hid hl
  obtain ⟨K, hK⟩ : ∃ K : Int, K = (k : Int) := ⟨_, rfl⟩
  have hK0 : 0 ≤ K := by omega
  have hK1 : K ≤ 4095 := by omega
  have HK := Lib.hid hK
  have HKL := Lib.hid hk
  rw [← hK]
  clear h hl hK hk
  go_enter Try.func32, Try.ntmps32
  go_wp2_with fail
  go_loopg [] (k + 1) (fun m wx => LayI rb F bs th k w m wx)
  case atStart => exact ⟨0, F, by omega, HL.out, Grew.refl _ _, by simpa using H.out, Keeps.refl _ _⟩
  case round =>
    obtain ⟨i, F', him, hi, hgr, ⟨Bv, Tv, hp⟩, hkp⟩ := hrel
    obtain ⟨ts, hts⟩ : ∃ ts, ts = th ++ List.replicate i false := ⟨_, rfl⟩
    rw [← hts] at hp
    have htl : ts.length = th.length + i := by rw [hts]; simp
    have HP := Lib.hid hp
    have HG := Lib.hid hgr
    have HKP := Lib.hid hkp
    have HTS := Lib.hid hts
    have HI := Lib.hid (And.intro him (And.intro hi htl))
    obtain ⟨p, c, hTv, hc⟩ := own_value hp.2.2.1
    rw [List.length_map] at hTv hc
    obtain ⟨n, hn⟩ : ∃ n, n = ts.length := ⟨_, rfl⟩
    rw [← hn] at hTv hc
    have hn4 : n ≤ 4096 := by omega
    have c1 : wr.cell? ⟨rb, 1, none⟩ = some (.slice p n c) := by rw [← hTv]; exact cell_of hp.1 rfl
    have HTV := Lib.hid hTv
    have HN := Lib.hid hn
    clear hp hgr hkp hts him hi htl hTv hn
    have hlen : (ts.map bl ++ [Value.bool false]).length = n + 1 := by rw [List.length_append, List.length_map, ← HN.out]; rfl
    by_cases hnk : (n : Int) ≤ K
    · go_wp2_with (at_builtin; refine vp_append_at rfl (.tmp 15) (.tmp 16) 45 rfl 4 (.bool false) 1 Try.underlying45 info4 rfl (.slice p n c) (ts.map bl) rfl (by rw [← HTV.out]; exact HP.out.2.2.1.keep ((Keeps.refl [] _).alloc _) (by simp)) ⟨wr.heap.size, 0, none⟩ 1 1 [.bool false] rfl rfl (cell_one_new _ _ _) (by simp [Value.oneCell']) ?c1 ?c2 ?_; rotate_right; intro v' w2 hown2 hbl hg; rw [← HTV.out] at hbl hg; obtain ⟨q1, q2, q3, q4⟩ := HP.out.growT (th' := ts ++ [false]) (by rw [List.map_append]; exact hown2) hbl hg; obtain ⟨p', c', hv', _⟩ := own_value hown2; rw [hlen] at hv'; subst hv'; have f1 := frozen_of 1 q1; have f2 : w2.cell? ⟨rb, 1, none⟩ = some Tv := cell_of q1 rfl; have Q := Lib.hid (And.intro q2 (And.intro q3 q4)); clear q1 q2 q3 q4 hown2 hbl hg)
      case c1 => rw [List.length_map, ← HN.out]; omega
      case c2 => rw [List.length_map, ← HN.out]; omega
      go_roundg (gk - 1)
      case measure => have := HI.out; have := HN.out; have := HK.out; omega
      case rel =>
        have h1 := HI.out
        have h2 := HN.out
        have h3 := HK.out
        refine ⟨i + 1, _, by omega, by omega, HG.out.trans Q.out.2.1 HKP.out.size, ?_, keeps_foot HKP.out Q.out.2.2 HG.out⟩
        have := Q.out.1
        rw [HTS.out, List.append_assoc, ← List.replicate_succ'] at this
        exact ⟨_, _, this⟩
    · have hkn : k < ts.length := by have := HK.out; have := HN.out; omega
      have hkt : K.toNat = k := by rw [HK.out]; simp
      have HKN := Lib.hid hkn
      obtain ⟨g, c2, hv, q1, q2, ⟨y, q3⟩, q4⟩ := HP.out.setT (k := K.toNat) (by rw [hkt]; exact hkn) true
      have HKT := Lib.hid hkt
      have hv2 := HTV.out.symm.trans hv
      simp only [Value.slice.injEq] at hv2
      obtain ⟨rfl, _, _⟩ := hv2
      have Q := Lib.hid (And.intro q1 q4)
      clear hkt
      clear q1 q4 hv hkn hlen
      go_wp2
      go_end0
      refine ⟨rfl, F', _, HG.out, ⟨Bv, Tv, Q.out.1⟩, ?_, fun j => ?_, keeps_foot HKP.out Q.out.2 HG.out⟩
      · rw [List.length_set]; have := HI.out; omega
      · have := HI.out
        have h4 := HKN.out
        rw [HKT.out]
        simp only [List.getD_eq_getElem?_getD, List.getElem?_set]
        by_cases e : k = j
        · subst e
          rw [if_pos rfl, if_pos rfl, if_pos h4]
          rfl
        · rw [if_neg e, if_neg (fun h => e h.symm), HTS.out]
          by_cases hj : j < th.length
          · rw [List.getElem?_append_left hj]
          · rw [List.getElem?_append_right (by omega), List.getElem?_replicate, List.getElem?_eq_none (by omega : th.length ≤ j)]
            split <;> rfl
end Go.Proofs.Ythkeahjcokbaaaa
