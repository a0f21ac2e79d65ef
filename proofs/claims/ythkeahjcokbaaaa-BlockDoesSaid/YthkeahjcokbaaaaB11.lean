import Derived.Test.YthkeahjcokbaaaaB9
import Derived.Test.YthkeahjcokbaaaaB7
import Derived.Test.YthkeahjcokbaaaaV4
namespace Go.V.Block
open Go Go.V
/-- an act -/
structure ActV where
  kind : Int
  who : Int
  off : Int
  n : Int
  b : Value
  dat : List UInt8
instance : Inhabited ActV := ⟨⟨0, 0, 0, 0, .slice none 0 0, []⟩⟩
def ActV.cells (x : ActV) : List Value := [.int .i64 x.kind, .int .i64 x.who, .int .i64 x.off, .int .i64 x.n, x.b]
def I64 (x : Int) : Prop := -9223372036854775808 ≤ x ∧ x ≤ 9223372036854775807
def ActOk (w : World) (cs : List Value) (x : ActV) : Prop :=
  cs = x.cells ∧ I64 x.kind ∧ I64 x.who ∧ I64 x.off ∧ I64 x.n ∧ Reads w x.b (x.dat.map bv) ∧ Fits x.b ∧ (0 < x.dat.length → ∀ g, x.b.ownBlock = some g → g < w.heap.size)
def playM (room : Int) (s : BS) (x : ActV) : BS :=
  if x.kind = 0 then (writeM room s x.off x.dat).2.2 else if x.kind = 1 then s else if x.kind = 2 then (cutM s x.off).2 else if x.kind = 3 then (cutM s 0).2 else s
end Go.V.Block
namespace Go.Proofs.Ythkeahjcokbaaaa
open Go.RowKit Go.V Go.V.Block

def CAny (sb bb mb : Nat) (room : Int) (r : Int × BS) (w : World) (e : Ending) (w' : World) : Prop :=
  e = .returned (.int .i64 r.1) ∧ SAt w' sb room r.2.used ∧ BAt w' bb mb r.2.sz r.2.l ∧ Keeps [sb, bb, mb] w w'
theorem cut_any (sb bb mb : Nat) (room : Int) (s : BS) (size : Int) (w : World) (hs : SAt w sb room s.used) (hb : BAt w bb mb s.sz s.l) (hne : sb ≠ bb) (hk : ∀ k ∈ keys s.l, k < 4096) (hu0 : (s.l.length : Int) ≤ s.used) (hu1 : s.used ≤ 65536) :
    Calls Try.prog 23 #[.pointer (some ⟨sb, 0, none⟩), .pointer (some ⟨bb, 0, none⟩), .int .i64 size] w (CAny sb bb mb room (cutM s size) w) := by
  unfold cutM
  by_cases h0 : size < 0
  · rw [if_pos h0]
    exact (cut_bad _ _ size w h0).mono fun e w' ⟨he, hw⟩ => ⟨he, hw ▸ hs, hw ▸ hb, hw ▸ Keeps.refl _ _⟩
  · rw [if_neg h0]
    by_cases h1 : 65536 < size
    · rw [if_pos h1]
      exact (cut_far _ _ size w h1).mono fun e w' ⟨he, hw⟩ => ⟨he, hw ▸ hs, hw ▸ hb, hw ▸ Keeps.refl _ _⟩
    · rw [if_neg h1]
      refine (cut_main sb bb mb room s.used s.sz size size.toNat s.l w hs hb.1 hb.2.1 hb.2.2.1 hne (by omega) (by omega) (by omega) hk hu0 hu1).mono ?_
      rintro e w' ⟨he, h2, h3, h4, h5, h6⟩
      exact ⟨he, h3, ⟨h4, h2, h5, by dsimp only; omega, by dsimp only; omega⟩, h6⟩

def FAny (sb bb mb : Nat) (room : Int) (s : BS) (w : World) (e : Ending) (w' : World) : Prop :=
  e = .returned (.tuple #[]) ∧ SAt w' sb room s.used ∧ BAt w' bb mb s.sz s.l ∧ Keeps [sb, bb, mb] w w'
theorem free_any (sb bb mb : Nat) (room : Int) (s : BS) (w : World) (hs : SAt w sb room s.used) (hb : BAt w bb mb s.sz s.l) (hne : sb ≠ bb) (hk : ∀ k ∈ keys s.l, k < 4096) (hu0 : (s.l.length : Int) ≤ s.used) (hu1 : s.used ≤ 65536) :
    Calls Try.prog 25 #[.pointer (some ⟨sb, 0, none⟩), .pointer (some ⟨bb, 0, none⟩)] w (FAny sb bb mb room (cutM s 0).2 w) := by
  have hc := Lib.hid (cut_any sb bb mb room s 0 w hs hb hne hk hu0 hu1)
  clear hs hb hk hu0 hu1
  go_enter Try.func25, Try.ntmps25
  go_wp2_with fail
  refine hc.out.mono ?_
  rintro e w1 ⟨rfl, h1, h2, h3⟩
  go_wp2
  go_end0
  exact ⟨rfl, h1, h2, h3⟩

def largeB (x : ActV) : Bool := decide (4096 < x.dat.length ∨ 131072 < x.n)
theorem large_ok (x : ActV) (w : World) (h : ActOk w x.cells x) : Calls Try.prog 20 #[.agg x.cells.toArray] w (Tells (.bool (largeB x)) w) := by
  obtain ⟨_, _, _, _, hn, hr, _⟩ := h
  obtain ⟨p, cap, hb, hcap, _⟩ := hr
  rw [List.length_map] at hb hcap
  unfold ActV.cells largeB
  rw [hb]
  clear hb
  obtain ⟨m, hm⟩ : ∃ m, m = x.dat.length := ⟨_, rfl⟩
  rw [← hm]
  clear hm
  obtain ⟨N, hN⟩ : ∃ N, N = x.n := ⟨_, rfl⟩
  rw [← hN] at hn ⊢
  clear hN
  have hk := (Keeps.refl [] w).alloc (.cells #[.int .i64 x.kind, .int .i64 x.who, .int .i64 x.off, .int .i64 N, .slice p m cap] 49)
  by_cases h1 : 4096 < m
  · have h1' : (4096 : Int) < (m : Int) := by omega
    go_enter Try.func20, Try.ntmps20
    go_wp2
    go_ret
    exact ⟨by simp [], hk⟩
  · have h1' : (m : Int) ≤ 4096 := by omega
    by_cases h2 : 131072 < N
    · go_enter Try.func20, Try.ntmps20
      go_wp2
      go_ret
      exact ⟨by simp [], hk⟩
    · go_enter Try.func20, Try.ntmps20
      go_wp2
      go_ret
      have e1 : ¬ (4096 : Int) < (m : Int) := by omega
      have e2 : ¬ (131072 : Int) < N := by omega
      exact ⟨by simp [e1, e2], hk⟩

def PAny (sb bb mb : Nat) (room : Int) (s : BS) (w : World) (e : Ending) (w' : World) : Prop :=
  e = .returned (.tuple #[]) ∧ SAt w' sb room s.used ∧ BAt w' bb mb s.sz s.l ∧ Keeps [sb, bb, mb] w w'
theorem play_any (sb bb mb : Nat) (room : Int) (s : BS) (x : ActV) (w : World) (hs : SAt w sb room s.used) (hb : BAt w bb mb s.sz s.l) (hne : sb ≠ bb) (hk : ∀ k ∈ keys s.l, k < 4096) (hu0 : (s.l.length : Int) ≤ s.used) (hur : s.used ≤ room) (hroom : room ≤ 65536)
    (h : ActOk w x.cells x) (hap : 0 < x.dat.length → ∀ y ∈ [sb, bb, mb], x.b.ownBlock ≠ some y) :
    Calls Try.prog 30 #[.pointer (some ⟨sb, 0, none⟩), .pointer (some ⟨bb, 0, none⟩), .agg x.cells.toArray] w (PAny sb bb mb room (playM room s x) w) := by
  obtain ⟨_, b1, b2, b3, b4, hr, hf, hl⟩ := h
  obtain ⟨w1, hw1⟩ : ∃ w1, w1 = w.alloc (.cells x.cells.toArray 49) := ⟨_, rfl⟩
  have hk1 : Keeps [] w w1 := by rw [hw1]; exact (Keeps.refl [] w).alloc _
  have hs1 := hs.keep hk1 (by simp)
  have hb1 := hb.keep hk1 (by simp) (by simp)
  have hr1 := hr.keep hk1 (by simp)
  have hu00 : 0 ≤ s.used := by omega
  have fin : ∀ e w' (s' : BS), (e = .returned (.tuple #[]) ∧ SAt w' sb room s'.used ∧ BAt w' bb mb s'.sz s'.l ∧ Keeps [sb, bb, mb] w1 w') → PAny sb bb mb room s' w e w' := by
    rintro e w' s' ⟨h1, h2, h3, h4⟩
    exact ⟨h1, h2, h3, hk1.mono (by simp) |>.trans h4⟩
  have hwr := write_any sb bb mb room s x.off x.dat x.b w1 hs1 hb1 hne hu00 hur hroom hr1 hap hf
  have hrd := read_any (.pointer (some ⟨sb, 0, none⟩)) bb mb s x.off x.n w1 hb1
  have hct := cut_any sb bb mb room s x.off w1 hs1 hb1 hne hk hu0 (by omega)
  have hfr := free_any sb bb mb room s w1 hs1 hb1 hne hk hu0 (by omega)
  have H := Lib.hid (And.intro hwr (And.intro hrd (And.intro hct (And.intro hfr (And.intro hs1 (And.intro hb1 hk1))))))
  have HF := Lib.hid fin
  have c0 : w1.cell? ⟨w.heap.size, 0, none⟩ = some (.int .i64 x.kind) := by rw [hw1]; exact cell_of (heap_alloc w _) rfl
  have c2 : w1.cell? ⟨w.heap.size, 2, none⟩ = some (.int .i64 x.off) := by rw [hw1]; exact cell_of (heap_alloc w _) rfl
  have c3 : w1.cell? ⟨w.heap.size, 3, none⟩ = some (.int .i64 x.n) := by rw [hw1]; exact cell_of (heap_alloc w _) rfl
  have c4 : w1.cell? ⟨w.heap.size, 4, none⟩ = some x.b := by rw [hw1]; exact cell_of (heap_alloc w _) rfl
  have HW := Lib.hid hw1
  clear hwr hrd hct hfr hs hb hne hk hu0 hur hroom hr hf hl hap hs1 hb1 hk1 hr1 fin hw1 hu00 b1 b2 b3 b4
  unfold playM
  obtain ⟨K, hK⟩ : ∃ K, K = x.kind := ⟨_, rfl⟩
  rw [← hK] at c0 ⊢
  clear hK
  by_cases k0 : K = 0
  · rw [if_pos k0]
    subst k0
    go_enter Try.func30, Try.ntmps30
    go_upto_region 1 with fail
    rw [← HW.out]
    go_wp2_with fail
    refine H.out.1.mono ?_
    rintro e w2 ⟨rfl, q⟩
    have hq := Lib.hid q
    clear q
    go_wp2
    go_end0
    exact HF.out _ _ _ ⟨rfl, hq.out⟩
  · rw [if_neg k0]
    have j0 : (K == 0) = false := beq_eq_false_iff_ne.2 k0
    by_cases k1 : K = 1
    · rw [if_pos k1]
      subst k1
      go_enter Try.func30, Try.ntmps30
      go_upto_region 1 with fail
      rw [← HW.out]
      go_wp2_with fail
      refine H.out.2.1.mono ?_
      rintro e w2 ⟨v, rfl, q1, q2⟩
      have hq := Lib.hid q2
      clear q1 q2
      go_wp2
      go_end0
      exact HF.out _ _ _ ⟨rfl, H.out.2.2.2.2.1.keep hq.out (by simp), H.out.2.2.2.2.2.1.keep hq.out (by simp) (by simp), hq.out.mono (by simp)⟩
    · rw [if_neg k1]
      have j1 : (K == 1) = false := beq_eq_false_iff_ne.2 k1
      by_cases k2 : K = 2
      · rw [if_pos k2]
        subst k2
        go_enter Try.func30, Try.ntmps30
        go_upto_region 1 with fail
        rw [← HW.out]
        go_wp2_with fail
        refine H.out.2.2.1.mono ?_
        rintro e w2 ⟨rfl, q⟩
        have hq := Lib.hid q
        clear q
        go_wp2
        go_end0
        exact HF.out _ _ _ ⟨rfl, hq.out⟩
      · rw [if_neg k2]
        have j2 : (K == 2) = false := beq_eq_false_iff_ne.2 k2
        by_cases k3 : K = 3
        · rw [if_pos k3]
          subst k3
          go_enter Try.func30, Try.ntmps30
          go_upto_region 1 with fail
          rw [← HW.out]
          go_wp2_with fail
          refine H.out.2.2.2.1.mono ?_
          rintro e w2 ⟨rfl, q⟩
          have hq := Lib.hid q
          clear q
          go_wp2
          go_end0
          exact HF.out _ _ _ ⟨rfl, hq.out⟩
        · rw [if_neg k3]
          have j3 : (K == 3) = false := beq_eq_false_iff_ne.2 k3
          go_enter Try.func30, Try.ntmps30
          go_upto_region 1 with fail
          rw [← HW.out]
          go_wp2
          go_end0
          exact HF.out _ _ _ ⟨rfl, H.out.2.2.2.2.1, H.out.2.2.2.2.2.1, Keeps.refl _ _⟩
end Go.Proofs.Ythkeahjcokbaaaa
