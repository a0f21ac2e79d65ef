import Derived.Test.YthkeahjcokbaaaaB3
namespace Go.Proofs.Ythkeahjcokbaaaa
open Go.RowKit Go.V Go.V.Block

def WAny (sb bb mb : Nat) (room : Int) (r : Int × Int × BS) (w : World) (e : Ending) (w' : World) : Prop :=
  e = .returned (.tuple #[.int .i64 r.1, .int .i64 r.2.1]) ∧ SAt w' sb room r.2.2.used ∧ BAt w' bb mb r.2.2.sz r.2.2.l ∧ Keeps [sb, bb, mb] w w'

theorem write_neg (s b : Value) (off : Int) (D : Value) (w : World) (h : off < 0) :
    Calls Try.prog 13 #[s, b, .int .i64 off, D] w fun e w' => e = .returned (.tuple #[.int .i64 0, .int .i64 22]) ∧ w = w' := by
  go_enter Try.func13, Try.ntmps13
  go_wp2
  go_ret2
  exact ⟨rfl, rfl⟩
theorem write_none (s b : Value) (off : Int) (p : Option Addr) (cap : Nat) (w : World) (h : 0 ≤ off) :
    Calls Try.prog 13 #[s, b, .int .i64 off, .slice p 0 cap] w fun e w' => e = .returned (.tuple #[.int .i64 0, .int .i64 0]) ∧ w = w' := by
  go_enter Try.func13, Try.ntmps13
  go_wp2
  go_ret2
  exact ⟨rfl, rfl⟩
theorem write_far (s b : Value) (off : Int) (p : Option Addr) (n cap : Nat) (w : World) (h : 65536 ≤ off) (hn : 0 < n) :
    Calls Try.prog 13 #[s, b, .int .i64 off, .slice p n cap] w fun e w' => e = .returned (.tuple #[.int .i64 0, .int .i64 27]) ∧ w = w' := by
  have hn0 : ((n : Int) == 0) = false := beq_eq_false_iff_ne.2 (by omega)
  go_enter Try.func13, Try.ntmps13
  go_wp2
  go_ret2
  exact ⟨rfl, rfl⟩

theorem write_any (sb bb mb : Nat) (room : Int) (s : BS) (off : Int) (data : List UInt8) (D : Value) (w : World) (hs : SAt w sb room s.used) (hb : BAt w bb mb s.sz s.l) (hne : sb ≠ bb)
    (hu0 : 0 ≤ s.used) (hur : s.used ≤ room) (hroom : room ≤ 65536) (hD : Reads w D (data.map bv)) (hap : 0 < data.length → ∀ x ∈ [sb, bb, mb], D.ownBlock ≠ some x) (hlen : ∀ p n c, D = .slice p n c → c ≤ 9223372036854775807) :
    Calls Try.prog 13 #[.pointer (some ⟨sb, 0, none⟩), .pointer (some ⟨bb, 0, none⟩), .int .i64 off, D] w (WAny sb bb mb room (writeM room s off data) w) := by
  obtain ⟨p, cap, rfl, hcap, hr⟩ := hD
  have hc := hlen _ _ _ rfl
  rw [List.length_map] at hcap hr ⊢
  unfold writeM
  by_cases h0 : off < 0
  · rw [if_pos h0]
    exact (write_neg _ _ off _ w h0).mono fun e w' ⟨he, hw⟩ => ⟨he, hw ▸ hs, hw ▸ hb, hw ▸ Keeps.refl _ _⟩
  · rw [if_neg h0]
    by_cases h1 : data.length = 0
    · rw [if_pos h1, h1]
      exact (write_none _ _ off p cap w (by omega)).mono fun e w' ⟨he, hw⟩ => ⟨he, hw ▸ hs, hw ▸ hb, hw ▸ Keeps.refl _ _⟩
    · rw [if_neg h1]
      by_cases h2 : 65536 ≤ off
      · rw [if_pos h2]
        exact (write_far _ _ off p data.length cap w h2 (by omega)).mono fun e w' ⟨he, hw⟩ => ⟨he, hw ▸ hs, hw ▸ hb, hw ▸ Keeps.refl _ _⟩
      · rw [if_neg h2]
        obtain ⟨b, o, rfl, hr2⟩ := hr (by omega)
        have n1 : b ≠ sb := fun e => hap (by omega) sb (by simp) (by rw [e]; rfl)
        have n2 : b ≠ bb := fun e => hap (by omega) bb (by simp) (by rw [e]; rfl)
        have n3 : b ≠ mb := fun e => hap (by omega) mb (by simp) (by rw [e]; rfl)
        refine (write_main sb bb mb room s.used s.sz s.l off off.toNat data _ cap w hs hb.1 hb.2.1 hb.2.2.1 hne hu0 hur hroom hb.2.2.2.1 hb.2.2.2.2 (by omega) (by omega) (by omega) hcap hc
          ⟨b, o, rfl, n1, n2, n3, fun j x hj => hr2 j _ (by rw [List.getElem?_map, hj]; rfl)⟩).mono ?_
        intro e w' ⟨he, hs', hb', hm', h16', hk'⟩
        have hle : (wr room off.toNat (data.take (65536 - off.toNat)) (min data.length (65536 - off.toNat)) 0 s.used s.l).1 ≤ (data.take (65536 - off.toNat)).length := wr_le (Nat.zero_le _)
        rw [List.length_take] at hle
        have b1 := hb.2.2.2.1
        have b2 := hb.2.2.2.2
        refine ⟨?_, hs', ⟨hb', hm', h16', ?_, ?_⟩, hk'⟩
        · rw [he]
        · dsimp only; split <;> omega
        · dsimp only; split <;> omega

def RAny (r : List UInt8 × Int) (w : World) (e : Ending) (w' : World) : Prop :=
  ∃ v, e = .returned (.tuple #[v, .int .i64 r.2]) ∧ Own w' w.heap.size 5 v (r.1.map bv) ∧ Keeps [] w w'
theorem read_any (s : Value) (bb mb : Nat) (st : BS) (off n : Int) (w : World) (hb : BAt w bb mb st.sz st.l) :
    Calls Try.prog 14 #[s, .pointer (some ⟨bb, 0, none⟩), .int .i64 off, .int .i64 n] w (RAny (readM st off n) w) := by
  unfold readM
  by_cases h0 : off < 0 ∨ n < 0
  · rw [if_pos h0]
    exact (read_bad s _ off n w h0).mono fun e w' ⟨he, hw⟩ => ⟨_, he, Own.nil _ _ _, hw ▸ Keeps.refl _ _⟩
  · rw [if_neg h0]
    by_cases h1 : st.sz ≤ off
    · rw [if_pos h1]
      exact (read_over s bb mb st.sz off n w (by omega) (by omega) h1 hb.1).mono fun e w' ⟨he, hw⟩ => ⟨_, he, Own.nil _ _ _, hw ▸ Keeps.refl _ _⟩
    · rw [if_neg h1]
      refine (read_main s bb mb st.sz off n off.toNat (min n (st.sz - off)).toNat st.l w (by omega) (by omega) (by omega) hb.2.2.2.2 (by omega) hb.1 hb.2.1 hb.2.2.1).mono ?_
      intro e w' ⟨g, hg, he, hh, hk⟩
      refine ⟨_, he, ?_, hk⟩
      have hb2 := hb.2.2.2.2
      have := Own.row (xs := (bytesFrom st.l off.toNat (min n (st.sz - off)).toNat).map bv) w.heap.size hg hh (by rw [List.length_map, length_bytesFrom]; omega)
      rwa [List.length_map, length_bytesFrom] at this

def NAny (room : Int) (w : World) (e : Ending) (w' : World) : Prop :=
  ∃ sb, w.heap.size ≤ sb ∧ e = .returned (.pointer (some ⟨sb, 0, none⟩)) ∧ SAt w' sb room 0 ∧ Keeps [] w w'
theorem new_any (room : Int) (w : World) (h0 : 0 ≤ room) (h1 : room ≤ 65536) : Calls Try.prog 11 #[.int .i64 room] w (NAny room w) := by
  go_enter Try.func11, Try.ntmps11
  go_wp2
  go_ret
  exact ⟨w.heap.size, Nat.le_refl _, rfl, heap_alloc w _, (Keeps.refl _ _).alloc _⟩
theorem new_bad (room : Int) (w : World) (h : room < 0 ∨ 65536 < room) : Calls Try.prog 11 #[.int .i64 room] w fun e w' => e = .returned (.pointer none) ∧ w = w' := by
  by_cases h0 : room < 0
  · go_enter Try.func11, Try.ntmps11
    go_wp2
    go_ret
    exact ⟨rfl, rfl⟩
  · have h1 : 65536 < room := by omega
    go_enter Try.func11, Try.ntmps11
    go_wp2
    go_ret
    exact ⟨rfl, rfl⟩
def MkBody (w : World) (e : Ending) (w' : World) : Prop :=
  ∃ bb mb, w.heap.size ≤ bb ∧ w.heap.size ≤ mb ∧ e = .returned (.pointer (some ⟨bb, 0, none⟩)) ∧ BAt w' bb mb 0 [] ∧ Keeps [] w w'
theorem body_any (s : Value) (w : World) : Calls Try.prog 12 #[s] w (MkBody w) := by
  have hmm := @run_makeMap Try.prog
  go_enter Try.func12, Try.ntmps12
  go_wp2
  go_ret
  refine ⟨w.heap.size + 1, w.heap.size, by omega, Nat.le_refl _, rfl, ⟨?_, ?_, (fun k c h => by cases h), by omega, by omega⟩, ((Keeps.refl _ _).alloc _).alloc _⟩
  · have := heap_alloc (w.alloc (.map #[] 0)) (.cells #[.int .i64 0, .map (some w.heap.size)] 68)
    rw [show (w.alloc (.map #[] 0)).heap.size = w.heap.size + 1 by show (w.heap.push _).size = _; simp] at this
    exact this
  · exact (MapAt.made w keyV chunkV).keep ((Keeps.refl [] _).alloc _) (by simp)

theorem room_ok (sb : Nat) (room used : Int) (w : World) (hs : SAt w sb room used) :
    Calls Try.prog 26 #[.pointer (some ⟨sb, 0, none⟩)] w fun e w' => e = .returned (.int .i64 room) ∧ w = w' := by
  have hc : w.cell? ⟨sb, 0, none⟩ = some (.int .i64 room) := cell_of hs rfl
  clear hs
  go_enter Try.func26, Try.ntmps26
  go_wp2
  go_ret
  exact ⟨rfl, rfl⟩
theorem size_ok (bb mb : Nat) (sz : Int) (l : CL) (w : World) (hb : BAt w bb mb sz l) :
    Calls Try.prog 27 #[.pointer (some ⟨bb, 0, none⟩)] w fun e w' => e = .returned (.int .i64 sz) ∧ w = w' := by
  have hc : w.cell? ⟨bb, 0, none⟩ = some (.int .i64 sz) := cell_of hb.1 rfl
  clear hb
  go_enter Try.func27, Try.ntmps27
  go_wp2
  go_ret
  exact ⟨rfl, rfl⟩
theorem holes_any (bb mb : Nat) (sz : Int) (l : CL) (w : World) (hb : BAt w bb mb sz l) : Calls Try.prog 18 #[.pointer (some ⟨bb, 0, none⟩)] w (HPost l ((sz + 15) / 16).toNat w) :=
  have h1 := hb.2.2.2.1
  have h2 := hb.2.2.2.2
  holes_ok bb mb sz _ l w hb.1 hb.2.1 hb.2.2.1 h1 h2 (by omega)
theorem chunks_any (bb mb : Nat) (sz : Int) (l : CL) (w : World) (hb : BAt w bb mb sz l) :
    Calls Try.prog 15 #[.pointer (some ⟨bb, 0, none⟩)] w fun e w' => e = .returned (.int .i64 l.length) ∧ w = w' := chunks_ok bb mb sz l w hb.1 hb.2.1
end Go.Proofs.Ythkeahjcokbaaaa
