/-
  Package block, plain: whatever is done to a body, it stays in order.
-/
import Derived.Test.YthkeahjcokbaaaaB11
namespace Go.V.Block
open Go.V

theorem wr_gen {room : Int} {a : Nat} {data : List UInt8} (ha : a + data.length ≤ 65536) : ∀ (f done : Nat) (used : Int) (l : CL), data.length - done ≤ f → done ≤ data.length → Good l → used ≤ room →
    ∃ d' u' l', wr room a data f done used l = (d', u', l') ∧ done ≤ d' ∧ d' ≤ data.length ∧ u' ≤ room ∧ used ≤ u' ∧ u' - used = (l'.length : Int) - (l.length : Int) ∧ Good l' ∧
      (∀ p, byteAt l' p = if a + done ≤ p ∧ p < a + d' then data.getD (p - a) 0 else byteAt l p) ∧
      (∀ k, k ∈ keys l' ↔ k ∈ keys l ∨ ∃ p, a + done ≤ p ∧ p < a + d' ∧ p / 16 = k) ∧ (d' = done → l' = l ∧ u' = used)
  | f, done, used, l, hf, hd, hg, hu => by
    have stop : ∃ d' u' l', (done, used, l) = (d', u', l') ∧ done ≤ d' ∧ d' ≤ data.length ∧ u' ≤ room ∧ used ≤ u' ∧ u' - used = (l'.length : Int) - (l.length : Int) ∧ Good l' ∧
        (∀ p, byteAt l' p = if a + done ≤ p ∧ p < a + d' then data.getD (p - a) 0 else byteAt l p) ∧
        (∀ k, k ∈ keys l' ↔ k ∈ keys l ∨ ∃ p, a + done ≤ p ∧ p < a + d' ∧ p / 16 = k) ∧ (d' = done → l' = l ∧ u' = used) :=
      ⟨done, used, l, rfl, Nat.le_refl _, hd, hu, Int.le_refl _, by omega, hg, fun p => by rw [if_neg (by omega)], fun k => ⟨Or.inl, fun h => h.elim id (fun ⟨p, h1, h2, _⟩ => by omega)⟩, fun _ => ⟨rfl, rfl⟩⟩
    by_cases hover : data.length ≤ done
    · rw [wr_over hover]; exact stop
    · obtain ⟨f', rfl⟩ : ∃ f', f = f' + 1 := ⟨f - 1, by omega⟩
      have hlt : done < data.length := by omega
      have hq0 : 0 < stepN a data done := by unfold stepN; omega
      have hq1 : done + stepN a data done ≤ data.length := by unfold stepN; omega
      have hq2 : stepN a data done ≤ 16 - (a + done) % 16 := by unfold stepN; omega
      have hlen : (stepL a data done l).length = if (a + done) / 16 ∈ keys l then l.length else l.length + 1 := by unfold stepL; rw [length_put]
      have go : ∀ u1 : Int, u1 ≤ room → used ≤ u1 → u1 - used = ((stepL a data done l).length : Int) - (l.length : Int) → wr room a data (f' + 1) done used l = wr room a data f' (done + stepN a data done) u1 (stepL a data done l) →
          ∃ d' u' l', wr room a data (f' + 1) done used l = (d', u', l') ∧ done ≤ d' ∧ d' ≤ data.length ∧ u' ≤ room ∧ used ≤ u' ∧ u' - used = (l'.length : Int) - (l.length : Int) ∧ Good l' ∧
            (∀ p, byteAt l' p = if a + done ≤ p ∧ p < a + d' then data.getD (p - a) 0 else byteAt l p) ∧
            (∀ k, k ∈ keys l' ↔ k ∈ keys l ∨ ∃ p, a + done ≤ p ∧ p < a + d' ∧ p / 16 = k) ∧ (d' = done → l' = l ∧ u' = used) := by
        intro u1 hu1 hu2 hu3 he
        obtain ⟨d', u', l', h1, h2, h3, h4, h5, h6, h7, h8, h9, _⟩ := wr_gen ha f' (done + stepN a data done) u1 (stepL a data done l) (by omega) hq1 (stepL_good hg hlt ha) hu1
        refine ⟨d', u', l', he.trans h1, by omega, h3, h4, by omega, by omega, h7, fun p => ?_, fun k => ?_, fun h => by omega⟩
        · rw [h8, stepL_byte hg.2.2 hlt]
          by_cases c1 : a + (done + stepN a data done) ≤ p ∧ p < a + d'
          · rw [if_pos c1, if_pos (by omega)]
          · rw [if_neg c1]
            by_cases c2 : a + done ≤ p ∧ p < a + done + stepN a data done
            · rw [if_pos c2, if_pos (by omega)]
            · rw [if_neg c2, if_neg (by omega)]
        · rw [h9, stepL_keys]
          constructor
          · rintro ((h | h) | ⟨p, e1, e2, e3⟩)
            · exact Or.inl h
            · exact Or.inr ⟨a + done, by omega, by omega, h.symm⟩
            · exact Or.inr ⟨p, by omega, e2, e3⟩
          · rintro (h | ⟨p, e1, e2, e3⟩)
            · exact Or.inl (Or.inl h)
            · by_cases hp : a + (done + stepN a data done) ≤ p
              · exact Or.inr ⟨p, hp, e2, e3⟩
              · left; right; omega
      cases hgt : get l ((a + done) / 16) with
      | some c =>
        have hm : (a + done) / 16 ∈ keys l := get_isSome.1 (by rw [hgt]; rfl)
        rw [if_pos hm] at hlen
        exact go used hu (Int.le_refl _) (by omega) (wr_in hlt hgt)
      | none =>
        have hm : (a + done) / 16 ∉ keys l := get_none.1 hgt
        rw [if_neg hm] at hlen
        by_cases hr : used = room
        · subst hr
          rw [wr_full hlt hgt]; exact stop
        · exact go (used + 1) (by omega) (by omega) (by omega) (wr_new hlt hgt hr)
  termination_by f => f

/-- a body in order -/
def OkB (sz : Int) (l : CL) : Prop := Good l ∧ (∀ k ∈ keys l, ((k * 16 : Nat) : Int) < sz) ∧ (∀ p : Nat, sz ≤ p → byteAt l p = 0) ∧ 0 ≤ sz ∧ sz ≤ 65536
theorem zero16_at (j : Nat) : zero16.getD j 0 = 0 := by
  unfold zero16
  rw [List.getD_eq_getElem?_getD, List.getElem?_replicate]
  split <;> rfl
theorem byteAt_nil (p : Nat) : byteAt [] p = 0 := zero16_at _
theorem okB_nil : OkB 0 [] := ⟨good_nil, by simp [keys], fun p _ => byteAt_nil p, by omega, by omega⟩

theorem write_gen {room : Int} {s : BS} (h : OkB s.sz s.l) (hu : s.used ≤ room) (off : Int) (data : List UInt8) :
    ∃ (n : Nat) (e u' : Int) (l' : CL), writeM room s off data = ((n : Int), e, ⟨u', if n = 0 then s.sz else max s.sz (off + n), l'⟩) ∧ n ≤ data.length ∧ u' ≤ room ∧ s.used ≤ u' ∧ u' - s.used = (l'.length : Int) - (s.l.length : Int) ∧
      OkB (if n = 0 then s.sz else max s.sz (off + n)) l' ∧ (0 < n → 0 ≤ off ∧ off + n ≤ 65536 ∧ e = 0) ∧ (n = 0 → l' = s.l ∧ u' = s.used) ∧
      (∀ p : Nat, byteAt l' p = if off ≤ p ∧ (p : Int) < off + n then data.getD (p - off.toNat) 0 else byteAt s.l p) ∧
      (∀ k, k ∈ keys l' ↔ k ∈ keys s.l ∨ ∃ p : Nat, off ≤ p ∧ (p : Int) < off + n ∧ p / 16 = k) := by
  have none : ∀ e : Int, ∃ (n : Nat) (e' u' : Int) (l' : CL), ((0 : Int), e, s) = ((n : Int), e', ⟨u', if n = 0 then s.sz else max s.sz (off + n), l'⟩) ∧ n ≤ data.length ∧ u' ≤ room ∧ s.used ≤ u' ∧ u' - s.used = (l'.length : Int) - (s.l.length : Int) ∧
      OkB (if n = 0 then s.sz else max s.sz (off + n)) l' ∧ (0 < n → 0 ≤ off ∧ off + n ≤ 65536 ∧ e' = 0) ∧ (n = 0 → l' = s.l ∧ u' = s.used) ∧
      (∀ p : Nat, byteAt l' p = if off ≤ p ∧ (p : Int) < off + n then data.getD (p - off.toNat) 0 else byteAt s.l p) ∧
      (∀ k, k ∈ keys l' ↔ k ∈ keys s.l ∨ ∃ p : Nat, off ≤ p ∧ (p : Int) < off + n ∧ p / 16 = k) := fun e =>
    ⟨0, e, s.used, s.l, rfl, Nat.zero_le _, hu, Int.le_refl _, by omega, h, fun h => by omega, fun _ => ⟨rfl, rfl⟩, fun p => by rw [if_neg (by omega)], fun k => ⟨Or.inl, fun h => h.elim id (fun ⟨p, e1, e2, _⟩ => by omega)⟩⟩
  unfold writeM
  by_cases h0 : off < 0
  · rw [if_pos h0]; exact none 22
  · rw [if_neg h0]
    by_cases h1 : data.length = 0
    · rw [if_pos h1]; exact none 0
    · rw [if_neg h1]
      by_cases h2 : 65536 ≤ off
      · rw [if_pos h2]; exact none 27
      · rw [if_neg h2]
        obtain ⟨a, rfl⟩ : ∃ a : Nat, off = a := ⟨off.toNat, by omega⟩
        have hl : (data.take (65536 - a)).length = min data.length (65536 - a) := by rw [List.length_take]; omega
        obtain ⟨n, u', l', e1, e2, e3, e4, e5, e6, e7, e8, e9, e10⟩ := wr_gen (room := room) (a := a) (data := data.take (65536 - a)) (by rw [hl]; omega) (min data.length (65536 - a)) 0 s.used s.l (by rw [hl]; omega) (Nat.zero_le _) h.1 hu
        simp only [Int.toNat_natCast]
        simp only [Nat.add_zero] at e8 e9
        have hb : ∀ p : Nat, byteAt l' p = if (a : Int) ≤ p ∧ (p : Int) < a + n then data.getD (p - a) 0 else byteAt s.l p := by
          intro p
          rw [e8]
          by_cases c : a ≤ p ∧ p < a + n
          · rw [if_pos c, if_pos (by omega)]
            simp only [List.getD_eq_getElem?_getD]
            rw [List.getElem?_take, if_pos (by omega)]
          · rw [if_neg c, if_neg (by omega)]
        have hk : ∀ k, k ∈ keys l' ↔ k ∈ keys s.l ∨ ∃ p : Nat, (a : Int) ≤ p ∧ (p : Int) < a + n ∧ p / 16 = k := fun k => by
          rw [e9]
          constructor
          · rintro (h | ⟨p, h1, h2, h3⟩)
            · exact Or.inl h
            · exact Or.inr ⟨p, by omega, by omega, h3⟩
          · rintro (h | ⟨p, h1, h2, h3⟩)
            · exact Or.inl h
            · exact Or.inr ⟨p, by omega, by omega, h3⟩
        obtain ⟨g1, g2, g3, g4, g5⟩ := h
        refine ⟨n, (if n = 0 then 28 else 0), u', l', ?_, by rw [hl] at e3; omega, e4, e5, e6, ⟨e7, fun k hkk => ?_, fun p hp => ?_, by split <;> omega, by rw [hl] at e3; split <;> omega⟩, fun h => ⟨by omega, by rw [hl] at e3; omega, if_neg (by omega)⟩, fun h => e10 h, hb, hk⟩
        · simp only [e1]
        · rcases (hk k).1 hkk with h | ⟨p, q1, q2, q3⟩
          · have := g2 k h; split <;> omega
          · rw [if_neg (by omega)]; omega
        · rw [hb]
          by_cases c : n = 0
          · rw [if_pos c] at hp; rw [if_neg (by omega)]; exact g3 p hp
          · rw [if_neg c] at hp; rw [if_neg (by omega)]; exact g3 p (by omega)

theorem get_cutL {n : Nat} : ∀ {l : CL} {k : Nat}, get (cutL n l) k = if n ≤ k * 16 then none else (get l k).map (cutC n k)
  | [], k => by simp [cutL, get]
  | (a, b) :: l, k => by
    have ih := @get_cutL n l k
    unfold cutL at ih ⊢
    simp only [List.filterMap_cons]
    by_cases e : n ≤ a * 16
    · simp only [if_pos e]
      rw [ih]
      by_cases e2 : a = k
      · subst e2; rw [if_pos e, if_pos e]
      · simp only [get, if_neg e2]
    · simp only [if_neg e, get]
      by_cases e2 : a = k
      · subst e2; rw [if_pos rfl, if_neg e, if_pos rfl]; rfl
      · rw [if_neg e2, if_neg e2, ih]
theorem cutL_keys {n : Nat} {l : CL} : (keys (cutL n l)).Sublist (keys l) := by
  induction l with
  | nil => simp [cutL, keys]
  | cons p l ih =>
    unfold cutL at ih ⊢
    simp only [List.filterMap_cons, keys, List.map_cons] at ih ⊢
    split
    · exact ih.cons _
    · rename_i q hq
      have : q.1 = p.1 := by
        split at hq
        · cases hq
        · cases hq; rfl
      rw [List.map_cons, this]
      exact ih.cons_cons _
theorem cutL_length {n : Nat} {l : CL} : (cutL n l).length ≤ l.length := by
  have := (cutL_keys (n := n) (l := l)).length_le
  simpa [keys] using this
theorem cutL_mem {n : Nat} {l : CL} {k : Nat} : k ∈ keys (cutL n l) ↔ k ∈ keys l ∧ k * 16 < n := by
  rw [← get_isSome, ← get_isSome, get_cutL]
  by_cases e : n ≤ k * 16
  · rw [if_pos e]; simp; omega
  · rw [if_neg e]; simp; omega
theorem cutL_byte {n : Nat} {l : CL} (h16 : Len16 l) (p : Nat) : byteAt (cutL n l) p = if p < n then byteAt l p else 0 := by
  have z : ∀ j, zero16.getD (j % 16) 0 = 0 := fun j => zero16_at _
  unfold byteAt chunkOf
  rw [get_cutL]
  by_cases e : n ≤ p / 16 * 16
  · rw [if_pos e, if_neg (by omega)]; exact z p
  · rw [if_neg e]
    cases hg : get l (p / 16) with
    | none => simp only [Option.map_none, Option.getD_none, z]; simp
    | some c =>
      have hc := h16 _ _ hg
      simp only [Option.map_some, Option.getD_some]
      unfold cutC
      by_cases e2 : n < p / 16 * 16 + 16
      · rw [if_pos e2, getD_spl _ _ _ (by rw [List.length_replicate, hc]; omega), List.length_replicate]
        by_cases e3 : p < n
        · rw [if_neg (by omega), if_pos e3]
        · rw [if_pos (by omega), if_neg e3]
          simp only [List.getD_eq_getElem?_getD, List.getElem?_replicate]
          split <;> rfl
      · rw [if_neg e2, if_pos (by omega)]
theorem cut_gen {sz : Int} {l : CL} (h : OkB sz l) (n : Nat) (hn : n ≤ 65536) : OkB n (cutL n l) := by
  obtain ⟨⟨g1, g2, g3⟩, g4, g5, g6, g7⟩ := h
  refine ⟨⟨cutL_keys.nodup g1, fun k hk => g2 k (cutL_keys.subset hk), fun k c hk => ?_⟩, fun k hk => ?_, fun p hp => ?_, by omega, by omega⟩
  · rw [get_cutL] at hk
    split at hk
    · cases hk
    · cases hg : get l k with
      | none => rw [hg] at hk; cases hk
      | some d =>
        rw [hg] at hk
        cases hk
        have hd := g3 k d hg
        unfold cutC
        split
        · rw [length_spl, hd]; rw [List.length_replicate]; omega
        · exact hd
  · have := (cutL_mem.1 hk).2; omega
  · rw [cutL_byte g3, if_neg (by omega)]

theorem cutM_gen {s : BS} (h : OkB s.sz s.l) (size : Int) : OkB (cutM s size).2.sz (cutM s size).2.l ∧ (cutM s size).2.used ≤ s.used ∧ (cutM s size).2.used - s.used = ((cutM s size).2.l.length : Int) - (s.l.length : Int) := by
  unfold cutM
  split
  · exact ⟨h, Int.le_refl _, by simp only []; omega⟩
  · split
    · exact ⟨h, Int.le_refl _, by simp only []; omega⟩
    · obtain ⟨n, rfl⟩ : ∃ n : Nat, size = n := ⟨size.toNat, by omega⟩
      simp only [Int.toNat_natCast]
      have := cutL_length (n := n) (l := s.l)
      exact ⟨cut_gen h n (by omega), by omega, by omega⟩
theorem play_gen {room : Int} {s : BS} (h : OkB s.sz s.l) (hu : s.used ≤ room) (x : ActV) :
    OkB (playM room s x).sz (playM room s x).l ∧ (playM room s x).used ≤ room ∧ (playM room s x).used - s.used = ((playM room s x).l.length : Int) - (s.l.length : Int) := by
  unfold playM
  split
  · obtain ⟨n, e, u', l', h1, h2, h3, h4, h5, h6, _⟩ := write_gen h hu x.off x.dat
    rw [h1]
    exact ⟨h6, h3, h5⟩
  · split
    · exact ⟨h, hu, by omega⟩
    · split
      · have := cutM_gen h x.off; exact ⟨this.1, by omega, this.2.2⟩
      · split
        · have := cutM_gen h 0; exact ⟨this.1, by omega, this.2.2⟩
        · exact ⟨h, hu, by omega⟩

theorem readAll {sz : Int} {l : CL} {u : Int} (h : OkB sz l) : (readM ⟨u, sz, l⟩ 0 65536).1 = bytesFrom l 0 sz.toNat := by
  obtain ⟨_, _, _, h1, h2⟩ := h
  unfold readM
  rw [if_neg (by omega)]
  by_cases c : sz ≤ 0
  · rw [if_pos c]
    have : sz.toNat = 0 := by omega
    rw [this]; rfl
  · rw [if_neg c]
    have : (min 65536 (sz - 0)).toNat = sz.toNat := by omega
    rw [this]; rfl
theorem getD_bytesFrom (l : CL) (n i : Nat) (h : i < n) : (bytesFrom l 0 n).getD i 0 = byteAt l i := by
  simp only [bytesFrom, List.getD_eq_getElem?_getD, List.getElem?_map, List.getElem?_range h, Option.map_some, Option.getD_some, Nat.zero_add]

/-- what BlockCuts looks at -/
theorem cuts_plain {s : BS} (h : OkB s.sz s.l) {small great : Int} (h0 : 0 ≤ small) (h1 : small ≤ great) (h2 : great ≤ 65536) :
    (cutM s small).1 = 0 ∧ (cutM (cutM s small).2 great).1 = 0 ∧ ((readM (cutM (cutM s small).2 great).2 0 65536).1.length : Int) = great ∧ (cutM (cutM s small).2 great).2.used ≤ s.used ∧
      ∀ i : Nat, i < great.toNat → (readM (cutM (cutM s small).2 great).2 0 65536).1.getD i 0 = if (i : Int) < small ∧ i < (readM s 0 65536).1.length then (readM s 0 65536).1.getD i 0 else 0 := by
  have g1 := cutM_gen h small
  have g2 := cutM_gen g1.1 great
  have e1 : cutM s small = (0, ⟨s.used - (s.l.length - (cutL small.toNat s.l).length : Nat), small, cutL small.toNat s.l⟩) := by unfold cutM; rw [if_neg (by omega), if_neg (by omega)]
  have e2 : ∀ t : BS, cutM t great = (0, ⟨t.used - (t.l.length - (cutL great.toNat t.l).length : Nat), great, cutL great.toNat t.l⟩) := fun t => by unfold cutM; rw [if_neg (by omega), if_neg (by omega)]
  refine ⟨by rw [e1], by rw [e2], ?_, by omega, fun i hi => ?_⟩
  · have := readAll (u := (cutM (cutM s small).2 great).2.used) g2.1
    rw [show (⟨(cutM (cutM s small).2 great).2.used, (cutM (cutM s small).2 great).2.sz, (cutM (cutM s small).2 great).2.l⟩ : BS) = (cutM (cutM s small).2 great).2 from rfl] at this
    rw [this, length_bytesFrom, e2]
    simp only []
    omega
  · have r1 := readAll (u := (cutM (cutM s small).2 great).2.used) g2.1
    rw [show (⟨(cutM (cutM s small).2 great).2.used, (cutM (cutM s small).2 great).2.sz, (cutM (cutM s small).2 great).2.l⟩ : BS) = (cutM (cutM s small).2 great).2 from rfl] at r1
    have r0 := readAll (u := s.used) h
    rw [show (⟨s.used, s.sz, s.l⟩ : BS) = s from rfl] at r0
    rw [r1, r0, length_bytesFrom]
    have hs2 : (cutM (cutM s small).2 great).2.sz = great := by rw [e2]
    have hl2 : (cutM (cutM s small).2 great).2.l = cutL great.toNat (cutL small.toNat s.l) := by rw [e2, e1]
    have h16 : Len16 (cutL small.toNat s.l) := by have := g1.1.1.2.2; rw [e1] at this; exact this
    rw [hs2, hl2, getD_bytesFrom _ _ _ hi, cutL_byte h16, if_pos hi, cutL_byte h.1.2.2]
    by_cases c : (i : Int) < small
    · rw [if_pos (by omega)]
      by_cases c2 : i < s.sz.toNat
      · rw [if_pos ⟨c, c2⟩, getD_bytesFrom _ _ _ c2]
      · rw [if_neg (fun q => c2 q.2)]
        exact h.2.2.1 i (by have := h.2.2.2.1; omega)
    · rw [if_neg (by omega), if_neg (fun q => c q.1)]
end Go.V.Block
