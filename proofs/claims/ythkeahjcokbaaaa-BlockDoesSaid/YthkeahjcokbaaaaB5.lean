/-
  Package block, the plain side: what is written, byte by byte.
-/
import Derived.Test.YthkeahjcokbaaaaB0
namespace Go.V.Block
open Go.V

theorem length_le_of_lt : ∀ (N : Nat) (L : List Nat), L.Nodup → (∀ x ∈ L, x < N) → L.length ≤ N
  | 0, L, _, h => by
    cases L with
    | nil => simp
    | cons x L => have := h x (by simp); omega
  | N + 1, L, hn, h => by
    by_cases hN : N ∈ L
    · have h1 := List.length_erase_of_mem hN
      have h2 := length_le_of_lt N (L.erase N) (hn.erase N) (fun x hx => by
        have h3 := h x (List.mem_of_mem_erase hx)
        have h4 : x ≠ N := fun e => by subst e; exact (List.Nodup.mem_erase_iff hn).1 hx |>.1 rfl
        omega)
      omega
    · have := length_le_of_lt N L hn (fun x hx => by
        have h3 := h x hx
        have h4 : x ≠ N := fun e => hN (e ▸ hx)
        omega)
      omega
theorem length_eq_of_mem {L M : List Nat} (h1 : L.Nodup) (h2 : M.Nodup) (h : ∀ x, x ∈ L ↔ x ∈ M) : L.length = M.length :=
  ((List.perm_ext_iff_of_nodup h1 h2).2 h).length_eq

def Good (l : CL) : Prop := (keys l).Nodup ∧ (∀ k ∈ keys l, k < 4096) ∧ Len16 l
theorem good_nil : Good [] := ⟨by simp [keys], by simp [keys], (fun k c h => by cases h)⟩
theorem Good.length_le {l : CL} (h : Good l) : l.length ≤ 4096 := by
  have := length_le_of_lt 4096 (keys l) h.1 h.2.1
  simpa [keys] using this

theorem getD_spl (c : List UInt8) (i : Nat) (xs : List UInt8) (h : i + xs.length ≤ c.length) (j : Nat) :
    (spl c i xs).getD j 0 = if i ≤ j ∧ j < i + xs.length then xs.getD (j - i) 0 else c.getD j 0 := by
  unfold spl
  simp only [List.getD_eq_getElem?_getD]
  have hi : i ≤ c.length := by omega
  by_cases h1 : j < i
  · rw [List.getElem?_append_left (by rw [List.length_take]; omega), List.getElem?_take, if_pos h1, if_neg (by omega)]
  · rw [List.getElem?_append_right (by rw [List.length_take]; omega), List.length_take, Nat.min_eq_left hi]
    by_cases h2 : j < i + xs.length
    · rw [List.getElem?_append_left (by omega), if_pos ⟨by omega, h2⟩]
    · rw [List.getElem?_append_right (by omega), if_neg (by omega), List.getElem?_drop]
      congr 2
      omega

theorem chunkOf_put {l : CL} {K : Nat} {c : List UInt8} (k : Nat) : chunkOf (put l K c) k = if K = k then c else chunkOf l k := by
  unfold chunkOf
  rw [get_put]
  split <;> rfl

theorem stepL_byte {a : Nat} {data : List UInt8} {done : Nat} {l : CL} (h16 : Len16 l) (_hd : done < data.length) (p : Nat) :
    byteAt (stepL a data done l) p = if a + done ≤ p ∧ p < a + done + stepN a data done then data.getD (p - a) 0 else byteAt l p := by
  unfold byteAt stepL
  rw [chunkOf_put]
  have hxl : ((data.drop done).take (16 - (a + done) % 16)).length = stepN a data done := by
    rw [List.length_take, List.length_drop]; rfl
  have hcl : (chunkOf l ((a + done) / 16)).length = 16 := len16_chunkOf h16 _
  have hq : stepN a data done ≤ 16 - (a + done) % 16 := by unfold stepN; omega
  by_cases hk : (a + done) / 16 = p / 16
  · rw [if_pos hk, getD_spl _ _ _ (by rw [hxl, hcl]; omega), hxl]
    by_cases h1 : a + done ≤ p ∧ p < a + done + stepN a data done
    · rw [if_pos h1, if_pos (by omega)]
      simp only [List.getD_eq_getElem?_getD]
      rw [List.getElem?_take, if_pos (by omega), List.getElem?_drop]
      congr 2
      omega
    · rw [if_neg h1, if_neg (by omega), hk]
  · rw [if_neg hk, if_neg (by omega)]

theorem stepL_good {a : Nat} {data : List UInt8} {done : Nat} {l : CL} (h : Good l) (hd : done < data.length) (ha : a + data.length ≤ 65536) : Good (stepL a data done l) := by
  refine ⟨nodup_put h.1, fun k hk => ?_, len16_put h.2.2 ?_⟩
  · unfold stepL at hk
    rw [keys_put] at hk
    split at hk
    · exact h.2.1 k hk
    · rcases List.mem_append.1 hk with hk | hk
      · exact h.2.1 k hk
      · simp at hk; omega
  · rw [length_spl]
    · exact len16_chunkOf h.2.2 _
    · rw [List.length_take, List.length_drop, len16_chunkOf h.2.2 _]; omega

theorem stepL_keys {a : Nat} {data : List UInt8} {done : Nat} {l : CL} (k : Nat) : k ∈ keys (stepL a data done l) ↔ k ∈ keys l ∨ k = (a + done) / 16 := by
  unfold stepL
  rw [keys_put]
  split
  · rename_i h
    exact ⟨Or.inl, fun h2 => h2.elim id (fun e => e ▸ h)⟩
  · simp

/-- where there is room all is written -/
theorem wr_spec {room : Int} {a : Nat} {data : List UInt8} (hroom : 4096 ≤ room) (ha : a + data.length ≤ 65536) : ∀ (f done : Nat) (l : CL), data.length - done ≤ f → done ≤ data.length → Good l →
    ∃ l', wr room a data f done l.length l = (data.length, (l'.length : Int), l') ∧ Good l' ∧
      (∀ p, byteAt l' p = if a + done ≤ p ∧ p < a + data.length then data.getD (p - a) 0 else byteAt l p) ∧
      (∀ k, k ∈ keys l' ↔ k ∈ keys l ∨ ∃ p, a + done ≤ p ∧ p < a + data.length ∧ p / 16 = k)
  | f, done, l, hf, hd, hg => by
    by_cases hover : data.length ≤ done
    · have hde : done = data.length := by omega
      refine ⟨l, by rw [wr_over hover, hde], hg, fun p => by rw [if_neg (by omega)], fun k => ⟨Or.inl, fun h => h.elim id (fun ⟨p, h1, h2, _⟩ => by omega)⟩⟩
    · obtain ⟨f', rfl⟩ : ∃ f', f = f' + 1 := ⟨f - 1, by omega⟩
      have hlt : done < data.length := by omega
      have hq0 : 0 < stepN a data done := by unfold stepN; omega
      have hq1 : done + stepN a data done ≤ data.length := by unfold stepN; omega
      have hq2 : stepN a data done ≤ 16 - (a + done) % 16 := by unfold stepN; omega
      obtain ⟨l', h1, h2, h3, h4⟩ := wr_spec hroom ha f' (done + stepN a data done) (stepL a data done l) (by omega) hq1 (stepL_good hg hlt ha)
      have hlen : (stepL a data done l).length = if (a + done) / 16 ∈ keys l then l.length else l.length + 1 := by unfold stepL; rw [length_put]
      refine ⟨l', ?_, h2, fun p => ?_, fun k => ?_⟩
      · cases hgt : get l ((a + done) / 16) with
        | some c =>
          rw [wr_in hlt hgt]
          have hm : (a + done) / 16 ∈ keys l := get_isSome.1 (by rw [hgt]; rfl)
          rw [if_pos hm] at hlen
          rw [hlen] at h1
          exact h1
        | none =>
          have hm : (a + done) / 16 ∉ keys l := get_none.1 hgt
          rw [if_neg hm] at hlen
          have hl4 : l.length + 1 ≤ 4096 := by rw [← hlen]; exact (stepL_good hg hlt ha).length_le
          rw [wr_new hlt hgt (by omega)]
          rw [hlen] at h1
          push_cast at h1
          exact h1
      · rw [h3, stepL_byte hg.2.2 hlt]
        by_cases c1 : a + (done + stepN a data done) ≤ p ∧ p < a + data.length
        · rw [if_pos c1, if_pos (by omega)]
        · rw [if_neg c1]
          by_cases c2 : a + done ≤ p ∧ p < a + done + stepN a data done
          · rw [if_pos c2, if_pos (by omega)]
          · rw [if_neg c2, if_neg (by omega)]
      · rw [h4, stepL_keys]
        constructor
        · rintro ((h | h) | ⟨p, e1, e2, e3⟩)
          · exact Or.inl h
          · exact Or.inr ⟨a + done, by omega, by omega, h.symm⟩
          · exact Or.inr ⟨p, by omega, e2, e3⟩
        · rintro (h | ⟨p, e1, e2, e3⟩)
          · exact Or.inl (Or.inl h)
          · by_cases hp : a + (done + stepN a data done) ≤ p
            · exact Or.inr ⟨p, hp, e2, e3⟩
            · left; right; omega
  termination_by f => f

/-- how many bytes are written -/
def cnt (a n : Nat) : Nat := min n (65536 - a)
def BGood (s : BS) : Prop := Good s.l ∧ s.used = (s.l.length : Int)
theorem write_spec {room : Int} (hroom : 4096 ≤ room) (s : BS) (hs : BGood s) (a : Nat) (data : List UInt8) :
    ∃ l', (writeM room s (a : Int) data).2.2 = ⟨(l'.length : Int), if cnt a data.length = 0 then s.sz else max s.sz ((a + cnt a data.length : Nat) : Int), l'⟩ ∧ Good l' ∧
      (∀ p, byteAt l' p = if a ≤ p ∧ p < a + cnt a data.length then data.getD (p - a) 0 else byteAt s.l p) ∧
      (∀ k, k ∈ keys l' ↔ k ∈ keys s.l ∨ ∃ p, a ≤ p ∧ p < a + cnt a data.length ∧ p / 16 = k) := by
  unfold writeM cnt
  rw [if_neg (by omega)]
  by_cases h1 : data.length = 0
  · rw [if_pos h1]
    refine ⟨s.l, ?_, hs.1, fun p => by rw [if_neg (by omega)], fun k => ⟨Or.inl, fun h => h.elim id (fun ⟨p, e1, e2, _⟩ => by omega)⟩⟩
    rw [if_pos (by omega), ← hs.2]
  · rw [if_neg h1]
    by_cases h2 : (65536 : Int) ≤ a
    · rw [if_pos h2]
      refine ⟨s.l, ?_, hs.1, fun p => by rw [if_neg (by omega)], fun k => ⟨Or.inl, fun h => h.elim id (fun ⟨p, e1, e2, _⟩ => by omega)⟩⟩
      rw [if_pos (by omega), ← hs.2]
    · rw [if_neg h2]
      have hl : (data.take (65536 - (a : Int).toNat)).length = min data.length (65536 - a) := by rw [List.length_take, Int.toNat_natCast]; omega
      obtain ⟨l', e1, e2, e3, e4⟩ := wr_spec (room := room) (a := a) (data := data.take (65536 - (a : Int).toNat)) hroom (by rw [hl]; omega) (min data.length (65536 - (a : Int).toNat)) 0 s.l (by rw [hl, Int.toNat_natCast]; omega) (Nat.zero_le _) hs.1
      rw [hl] at e1 e3 e4
      simp only [Nat.add_zero] at e3 e4
      refine ⟨l', ?_, e2, fun p => ?_, e4⟩
      · rw [hs.2]
        simp only [Int.toNat_natCast] at e1 ⊢
        rw [e1]
        simp only [Int.natCast_add]
      · rw [e3]
        by_cases c : a ≤ p ∧ p < a + min data.length (65536 - a)
        · rw [if_pos c, if_pos c]
          simp only [List.getD_eq_getElem?_getD]
          rw [List.getElem?_take, if_pos (by rw [Int.toNat_natCast]; omega)]
        · rw [if_neg c, if_neg c]
end Go.V.Block
