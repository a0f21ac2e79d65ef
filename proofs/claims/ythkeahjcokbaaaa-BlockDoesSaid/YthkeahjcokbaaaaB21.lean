/-
  Package block: Write, byte by byte (the document's answer), is Write, chunk by chunk.
-/
import Derived.Test.YthkeahjcokbaaaaB18
namespace Go.V.Block
open Go Go.V

def byteL (l : CL) (p : Nat) (x : UInt8) : CL := put l (p / 16) ((chunkOf l (p / 16)).set (p % 16) x)
/-- the loop of the document's Write -/
def wrB (room : Int) (a : Nat) (data : List UInt8) : Nat → Nat → Int → CL → Nat × Int × CL
  | 0, d, u, l => (d, u, l)
  | f + 1, d, u, l =>
    if data.length ≤ d then (d, u, l)
    else if (get l ((a + d) / 16)).isSome = true then wrB room a data f (d + 1) u (byteL l (a + d) (data.getD d 0))
    else if u = room then (d, u, l)
    else wrB room a data f (d + 1) (u + 1) (byteL l (a + d) (data.getD d 0))
theorem put_put {l : CL} {k : Nat} {c d : List UInt8} : put (put l k c) k d = put l k d := by
  induction l with
  | nil => simp [put]
  | cons p l ih =>
    obtain ⟨x, v⟩ := p
    by_cases e : x = k
    · simp [put, e]
    · simp [put, e, ih]
theorem spl_cons (c : List UInt8) (i : Nat) (x : UInt8) (xs : List UInt8) (h : i < c.length) : spl (c.set i x) (i + 1) xs = spl c i (x :: xs) := by
  unfold spl
  rw [List.take_add_one, List.getElem?_set_self h, List.take_set_of_le (Nat.le_refl i), List.drop_set_of_lt (by omega)]
  simp only [Option.toList_some, List.append_assoc, List.cons_append, List.nil_append, List.length_cons]
  rw [show i + 1 + xs.length = i + (xs.length + 1) by omega]
theorem chunkOf_put_same {l : CL} {k : Nat} {c : List UInt8} : chunkOf (put l k c) k = c := by rw [chunkOf_put, if_pos rfl]
theorem get_put_same {l : CL} {k : Nat} {c : List UInt8} : (get (put l k c) k).isSome = true := by rw [get_put, if_pos rfl]; rfl
/-- within a chunk that is there -/
theorem wrB_run {room : Int} {a : Nat} {data : List UInt8} {K : Nat} : ∀ (m f d : Nat) (u : Int) (l : CL), Len16 l → (get l K).isSome = true → (∀ j, j < m → (a + d + j) / 16 = K) → d + m ≤ data.length → 0 < m →
    wrB room a data (f + m) d u l = wrB room a data f (d + m) u (put l K (spl (chunkOf l K) ((a + d) % 16) ((data.drop d).take m)))
  | 0, _, _, _, _, _, _, _, _, hm => by omega
  | m + 1, f, d, u, l, h16, hg, hK, hd, _ => by
    have e0 : (a + d) / 16 = K := by simpa using hK 0 (by omega)
    have hlt : d < data.length := by omega
    have hdr : data.drop d = data.getD d 0 :: data.drop (d + 1) := by
      rw [List.drop_eq_getElem_cons hlt, List.getD_eq_getElem?_getD, List.getElem?_eq_getElem hlt]; rfl
    have hcl : (chunkOf l K).length = 16 := len16_chunkOf h16 K
    show wrB room a data (f + m + 1) d u l = _
    rw [wrB, if_neg (by omega), e0, if_pos hg]
    have hl1 : byteL l (a + d) (data.getD d 0) = put l K ((chunkOf l K).set ((a + d) % 16) (data.getD d 0)) := by unfold byteL; rw [e0]
    rw [hl1]
    by_cases hm : m = 0
    · subst hm
      rw [hdr]
      simp only [List.take_succ_cons, List.take_zero]
      have : spl (chunkOf l K) ((a + d) % 16) [data.getD d 0] = (chunkOf l K).set ((a + d) % 16) (data.getD d 0) := by
        rw [← spl_cons _ _ _ _ (by omega)]; simp [spl]
      rw [this]
      rfl
    · rw [wrB_run m f (d + 1) u _ (len16_put h16 (by rw [List.length_set]; exact hcl)) get_put_same (fun j hj => by have := hK (j + 1) (by omega); rw [← this]; congr 1; omega) (by omega) (by omega)]
      have hmod : (a + (d + 1)) % 16 = (a + d) % 16 + 1 := by
        have := hK 1 (by omega)
        omega
      rw [chunkOf_put_same, put_put, hmod, spl_cons _ _ _ _ (by omega), show d + 1 + m = d + (m + 1) by omega]
      congr 3
      rw [hdr, List.take_succ_cons]
theorem wr_eq {room : Int} {a : Nat} {data : List UInt8} : ∀ (f d : Nat) (u : Int) (l : CL), data.length - d ≤ f → Len16 l → ∀ g, data.length - d ≤ g → wr room a data f d u l = wrB room a data g d u l := by
  intro f
  induction f with
  | zero =>
    intro d u l hf h16 g hg
    rw [wr_over (by omega)]
    cases g with
    | zero => rfl
    | succ g => rw [wrB, if_pos (by omega)]
  | succ f ih =>
    intro d u l hf h16 g hg
    by_cases hd : data.length ≤ d
    · rw [wr_over hd]
      cases g with
      | zero => rfl
      | succ g => rw [wrB, if_pos hd]
    · have hm : 0 < stepN a data d := by unfold stepN; omega
      have hm2 : d + stepN a data d ≤ data.length := by unfold stepN; omega
      have hm3 : stepN a data d ≤ 16 - (a + d) % 16 := by unfold stepN; omega
      have htk : (data.drop d).take (16 - (a + d) % 16) = (data.drop d).take (stepN a data d) := by
        by_cases c : 16 - (a + d) % 16 ≤ data.length - d
        · congr 1; unfold stepN; omega
        · rw [List.take_of_length_le (by rw [List.length_drop]; omega), List.take_of_length_le (by rw [List.length_drop]; unfold stepN; omega)]
      have h16' : Len16 (stepL a data d l) := by
        unfold stepL
        refine len16_put h16 ?_
        rw [length_spl _ _ _ (by rw [len16_chunkOf h16, List.length_take]; omega), len16_chunkOf h16]
      obtain ⟨g', rfl⟩ : ∃ g', g = g' + stepN a data d := ⟨g - stepN a data d, by omega⟩
      by_cases hs : (get l ((a + d) / 16)).isSome = true
      · obtain ⟨c, hc⟩ := Option.isSome_iff_exists.1 hs
        rw [wr_in (by omega) hc, wrB_run _ g' d u l h16 hs (fun j hj => by omega) hm2 hm, ih _ _ _ (by omega) h16' g' (by omega)]
        unfold stepL
        rw [htk]
      · have hn : get l ((a + d) / 16) = none := by
          cases hq : get l ((a + d) / 16) with
          | none => rfl
          | some c => rw [hq] at hs; exact absurd rfl hs
        by_cases hu : u = room
        · subst hu
          rw [wr_full (by omega) hn]
          obtain ⟨g2, hg2⟩ : ∃ g2, g' + stepN a data d = g2 + 1 := ⟨g' + stepN a data d - 1, by omega⟩
          rw [hg2, wrB, if_neg (by omega), if_neg hs, if_pos rfl]
        · rw [wr_new (by omega) hn hu, ih _ _ _ (by omega) h16' g' (by omega)]
          obtain ⟨m, hmm⟩ : ∃ m, stepN a data d = m + 1 := ⟨stepN a data d - 1, by omega⟩
          have hlt : d < data.length := by omega
          have hdr : data.drop d = data.getD d 0 :: data.drop (d + 1) := by
            rw [List.drop_eq_getElem_cons hlt, List.getD_eq_getElem?_getD, List.getElem?_eq_getElem hlt]; rfl
          have hcl : (chunkOf l ((a + d) / 16)).length = 16 := len16_chunkOf h16 _
          have e1 : wrB room a data (g' + stepN a data d) d u l = wrB room a data (g' + m) (d + 1) (u + 1) (byteL l (a + d) (data.getD d 0)) := by
            rw [hmm, show g' + (m + 1) = g' + m + 1 by omega, wrB, if_neg (by omega), if_neg hs, if_neg hu]
          rw [e1]
          unfold stepL
          rw [htk, hmm, hdr, List.take_succ_cons]
          by_cases hm0 : m = 0
          · subst hm0
            have : spl (chunkOf l ((a + d) / 16)) ((a + d) % 16) [data.getD d 0] = (chunkOf l ((a + d) / 16)).set ((a + d) % 16) (data.getD d 0) := by
              rw [← spl_cons _ _ _ _ (by omega)]; simp [spl]
            rw [List.take_zero, this]
            rfl
          · rw [show byteL l (a + d) (data.getD d 0) = put l ((a + d) / 16) ((chunkOf l ((a + d) / 16)).set ((a + d) % 16) (data.getD d 0)) from rfl]
            rw [wrB_run (K := (a + d) / 16) m g' (d + 1) (u + 1) _ (len16_put h16 (by rw [List.length_set]; exact hcl)) get_put_same (fun j hj => by omega) (by omega) (by omega)]
            have hmod : (a + (d + 1)) % 16 = (a + d) % 16 + 1 := by omega
            rw [chunkOf_put_same, put_put, hmod, spl_cons _ _ _ _ (by omega), show d + 1 + m = d + (m + 1) by omega]
/-- what a byte's writing does -/
theorem byteL_byte {l : CL} (h16 : Len16 l) (p : Nat) (x : UInt8) (q : Nat) : byteAt (byteL l p x) q = if q = p then x else byteAt l q := by
  unfold byteAt byteL
  rw [chunkOf_put]
  have hcl : (chunkOf l (p / 16)).length = 16 := len16_chunkOf h16 _
  by_cases hk : p / 16 = q / 16
  · rw [if_pos hk]
    simp only [List.getD_eq_getElem?_getD, List.getElem?_set]
    by_cases e : q = p
    · subst e; rw [if_pos rfl, if_pos rfl, if_pos (by omega)]; rfl
    · rw [if_neg e, if_neg (by omega), hk]
  · rw [if_neg hk, if_neg (by intro e; subst e; exact hk rfl)]
theorem byteL_get {l : CL} (p : Nat) (x : UInt8) (k : Nat) : (get (byteL l p x) k).isSome = if k = p / 16 then true else (get l k).isSome := by
  unfold byteL
  rw [get_put]
  by_cases e : p / 16 = k
  · rw [if_pos e, if_pos e.symm]; rfl
  · rw [if_neg e, if_neg (fun h => e h.symm)]
theorem byteL_okB {sz : Int} {l : CL} (h : OkB sz l) {p : Nat} (hp : p < 65536) (x : UInt8) : OkB (max sz ((p : Int) + 1)) (byteL l p x) := by
  obtain ⟨⟨g1, g2, g3⟩, h1, h2, h3, h4⟩ := h
  have hkeys : ∀ k, k ∈ keys (byteL l p x) ↔ k ∈ keys l ∨ k = p / 16 := fun k => by
    rw [← get_isSome, byteL_get, ← get_isSome]
    by_cases e : k = p / 16
    · rw [if_pos e]; exact ⟨fun _ => Or.inr e, fun _ => rfl⟩
    · rw [if_neg e]; exact ⟨Or.inl, fun h => h.elim id (fun h => absurd h e)⟩
  refine ⟨⟨nodup_put g1, fun k hk => ?_, len16_put g3 (by rw [List.length_set]; exact len16_chunkOf g3 _)⟩, fun k hk => ?_, fun q hq => ?_, by omega, by omega⟩
  · rcases (hkeys k).1 hk with h | h
    · exact g2 k h
    · omega
  · rcases (hkeys k).1 hk with h | h
    · have := h1 k h; omega
    · omega
  · rw [byteL_byte g3, if_neg (by omega)]; exact h2 q (by omega)
theorem byteL_bytes {sz : Int} {l : CL} (h : OkB sz l) (p : Nat) (x : UInt8) :
    bytesFrom (byteL l p x) 0 (max sz ((p : Int) + 1)).toNat = ((bytesFrom l 0 sz.toNat) ++ List.replicate (p + 1 - sz.toNat) 0).set p x := by
  have h16 := h.1.2.2
  refine List.ext_getElem? (fun q => ?_)
  rw [List.getElem?_set]
  by_cases hq : q < (max sz ((p : Int) + 1)).toNat
  · have e1 : (bytesFrom (byteL l p x) 0 (max sz ((p : Int) + 1)).toNat)[q]? = some (byteAt (byteL l p x) q) := by
      simp only [bytesFrom, List.getElem?_map, List.getElem?_range hq, Option.map_some, Nat.zero_add]
    rw [e1, byteL_byte h16]
    by_cases e : q = p
    · subst e
      rw [if_pos rfl, if_pos rfl, if_pos (by rw [List.length_append, length_bytesFrom, List.length_replicate]; omega)]
    · rw [if_neg e, if_neg (fun h => e h.symm)]
      by_cases hs : q < sz.toNat
      · rw [List.getElem?_append_left (by rw [length_bytesFrom]; exact hs)]
        simp only [bytesFrom, List.getElem?_map, List.getElem?_range hs, Option.map_some, Nat.zero_add]
      · rw [List.getElem?_append_right (by rw [length_bytesFrom]; omega), length_bytesFrom, List.getElem?_replicate, if_pos (by omega), h.2.2.1 q (by omega)]
  · rw [List.getElem?_eq_none (by rw [length_bytesFrom]; omega), if_neg (by omega), List.getElem?_eq_none (by rw [List.length_append, length_bytesFrom, List.length_replicate]; omega)]
theorem byteL_length {l : CL} (p : Nat) (x : UInt8) : (byteL l p x).length = if (get l (p / 16)).isSome = true then l.length else l.length + 1 := by
  unfold byteL
  rw [length_put]
  by_cases h : p / 16 ∈ keys l
  · rw [if_pos h, if_pos (get_isSome.2 h)]
  · rw [if_neg h, if_neg (fun hh => h (get_isSome.1 hh))]
end Go.V.Block
