/-
  The plain side of package block: chunks as an association list.
-/
import Derived.Test.YthkeahjcokbaaaaV1
namespace Go.V.Block
open Go.V

abbrev CL := List (Nat × List UInt8)
def zero16 : List UInt8 := List.replicate 16 0
def chunkOf (l : CL) (k : Nat) : List UInt8 := (get l k).getD zero16
def stepN (a : Nat) (data : List UInt8) (done : Nat) : Nat := min (16 - (a + done) % 16) (data.length - done)
def stepL (a : Nat) (data : List UInt8) (done : Nat) (l : CL) : CL :=
  put l ((a + done) / 16) (spl (chunkOf l ((a + done) / 16)) ((a + done) % 16) ((data.drop done).take (16 - (a + done) % 16)))
/-- the loop of Write: (done, used, chunks) -/
def wr (room : Int) (a : Nat) (data : List UInt8) : Nat → Nat → Int → CL → Nat × Int × CL
  | 0, done, used, l => (done, used, l)
  | f + 1, done, used, l =>
    if data.length ≤ done then (done, used, l)
    else if (get l ((a + done) / 16)).isSome = true then wr room a data f (done + stepN a data done) used (stepL a data done l)
    else if used = room then (done, used, l)
    else wr room a data f (done + stepN a data done) (used + 1) (stepL a data done l)
theorem wr_over {room : Int} {a : Nat} {data : List UInt8} {f done : Nat} {used : Int} {l : CL} (h : data.length ≤ done) : wr room a data f done used l = (done, used, l) := by
  cases f <;> simp [wr, h]
theorem wr_in {room : Int} {a : Nat} {data : List UInt8} {f done : Nat} {used : Int} {l : CL} {c : List UInt8} (h : done < data.length) (hg : get l ((a + done) / 16) = some c) :
    wr room a data (f + 1) done used l = wr room a data f (done + stepN a data done) used (stepL a data done l) := by
  rw [wr, if_neg (by omega), if_pos (by rw [hg]; rfl)]
theorem wr_full {room : Int} {a : Nat} {data : List UInt8} {f done : Nat} {l : CL} (h : done < data.length) (hg : get l ((a + done) / 16) = none) :
    wr room a data (f + 1) done room l = (done, room, l) := by
  rw [wr, if_neg (by omega), if_neg (by rw [hg]; simp), if_pos rfl]
theorem wr_new {room : Int} {a : Nat} {data : List UInt8} {f done : Nat} {used : Int} {l : CL} (h : done < data.length) (hg : get l ((a + done) / 16) = none) (hu : used ≠ room) :
    wr room a data (f + 1) done used l = wr room a data f (done + stepN a data done) (used + 1) (stepL a data done l) := by
  rw [wr, if_neg (by omega), if_neg (by rw [hg]; simp), if_neg hu]
theorem wr_le {room : Int} {a : Nat} {data : List UInt8} : ∀ {f done : Nat} {used : Int} {l : CL}, done ≤ data.length → (wr room a data f done used l).1 ≤ data.length
  | 0, _, _, _, h => h
  | f + 1, done, used, l, h => by
    have hs : done + stepN a data done ≤ data.length := by unfold stepN; omega
    rw [wr]
    split
    · exact h
    · split
      · exact wr_le hs
      · split
        · exact h
        · exact wr_le hs
def Len16 (l : CL) : Prop := ∀ k c, get l k = some c → c.length = 16
def keyV (k : Nat) : Value := .int .i64 (k : Int)
def chunkV (c : List UInt8) : Value := .agg (c.map bv).toArray
theorem chunkV_spl (c : List UInt8) (i : Nat) (xs : List UInt8) : chunkV (spl c i xs) = .agg (spl (c.map bv) i (xs.map bv)).toArray := by simp only [chunkV, spl_map]
theorem len16_put {l : CL} {k : Nat} {c : List UInt8} (h : Len16 l) (hc : c.length = 16) : Len16 (put l k c) := by
  intro x d hd
  rw [get_put] at hd
  split at hd
  · cases hd; exact hc
  · exact h x d hd
theorem len16_chunkOf {l : CL} (h : Len16 l) (k : Nat) : (chunkOf l k).length = 16 := by
  unfold chunkOf
  cases hg : get l k with
  | none => rfl
  | some c => exact h k c hg
theorem oneCell_bv (xs : List UInt8) : ∀ v ∈ xs.map bv, v.oneCell' = true := by
  intro v hv
  obtain ⟨x, _, rfl⟩ := List.mem_map.1 hv
  rfl
/-- the byte at place p -/
def byteAt (l : CL) (p : Nat) : UInt8 := (chunkOf l (p / 16)).getD (p % 16) 0
/-- bytes from place a on, n of them -/
def bytesFrom (l : CL) (a n : Nat) : List UInt8 := (List.range n).map fun i => byteAt l (a + i)
theorem length_bytesFrom (l : CL) (a n : Nat) : (bytesFrom l a n).length = n := by simp [bytesFrom]
theorem bytesFrom_succ (l : CL) (a n : Nat) : bytesFrom l a (n + 1) = bytesFrom l a n ++ [byteAt l (a + n)] := by simp [bytesFrom, List.range_succ]
/-- n bytes of m are there, the others 0 -/
def sofar (l : CL) (a n m : Nat) : List UInt8 := bytesFrom l a n ++ List.replicate (m - n) 0
theorem sofar_zero (l : CL) (a m : Nat) : sofar l a 0 m = List.replicate m 0 := by simp [sofar, bytesFrom]
theorem sofar_all (l : CL) (a m : Nat) : sofar l a m m = bytesFrom l a m := by simp [sofar]
theorem length_sofar (l : CL) (a n m : Nat) (h : n ≤ m) : (sofar l a n m).length = m := by simp [sofar, length_bytesFrom]; omega
theorem sofar_set (l : CL) (a n m : Nat) (h : n < m) : (sofar l a n m).set n (byteAt l (a + n)) = sofar l a (n + 1) m := by
  obtain ⟨d, rfl⟩ : ∃ d, m = n + 1 + d := ⟨m - (n + 1), by omega⟩
  have e1 : n + 1 + d - n = d + 1 := by omega
  have e2 : n + 1 + d - (n + 1) = d := by omega
  simp only [sofar, e1, e2, bytesFrom_succ, List.replicate_succ]
  rw [List.set_append_right _ _ (by rw [length_bytesFrom]; omega), length_bytesFrom]
  simp
theorem map_replicate_bv (n : Nat) : (List.replicate n (0 : UInt8)).map bv = List.replicate n (.int .u8 0) := by simp [bv]
theorem map_set_bv (xs : List UInt8) (i : Nat) (x : UInt8) : (xs.set i x).map bv = (xs.map bv).set i (bv x) := List.map_set ..
/-- the chunks below n that aren't there -/
def holesTo (l : CL) (n : Nat) : List Int := ((List.range n).filter fun k => (get l k).isNone).map Int.ofNat
theorem holesTo_succ (l : CL) (n : Nat) : holesTo l (n + 1) = if (get l n).isNone = true then holesTo l n ++ [(n : Int)] else holesTo l n := by
  simp only [holesTo, List.range_succ, List.filter_append, List.map_append]
  by_cases h : (get l n).isNone = true
  · rw [if_pos h]; simp only [List.filter_cons, h, if_true, List.filter_nil, List.map_cons, List.map_nil]; rfl
  · rw [if_neg h]; simp only [List.filter_cons, h, Bool.false_eq_true, if_false, List.filter_nil, List.map_nil, List.append_nil]
theorem length_holesTo (l : CL) (n : Nat) : (holesTo l n).length ≤ n := by
  simp only [holesTo, List.length_map]; exact Nat.le_trans (List.length_filter_le _ _) (by simp)
/-- a store's and a body's state -/
structure BS where
  used : Int
  sz : Int
  l : CL
def writeM (room : Int) (s : BS) (off : Int) (data : List UInt8) : Int × Int × BS :=
  if off < 0 then (0, 22, s) else if data.length = 0 then (0, 0, s) else if 65536 ≤ off then (0, 27, s) else
  let R := wr room off.toNat (data.take (65536 - off.toNat)) (min data.length (65536 - off.toNat)) 0 s.used s.l
  (R.1, if R.1 = 0 then 28 else 0, ⟨R.2.1, if R.1 = 0 then s.sz else max s.sz (off + R.1), R.2.2⟩)
def readM (s : BS) (off n : Int) : List UInt8 × Int :=
  if off < 0 ∨ n < 0 then ([], 22) else if s.sz ≤ off then ([], 0) else (bytesFrom s.l off.toNat (min n (s.sz - off)).toNat, 0)
theorem wr_used {room : Int} {a : Nat} {data : List UInt8} : ∀ {f done : Nat} {used : Int} {l : CL}, 0 ≤ used → used ≤ room → 0 ≤ (wr room a data f done used l).2.1 ∧ (wr room a data f done used l).2.1 ≤ room
  | 0, _, _, _, h, h2 => ⟨h, h2⟩
  | f + 1, done, used, l, h, h2 => by
    rw [wr]
    split
    · exact ⟨h, h2⟩
    · split
      · exact wr_used h h2
      · split
        · exact ⟨h, h2⟩
        · exact wr_used (by omega) (by omega)
theorem writeM_used {room : Int} {s : BS} {off : Int} {data : List UInt8} (h : 0 ≤ s.used) (h2 : s.used ≤ room) : 0 ≤ (writeM room s off data).2.2.used ∧ (writeM room s off data).2.2.used ≤ room := by
  unfold writeM
  split
  · exact ⟨h, h2⟩
  · split
    · exact ⟨h, h2⟩
    · split
      · exact ⟨h, h2⟩
      · exact wr_used h h2
def SAt (w : World) (sb : Nat) (room used : Int) : Prop := w.heap[sb]? = some (.cells #[.int .i64 room, .int .i64 used] 65 (0, 0))
def BAt (w : World) (bb mb : Nat) (sz : Int) (l : CL) : Prop :=
  w.heap[bb]? = some (.cells #[.int .i64 sz, .map (some mb)] 68 (0, 0)) ∧ MapAt w mb keyV chunkV l ∧ Len16 l ∧ 0 ≤ sz ∧ sz ≤ 65536
theorem SAt.keep {S : List Nat} {w w' : World} {sb : Nat} {room used : Int} (h : SAt w sb room used) (hk : Keeps S w w') (hn : sb ∉ S) : SAt w' sb room used := hk.get h hn
theorem BAt.keep {S : List Nat} {w w' : World} {bb mb : Nat} {sz : Int} {l : CL} (h : BAt w bb mb sz l) (hk : Keeps S w w') (hn : bb ∉ S) (hm : mb ∉ S) : BAt w' bb mb sz l :=
  ⟨hk.get h.1 hn, h.2.1.keep hk hm, h.2.2⟩
theorem SAt.lt {w : World} {sb : Nat} {room used : Int} (h : SAt w sb room used) : sb < w.heap.size := lt_of_heap h
theorem BAt.lt {w : World} {bb mb : Nat} {sz : Int} {l : CL} (h : BAt w bb mb sz l) : bb < w.heap.size ∧ mb < w.heap.size := ⟨lt_of_heap h.1, h.2.1.lt⟩
theorem BAt.ne {w : World} {bb mb : Nat} {sz : Int} {l : CL} (h : BAt w bb mb sz l) : bb ≠ mb := by
  intro e
  obtain ⟨es, clk, h2⟩ := h.2.1.heap
  rw [← e, h.1] at h2; cases h2
end Go.V.Block
