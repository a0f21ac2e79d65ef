/-
  DentsDoes: acts with texts of a process's size; a directory and the reference's side by side.
-/
import Derived.Test.YtppmnjblcblofaaD22
import Derived.Test.YtppmnjblcblofaaD17
namespace Go.Proofs.Ytppmnjblcblofaa
open Go.ChangeShapes Go.WideShapes Go.ChangeAt Go.RowKit Go.V Go.V.Path Go.V.Dents
def ActOk2 (_ : World) (cs : List Value) (x : DAct) : Prop := cs = FA.cs x ∧ (bs x.name).size ≤ 9223372036854775807
theorem act2_of {H : Type} {enc : TypeId × Value → H} {W : World} {fuel : Nat} {cs : List Value} {x : DataW H × List MemPlace} (h : DataW.trod enc Try.prog W 0 (fun _ => true) true fuel 31 cs = some x) : ∃ x : DAct, ActOk2 W cs x := by
  obtain ⟨xs, k, rfl, rfl, hl, hlen, hf⟩ := DataW.trod_struct Try.underlying31 h
  have hl : cs.length = 3 := hl
  match cs, hl with
  | [u0, u1, u2], _ =>
    have f0 := hf 0 _ rfl
    have f1 := hf 1 _ rfl
    have f2 := hf 2 _ rfl
    have hxl : xs.length = 3 := hlen
    rw [List.getElem?_eq_getElem (by omega)] at f0 f1 f2
    obtain ⟨a0, e0, _, b0⟩ := DataW.trod_int Try.underlying3 f0
    obtain ⟨a1, e1, _, b1⟩ := DataW.trod_string Try.underlying9 f1
    obtain ⟨a2, e2, _, b2⟩ := DataW.trod_int Try.underlying3 f2
    have e0 : [u0] = [.int .i64 a0] := e0
    have e1 : [u1] = [.string a1] := e1
    have e2 : [u2] = [.int .i64 a2] := e2
    cases e0; cases e1; cases e2
    refine ⟨⟨a0, a1.data.toList, a2⟩, ?_, ?_⟩
    · show [Value.int .i64 a0, Value.string a1, Value.int .i64 a2] = [Value.int .i64 a0, Value.string (bs a1.data.toList), Value.int .i64 a2]
      rw [bs_data]
    · show (bs a1.data.toList).size ≤ _
      rw [bs_data]
      exact Nat.le_trans b1 (by decide)
theorem acts2_of {H : Type} {enc : TypeId × Value → H} {W : World} {fuel : Nat} {v : Value} {x : DataW H × List MemPlace} (h : DataW.trod enc Try.prog W 0 (fun _ => true) true fuel 22 [v] = some x) : ∃ l : List DAct, SG FA W v l ∧ ∀ x ∈ l, (bs x.name).size ≤ 9223372036854775807 := by
  obtain ⟨l, hl⟩ := slice_of (R := ActOk2) Try.underlying22 (s := 3) (by kernel_rfl) (by omega) (fun _ _ _ h => act2_of h) h
  refine ⟨l, SG.of (F := FA) (fun _ _ _ h => h.1) (by decide) hl, fun x hx => ?_⟩
  obtain ⟨p, cap, _, _, _, h3⟩ := hl
  obtain ⟨i, hi⟩ := List.mem_iff_getElem?.1 hx
  obtain ⟨b, o, _, _, he⟩ := h3 (by have := (List.getElem?_eq_some_iff.1 hi).1; omega)
  obtain ⟨cs, _, _, hr⟩ := he i x hi
  exact hr.2
/-- a directory, the reference's, both made by the call -/
structure DR (W : World) (db rb : Nat) (v u : Value) (ld lr : List Ent) (wx : World) : Prop where
  d : DI W db v ld wx
  gr : W.heap.size ≤ rb
  gu : ∀ g, u.ownBlock = some g → W.heap.size ≤ g
  r : RAt wx rb u lr
  ap : ∀ g, v.ownBlock = some g → u.ownBlock ≠ some g
/-- the act at hand -/
def AB (ab : Nat) (x : DAct) (wx : World) : Prop := wx.heap[ab]? = some (.cells #[.int .i64 x.kind, .string (bs x.name), .int .i64 x.ino] 31 (0, 0))
theorem AB.keep {ab : Nat} {x : DAct} {wx w' : World} (h : AB ab x wx) (hk : Keeps [] wx w') : AB ab x w' := hk.get h (by simp)
theorem AB.cells {ab : Nat} {x : DAct} {wx : World} (h : AB ab x wx) : wx.cell? ⟨ab, 0, none⟩ = some (.int .i64 x.kind) ∧ wx.cell? ⟨ab, 1, none⟩ = some (.string (bs x.name)) ∧ wx.cell? ⟨ab, 2, none⟩ = some (.int .i64 x.ino) :=
  ⟨cell_of h rfl, cell_of h rfl, cell_of h rfl⟩
section
variable {W wx w' : World} {db rb : Nat} {v u : Value} {ld lr l' : List Ent}
theorem DR.keep (h : DR W db rb v u ld lr wx) (hk : Keeps [] wx w') : DR W db rb v u ld lr w' := ⟨h.d.keep hk, h.gr, h.gu, h.r.keep hk, h.ap⟩
theorem ne_of_types {w : World} {a b : Nat} {x y : Array Value} {s t : TypeId} {f g : Nat × Nat} (ha : w.heap[a]? = some (.cells x s f)) (hb : w.heap[b]? = some (.cells y t g)) (hne : s ≠ t) : a ≠ b := by
  rintro rfl
  rw [ha] at hb
  simp only [Option.some.injEq, Obj.cells.injEq] at hb
  exact hne hb.2.1
theorem DR.chg (h : DR W db rb v u ld lr wx) (hs : Srt l') (hc : Chg db v l' wx w') : ∃ v', DR W db rb v' u l' lr w' := by
  obtain ⟨v1, k1, k2, k3⟩ := id hc
  obtain ⟨_, hd⟩ := h.d.chg hs hc
  have hn1 : rb ∉ db :: v.ownBlock.toList := by
    intro hm
    simp only [List.mem_cons, Option.mem_toList] at hm
    rcases hm with q | q
    · exact ne_of_types h.r.1 h.d.2.2.1.1 (by decide) q
    · exact h.d.2.2.1.2.ne h.r.1 (by decide) q
  have hn2 : ∀ x ∈ db :: v.ownBlock.toList, u.ownBlock ≠ some x := by
    intro x hx hq
    simp only [List.mem_cons, Option.mem_toList] at hx
    rcases hx with rfl | hx
    · exact h.r.2.ne h.d.2.2.1.1 (by decide) hq
    · exact h.ap x hx hq
  refine ⟨v1, ⟨h.d.1, fun g hq => ?_, k1, hs, hd.2.2.2.2⟩, h.gr, h.gu, ⟨k3.get h.r.1 hn1, h.r.2.keep k3 hn2⟩, fun g h1 h2 => ?_⟩
  · rcases k2 g hq with q | q
    · exact h.d.2.1 g q
    · exact Nat.le_trans h.d.2.2.2.2.size q
  · rcases k2 g h1 with q | q
    · exact h.ap g q h2
    · have := h.r.2.lt h2
      omega
theorem DR.rset (h : DR W db rb v u ld lr wx) (hc : RSet rb u l' wx w') : ∃ u', DR W db rb v u' ld l' w' := by
  obtain ⟨u1, k1, k2, k3⟩ := hc
  have hn1 : db ∉ [rb] := fun hm => ne_of_types h.d.2.2.1.1 h.r.1 (by decide) (List.mem_singleton.1 hm)
  have hn2 : ∀ x ∈ [rb], v.ownBlock ≠ some x := fun x hx => by obtain rfl := List.mem_singleton.1 hx; exact h.d.2.2.1.2.ne h.r.1 (by decide)
  refine ⟨u1, ⟨h.d.1, h.d.2.1, ⟨k3.get h.d.2.2.1.1 hn1, h.d.2.2.1.2.keep k3 hn2⟩, h.d.2.2.2.1, h.d.2.2.2.2.trans' k3 (fun z hz => Or.inr (by obtain rfl := List.mem_singleton.1 hz; exact h.gr))⟩, h.gr, fun g hq => ?_, k1, fun g h1 h2 => ?_⟩
  · rcases k2 g hq with q | q
    · exact h.gu g q
    · exact Nat.le_trans h.d.2.2.2.2.size q
  · rcases k2 g h2 with q | q
    · exact h.ap g h1 q
    · have := h.d.2.2.1.2.lt h1
      omega
theorem AB.chg {ab : Nat} {x : DAct} (ha : AB ab x wx) (h : DR W db rb v u ld lr wx) (hc : Chg db v l' wx w') : AB ab x w' := by
  obtain ⟨_, _, _, k3⟩ := hc
  refine k3.get ha fun hm => ?_
  simp only [List.mem_cons, Option.mem_toList] at hm
  rcases hm with q | q
  · exact ne_of_types ha h.d.2.2.1.1 (by decide) q
  · exact h.d.2.2.1.2.ne ha (by decide) q
theorem AB.rset {ab : Nat} {x : DAct} (ha : AB ab x wx) (h : DR W db rb v u ld lr wx) (hc : RSet rb u l' wx w') : AB ab x w' := by
  obtain ⟨_, _, _, k3⟩ := hc
  exact k3.get ha fun hm => ne_of_types ha h.r.1 (by decide) (List.mem_singleton.1 hm)
end
end Go.Proofs.Ytppmnjblcblofaa
