/-
  DentsTurned: the plain law; texts that came in; two directories.
-/
import Derived.Test.YtppmnjblcblofaaD16
import Derived.Test.YtppmnjblcblofaaD17
import Derived.Deep.Strs
namespace Go.V.Dents
open Go Go.V Go.V.Path
def LA (nm : Nat → List UInt8) : Nat → List Ent
  | 0 => []
  | i + 1 => setL (LA nm i) (nm i) ((i : Int) + 1)
def LB (nm : Nat → List UInt8) (K : Nat) : Nat → List Ent
  | 0 => []
  | i + 1 => setL (LB nm K i) (nm (K - 1 - i)) ((K : Int) - i)
theorem la_srt (nm : Nat → List UInt8) : ∀ i, Srt (LA nm i) ∧ (LA nm i).length ≤ i
  | 0 => ⟨Srt.nil, Nat.le_refl _⟩
  | i + 1 => ⟨(la_srt nm i).1.set _ _, Nat.le_trans (length_set _ _) (Nat.succ_le_succ (la_srt nm i).2)⟩
theorem lb_srt (nm : Nat → List UInt8) (K : Nat) : ∀ i, Srt (LB nm K i) ∧ (LB nm K i).length ≤ i
  | 0 => ⟨Srt.nil, Nat.le_refl _⟩
  | i + 1 => ⟨(lb_srt nm K i).1.set _ _, Nat.le_trans (length_set _ _) (Nat.succ_le_succ (lb_srt nm K i).2)⟩
theorem mem_setL {l : List Ent} (h : Srt l) {t : List UInt8} {ino : Int} (hne : ∀ x ∈ l, x.name ≠ t) {x : Ent} : x ∈ setL l t ino ↔ (x = ⟨t, ino⟩ ∧ setE t ino = 0) ∨ x ∈ l := by
  unfold setL
  by_cases he : setE t ino = 0
  · rw [if_pos he, mem_put h]
    constructor
    · rintro (rfl | ⟨h1, _⟩)
      · exact Or.inl ⟨rfl, he⟩
      · exact Or.inr h1
    · rintro (⟨rfl, _⟩ | h1)
      · exact Or.inl rfl
      · exact Or.inr ⟨h1, hne x h1⟩
  · rw [if_neg he]
    exact ⟨Or.inr, fun q => q.elim (fun q => absurd q.2 he) id⟩
theorem mem_la {nm : Nat → List UInt8} {K : Nat} (inj : ∀ i j, i < K → j < K → nm i = nm j → i = j) : ∀ i, i ≤ K → ∀ x, x ∈ LA nm i ↔ ∃ j, j < i ∧ x = ⟨nm j, (j : Int) + 1⟩ ∧ setE (nm j) ((j : Int) + 1) = 0
  | 0, _, x => ⟨fun h => (by cases h), fun ⟨j, h, _⟩ => by omega⟩
  | i + 1, hi, x => by
    have ih := mem_la inj i (by omega)
    show x ∈ setL (LA nm i) (nm i) ((i : Int) + 1) ↔ _
    rw [mem_setL (la_srt nm i).1 (fun y hy hn => by
      obtain ⟨j, hj, rfl, _⟩ := (ih y).1 hy
      have := inj j i (by omega) (by omega) hn
      omega), ih x]
    constructor
    · rintro (⟨h1, h2⟩ | ⟨j, h1, h2, h3⟩)
      · exact ⟨i, by omega, h1, h2⟩
      · exact ⟨j, by omega, h2, h3⟩
    · rintro ⟨j, h1, h2, h3⟩
      rcases Nat.lt_or_ge j i with q | q
      · exact Or.inr ⟨j, q, h2, h3⟩
      · obtain rfl : j = i := by omega
        exact Or.inl ⟨h2, h3⟩
theorem mem_lb {nm : Nat → List UInt8} {K : Nat} (inj : ∀ i j, i < K → j < K → nm i = nm j → i = j) : ∀ i, i ≤ K → ∀ x, x ∈ LB nm K i ↔ ∃ j, K - i ≤ j ∧ j < K ∧ x = ⟨nm j, (j : Int) + 1⟩ ∧ setE (nm j) ((j : Int) + 1) = 0
  | 0, _, x => ⟨fun h => (by cases h), fun ⟨j, h, _⟩ => by omega⟩
  | i + 1, hi, x => by
    have ih := mem_lb inj i (by omega)
    have e : (K : Int) - i = ((K - 1 - i : Nat) : Int) + 1 := by omega
    show x ∈ setL (LB nm K i) (nm (K - 1 - i)) ((K : Int) - i) ↔ _
    rw [mem_setL (lb_srt nm K i).1 (fun y hy hn => by
      obtain ⟨j, hj, hjk, rfl, _⟩ := (ih y).1 hy
      have := inj j (K - 1 - i) (by omega) (by omega) hn
      omega), ih x, e]
    constructor
    · rintro (⟨h1, h2⟩ | ⟨j, h1, h2, h3⟩)
      · exact ⟨K - 1 - i, by omega, by omega, h1, h2⟩
      · exact ⟨j, by omega, h2, h3⟩
    · rintro ⟨j, h0, h1, h2, h3⟩
      rcases Nat.lt_or_ge (K - 1 - i) j with q | q
      · exact Or.inr ⟨j, by omega, h1, h2, h3⟩
      · obtain rfl : j = K - 1 - i := by omega
        exact Or.inl ⟨h2, h3⟩
theorem la_lb {nm : Nat → List UInt8} {K : Nat} (inj : ∀ i j, i < K → j < K → nm i = nm j → i = j) : LB nm K K = LA nm K := by
  refine (lb_srt nm K K).1.ext (la_srt nm K).1 fun x => ?_
  rw [mem_lb inj K (Nat.le_refl _) x, mem_la inj K (Nat.le_refl _) x]
  constructor
  · rintro ⟨j, _, h1, h2⟩; exact ⟨j, h1, h2⟩
  · rintro ⟨j, h1, h2⟩; exact ⟨j, by omega, h1, h2⟩
/-- texts in memory -/
def FB : Form (List UInt8) := ⟨1, fun l => [.string (bs l)], fun _ => rfl, fun _ u hu => by
  simp only [List.mem_cons, List.not_mem_nil, or_false] at hu
  subst hu; rfl⟩
def txV (l : List UInt8) : Value := .string (bs l)
def boV (b : Bool) : Value := .bool b
/-- which texts were seen -/
def SM (w : World) (mb : Nat) (f : List UInt8 → Bool) : Prop := ∃ m : List (List UInt8 × Bool), MapAt w mb txV boV m ∧ ∀ k, (get m k).getD false = f k
theorem SM.keep {S : List Nat} {w w' : World} {mb : Nat} {f : List UInt8 → Bool} (h : SM w mb f) (hk : Keeps S w w') (hn : mb ∉ S) : SM w' mb f := by
  obtain ⟨m, h1, h2⟩ := h
  exact ⟨m, h1.keep hk hn, h2⟩
theorem SM.made (w : World) : SM (w.alloc (.map #[] 0)) w.heap.size (fun _ => false) := ⟨[], MapAt.made w txV boV, fun _ => rfl⟩
end Go.V.Dents
namespace Go.Proofs.Ytppmnjblcblofaa
open Go.ChangeShapes Go.WideShapes Go.ChangeAt Go.RowKit Go.V Go.V.Path Go.V.Dents
theorem kT : KeyOk Try.prog 9 txV := ⟨⟨_, Try.underlying9, fun _ => trivial⟩, fun a b h => by
  simp only [txV, Value.string.injEq] at h
  have := congrArg (fun s : ByteArray => s.data.toList) h
  simpa only [bs_dataL] using this⟩
theorem sm_look {w : World} {mb : Nat} {f : List UInt8 → Bool} (h : SM w mb f) (k : List UInt8) : (Instr.lookup 47 (.map (some mb)) (.string (bs k)) false).run Try.prog w = .ok (.bool (f k)) w := by
  obtain ⟨m, h1, h2⟩ := h
  have := h1.lookup kT Try.underlying47 (z := .bool false) (et := 4) (by kernel_rfl) k false
  rw [← h2 k]
  cases hg : get m k with
  | none => rw [hg] at this; exact this
  | some b => rw [hg] at this; exact this
section
variable {ops : Array Oper} {rest : List Oper} {o : Oper} {a : Act} {Q : Exit → Act → World → Prop} {w : World}
theorem vp_sm (hg : o.guard = none) (m x v : Operand) (hop : o.op = Op.mapUpdate 47 m x v) {mb : Nat} {f : List UInt8 → Bool} (hm : a.eval m = .map (some mb)) (k : List UInt8) (hx : a.eval x = .string (bs k)) (b : Bool) (hv : a.eval v = .bool b) (h : SM w mb f)
    (hK : ∀ w', SM w' mb (fun j => if k = j then b else f j) → Keeps [mb] w w' → wpList Try.prog ops Q rest (a.put o.dst undef) w') : wpList Try.prog ops Q (o :: rest) a w := by
  obtain ⟨l, h1, h2⟩ := h
  refine vp_update hg m x v 47 hop 9 4 Try.underlying47 kT hm k hx b hv h1 ?_
  intro w' h3 h4
  refine hK w' ⟨_, h3, fun j => ?_⟩ h4
  rw [get_put]
  show _ = if k = j then b else f j
  by_cases e : k = j
  · rw [if_pos e, if_pos e]; rfl
  · rw [if_neg e, if_neg e]; exact h2 j
end
theorem names_of {H : Type} {enc : TypeId × Value → H} {W : World} {fuel : Nat} {v : Value} {x : DataW H × List MemPlace} (h : DataW.trod enc Try.prog W 0 (fun _ => true) true fuel 46 [v] = some x) : ∃ ns : List (List UInt8), SG FB W v ns := by
  rcases Go.Deep.open_strs Try.underlying46 Try.underlying9 (by kernel_rfl) h with ⟨hc, _⟩ | ⟨a, len, cap, m, Sx, hc, _, hl, hm, hmm, rfl, hx⟩
  · cases hc
    exact ⟨[], (RowG.nil FB 9 W).sg⟩
  · cases hc
    have hlm : len ≤ m := by rw [hmm]; split <;> omega
    refine ⟨(List.range len).map (fun i => (Sx i).data.toList), ?_⟩
    refine ⟨some a, cap, by rw [List.length_map, List.length_range], by rw [List.length_map, List.length_range]; exact hl, by unfold maxLen at hm; omega, fun h0 => ?_⟩
    rw [List.length_map, List.length_range] at h0
    have hsp : a.spot = none := by
      have h1 := (hx 0 (by omega)).1
      cases hs : a.spot with
      | none => rfl
      | some q =>
        simp [World.cell?, Addr.add, hs] at h1
        split at h1 <;> cases h1
    obtain ⟨b, o, sp⟩ := a
    subst hsp
    refine ⟨b, o, rfl, fun j u hu => ?_⟩
    have hj : j < len := by
      have := (List.getElem?_eq_some_iff.1 hu).1
      rw [FB.length_all, List.length_map, List.length_range] at this
      have e : len * FB.s = len := Nat.mul_one len
      omega
    have hget := FB.all_get ((List.range len).map (fun i => (Sx i).data.toList)) j 0 (Sx j).data.toList (by rw [List.getElem?_map, List.getElem?_range hj]; rfl) (by decide)
    rw [show j * FB.s + 0 = j from Nat.mul_one j] at hget
    rw [hget] at hu
    have hu : some (Value.string (bs (Sx j).data.toList)) = some u := hu
    have hc := (hx j (by omega)).1
    rw [add_none] at hc
    rw [hc, ← hu, bs_data]
theorem sg_txt {w : World} {p : Option Addr} {n c : Nat} {l : List (List UInt8)} (h : SG FB w (.slice p n c) l) {i : Nat} {x : List UInt8} (hx : l[i]? = some x) :
    ∃ b o, p = some ⟨b, o, none⟩ ∧ ∀ w', Keeps [] w w' → w'.cell? ⟨b, o + i, none⟩ = some (.string (bs x)) := by
  obtain ⟨b, o, c', hv⟩ := h.shape (by have := (List.getElem?_eq_some_iff.1 hx).1; omega)
  simp only [Value.slice.injEq] at hv
  obtain ⟨rfl, h2, h3⟩ := hv
  refine ⟨b, o, rfl, fun w' hk => ?_⟩
  have h' := (h.keep hk (by simp)).item rfl hx (j := 0) (u := .string (bs x)) rfl
  rw [show o + i * FB.s + 0 = o + i from by show o + i * 1 + 0 = o + i; omega] at h'
  exact h'
/-- two directories that lie apart -/
structure Two (W : World) (a b : Nat) (va vb : Value) (la lb : List Ent) (wx : World) : Prop where
  ea : DI W a va la wx
  eb : DI W b vb lb wx
  ne : a ≠ b
  ap : ∀ g, va.ownBlock = some g → vb.ownBlock ≠ some g
theorem Two.swap {W wx : World} {a b : Nat} {va vb : Value} {la lb : List Ent} (h : Two W a b va vb la lb wx) : Two W b a vb va lb la wx :=
  ⟨h.eb, h.ea, fun e => h.ne e.symm, fun g h1 h2 => h.ap g h2 h1⟩
theorem Two.keep {W wx w' : World} {a b : Nat} {va vb : Value} {la lb : List Ent} (h : Two W a b va vb la lb wx) (hk : Keeps [] wx w') : Two W a b va vb la lb w' :=
  ⟨h.ea.keep hk, h.eb.keep hk, h.ne, h.ap⟩
theorem Two.chg {W wx w' : World} {a b : Nat} {va vb : Value} {la lb l' : List Ent} (h : Two W a b va vb la lb wx) (hs : Srt l') (hc : Chg a va l' wx w') : ∃ va', Two W a b va' vb l' lb w' := by
  obtain ⟨v1, k1, k2, k3⟩ := id hc
  obtain ⟨v', hd⟩ := h.ea.chg hs hc
  have hnb : b ∉ a :: va.ownBlock.toList := by
    intro hm
    simp only [List.mem_cons, Option.mem_toList] at hm
    rcases hm with q | q
    · exact h.ne q.symm
    · exact h.ea.2.2.1.2.ne h.eb.2.2.1.1 (by decide) q
  have hnv : ∀ x ∈ a :: va.ownBlock.toList, vb.ownBlock ≠ some x := by
    intro x hx hq
    simp only [List.mem_cons, Option.mem_toList] at hx
    rcases hx with rfl | hx
    · exact h.eb.2.2.1.2.ne h.ea.2.2.1.1 (by decide) hq
    · exact h.ap x hx hq
  have hkk : Keeps [] W w' := hd.2.2.2.2
  refine ⟨v1, ⟨h.ea.1, fun g hq => ?_, k1, hs, hkk⟩, ⟨h.eb.1, h.eb.2.1, ⟨k3.get h.eb.2.2.1.1 hnb, h.eb.2.2.1.2.keep k3 hnv⟩, h.eb.2.2.2.1, hkk⟩, h.ne, fun g h1 h2 => ?_⟩
  · rcases k2 g hq with q | q
    · exact h.ea.2.1 g q
    · exact Nat.le_trans h.ea.2.2.2.2.size q
  · rcases k2 g h1 with q | q
    · exact h.ap g q h2
    · have := h.eb.2.2.1.2.lt h2
      omega
end Go.Proofs.Ytppmnjblcblofaa
