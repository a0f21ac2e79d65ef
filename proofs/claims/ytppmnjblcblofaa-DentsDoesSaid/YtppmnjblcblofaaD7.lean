/-
  Package dents: Next, walked.
-/
import Derived.Test.YtppmnjblcblofaaD6
namespace Go.Proofs.Ytppmnjblcblofaa
open Go.RowKit Go.V Go.V.Path Go.V.Dents
theorem results_ct {fn : Func} {a u : Tmp} {t : TypeId} {tmps : Array Value} {P : Program} {w : World} {b : Nat} {v : Value} (h : fn.results = #[.cell a t, .tmp u]) (hp : tmps.getD a undef = .pointer (some ⟨b, 0, none⟩)) (hl : (loadVar t ⟨b, 0, none⟩).run P w = .ok v w) :
    (results fn tmps).run P w = .ok (.tuple #[v, tmps.getD u undef]) w := by
  rw [Array.getD_eq_getD_getElem?] at hp
  simp [results, h, hp, asAddr, hl]
theorem load37 {w : World} {b : Nat} {v u : Value} (hb : w.heap[b]? = some (.cells #[v, u] 37 (0, 0))) : (loadVar 37 ⟨b, 0, none⟩).run Try.prog w = .ok (.agg #[v, u]) w :=
  run_loadVar_row w b 37 37 #[v, u] (0, 0) _ hb Try.underlying37 rfl (by kernel_rfl)
def entV : Option Ent → Value
  | none => .agg #[.string (bs []), .int .i64 0]
  | some x => .agg #[.string (bs x.name), .int .i64 x.ino]
def NextD (o : Option Ent) (w : World) (e : Ending) (w' : World) : Prop := e = .returned (.tuple #[entV o, .bool o.isSome]) ∧ Keeps [] w w'
set_option maxHeartbeats 4000000 in
theorem dnext_ok (db : Nat) (v : Value) (l : List Ent) (t : List UInt8) (w : World) (h : DirAt w db v l) (hs : Srt l) (hl : l.length ≤ 1000) :
    Calls Try.prog 16 #[PT db, .string (bs t)] w (NextD (nextO l t) w) := by
  obtain ⟨p, M, c, rfl, hM⟩ := ent_shape h.2
  have H := Lib.hid (And.intro h (And.intro hs (And.intro hM hl)))
  have hM1 : M ≤ 1000 := by omega
  clear h hs hl hM
  obtain ⟨q, hq⟩ : ∃ q, q = pos l t := ⟨_, rfl⟩
  obtain ⟨r, hr⟩ : ∃ r, r = has l t := ⟨_, rfl⟩
  have hqM : q ≤ M := by rw [hq, H.out.2.2.1]; exact pos_le l t
  have HQ := Lib.hid (And.intro hq hr)
  have hf : FindPost l t = fun w e w' => e = .returned (.tuple #[.int .i64 (q : Nat), .bool r]) ∧ Keeps [] w w' := by
    funext w e w'; unfold FindPost; rw [hq, hr]
  have HF := Lib.hid hf
  clear hq hr hf
  unfold PT at *
  go_enter Try.func16, Try.ntmps16
  go_upto_region 1 with fail
  obtain ⟨w1, hw1⟩ : ∃ w1, w1 = w.alloc (.cells #[.string ⟨#[]⟩, .int .i64 0] 37) := ⟨_, rfl⟩
  obtain ⟨eb, heb⟩ : ∃ eb, eb = w.heap.size := ⟨_, rfl⟩
  have he1 : w1.heap[eb]? = some (.cells #[.string ⟨#[]⟩, .int .i64 0] 37 (0, 0)) := by rw [hw1, heb]; exact heap_alloc w _
  have hk1 : Keeps [] w w1 := by rw [hw1]; exact (Keeps.refl _ _).alloc _
  rw [← hw1, ← heb]
  have HE := Lib.hid (And.intro he1 (And.intro hk1 (show w.heap.size ≤ eb by omega)))
  clear hw1 heb he1 hk1
  go_wp2_with fail
  refine (find_ok db _ l t w1 (H.out.1.keep HE.out.2.1) H.out.2.1 H.out.2.2.2).mono ?_
  rw [HF.out]
  rintro e w2 ⟨rfl, hk2⟩
  have H2 := Lib.hid (H.out.1.keep (HE.out.2.1.trans hk2))
  have K2 := Lib.hid (HE.out.2.1.trans hk2)
  have he2 := hk2.get HE.out.1 (by simp)
  have c0 := H2.out.c0
  have r0 : w2.cell? ⟨eb, 0, none⟩ = some (.string ⟨#[]⟩) := cell_of he2 rfl
  have r1 : w2.cell? ⟨eb, 1, none⟩ = some (.int .i64 0) := cell_of he2 rfl
  have z0 : w2.frozen? ⟨eb, 0, none⟩ = false := frozen_of 0 he2
  have z1 : w2.frozen? ⟨eb, 1, none⟩ = false := frozen_of 1 he2
  have fin : ∀ o, nextO l t = o → ∀ a k, entV o = .agg #[.string a, .int .i64 k] → NextD (nextO l t) w (.returned (.tuple #[.agg #[.string a, .int .i64 k], .bool o.isSome])) ((w2.setCell ⟨eb, 0, none⟩ (.string a)).setCell ⟨eb, 1, none⟩ (.int .i64 k)) := by
    intro o ho a k hak
    have hk : Keeps [eb] w2 ((w2.setCell ⟨eb, 0, none⟩ (.string a)).setCell ⟨eb, 1, none⟩ (.int .i64 k)) := ((Keeps.refl [eb] w2).setCell (Or.inl (by simp)) _).setCell (Or.inl (by simp)) _
    refine ⟨by rw [ho, hak], K2.out.trans' hk (fun z hz => Or.inr (by obtain rfl := List.mem_singleton.1 hz; exact HE.out.2.2))⟩
  have hcell : ∀ a k, ((w2.setCell ⟨eb, 0, none⟩ (.string a)).setCell ⟨eb, 1, none⟩ (.int .i64 k)).heap[eb]? = some (.cells #[.string a, .int .i64 k] 37 (0, 0)) := fun a k => heap_setCell (heap_setCell he2)
  have FIN := Lib.hid (And.intro fin hcell)
  clear fin hcell he2 hk2
  obtain ⟨n, hn⟩ : ∃ n, n = nextP l t := ⟨_, rfl⟩
  have hnq : n = q + (if r then 1 else 0) := by rw [hn, HQ.out.1, HQ.out.2]; rfl
  have hnM : n ≤ M := by
    cases hrr : r with
    | false => rw [hnq, hrr]; simpa using hqM
    | true =>
      obtain ⟨x, hx, _⟩ := (H.out.2.1.has_iff t).1 (by rw [← HQ.out.2, hrr])
      have := (List.getElem?_eq_some_iff.1 hx).1
      rw [← HQ.out.1, ← H.out.2.2.1] at this
      rw [hnq, hrr]
      simp only [if_true]
      omega
  have HN := Lib.hid hn
  clear hn
  by_cases hend : n = M
  · have ho : nextO l t = none := by unfold nextO; rw [← HN.out, hend, H.out.2.2.1]; exact List.getElem?_eq_none (Nat.le_refl _)
    have HO := Lib.hid ho
    clear ho
    cases r with
    | false =>
      have hq2 : ((q : Int) == (M : Int)) = true := by rw [beq_iff_eq]; simp at hnq; omega
      clear hnq hnM hend
      go_wp2
      exact bodyPost_ret (results_ct rfl rfl (load37 (FIN.out.2 _ _))) rfl (FIN.out.1 none HO.out _ _ rfl)
    | true =>
      have hq2 : ((q : Int) + 1 == (M : Int)) = true := by rw [beq_iff_eq]; simp at hnq; omega
      clear hnq hnM hend
      go_wp2
      exact bodyPost_ret (results_ct rfl rfl (load37 (FIN.out.2 _ _))) rfl (FIN.out.1 none HO.out _ _ rfl)
  · obtain ⟨x, hx⟩ : ∃ x, l[n]? = some x := ⟨_, List.getElem?_eq_getElem (by rw [← H.out.2.2.1]; omega)⟩
    have ho : nextO l t = some x := by unfold nextO; rw [← HN.out]; exact hx
    have HO := Lib.hid ho
    obtain ⟨g, o, rfl, x0, x1⟩ := sg_ent H2.out.2.sg hx
    have hlt : n < M := by omega
    have HFM := Lib.hid H2.out.2
    clear ho hx hnM hend
    cases r with
    | false =>
      obtain rfl : n = q := by simpa using hnq
      have hq2 : ((n : Int) == (M : Int)) = false := by rw [beq_eq_false_iff_ne]; omega
      clear hnq
      go_wp2
      exact bodyPost_ret (results_ct rfl rfl (load37 (FIN.out.2 _ _))) rfl (FIN.out.1 (some x) HO.out _ _ rfl)
    | true =>
      obtain rfl : n = q + 1 := by simpa using hnq
      have hq2 : ((q : Int) + 1 == (M : Int)) = false := by rw [beq_eq_false_iff_ne]; omega
      clear hnq
      go_wp2
      exact bodyPost_ret (results_ct rfl rfl (load37 (FIN.out.2 _ _))) rfl (FIN.out.1 (some x) HO.out _ _ rfl)
end Go.Proofs.Ytppmnjblcblofaa
