/-
  Whether a path is large, walked.
-/
import Derived.Test.YtpfmhjokcpkliaaL15
namespace Go.V.Path
open Go Go.V
/-- the bytes that 'large' counts -/
def clip (l : List (List UInt8)) : Nat := (l.map (fun x => min x.length 65536)).sum
theorem clip_snoc (l : List (List UInt8)) (x : List UInt8) : clip (l ++ [x]) = clip l + min x.length 65536 := by simp [clip]
def tot (l : List (List UInt8)) : Nat := (l.map List.length).sum
theorem clip_tot : ∀ l : List (List UInt8), min (tot l) 65536 ≤ clip l
  | [] => by simp [tot]
  | x :: l => by
    have := clip_tot l
    simp only [tot, clip, List.map_cons, List.sum_cons] at this ⊢
    omega
/-- the names of a path that isn't large aren't together longer than one may be -/
theorem tot_le {m : Nat} (hm : 65536 ≤ m) : ∀ l : List (List UInt8), (∀ x ∈ l, x.length ≤ m) → clip l ≤ 65536 → tot l ≤ m
  | [], _, _ => by simp [tot]
  | x :: l, hx, hc => by
    have h1 := tot_le hm l (fun y hy => hx y (List.mem_cons_of_mem _ hy)) (by simp only [clip, List.map_cons, List.sum_cons] at hc ⊢; omega)
    have h2 := clip_tot l
    have h3 := hx x List.mem_cons_self
    simp only [tot, clip, List.map_cons, List.sum_cons] at h1 h2 hc ⊢
    omega
end Go.V.Path
namespace Go.Proofs.Ytpfmhjokcpkliaa
open Go.RowKit Go.V Go.V.Path
def LargePost (ns : List (List UInt8)) (w : World) (e : Ending) (w' : World) : Prop :=
  ∃ b, e = .returned (.bool b) ∧ Keeps [] w w' ∧ (b = false → ns.length ≤ 201 ∧ clip ns ≤ 65536)
set_option maxHeartbeats 2000000 in
theorem large_ok (v : Value) (ns : List (List UInt8)) (d : Bool) (w : World) (hv : SG FB w v ns) (hxs : ∀ x ∈ ns, x.length ≤ 4611686018427387904) : Calls Try.prog 18 #[pathV v d] w (LargePost ns w) := by
  obtain ⟨p, c, rfl, hc, hd1, _⟩ := id hv
  obtain ⟨N, hN⟩ : ∃ N, N = ns.length := ⟨_, rfl⟩
  rw [← hN] at hv hc ⊢
  have H := Lib.hid (And.intro hN (And.intro hv hxs))
  clear hN hv hxs
  unfold pathV
  go_enter Try.func18, Try.ntmps18
  go_upto_region 1 with fail
  obtain ⟨w2, ab, hw, ha, g1, hk⟩ := one_box w (.slice p N c) d
  rw [← hw, ← ha]
  have H2 := Lib.hid (And.intro g1 hk)
  clear hw ha g1 hk
  have a0 : w2.cell? ⟨ab, 0, none⟩ = some (.slice p N c) := cell_of H2.out.1 rfl
  go_upto_block 0 with fail
  go_cut [] (fun wx => wx = w2 ∧ N ≤ 201 ∧ clip ns ≤ 65536)
  case first =>
    go_wp2_with fail
    go_loopg [3, 8] N (fun m vn vi wx => ∃ (i : Nat), vi = .int .i64 i ∧ i + m = N ∧ i ≤ 201 ∧ vn = .int .i64 (clip (ns.take i)) ∧ clip (ns.take i) ≤ 65536 ∧ wx = w2)
    case atStart => exact ⟨0, rfl, by omega, by omega, rfl, by simp [clip], rfl⟩
    case round =>
      obtain ⟨i, rfl, hi, hi2, rfl, hcl, hww⟩ := hrel
      subst wr
      obtain ⟨C, hC⟩ : ∃ C, C = clip (ns.take i) := ⟨_, rfl⟩
      rw [← hC] at hcl ⊢
      have HC := Lib.hid (And.intro hC hi)
      clear hC hi
      by_cases hlt : i < N
      · have hii : (i : Int) < (N : Int) := by omega
        obtain ⟨x, hx⟩ : ∃ x, ns[i]? = some x := ⟨_, List.getElem?_eq_getElem (by rw [← H.out.1]; exact hlt)⟩
        obtain ⟨gx, ox, rfl, x0⟩ := sg_str (H.out.2.1.keep H2.out.2 (by simp)) hx
        have hxl := H.out.2.2 x (List.mem_of_getElem? hx)
        have hxs := bs_size x
        obtain ⟨M, hM⟩ : ∃ M, M = min x.length 65536 := ⟨_, rfl⟩
        have hM2 : M ≤ 65536 := by omega
        have hmin : min (x.length : Int) 65536 = (M : Int) := by omega
        have hnx : clip (ns.take (i + 1)) = C + M := by rw [← take_snoc hx, clip_snoc, ← HC.out.1, hM]
        have HX := Lib.hid hnx
        clear hx hM hnx
        by_cases hbig : 65536 < C + M
        · have hb2 : (65536 : Int) < (C : Int) + (M : Int) := by omega
          go_wp2
          (try simp only [Exit.inBlock, Exit.then])
          go_ret
          exact ⟨true, rfl, H2.out.2, fun h => by cases h⟩
        · have hb2 : ¬ (65536 : Int) < (C : Int) + (M : Int) := by omega
          by_cases hfar : 200 < i
          · have hf2 : (200 : Int) < (i : Int) := by omega
            go_wp2
            (try simp only [Exit.inBlock, Exit.then])
            go_ret
            exact ⟨true, rfl, H2.out.2, fun h => by cases h⟩
          · have hf2 : ¬ (200 : Int) < (i : Int) := by omega
            go_wp2
            go_roundg (gk - 1)
            case measure => have := HC.out.2; omega
            case rel => exact ⟨i + 1, by push_cast; rfl, by have := HC.out.2; omega, by omega, by rw [HX.out]; push_cast; rfl, by rw [HX.out]; omega, rfl⟩
      · have hii : ¬ (i : Int) < (N : Int) := by omega
        have HI := Lib.hid (show N ≤ i by omega)
        go_wp2
        go_meet
        case rel => exact ⟨rfl, Nat.le_trans HI.out hi2, by
          rw [← List.take_of_length_le (l := ns) (i := i) (by rw [← H.out.1]; exact HI.out), ← HC.out.1]
          exact hcl⟩
  case rest =>
    obtain ⟨hww, h1, h2⟩ := hcut
    subst wc
    have HF := Lib.hid (And.intro h1 h2)
    clear h1 h2
    go_wp2
    go_ret
    exact ⟨false, rfl, H2.out.2, fun _ => by rw [← H.out.1]; exact HF.out⟩
end Go.Proofs.Ytpfmhjokcpkliaa
