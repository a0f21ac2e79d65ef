/-
  slices.Grow, slices.Concat, walked.
-/
import Derived.Shelf.Spec.SlicesGrow
import Derived.Test.YtpfmhjokcpkliaaL5
namespace Go.Proofs
open Go.Shelf
def Try.growS_ren : Go.Shelf.Ren := ⟨fun | 4 => 35 | n => n, fun | 22 => 23 | 25 => 9 | 3 => 3 | 4 => 4 | 9 => 9 | 20 => 20 | 0 => 0 | n => n, fun | n => n⟩
theorem Try.growS : Go.Proofs.Lays8.n4 Try.prog Try.growS_ren := {
  mixed := by kernel_rfl
  f4 := ⟨"slices.Grow[[]string,string]", by decide, Try.func35.trans (congrArg some (by kernel_rfl))⟩
  t0 := Try.underlying0
  a0 := Try.isAgg0
  z0 := Try.sizeOf0
  v0 := Try.zeroValue0
  t3 := Try.underlying3
  a3 := Try.isAgg3
  z3 := Try.sizeOf3
  v3 := Try.zeroValue3
  t4 := Try.underlying4
  a4 := Try.isAgg4
  z4 := Try.sizeOf4
  v4 := Try.zeroValue4
  t9 := Try.underlying9
  a9 := Try.isAgg9
  z9 := Try.sizeOf9
  v9 := Try.zeroValue9
  t20 := Try.underlying20
  a20 := Try.isAgg20
  z20 := Try.sizeOf20
  v20 := Try.zeroValue20
  t22 := Try.underlying23
  a22 := Try.isAgg23
  z22 := Try.sizeOf23
  v22 := Try.zeroValue23 }
end Go.Proofs
namespace Go.Proofs.Ytpfmhjokcpkliaa
open Go.RowKit Go.V Go.V.Path
def NewPost (w : World) (e : Ending) (w' : World) : Prop := ∃ va, e = .returned va ∧ Made FB 9 w va [] w'
theorem grow_ok (n : Nat) (w : World) (hn : n ≤ 10000) : Calls Try.prog 35 #[.slice none 0 0, .int .i64 n] w (NewPost w) := by
  by_cases h0 : n = 0
  · subst h0
    refine (Any8.slices_Grow_room Try.growS none 0 0 0 w (by decide) (by decide) (by decide) (by decide)).mono ?_
    rintro e w' ⟨rfl, rfl⟩
    exact ⟨_, rfl, Made.nil FB 9 _⟩
  · obtain ⟨i0, g1, g2, g3, g4⟩ : ∃ i0, Try.prog.info? 9 = some i0 ∧ i0.zero = some (.string ByteArray.empty) ∧ i0.size = FB.s ∧ i0.bytes = 16 := by
      have hi := infoz9
      cases hq : Try.prog.info? 9 with
      | none => rw [hq] at hi; cases hi
      | some i =>
        rw [hq] at hi
        simp only [Option.map_some, Option.some.injEq, Prod.mk.injEq] at hi
        exact ⟨i, rfl, hi.1, hi.2.1, hi.2.2⟩
    have g3' : i0.size = 1 := g3
    refine (Any8.slices_Grow_grow Try.growS i0 _ g1 g2 (by omega) none 0 0 n [] w (by omega) (by omega) (by rw [g4]; omega) (by omega) (by simp) (fun _ => rfl) (fun a ha => by cases ha)).mono ?_
    rintro e w' ⟨rfl, hw'⟩
    refine ⟨_, rfl, ?_⟩
    have hge := grownCap_ge w (0 + n) 0 (Try.growS_ren.t 25)
    have hle := grownCap_le_maxLen w (0 + n) 0 (Try.growS_ren.t 25) (by unfold maxLen; omega)
    generalize grownCap w (0 + n) 0 (Try.growS_ren.t 25) = C at hw' hge hle ⊢
    subst hw'
    refine ⟨⟨by simp [Form.all], Or.inr ⟨w.heap.size, C, _, rfl, Nat.zero_le _, heap_alloc w.drew _, Nat.zero_le _, hle, ?_, by simp [Form.all]⟩⟩, fun g hg => ?_, (Keeps.refl _ _).drew.alloc _⟩
    · have hz : (Value.cells (.string ByteArray.empty)).size = 1 := rfl
      have hF : FB.s = 1 := rfl
      rw [hF]
      simp only [Builtin.zeroCells, hz, Array.size_append, Array.size_map, Array.size_range]
      simp only [List.size_toArray, List.length_nil]
      omega
    · simp only [Value.ownBlock, Option.some.injEq] at hg
      omega
def ConcatPost (ms : List (List UInt8)) (w : World) (e : Ending) (w' : World) : Prop := ∃ va, e = .returned va ∧ Made FB 9 w va ms w'
set_option maxHeartbeats 1000000 in
theorem concat_ok (v1 v2 : Value) (n1 n2 : List (List UInt8)) (sb : Nat) (t : TypeId) (w : World) (h1 : SG FB w v1 n1) (h2 : SG FB w v2 n2) (hs : w.heap[sb]? = some (.cells #[v1, v2] t (0, 0))) (hl1 : n1.length ≤ 1000) (hl2 : n2.length ≤ 1000) :
    Calls Try.prog 32 #[.slice (some ⟨sb, 0, none⟩) 2 2] w (ConcatPost (n1 ++ n2) w) := by
  obtain ⟨p1, c1, rfl, hc1, hd1, _⟩ := id h1
  obtain ⟨p2, c2, rfl, hc2, hd2, _⟩ := id h2
  obtain ⟨A, hA⟩ : ∃ A, A = n1.length := ⟨_, rfl⟩
  obtain ⟨B, hB⟩ : ∃ B, B = n2.length := ⟨_, rfl⟩
  rw [← hA] at hl1 hs h1 hc1
  rw [← hB] at hl2 hs h2 hc2
  have H := Lib.hid (And.intro hA (And.intro hB (And.intro h1 (And.intro h2 hs))))
  clear hA hB h1 h2
  go_enter Try.func32, Try.ntmps32
  go_upto_block 0 with fail
  go_cut [3] (fun v wx => v = .int .i64 ((A : Int) + (B : Int)) ∧ wx = w)
  case first =>
    go_wp2_with fail
    go_loopg [3, 11] 2 (fun m vs vi wx => ∃ i : Nat, vi = .int .i64 i ∧ i + m = 2 ∧ vs = .int .i64 (if i = 0 then 0 else if i = 1 then (A : Int) else (A : Int) + (B : Int)) ∧ wx = w)
    case atStart => exact ⟨0, rfl, rfl, rfl, rfl⟩
    case round =>
      obtain ⟨i, rfl, hi, rfl, rfl⟩ := hrel
      have hs0 : wr.cell? ⟨sb, 0, none⟩ = some (.slice p1 A c1) := cell_of hs rfl
      have hs1 : wr.cell? ⟨sb, 1, none⟩ = some (.slice p2 B c2) := cell_of hs rfl
      have e0 : IntKind.i64.wrap (A : Int) = (A : Int) := by rw [IntKind.wrap_i64]; omega
      have e1 : IntKind.i64.wrap ((A : Int) + (B : Int)) = (A : Int) + (B : Int) := by rw [IntKind.wrap_i64]; omega
      have f0 : ¬ ((A : Int) < 0) := by omega
      have f1 : ¬ ((A : Int) + (B : Int) < 0) := by omega
      by_cases i0 : i = 0
      · subst i0
        go_wp2
        go_roundg 1
        case measure => omega
        case rel => exact ⟨1, rfl, rfl, by simp, rfl⟩
      · by_cases i1 : i = 1
        · subst i1
          go_wp2
          go_roundg 0
          case measure => omega
          case rel => exact ⟨2, rfl, rfl, by simp, rfl⟩
        · have i2 : i = 2 := by omega
          subst i2
          go_wp2
          go_meet
          case rel => exact ⟨rfl, rfl⟩
  case rest =>
    obtain ⟨rfl, rfl⟩ := hcut
    go_upto_region 9 with fail
    rw [show (A : Int) + (B : Int) = ((A + B : Nat) : Int) from (Int.natCast_add A B).symm]
    have HG := Lib.hid (grow_ok (A + B) wc (by omega))
    go_wp2_with fail
    refine HG.out.mono ?_
    rintro e w1 ⟨va, rfl, hva⟩
    have H1 := Lib.hid hva
    clear hva HG
    go_upto_block 2 with fail
    go_cut [6] (fun v wx => Made FB 9 wc v (n1 ++ n2) wx)
    case first =>
      go_wp2_with fail
      go_loopg [6, 27] 2 (fun m v vi wx => ∃ i : Nat, vi = .int .i64 i ∧ i + m = 2 ∧ Made FB 9 wc v ([n1, n2].take i).flatten wx)
      case atStart => exact ⟨0, rfl, rfl, H1.out⟩
      case round =>
        obtain ⟨i, rfl, hi, hm⟩ := hrel
        have hsr := hm.2.2.get hs (by simp)
        have hs0 : wr.cell? ⟨sb, 0, none⟩ = some (.slice p1 A c1) := cell_of hsr rfl
        have hs1 : wr.cell? ⟨sb, 1, none⟩ = some (.slice p2 B c2) := cell_of hsr rfl
        have k1 := H.out.2.2.1.keep hm.2.2 (by simp)
        have k2 := H.out.2.2.2.1.keep hm.2.2 (by simp)
        obtain ⟨pv, cv, hv, _, _⟩ := hm.1.value
        have HM := Lib.hid (And.intro hm (And.intro k1 k2))
        clear hm k1 k2 hsr
        by_cases i0 : i = 0
        · subst i0
          obtain ⟨hA, hB, _⟩ := H.out
          have HAB := Lib.hid (And.intro hA hB)
          clear hA hB
          subst hv
          go_wp2_with (first | (refine vp_append_sg (F := FB) rfl (.tmp 31) (.tmp 32) 23 rfl (.string ByteArray.empty) 16 Try.underlying23 infoz9 rfl (by decide) _ [] rfl HM.out.1.1 _ n1 rfl HM.out.2.1 (by rw [← HAB.out.1, List.length_nil]; omega) (by rw [← HAB.out.1, List.length_nil]; omega) ?_; intro v6 w6 k1 k2 k3; have HM6 := Lib.hid (HM.out.1.app k1 k2 k3); clear k1 k2 k3) | fail)
          go_roundg 1
          case measure => omega
          case rel => exact ⟨1, rfl, rfl, by have := HM6.out; rw [List.nil_append] at this; simpa using this⟩
        · by_cases i1 : i = 1
          · subst i1
            obtain ⟨hA, hB, _⟩ := H.out
            have HAB := Lib.hid (And.intro hA hB)
            have hf : ([n1, n2].take 1).flatten = n1 := by simp
            rw [hf] at hv HM
            rw [← hA] at hv
            clear hA hB hf
            subst hv
            go_wp2_with (first | (refine vp_append_sg (F := FB) rfl (.tmp 31) (.tmp 32) 23 rfl (.string ByteArray.empty) 16 Try.underlying23 infoz9 rfl (by decide) _ n1 rfl HM.out.1.1 _ n2 rfl HM.out.2.2 (by rw [← HAB.out.1, ← HAB.out.2]; omega) (by rw [← HAB.out.1, ← HAB.out.2]; omega) ?_; intro v6 w6 k1 k2 k3; have HM6 := Lib.hid (HM.out.1.app k1 k2 k3); clear k1 k2 k3) | fail)
            go_roundg 0
            case measure => omega
            case rel => exact ⟨2, rfl, rfl, by simpa using HM6.out⟩
          · have i2 : i = 2 := by omega
            subst i2
            have hf : ([n1, n2].take 2).flatten = n1 ++ n2 := by simp
            rw [hf] at HM
            subst hv
            go_wp2
            go_meet
            case rel => exact HM.out.1
    case rest =>
      have HC := Lib.hid hcut
      clear hcut
      go_wp2
      go_ret
      exact ⟨_, rfl, HC.out⟩
end Go.Proofs.Ytpfmhjokcpkliaa
