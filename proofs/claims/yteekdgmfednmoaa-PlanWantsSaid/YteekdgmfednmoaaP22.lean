/-
  The reference's bit and Kind, walked.
-/
import Derived.Test.YteekdgmfednmoaaP11
namespace Go.V.Queue
open Go Go.V
def u64N (x : Int) : Nat := (x % 18446744073709551616).toNat
def bitB (x : Int) (n : Nat) : Bool := decide (u64N x / 2 ^ n % 2 = 1)
theorem u64N_lt (x : Int) : u64N x < 18446744073709551616 := by unfold u64N; omega
theorem and_bit1 (x : Int) : (bits BinOp.and IntKind.i64 x 2 != 0) = bitB x 1 := by
  have h1 : (BitVec.ofInt 64 x).toNat = u64N x := by
    unfold u64N
    rw [BitVec.toNat_ofInt]
    rfl
  have h3 : ((BitVec.ofInt 64 x) &&& (BitVec.ofInt 64 2)).toNat = u64N x &&& 2 := by
    rw [BitVec.toNat_and, h1]; rfl
  have hb : bits BinOp.and IntKind.i64 x 2 = IntKind.i64.wrap ((u64N x &&& 2 : Nat) : Int) := by
    show IntKind.i64.wrap ((((BitVec.ofInt 64 x) &&& (BitVec.ofInt 64 2)).toNat : Nat) : Int) = _
    rw [h3]
  obtain ⟨m, hm⟩ : ∃ m, m = u64N x % 4 := ⟨_, rfl⟩
  have he : u64N x &&& 2 = m &&& 2 := by
    have e : (2 : Nat) = (2 ^ 2 - 1) &&& 2 := by decide
    have e2 : (2 : Nat) ^ 2 = 4 := by decide
    conv => lhs; rw [e, ← Nat.and_assoc, Nat.and_two_pow_sub_one_eq_mod, e2, ← hm]
  have hmb : m < 4 := by rw [hm]; exact Nat.mod_lt _ (by decide)
  have hbit : bitB x 1 = decide (2 ≤ m) := by
    unfold bitB
    rw [show (2 : Nat) ^ 1 = 2 by decide]
    refine decide_eq_decide.2 ?_
    omega
  rw [hb, he, hbit]
  have hc : m = 0 ∨ m = 1 ∨ m = 2 ∨ m = 3 := by omega
  rcases hc with rfl | rfl | rfl | rfl <;> decide
theorem and_bit2 (x : Int) : (bits BinOp.and IntKind.i64 x 4 != 0) = bitB x 2 := by
  have h1 : (BitVec.ofInt 64 x).toNat = u64N x := by
    unfold u64N
    rw [BitVec.toNat_ofInt]
    rfl
  have h3 : ((BitVec.ofInt 64 x) &&& (BitVec.ofInt 64 4)).toNat = u64N x &&& 4 := by
    rw [BitVec.toNat_and, h1]; rfl
  have hb : bits BinOp.and IntKind.i64 x 4 = IntKind.i64.wrap ((u64N x &&& 4 : Nat) : Int) := by
    show IntKind.i64.wrap ((((BitVec.ofInt 64 x) &&& (BitVec.ofInt 64 4)).toNat : Nat) : Int) = _
    rw [h3]
  obtain ⟨m, hm⟩ : ∃ m, m = u64N x % 8 := ⟨_, rfl⟩
  have he : u64N x &&& 4 = m &&& 4 := by
    have e : (4 : Nat) = (2 ^ 3 - 1) &&& 4 := by decide
    have e2 : (2 : Nat) ^ 3 = 8 := by decide
    conv => lhs; rw [e, ← Nat.and_assoc, Nat.and_two_pow_sub_one_eq_mod, e2, ← hm]
  have hmb : m < 8 := by rw [hm]; exact Nat.mod_lt _ (by decide)
  have hbit : bitB x 2 = decide (4 ≤ m) := by
    unfold bitB
    rw [show (2 : Nat) ^ 2 = 4 by decide]
    refine decide_eq_decide.2 ?_
    omega
  rw [hb, he, hbit]
  have hc : m = 0 ∨ m = 1 ∨ m = 2 ∨ m = 3 ∨ m = 4 ∨ m = 5 ∨ m = 6 ∨ m = 7 := by omega
  rcases hc with rfl | rfl | rfl | rfl | rfl | rfl | rfl | rfl <;> decide
end Go.V.Queue
namespace Go.Proofs.Yteekdgmfednmoaa
open Go.RowKit Go.V Go.V.Queue
set_option maxHeartbeats 4000000 in
theorem bit_ok (x : Int) (n : Nat) (hn : n ≤ 60) (w : World) : Calls Try.prog 23 #[.int .i64 x, .int .i64 n] w (BPost (bitB x n) w) := by
  obtain ⟨u, hu⟩ : ∃ u, u = u64N x := ⟨_, rfl⟩
  have hul : u < 18446744073709551616 := by rw [hu]; exact u64N_lt x
  have hc : IntKind.u64.wrap x = (u : Int) := by
    rw [hu]; unfold u64N
    show x % 18446744073709551616 = _
    omega
  have HU := Lib.hid hu
  clear hu
  go_enter Try.func23, Try.ntmps23
  go_upto_region 2 with fail
  have hn0 : (n : Int) ≤ 60 := by omega
  go_upto_block 0 with fail
  go_cut [5] (fun v wx => v = .int .u64 ((u / 2 ^ n : Nat) : Int) ∧ wx = w)
  case first =>
    go_wp2_with fail
    go_loopg [5, 6] n (fun m v vk wx => ∃ k : Nat, vk = .int .i64 k ∧ k + m = n ∧ v = .int .u64 ((u / 2 ^ k : Nat) : Int) ∧ wx = w)
    case atStart => exact ⟨0, rfl, Nat.zero_add _, by rw [Nat.pow_zero, Nat.div_one], rfl⟩
    case round =>
      obtain ⟨k, rfl, hk, rfl, rfl⟩ := hrel
      have hq : u / 2 ^ (k + 1) = u / 2 ^ k / 2 := by rw [Nat.pow_succ, Nat.div_div_eq_div_mul]
      obtain ⟨q, hqq⟩ : ∃ q, q = u / 2 ^ k := ⟨_, rfl⟩
      have hql : q < 18446744073709551616 := by rw [hqq]; exact Nat.lt_of_le_of_lt (Nat.div_le_self ..) hul
      rw [← hqq] at hq ⊢
      have HQ := Lib.hid (And.intro hq hqq)
      clear hq hqq
      by_cases hlt : k < n
      · have hkk : (k : Int) < (n : Int) := by omega
        go_wp2
        go_roundg (gk - 1)
        case measure => omega
        case rel =>
          refine ⟨k + 1, by push_cast; rfl, by omega, ?_, rfl⟩
          rw [HQ.out.1]
          first | rfl | (push_cast; rfl) | (congr 1; omega)
      · have hkn : k = n := by omega
        have HKN := Lib.hid hkn
        have hkk : ¬ (k : Int) < (n : Int) := by omega
        clear hkn
        go_wp2
        go_meet
        case rel => exact ⟨by rw [HQ.out.2, HKN.out], rfl⟩
  case rest =>
    obtain ⟨rfl, rfl⟩ := hcut
    obtain ⟨q, hqq⟩ : ∃ q, q = u / 2 ^ n := ⟨_, rfl⟩
    have hql : q < 18446744073709551616 := by rw [hqq]; exact Nat.lt_of_le_of_lt (Nat.div_le_self ..) hul
    have hbb : bitB x n = decide (q % 2 = 1) := by unfold bitB; rw [← HU.out, hqq]
    rw [← hqq]
    have HB := Lib.hid hbb
    clear hqq hbb
    go_wp2
    go_ret
    refine ⟨?_, Keeps.refl _ _⟩
    rw [HB.out]
    have hq : ((q : Int) % 2 == 1) = decide (q % 2 = 1) := by rw [Bool.eq_iff_iff, beq_iff_eq, decide_eq_true_eq]; omega
    show Ending.returned (Value.bool ((q : Int) % 2 == 1)) = _
    rw [hq]
set_option maxHeartbeats 4000000 in
theorem rkind_ok (c : CV) (w : World) : Calls Try.prog 16 #[c.val] w (IPost (kindF c.op c.flag) w) := by
  obtain ⟨op, fd, flag, n, off, a, b⟩ := c
  unfold CV.val CV.cells
  simp only
  by_cases h1 : op = 1
  · subst h1
    obtain ⟨B, hB⟩ : ∃ B, B = bitB flag 2 := ⟨_, rfl⟩
    have hbk := bit_ok flag 2 (by omega) (w.alloc (.cells #[.int .i64 1, .int .i64 fd, .int .i64 flag, .int .i64 n, .int .i64 off, .string a, .string b] 32))
    rw [← hB] at hbk
    have HBK := Lib.hid hbk
    have hv : kindF 1 flag = if B = true then 2 else 1 := by
      unfold kindF
      rw [if_neg (by omega), if_pos rfl, and_bit2, ← hB]
    obtain ⟨kk, hkk⟩ : ∃ kk : Int, kk = if B = true then 2 else 1 := ⟨_, rfl⟩
    rw [hv, ← hkk]
    have HKK := Lib.hid hkk
    clear hbk hB hv hkk
    go_enter Try.func16, Try.ntmps16
    go_wp2_with fail
    refine HBK.out.mono ?_
    rintro e w1 ⟨rfl, hk1⟩
    have hh := hk1.get (heap_alloc w _) (by simp)
    have c0 : w1.cell? ⟨w.heap.size, 0, none⟩ = some (.int .i64 1) := cell_of hh rfl
    have HK := Lib.hid (((Keeps.refl [] w).alloc _).trans hk1)
    clear hk1 hh
    cases B with
    | true =>
      go_wp2
      go_ret
      exact ⟨by rw [HKK.out]; rfl, HK.out⟩
    | false =>
      go_wp2
      go_ret
      exact ⟨by rw [HKK.out]; rfl, HK.out⟩
  by_cases h8 : op = 8
  · subst h8
    go_enter Try.func16, Try.ntmps16
    go_wp2
    go_ret
    exact ⟨rfl, (Keeps.refl _ _).alloc _⟩
  by_cases h9 : op = 9
  · subst h9
    go_enter Try.func16, Try.ntmps16
    go_wp2
    go_ret
    exact ⟨rfl, (Keeps.refl _ _).alloc _⟩
  by_cases h10 : op = 10
  · subst h10
    go_enter Try.func16, Try.ntmps16
    go_wp2
    go_ret
    exact ⟨rfl, (Keeps.refl _ _).alloc _⟩
  by_cases h11 : op = 11
  · subst h11
    go_enter Try.func16, Try.ntmps16
    go_wp2
    go_ret
    exact ⟨rfl, (Keeps.refl _ _).alloc _⟩
  by_cases h12 : op = 12
  · subst h12
    go_enter Try.func16, Try.ntmps16
    go_wp2
    go_ret
    exact ⟨rfl, (Keeps.refl _ _).alloc _⟩
  by_cases h13 : op = 13
  · subst h13
    go_enter Try.func16, Try.ntmps16
    go_wp2
    go_ret
    exact ⟨rfl, (Keeps.refl _ _).alloc _⟩
  by_cases h14 : op = 14
  · subst h14
    go_enter Try.func16, Try.ntmps16
    go_wp2
    go_ret
    exact ⟨rfl, (Keeps.refl _ _).alloc _⟩
  by_cases h15 : op = 15
  · subst h15
    go_enter Try.func16, Try.ntmps16
    go_wp2
    go_ret
    exact ⟨rfl, (Keeps.refl _ _).alloc _⟩
  by_cases h16 : op = 16
  · subst h16
    go_enter Try.func16, Try.ntmps16
    go_wp2
    go_ret
    exact ⟨rfl, (Keeps.refl _ _).alloc _⟩
  by_cases h17 : op = 17
  · subst h17
    go_enter Try.func16, Try.ntmps16
    go_wp2
    go_ret
    exact ⟨rfl, (Keeps.refl _ _).alloc _⟩
  by_cases h18 : op = 18
  · subst h18
    go_enter Try.func16, Try.ntmps16
    go_wp2
    go_ret
    exact ⟨rfl, (Keeps.refl _ _).alloc _⟩
  by_cases h20 : op = 20
  · subst h20
    go_enter Try.func16, Try.ntmps16
    go_wp2
    go_ret
    exact ⟨rfl, (Keeps.refl _ _).alloc _⟩
  have hv : kindF op flag = 0 := by unfold kindF; rw [if_neg (by omega), if_neg (by omega), if_neg (by omega)]
  rw [hv]
  clear hv
  have e1 : (op == 1) = false := by simp [h1]
  have e16 : (op == 16) = false := by simp [h16]
  have e17 : (op == 17) = false := by simp [h17]
  have e18 : (op == 18) = false := by simp [h18]
  have e20 : (op == 20) = false := by simp [h20]
  by_cases hge : 11 ≤ op
  · have hle : ¬ op ≤ 15 := by omega
    have hge2 : 8 ≤ op := by omega
    have hle2 : ¬ op ≤ 10 := by omega
    clear h1 h8 h9 h10 h11 h12 h13 h14 h15 h16 h17 h18 h20
    go_enter Try.func16, Try.ntmps16
    go_wp2
    go_ret
    exact ⟨rfl, (Keeps.refl _ _).alloc _⟩
  · have hge2 : ¬ 8 ≤ op := by omega
    clear h1 h8 h9 h10 h11 h12 h13 h14 h15 h16 h17 h18 h20
    go_enter Try.func16, Try.ntmps16
    go_wp2
    go_ret
    exact ⟨rfl, (Keeps.refl _ _).alloc _⟩
end Go.Proofs.Yteekdgmfednmoaa
