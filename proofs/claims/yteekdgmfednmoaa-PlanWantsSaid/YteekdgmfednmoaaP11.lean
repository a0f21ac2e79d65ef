/-
  plan.Kind, writes, walked.
-/
import Derived.Test.YteekdgmfednmoaaP10
namespace Go.V.Queue
open Go Go.V
/-- a call: its number, its flags; the others are read by nobody here -/
structure CV where
  op : Int
  fd : Int
  flag : Int
  n : Int
  off : Int
  a : ByteArray
  b : ByteArray
def CV.cells (c : CV) : Array Value := #[.int .i64 c.op, .int .i64 c.fd, .int .i64 c.flag, .int .i64 c.n, .int .i64 c.off, .string c.a, .string c.b]
def CV.val (c : CV) : Value := .agg c.cells
def kindF (op flag : Int) : Int :=
  if op = 11 ∨ op = 12 ∨ op = 13 ∨ op = 14 ∨ op = 15 ∨ op = 17 then 2
  else if op = 1 then (if (bits BinOp.and IntKind.i64 flag 4 != 0) = true then 2 else 1)
  else if op = 8 ∨ op = 9 ∨ op = 10 ∨ op = 16 ∨ op = 18 ∨ op = 20 then 1 else 0
def writesF (op flag : Int) : Bool :=
  if op = 4 ∨ op = 6 ∨ op = 8 ∨ op = 13 ∨ op = 14 ∨ op = 17 then true else if op = 1 then (bits BinOp.and IntKind.i64 flag 2 != 0) else false
end Go.V.Queue
namespace Go.Proofs.Yteekdgmfednmoaa
open Go.RowKit Go.V Go.V.Queue
def IPost (i : Int) (w : World) (e : Ending) (w' : World) : Prop := e = .returned (.int .i64 i) ∧ Keeps [] w w'
set_option maxHeartbeats 4000000 in
theorem kind_ok (c : CV) (w : World) : Calls Try.prog 15 #[c.val] w (IPost (kindF c.op c.flag) w) := by
  obtain ⟨op, fd, flag, n, off, a, b⟩ := c
  unfold CV.val CV.cells
  simp only
  by_cases h1 : op = 1
  · subst h1
    by_cases hb : (bits BinOp.and IntKind.i64 flag 4 != 0) = true
    · have hv : kindF 1 flag = 2 := by unfold kindF; rw [if_neg (by omega), if_pos rfl, if_pos hb]
      rw [hv]
      clear hv
      go_enter Try.func15, Try.ntmps15
      go_wp2
      go_ret
      exact ⟨rfl, (Keeps.refl _ _).alloc _⟩
    · have hv : kindF 1 flag = 1 := by unfold kindF; rw [if_neg (by omega), if_pos rfl, if_neg hb]
      rw [hv]
      rw [Bool.not_eq_true] at hb
      clear hv
      go_enter Try.func15, Try.ntmps15
      go_wp2
      go_ret
      exact ⟨rfl, (Keeps.refl _ _).alloc _⟩
  by_cases h8 : op = 8
  · subst h8
    go_enter Try.func15, Try.ntmps15
    go_wp2
    go_ret
    exact ⟨rfl, (Keeps.refl _ _).alloc _⟩
  by_cases h9 : op = 9
  · subst h9
    go_enter Try.func15, Try.ntmps15
    go_wp2
    go_ret
    exact ⟨rfl, (Keeps.refl _ _).alloc _⟩
  by_cases h10 : op = 10
  · subst h10
    go_enter Try.func15, Try.ntmps15
    go_wp2
    go_ret
    exact ⟨rfl, (Keeps.refl _ _).alloc _⟩
  by_cases h11 : op = 11
  · subst h11
    go_enter Try.func15, Try.ntmps15
    go_wp2
    go_ret
    exact ⟨rfl, (Keeps.refl _ _).alloc _⟩
  by_cases h12 : op = 12
  · subst h12
    go_enter Try.func15, Try.ntmps15
    go_wp2
    go_ret
    exact ⟨rfl, (Keeps.refl _ _).alloc _⟩
  by_cases h13 : op = 13
  · subst h13
    go_enter Try.func15, Try.ntmps15
    go_wp2
    go_ret
    exact ⟨rfl, (Keeps.refl _ _).alloc _⟩
  by_cases h14 : op = 14
  · subst h14
    go_enter Try.func15, Try.ntmps15
    go_wp2
    go_ret
    exact ⟨rfl, (Keeps.refl _ _).alloc _⟩
  by_cases h15 : op = 15
  · subst h15
    go_enter Try.func15, Try.ntmps15
    go_wp2
    go_ret
    exact ⟨rfl, (Keeps.refl _ _).alloc _⟩
  by_cases h16 : op = 16
  · subst h16
    go_enter Try.func15, Try.ntmps15
    go_wp2
    go_ret
    exact ⟨rfl, (Keeps.refl _ _).alloc _⟩
  by_cases h17 : op = 17
  · subst h17
    go_enter Try.func15, Try.ntmps15
    go_wp2
    go_ret
    exact ⟨rfl, (Keeps.refl _ _).alloc _⟩
  by_cases h18 : op = 18
  · subst h18
    go_enter Try.func15, Try.ntmps15
    go_wp2
    go_ret
    exact ⟨rfl, (Keeps.refl _ _).alloc _⟩
  by_cases h20 : op = 20
  · subst h20
    go_enter Try.func15, Try.ntmps15
    go_wp2
    go_ret
    exact ⟨rfl, (Keeps.refl _ _).alloc _⟩
  have hv : kindF op flag = 0 := by unfold kindF; rw [if_neg (by omega), if_neg (by omega), if_neg (by omega)]
  rw [hv]
  clear hv
  go_enter Try.func15, Try.ntmps15
  go_wp2
  go_ret
  exact ⟨rfl, (Keeps.refl _ _).alloc _⟩
set_option maxHeartbeats 4000000 in
theorem writes_ok (c : CV) (w : World) : Calls Try.prog 24 #[c.val] w (BPost (writesF c.op c.flag) w) := by
  obtain ⟨op, fd, flag, n, off, a, b⟩ := c
  unfold CV.val CV.cells
  simp only
  by_cases h1 : op = 1
  · subst h1
    have hv : writesF 1 flag = (bits BinOp.and IntKind.i64 flag 2 != 0) := by unfold writesF; rw [if_neg (by omega), if_pos rfl]
    rw [hv]
    clear hv
    go_enter Try.func24, Try.ntmps24
    go_wp2
    go_ret
    exact ⟨rfl, (Keeps.refl _ _).alloc _⟩
  by_cases h4 : op = 4
  · subst h4
    go_enter Try.func24, Try.ntmps24
    go_wp2
    go_ret
    exact ⟨rfl, (Keeps.refl _ _).alloc _⟩
  by_cases h6 : op = 6
  · subst h6
    go_enter Try.func24, Try.ntmps24
    go_wp2
    go_ret
    exact ⟨rfl, (Keeps.refl _ _).alloc _⟩
  by_cases h8 : op = 8
  · subst h8
    go_enter Try.func24, Try.ntmps24
    go_wp2
    go_ret
    exact ⟨rfl, (Keeps.refl _ _).alloc _⟩
  by_cases h13 : op = 13
  · subst h13
    go_enter Try.func24, Try.ntmps24
    go_wp2
    go_ret
    exact ⟨rfl, (Keeps.refl _ _).alloc _⟩
  by_cases h14 : op = 14
  · subst h14
    go_enter Try.func24, Try.ntmps24
    go_wp2
    go_ret
    exact ⟨rfl, (Keeps.refl _ _).alloc _⟩
  by_cases h17 : op = 17
  · subst h17
    go_enter Try.func24, Try.ntmps24
    go_wp2
    go_ret
    exact ⟨rfl, (Keeps.refl _ _).alloc _⟩
  have hv : writesF op flag = false := by unfold writesF; rw [if_neg (by omega), if_neg (by omega)]
  rw [hv]
  clear hv
  go_enter Try.func24, Try.ntmps24
  go_wp2
  go_ret
  exact ⟨rfl, (Keeps.refl _ _).alloc _⟩
end Go.Proofs.Yteekdgmfednmoaa
