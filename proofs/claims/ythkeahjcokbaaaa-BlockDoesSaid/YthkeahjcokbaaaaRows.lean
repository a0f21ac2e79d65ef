/-
  No cell of these rows narrows 'for every input' (looked for: loops, veiled, ifaces, maps, wideKeys, modest, calm, conditions, laid).
  DERIVED. THE GIVEN ROWS OF THIS SEAT. 7 by the template 'for every input the law returns true; each argument reads behind the call as it read before'; 0 by the template 'total and deterministic' (their statements: YthkeahjcokbaaaaTotals.lean).
  GIVEN WITH THE SEED: the statements are not yours to turn. If you find one false, say at which input.
  Laid BY PROGRAM, IN A SANDBOX (cutbox-rows.mjs): the forced cells as the released guide's own fill.sh prints them over the translation 9a0b79d6ad49cc77… (all of the seat's roots in one cut). By AI agents, Wed Nov 11 2026. No macro, syntax, notation, axiom, sorry.
-/
import Derived.Test.YthkeahjcokbaaaaChecked
import GoSem.Claim
import GoSem.ClaimJoined
import GoSem.ClaimMapViews
import Derived.JoinedTies
import Derived.KernelRfl
namespace Go.Proofs.Ythkeahjcokbaaaa
/- THE CELL 'sum', in the pinned program and in every row, IS THE sha256 OF THE DUMP (.gsa) THAT YthkeahjcokbaaaaProg.lean LOADS. Nothing in Lean hashes anything: it is a label: what it is worth is what the hold of that sum in a sandbox is worth. -/
noncomputable def Try.pinned : Pinned := { name := "ythkeahjcokbaaaa", sum := "9a0b79d6ad49cc77c66252d6bb3d0e6bafb3b86bfe2a71cf6bbf297c6e1d1f92", checked := Try.checked }
namespace Rows
def none {H : Type} : Left H := { results := [], args := [] }

/-- 'veneerlaw03.BlockParts': WHATEVER THE INPUT: true; the input reads as it did. -/
def blockPartsSpec : ChangeSpec := { name := "blockParts", fn := fun _ => fun
  | [d1, d2, d3] => { results := [.lit (.bool true)], args := [d1, d2, d3] }
  | _ => none }
def blockPartsRow : OpenClaim := { program := "ythkeahjcokbaaaa", sum := "9a0b79d6ad49cc77c66252d6bb3d0e6bafb3b86bfe2a71cf6bbf297c6e1d1f92", func := "veneer/veneerlaw03.BlockParts", spec := "blockParts", apart := false }
def BlockPartsSaid : Prop := blockPartsRow.holds Try.pinned (OpenSpec.ofChange blockPartsSpec)

/-- ITS FALSE NEIGHBOUR: 'it returns false'. Refute it at one input. -/
def blockPartsWrong : ChangeSpec := { name := "blockParts", fn := fun _ => fun
  | [d1, d2, d3] => { results := [.lit (.bool false)], args := [d1, d2, d3] }
  | _ => none }
def BlockPartsWrongFalsely : Prop := blockPartsRow.holds Try.pinned (OpenSpec.ofChange blockPartsWrong)

/-- 'veneerlaw03.BlockDoes': WHATEVER THE INPUT: true; the input reads as it did. -/
def blockDoesSpec : ChangeSpec := { name := "blockDoes", fn := fun _ => fun
  | [d1, d2] => { results := [.lit (.bool true)], args := [d1, d2] }
  | _ => none }
def blockDoesRow : OpenClaim := { program := "ythkeahjcokbaaaa", sum := "9a0b79d6ad49cc77c66252d6bb3d0e6bafb3b86bfe2a71cf6bbf297c6e1d1f92", func := "veneer/veneerlaw03.BlockDoes", spec := "blockDoes", apart := false }
def BlockDoesSaid : Prop := blockDoesRow.holds Try.pinned (OpenSpec.ofChange blockDoesSpec)

/-- ITS FALSE NEIGHBOUR: 'it returns false'. Refute it at one input. -/
def blockDoesWrong : ChangeSpec := { name := "blockDoes", fn := fun _ => fun
  | [d1, d2] => { results := [.lit (.bool false)], args := [d1, d2] }
  | _ => none }
def BlockDoesWrongFalsely : Prop := blockDoesRow.holds Try.pinned (OpenSpec.ofChange blockDoesWrong)

/-- 'veneerlaw03.BlockRoom': WHATEVER THE INPUT: true; the input reads as it did. -/
def blockRoomSpec : ChangeSpec := { name := "blockRoom", fn := fun _ => fun
  | [d1, d2] => { results := [.lit (.bool true)], args := [d1, d2] }
  | _ => none }
def blockRoomRow : OpenClaim := { program := "ythkeahjcokbaaaa", sum := "9a0b79d6ad49cc77c66252d6bb3d0e6bafb3b86bfe2a71cf6bbf297c6e1d1f92", func := "veneer/veneerlaw03.BlockRoom", spec := "blockRoom", apart := false }
def BlockRoomSaid : Prop := blockRoomRow.holds Try.pinned (OpenSpec.ofChange blockRoomSpec)

/-- ITS FALSE NEIGHBOUR: 'it returns false'. Refute it at one input. -/
def blockRoomWrong : ChangeSpec := { name := "blockRoom", fn := fun _ => fun
  | [d1, d2] => { results := [.lit (.bool false)], args := [d1, d2] }
  | _ => none }
def BlockRoomWrongFalsely : Prop := blockRoomRow.holds Try.pinned (OpenSpec.ofChange blockRoomWrong)

/-- 'veneerlaw03.BlockKeeps': WHATEVER THE INPUT: true; the input reads as it did. -/
def blockKeepsSpec : ChangeSpec := { name := "blockKeeps", fn := fun _ => fun
  | [d1, d2, d3, d4] => { results := [.lit (.bool true)], args := [d1, d2, d3, d4] }
  | _ => none }
def blockKeepsRow : OpenClaim := { program := "ythkeahjcokbaaaa", sum := "9a0b79d6ad49cc77c66252d6bb3d0e6bafb3b86bfe2a71cf6bbf297c6e1d1f92", func := "veneer/veneerlaw03.BlockKeeps", spec := "blockKeeps", apart := false }
def BlockKeepsSaid : Prop := blockKeepsRow.holds Try.pinned (OpenSpec.ofChange blockKeepsSpec)

/-- ITS FALSE NEIGHBOUR: 'it returns false'. Refute it at one input. -/
def blockKeepsWrong : ChangeSpec := { name := "blockKeeps", fn := fun _ => fun
  | [d1, d2, d3, d4] => { results := [.lit (.bool false)], args := [d1, d2, d3, d4] }
  | _ => none }
def BlockKeepsWrongFalsely : Prop := blockKeepsRow.holds Try.pinned (OpenSpec.ofChange blockKeepsWrong)

/-- 'veneerlaw03.BlockCuts': WHATEVER THE INPUT: true; the input reads as it did. -/
def blockCutsSpec : ChangeSpec := { name := "blockCuts", fn := fun _ => fun
  | [d1, d2, d3, d4] => { results := [.lit (.bool true)], args := [d1, d2, d3, d4] }
  | _ => none }
def blockCutsRow : OpenClaim := { program := "ythkeahjcokbaaaa", sum := "9a0b79d6ad49cc77c66252d6bb3d0e6bafb3b86bfe2a71cf6bbf297c6e1d1f92", func := "veneer/veneerlaw03.BlockCuts", spec := "blockCuts", apart := false }
def BlockCutsSaid : Prop := blockCutsRow.holds Try.pinned (OpenSpec.ofChange blockCutsSpec)

/-- ITS FALSE NEIGHBOUR: 'it returns false'. Refute it at one input. -/
def blockCutsWrong : ChangeSpec := { name := "blockCuts", fn := fun _ => fun
  | [d1, d2, d3, d4] => { results := [.lit (.bool false)], args := [d1, d2, d3, d4] }
  | _ => none }
def BlockCutsWrongFalsely : Prop := blockCutsRow.holds Try.pinned (OpenSpec.ofChange blockCutsWrong)

/-- 'veneerlaw03.BlockReads': WHATEVER THE INPUT: true; the input reads as it did. -/
def blockReadsSpec : ChangeSpec := { name := "blockReads", fn := fun _ => fun
  | [d1, d2, d3, d4, d5] => { results := [.lit (.bool true)], args := [d1, d2, d3, d4, d5] }
  | _ => none }
def blockReadsRow : OpenClaim := { program := "ythkeahjcokbaaaa", sum := "9a0b79d6ad49cc77c66252d6bb3d0e6bafb3b86bfe2a71cf6bbf297c6e1d1f92", func := "veneer/veneerlaw03.BlockReads", spec := "blockReads", apart := false }
def BlockReadsSaid : Prop := blockReadsRow.holds Try.pinned (OpenSpec.ofChange blockReadsSpec)

/-- ITS FALSE NEIGHBOUR: 'it returns false'. Refute it at one input. -/
def blockReadsWrong : ChangeSpec := { name := "blockReads", fn := fun _ => fun
  | [d1, d2, d3, d4, d5] => { results := [.lit (.bool false)], args := [d1, d2, d3, d4, d5] }
  | _ => none }
def BlockReadsWrongFalsely : Prop := blockReadsRow.holds Try.pinned (OpenSpec.ofChange blockReadsWrong)

/-- 'veneerlaw03.BlockFree': WHATEVER THE INPUT: true; the input reads as it did. -/
def blockFreeSpec : ChangeSpec := { name := "blockFree", fn := fun _ => fun
  | [d1, d2, d3, d4] => { results := [.lit (.bool true)], args := [d1, d2, d3, d4] }
  | _ => none }
def blockFreeRow : OpenClaim := { program := "ythkeahjcokbaaaa", sum := "9a0b79d6ad49cc77c66252d6bb3d0e6bafb3b86bfe2a71cf6bbf297c6e1d1f92", func := "veneer/veneerlaw03.BlockFree", spec := "blockFree", apart := false }
def BlockFreeSaid : Prop := blockFreeRow.holds Try.pinned (OpenSpec.ofChange blockFreeSpec)

/-- ITS FALSE NEIGHBOUR: 'it returns false'. Refute it at one input. -/
def blockFreeWrong : ChangeSpec := { name := "blockFree", fn := fun _ => fun
  | [d1, d2, d3, d4] => { results := [.lit (.bool false)], args := [d1, d2, d3, d4] }
  | _ => none }
def BlockFreeWrongFalsely : Prop := blockFreeRow.holds Try.pinned (OpenSpec.ofChange blockFreeWrong)

/- THE SECOND FORM. 'bulk': how many values and letters a reading holds, each counted each time it is reached (what is shared counts as often as it is met; a slice's spare places count too). A statement '..UptoSaid' is the law's where the arguments, and the package variables that the reading takes, are together of bulk at most 1048576: NARROWER than '..Said'. Prove '..Said' where nothing that the law and all that it calls make is longer than what came in: it says more and counts as full. Else prove '..UptoSaid'. A law counts once. -/
mutual
def uptoBulk {H : Type} : DataW H → Nat
  | .lit (.string bytes) => bytes.length + 1
  | .lit _ => 1
  | .nil => 1
  | .ptr d => uptoBulk d + 1
  | .slice elems spare => uptoBulkAll elems + uptoBulkAll spare + 1
  | .agg parts => uptoBulkAll parts + 1
  | .iface _ d => uptoBulk d + 1
  | .map entries => uptoBulkEntries entries + 1
  | .held _ => 1
def uptoBulkAll {H : Type} : List (DataW H) → Nat
  | [] => 0
  | d :: r => uptoBulk d + uptoBulkAll r
def uptoBulkEntries {H : Type} : List (Lit × DataW H) → Nat
  | [] => 0
  | x :: r => uptoBulkEntry x + uptoBulkEntries r
def uptoBulkEntry {H : Type} : Lit × DataW H → Nat
  | (.string bytes, d) => bytes.length + uptoBulk d + 1
  | (_, d) => uptoBulk d + 1
 end
def uptoSmall : (H : Type) → List (DataW H) → Bool := fun _ ds => decide (uptoBulkAll ds ≤ 1048576)
def OpenSpec.upto (s : _root_.Go.ChangeSpec) : _root_.Go.OpenSpec := { _root_.Go.OpenSpec.ofChange s with cond := some uptoSmall }

/-- 'veneerlaw03.BlockParts', WHERE WHAT IT READS IS OF BULK AT MOST 1048576: true; the input reads as it did. -/
def blockPartsUptoRow : OpenClaim := { program := "ythkeahjcokbaaaa", sum := "9a0b79d6ad49cc77c66252d6bb3d0e6bafb3b86bfe2a71cf6bbf297c6e1d1f92", func := "veneer/veneerlaw03.BlockParts", spec := "blockParts", apart := false, narrowed := true }
def BlockPartsUptoSaid : Prop := blockPartsUptoRow.holds Try.pinned (OpenSpec.upto blockPartsSpec)

/-- 'veneerlaw03.BlockDoes', WHERE WHAT IT READS IS OF BULK AT MOST 1048576: true; the input reads as it did. -/
def blockDoesUptoRow : OpenClaim := { program := "ythkeahjcokbaaaa", sum := "9a0b79d6ad49cc77c66252d6bb3d0e6bafb3b86bfe2a71cf6bbf297c6e1d1f92", func := "veneer/veneerlaw03.BlockDoes", spec := "blockDoes", apart := false, narrowed := true }
def BlockDoesUptoSaid : Prop := blockDoesUptoRow.holds Try.pinned (OpenSpec.upto blockDoesSpec)

/-- 'veneerlaw03.BlockRoom', WHERE WHAT IT READS IS OF BULK AT MOST 1048576: true; the input reads as it did. -/
def blockRoomUptoRow : OpenClaim := { program := "ythkeahjcokbaaaa", sum := "9a0b79d6ad49cc77c66252d6bb3d0e6bafb3b86bfe2a71cf6bbf297c6e1d1f92", func := "veneer/veneerlaw03.BlockRoom", spec := "blockRoom", apart := false, narrowed := true }
def BlockRoomUptoSaid : Prop := blockRoomUptoRow.holds Try.pinned (OpenSpec.upto blockRoomSpec)

/-- 'veneerlaw03.BlockKeeps', WHERE WHAT IT READS IS OF BULK AT MOST 1048576: true; the input reads as it did. -/
def blockKeepsUptoRow : OpenClaim := { program := "ythkeahjcokbaaaa", sum := "9a0b79d6ad49cc77c66252d6bb3d0e6bafb3b86bfe2a71cf6bbf297c6e1d1f92", func := "veneer/veneerlaw03.BlockKeeps", spec := "blockKeeps", apart := false, narrowed := true }
def BlockKeepsUptoSaid : Prop := blockKeepsUptoRow.holds Try.pinned (OpenSpec.upto blockKeepsSpec)

/-- 'veneerlaw03.BlockCuts', WHERE WHAT IT READS IS OF BULK AT MOST 1048576: true; the input reads as it did. -/
def blockCutsUptoRow : OpenClaim := { program := "ythkeahjcokbaaaa", sum := "9a0b79d6ad49cc77c66252d6bb3d0e6bafb3b86bfe2a71cf6bbf297c6e1d1f92", func := "veneer/veneerlaw03.BlockCuts", spec := "blockCuts", apart := false, narrowed := true }
def BlockCutsUptoSaid : Prop := blockCutsUptoRow.holds Try.pinned (OpenSpec.upto blockCutsSpec)

/-- 'veneerlaw03.BlockReads', WHERE WHAT IT READS IS OF BULK AT MOST 1048576: true; the input reads as it did. -/
def blockReadsUptoRow : OpenClaim := { program := "ythkeahjcokbaaaa", sum := "9a0b79d6ad49cc77c66252d6bb3d0e6bafb3b86bfe2a71cf6bbf297c6e1d1f92", func := "veneer/veneerlaw03.BlockReads", spec := "blockReads", apart := false, narrowed := true }
def BlockReadsUptoSaid : Prop := blockReadsUptoRow.holds Try.pinned (OpenSpec.upto blockReadsSpec)

/-- 'veneerlaw03.BlockFree', WHERE WHAT IT READS IS OF BULK AT MOST 1048576: true; the input reads as it did. -/
def blockFreeUptoRow : OpenClaim := { program := "ythkeahjcokbaaaa", sum := "9a0b79d6ad49cc77c66252d6bb3d0e6bafb3b86bfe2a71cf6bbf297c6e1d1f92", func := "veneer/veneerlaw03.BlockFree", spec := "blockFree", apart := false, narrowed := true }
def BlockFreeUptoSaid : Prop := blockFreeUptoRow.holds Try.pinned (OpenSpec.upto blockFreeSpec)

end Rows
end Go.Proofs.Ythkeahjcokbaaaa
