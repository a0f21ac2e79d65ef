/-
  No cell of these rows narrows 'for every input' (looked for: loops, veiled, ifaces, maps, wideKeys, modest, calm, conditions, laid).
  DERIVED. THE GIVEN ROWS OF THIS SEAT. 5 by the template 'for every input the law returns true; each argument reads behind the call as it read before'; 0 by the template 'total and deterministic' (their statements: YtginbdgoijeeoaaTotals.lean).
  GIVEN WITH THE SEED: the statements are not yours to turn. If you find one false, say at which input.
  Laid BY PROGRAM, IN A SANDBOX (cutbox-rows.mjs): the forced cells as the released guide's own fill.sh prints them over the translation 436e397d54f9c741… (all of the seat's roots in one cut). By AI agents, Wed Nov 11 2026. No macro, syntax, notation, axiom, sorry.
-/
import Derived.Test.YtginbdgoijeeoaaChecked
import GoSem.Claim
import GoSem.ClaimJoined
import GoSem.ClaimMapViews
import Derived.JoinedTies
import Derived.KernelRfl
namespace Go.Proofs.Ytginbdgoijeeoaa
/- THE CELL 'sum', in the pinned program and in every row, IS THE sha256 OF THE DUMP (.gsa) THAT YtginbdgoijeeoaaProg.lean LOADS. Nothing in Lean hashes anything: it is a label: what it is worth is what the hold of that sum in a sandbox is worth. -/
noncomputable def Try.pinned : Pinned := { name := "ytginbdgoijeeoaa", sum := "436e397d54f9c7419d3c9bf0e2ca2c2cd2630939c3593ea57e543066601e5d1c", checked := Try.checked }
namespace Rows
def none {H : Type} : Left H := { results := [], args := [] }

/-- 'veneerlaw02.QueueDoes': WHATEVER THE INPUT: true; the input reads as it did. -/
def queueDoesSpec : ChangeSpec := { name := "queueDoes", fn := fun _ => fun
  | [d] => { results := [.lit (.bool true)], args := [d] }
  | _ => none }
def queueDoesRow : OpenClaim := { program := "ytginbdgoijeeoaa", sum := "436e397d54f9c7419d3c9bf0e2ca2c2cd2630939c3593ea57e543066601e5d1c", func := "veneer/veneerlaw02.QueueDoes", spec := "queueDoes", unfollowed := true, recurses := true, apart := false }
def QueueDoesSaid : Prop := queueDoesRow.holds Try.pinned (OpenSpec.ofChange queueDoesSpec)

/-- ITS FALSE NEIGHBOUR: 'it returns false'. Refute it at one input. -/
def queueDoesWrong : ChangeSpec := { name := "queueDoes", fn := fun _ => fun
  | [d] => { results := [.lit (.bool false)], args := [d] }
  | _ => none }
def QueueDoesWrongFalsely : Prop := queueDoesRow.holds Try.pinned (OpenSpec.ofChange queueDoesWrong)

/-- 'veneerlaw02.QueueRises': WHATEVER THE INPUT: true; the input reads as it did. -/
def queueRisesSpec : ChangeSpec := { name := "queueRises", fn := fun _ => fun
  | [d] => { results := [.lit (.bool true)], args := [d] }
  | _ => none }
def queueRisesRow : OpenClaim := { program := "ytginbdgoijeeoaa", sum := "436e397d54f9c7419d3c9bf0e2ca2c2cd2630939c3593ea57e543066601e5d1c", func := "veneer/veneerlaw02.QueueRises", spec := "queueRises", unfollowed := true, recurses := true, apart := false }
def QueueRisesSaid : Prop := queueRisesRow.holds Try.pinned (OpenSpec.ofChange queueRisesSpec)

/-- ITS FALSE NEIGHBOUR: 'it returns false'. Refute it at one input. -/
def queueRisesWrong : ChangeSpec := { name := "queueRises", fn := fun _ => fun
  | [d] => { results := [.lit (.bool false)], args := [d] }
  | _ => none }
def QueueRisesWrongFalsely : Prop := queueRisesRow.holds Try.pinned (OpenSpec.ofChange queueRisesWrong)

/-- 'veneerlaw02.QueueDrops': WHATEVER THE INPUT: true; the input reads as it did. -/
def queueDropsSpec : ChangeSpec := { name := "queueDrops", fn := fun _ => fun
  | [d1, d2] => { results := [.lit (.bool true)], args := [d1, d2] }
  | _ => none }
def queueDropsRow : OpenClaim := { program := "ytginbdgoijeeoaa", sum := "436e397d54f9c7419d3c9bf0e2ca2c2cd2630939c3593ea57e543066601e5d1c", func := "veneer/veneerlaw02.QueueDrops", spec := "queueDrops", unfollowed := true, recurses := true, apart := false }
def QueueDropsSaid : Prop := queueDropsRow.holds Try.pinned (OpenSpec.ofChange queueDropsSpec)

/-- ITS FALSE NEIGHBOUR: 'it returns false'. Refute it at one input. -/
def queueDropsWrong : ChangeSpec := { name := "queueDrops", fn := fun _ => fun
  | [d1, d2] => { results := [.lit (.bool false)], args := [d1, d2] }
  | _ => none }
def QueueDropsWrongFalsely : Prop := queueDropsRow.holds Try.pinned (OpenSpec.ofChange queueDropsWrong)

/-- 'veneerlaw02.QueuePeeks': WHATEVER THE INPUT: true; the input reads as it did. -/
def queuePeeksSpec : ChangeSpec := { name := "queuePeeks", fn := fun _ => fun
  | [d] => { results := [.lit (.bool true)], args := [d] }
  | _ => none }
def queuePeeksRow : OpenClaim := { program := "ytginbdgoijeeoaa", sum := "436e397d54f9c7419d3c9bf0e2ca2c2cd2630939c3593ea57e543066601e5d1c", func := "veneer/veneerlaw02.QueuePeeks", spec := "queuePeeks", unfollowed := true, recurses := true, apart := false }
def QueuePeeksSaid : Prop := queuePeeksRow.holds Try.pinned (OpenSpec.ofChange queuePeeksSpec)

/-- ITS FALSE NEIGHBOUR: 'it returns false'. Refute it at one input. -/
def queuePeeksWrong : ChangeSpec := { name := "queuePeeks", fn := fun _ => fun
  | [d] => { results := [.lit (.bool false)], args := [d] }
  | _ => none }
def QueuePeeksWrongFalsely : Prop := queuePeeksRow.holds Try.pinned (OpenSpec.ofChange queuePeeksWrong)

/-- 'veneerlaw02.QueueTurned': WHATEVER THE INPUT: true; the input reads as it did. -/
def queueTurnedSpec : ChangeSpec := { name := "queueTurned", fn := fun _ => fun
  | [d] => { results := [.lit (.bool true)], args := [d] }
  | _ => none }
def queueTurnedRow : OpenClaim := { program := "ytginbdgoijeeoaa", sum := "436e397d54f9c7419d3c9bf0e2ca2c2cd2630939c3593ea57e543066601e5d1c", func := "veneer/veneerlaw02.QueueTurned", spec := "queueTurned", unfollowed := true, recurses := true, apart := false }
def QueueTurnedSaid : Prop := queueTurnedRow.holds Try.pinned (OpenSpec.ofChange queueTurnedSpec)

/-- ITS FALSE NEIGHBOUR: 'it returns false'. Refute it at one input. -/
def queueTurnedWrong : ChangeSpec := { name := "queueTurned", fn := fun _ => fun
  | [d] => { results := [.lit (.bool false)], args := [d] }
  | _ => none }
def QueueTurnedWrongFalsely : Prop := queueTurnedRow.holds Try.pinned (OpenSpec.ofChange queueTurnedWrong)

/- THE SECOND FORM. 'bulk': how many values and letters a reading holds, each counted each time it is reached (what is shared counts as often as it is met; a slice's spare places count too). A statement '..UptoSaid' is the law's where the arguments, and the package variables that the reading takes, are together of bulk at most 1048576: NARROWER than '..Said'. Prove '..Said' where nothing that the law and all that it calls make is longer than what came in: it says more and counts as full. Else prove '..UptoSaid'. A law counts once. -/
mutual
def uptoBulk {H : Type} : DataW H → Nat
  | .lit (.string bytes) => bytes.length + 1
  | .lit _ => 1
  | .nil => 1
  | .ptr d => uptoBulk d + 1
  | .slice elems spare => uptoBulkAll elems + uptoBulkAll spare + 1
  | .agg parts => uptoBulkAll parts + 1
  | .iface _ d => uptoBulk d + 1
  | .map entries => uptoBulkEntries entries + 1
  | .held _ => 1
def uptoBulkAll {H : Type} : List (DataW H) → Nat
  | [] => 0
  | d :: r => uptoBulk d + uptoBulkAll r
def uptoBulkEntries {H : Type} : List (Lit × DataW H) → Nat
  | [] => 0
  | x :: r => uptoBulkEntry x + uptoBulkEntries r
def uptoBulkEntry {H : Type} : Lit × DataW H → Nat
  | (.string bytes, d) => bytes.length + uptoBulk d + 1
  | (_, d) => uptoBulk d + 1
 end
def uptoSmall : (H : Type) → List (DataW H) → Bool := fun _ ds => decide (uptoBulkAll ds ≤ 1048576)
def OpenSpec.upto (s : _root_.Go.ChangeSpec) : _root_.Go.OpenSpec := { _root_.Go.OpenSpec.ofChange s with cond := some uptoSmall }

/-- 'veneerlaw02.QueueDoes', WHERE WHAT IT READS IS OF BULK AT MOST 1048576: true; the input reads as it did. -/
def queueDoesUptoRow : OpenClaim := { program := "ytginbdgoijeeoaa", sum := "436e397d54f9c7419d3c9bf0e2ca2c2cd2630939c3593ea57e543066601e5d1c", func := "veneer/veneerlaw02.QueueDoes", spec := "queueDoes", unfollowed := true, recurses := true, apart := false, narrowed := true }
def QueueDoesUptoSaid : Prop := queueDoesUptoRow.holds Try.pinned (OpenSpec.upto queueDoesSpec)

/-- 'veneerlaw02.QueueRises', WHERE WHAT IT READS IS OF BULK AT MOST 1048576: true; the input reads as it did. -/
def queueRisesUptoRow : OpenClaim := { program := "ytginbdgoijeeoaa", sum := "436e397d54f9c7419d3c9bf0e2ca2c2cd2630939c3593ea57e543066601e5d1c", func := "veneer/veneerlaw02.QueueRises", spec := "queueRises", unfollowed := true, recurses := true, apart := false, narrowed := true }
def QueueRisesUptoSaid : Prop := queueRisesUptoRow.holds Try.pinned (OpenSpec.upto queueRisesSpec)

/-- 'veneerlaw02.QueueDrops', WHERE WHAT IT READS IS OF BULK AT MOST 1048576: true; the input reads as it did. -/
def queueDropsUptoRow : OpenClaim := { program := "ytginbdgoijeeoaa", sum := "436e397d54f9c7419d3c9bf0e2ca2c2cd2630939c3593ea57e543066601e5d1c", func := "veneer/veneerlaw02.QueueDrops", spec := "queueDrops", unfollowed := true, recurses := true, apart := false, narrowed := true }
def QueueDropsUptoSaid : Prop := queueDropsUptoRow.holds Try.pinned (OpenSpec.upto queueDropsSpec)

/-- 'veneerlaw02.QueuePeeks', WHERE WHAT IT READS IS OF BULK AT MOST 1048576: true; the input reads as it did. -/
def queuePeeksUptoRow : OpenClaim := { program := "ytginbdgoijeeoaa", sum := "436e397d54f9c7419d3c9bf0e2ca2c2cd2630939c3593ea57e543066601e5d1c", func := "veneer/veneerlaw02.QueuePeeks", spec := "queuePeeks", unfollowed := true, recurses := true, apart := false, narrowed := true }
def QueuePeeksUptoSaid : Prop := queuePeeksUptoRow.holds Try.pinned (OpenSpec.upto queuePeeksSpec)

/-- 'veneerlaw02.QueueTurned', WHERE WHAT IT READS IS OF BULK AT MOST 1048576: true; the input reads as it did. -/
def queueTurnedUptoRow : OpenClaim := { program := "ytginbdgoijeeoaa", sum := "436e397d54f9c7419d3c9bf0e2ca2c2cd2630939c3593ea57e543066601e5d1c", func := "veneer/veneerlaw02.QueueTurned", spec := "queueTurned", unfollowed := true, recurses := true, apart := false, narrowed := true }
def QueueTurnedUptoSaid : Prop := queueTurnedUptoRow.holds Try.pinned (OpenSpec.upto queueTurnedSpec)

end Rows
end Go.Proofs.Ytginbdgoijeeoaa
