/-
  No cell of these rows narrows 'for every input' (looked for: loops, veiled, ifaces, maps, wideKeys, modest, calm, conditions, laid).
  DERIVED. THE GIVEN ROWS OF THIS SEAT. 5 by the template 'for every input the law returns true; each argument reads behind the call as it read before'; 0 by the template 'total and deterministic' (their statements: YteekdgmfednmoaaTotals.lean).
  GIVEN WITH THE SEED: the statements are not yours to turn. If you find one false, say at which input.
  Laid BY PROGRAM, IN A SANDBOX (cutbox-rows.mjs): the forced cells as the released guide's own fill.sh prints them over the translation f54160f2437a2f42… (all of the seat's roots in one cut). By AI agents, Wed Nov 11 2026. No macro, syntax, notation, axiom, sorry.
-/
import Derived.Test.YteekdgmfednmoaaChecked
import GoSem.Claim
import GoSem.ClaimJoined
import GoSem.ClaimMapViews
import Derived.JoinedTies
import Derived.KernelRfl
namespace Go.Proofs.Yteekdgmfednmoaa
/- THE CELL 'sum', in the pinned program and in every row, IS THE sha256 OF THE DUMP (.gsa) THAT YteekdgmfednmoaaProg.lean LOADS. Nothing in Lean hashes anything: it is a label: what it is worth is what the hold of that sum in a sandbox is worth. -/
noncomputable def Try.pinned : Pinned := { name := "yteekdgmfednmoaa", sum := "f54160f2437a2f422947f02962ebd25a3670e6096b3a3bd092dfc44a9f063f9b", checked := Try.checked }
namespace Rows
def none {H : Type} : Left H := { results := [], args := [] }

/-- 'veneerlaw15.PlanOrders': WHATEVER THE INPUT: true; the input reads as it did. -/
def planOrdersSpec : ChangeSpec := { name := "planOrders", fn := fun _ => fun
  | [d1, d2] => { results := [.lit (.bool true)], args := [d1, d2] }
  | _ => none }
def planOrdersRow : OpenClaim := { program := "yteekdgmfednmoaa", sum := "f54160f2437a2f422947f02962ebd25a3670e6096b3a3bd092dfc44a9f063f9b", func := "veneer/veneerlaw15.PlanOrders", spec := "planOrders", unfollowed := true, recurses := true, apart := false }
def PlanOrdersSaid : Prop := planOrdersRow.holds Try.pinned (OpenSpec.ofChange planOrdersSpec)

/-- ITS FALSE NEIGHBOUR: 'it returns false'. Refute it at one input. -/
def planOrdersWrong : ChangeSpec := { name := "planOrders", fn := fun _ => fun
  | [d1, d2] => { results := [.lit (.bool false)], args := [d1, d2] }
  | _ => none }
def PlanOrdersWrongFalsely : Prop := planOrdersRow.holds Try.pinned (OpenSpec.ofChange planOrdersWrong)

/-- 'veneerlaw15.PlanWants': WHATEVER THE INPUT: true; the input reads as it did. -/
def planWantsSpec : ChangeSpec := { name := "planWants", fn := fun _ => fun
  | [d1, d2, d3] => { results := [.lit (.bool true)], args := [d1, d2, d3] }
  | _ => none }
def planWantsRow : OpenClaim := { program := "yteekdgmfednmoaa", sum := "f54160f2437a2f422947f02962ebd25a3670e6096b3a3bd092dfc44a9f063f9b", func := "veneer/veneerlaw15.PlanWants", spec := "planWants", unfollowed := true, recurses := true, apart := false }
def PlanWantsSaid : Prop := planWantsRow.holds Try.pinned (OpenSpec.ofChange planWantsSpec)

/-- ITS FALSE NEIGHBOUR: 'it returns false'. Refute it at one input. -/
def planWantsWrong : ChangeSpec := { name := "planWants", fn := fun _ => fun
  | [d1, d2, d3] => { results := [.lit (.bool false)], args := [d1, d2, d3] }
  | _ => none }
def PlanWantsWrongFalsely : Prop := planWantsRow.holds Try.pinned (OpenSpec.ofChange planWantsWrong)

/-- 'veneerlaw15.PlanRises': WHATEVER THE INPUT: true; the input reads as it did. -/
def planRisesSpec : ChangeSpec := { name := "planRises", fn := fun _ => fun
  | [d] => { results := [.lit (.bool true)], args := [d] }
  | _ => none }
def planRisesRow : OpenClaim := { program := "yteekdgmfednmoaa", sum := "f54160f2437a2f422947f02962ebd25a3670e6096b3a3bd092dfc44a9f063f9b", func := "veneer/veneerlaw15.PlanRises", spec := "planRises", unfollowed := true, recurses := true, apart := false }
def PlanRisesSaid : Prop := planRisesRow.holds Try.pinned (OpenSpec.ofChange planRisesSpec)

/-- ITS FALSE NEIGHBOUR: 'it returns false'. Refute it at one input. -/
def planRisesWrong : ChangeSpec := { name := "planRises", fn := fun _ => fun
  | [d] => { results := [.lit (.bool false)], args := [d] }
  | _ => none }
def PlanRisesWrongFalsely : Prop := planRisesRow.holds Try.pinned (OpenSpec.ofChange planRisesWrong)

/-- 'veneerlaw15.PlanClashes': WHATEVER THE INPUT: true; the input reads as it did. -/
def planClashesSpec : ChangeSpec := { name := "planClashes", fn := fun _ => fun
  | [d1, d2] => { results := [.lit (.bool true)], args := [d1, d2] }
  | _ => none }
def planClashesRow : OpenClaim := { program := "yteekdgmfednmoaa", sum := "f54160f2437a2f422947f02962ebd25a3670e6096b3a3bd092dfc44a9f063f9b", func := "veneer/veneerlaw15.PlanClashes", spec := "planClashes", unfollowed := true, recurses := true, apart := false }
def PlanClashesSaid : Prop := planClashesRow.holds Try.pinned (OpenSpec.ofChange planClashesSpec)

/-- ITS FALSE NEIGHBOUR: 'it returns false'. Refute it at one input. -/
def planClashesWrong : ChangeSpec := { name := "planClashes", fn := fun _ => fun
  | [d1, d2] => { results := [.lit (.bool false)], args := [d1, d2] }
  | _ => none }
def PlanClashesWrongFalsely : Prop := planClashesRow.holds Try.pinned (OpenSpec.ofChange planClashesWrong)

/-- 'veneerlaw15.PlanFile': WHATEVER THE INPUT: true; the input reads as it did. -/
def planFileSpec : ChangeSpec := { name := "planFile", fn := fun _ => fun
  | [d1, d2, d3] => { results := [.lit (.bool true)], args := [d1, d2, d3] }
  | _ => none }
def planFileRow : OpenClaim := { program := "yteekdgmfednmoaa", sum := "f54160f2437a2f422947f02962ebd25a3670e6096b3a3bd092dfc44a9f063f9b", func := "veneer/veneerlaw15.PlanFile", spec := "planFile", unfollowed := true, recurses := true, apart := false }
def PlanFileSaid : Prop := planFileRow.holds Try.pinned (OpenSpec.ofChange planFileSpec)

/-- ITS FALSE NEIGHBOUR: 'it returns false'. Refute it at one input. -/
def planFileWrong : ChangeSpec := { name := "planFile", fn := fun _ => fun
  | [d1, d2, d3] => { results := [.lit (.bool false)], args := [d1, d2, d3] }
  | _ => none }
def PlanFileWrongFalsely : Prop := planFileRow.holds Try.pinned (OpenSpec.ofChange planFileWrong)

/- THE SECOND FORM. 'bulk': how many values and letters a reading holds, each counted each time it is reached (what is shared counts as often as it is met; a slice's spare places count too). A statement '..UptoSaid' is the law's where the arguments, and the package variables that the reading takes, are together of bulk at most 1048576: NARROWER than '..Said'. Prove '..Said' where nothing that the law and all that it calls make is longer than what came in: it says more and counts as full. Else prove '..UptoSaid'. A law counts once. -/
mutual
def uptoBulk {H : Type} : DataW H → Nat
  | .lit (.string bytes) => bytes.length + 1
  | .lit _ => 1
  | .nil => 1
  | .ptr d => uptoBulk d + 1
  | .slice elems spare => uptoBulkAll elems + uptoBulkAll spare + 1
  | .agg parts => uptoBulkAll parts + 1
  | .iface _ d => uptoBulk d + 1
  | .map entries => uptoBulkEntries entries + 1
  | .held _ => 1
def uptoBulkAll {H : Type} : List (DataW H) → Nat
  | [] => 0
  | d :: r => uptoBulk d + uptoBulkAll r
def uptoBulkEntries {H : Type} : List (Lit × DataW H) → Nat
  | [] => 0
  | x :: r => uptoBulkEntry x + uptoBulkEntries r
def uptoBulkEntry {H : Type} : Lit × DataW H → Nat
  | (.string bytes, d) => bytes.length + uptoBulk d + 1
  | (_, d) => uptoBulk d + 1
 end
def uptoSmall : (H : Type) → List (DataW H) → Bool := fun _ ds => decide (uptoBulkAll ds ≤ 1048576)
def OpenSpec.upto (s : _root_.Go.ChangeSpec) : _root_.Go.OpenSpec := { _root_.Go.OpenSpec.ofChange s with cond := some uptoSmall }

/-- 'veneerlaw15.PlanOrders', WHERE WHAT IT READS IS OF BULK AT MOST 1048576: true; the input reads as it did. -/
def planOrdersUptoRow : OpenClaim := { program := "yteekdgmfednmoaa", sum := "f54160f2437a2f422947f02962ebd25a3670e6096b3a3bd092dfc44a9f063f9b", func := "veneer/veneerlaw15.PlanOrders", spec := "planOrders", unfollowed := true, recurses := true, apart := false, narrowed := true }
def PlanOrdersUptoSaid : Prop := planOrdersUptoRow.holds Try.pinned (OpenSpec.upto planOrdersSpec)

/-- 'veneerlaw15.PlanWants', WHERE WHAT IT READS IS OF BULK AT MOST 1048576: true; the input reads as it did. -/
def planWantsUptoRow : OpenClaim := { program := "yteekdgmfednmoaa", sum := "f54160f2437a2f422947f02962ebd25a3670e6096b3a3bd092dfc44a9f063f9b", func := "veneer/veneerlaw15.PlanWants", spec := "planWants", unfollowed := true, recurses := true, apart := false, narrowed := true }
def PlanWantsUptoSaid : Prop := planWantsUptoRow.holds Try.pinned (OpenSpec.upto planWantsSpec)

/-- 'veneerlaw15.PlanRises', WHERE WHAT IT READS IS OF BULK AT MOST 1048576: true; the input reads as it did. -/
def planRisesUptoRow : OpenClaim := { program := "yteekdgmfednmoaa", sum := "f54160f2437a2f422947f02962ebd25a3670e6096b3a3bd092dfc44a9f063f9b", func := "veneer/veneerlaw15.PlanRises", spec := "planRises", unfollowed := true, recurses := true, apart := false, narrowed := true }
def PlanRisesUptoSaid : Prop := planRisesUptoRow.holds Try.pinned (OpenSpec.upto planRisesSpec)

/-- 'veneerlaw15.PlanClashes', WHERE WHAT IT READS IS OF BULK AT MOST 1048576: true; the input reads as it did. -/
def planClashesUptoRow : OpenClaim := { program := "yteekdgmfednmoaa", sum := "f54160f2437a2f422947f02962ebd25a3670e6096b3a3bd092dfc44a9f063f9b", func := "veneer/veneerlaw15.PlanClashes", spec := "planClashes", unfollowed := true, recurses := true, apart := false, narrowed := true }
def PlanClashesUptoSaid : Prop := planClashesUptoRow.holds Try.pinned (OpenSpec.upto planClashesSpec)

/-- 'veneerlaw15.PlanFile', WHERE WHAT IT READS IS OF BULK AT MOST 1048576: true; the input reads as it did. -/
def planFileUptoRow : OpenClaim := { program := "yteekdgmfednmoaa", sum := "f54160f2437a2f422947f02962ebd25a3670e6096b3a3bd092dfc44a9f063f9b", func := "veneer/veneerlaw15.PlanFile", spec := "planFile", unfollowed := true, recurses := true, apart := false, narrowed := true }
def PlanFileUptoSaid : Prop := planFileUptoRow.holds Try.pinned (OpenSpec.upto planFileSpec)

end Rows
end Go.Proofs.Yteekdgmfednmoaa
