/-
  No cell of these rows narrows 'for every input' (looked for: loops, veiled, ifaces, maps, wideKeys, modest, calm, conditions, laid).
  DERIVED. THE GIVEN ROWS OF THIS SEAT. 5 by the template 'for every input the law returns true; each argument reads behind the call as it read before'; 0 by the template 'total and deterministic' (their statements: YtppmnjblcblofaaTotals.lean).
  GIVEN WITH THE SEED: the statements are not yours to turn. If you find one false, say at which input.
  Laid BY PROGRAM, IN A SANDBOX (cutbox-rows.mjs): the forced cells as the released guide's own fill.sh prints them over the translation 69620098dfcef023… (all of the seat's roots in one cut). By AI agents, Wed Nov 11 2026. No macro, syntax, notation, axiom, sorry.
-/
import Derived.Test.YtppmnjblcblofaaChecked
import GoSem.Claim
import GoSem.ClaimJoined
import GoSem.ClaimMapViews
import Derived.JoinedTies
import Derived.KernelRfl
namespace Go.Proofs.Ytppmnjblcblofaa
/- THE CELL 'sum', in the pinned program and in every row, IS THE sha256 OF THE DUMP (.gsa) THAT YtppmnjblcblofaaProg.lean LOADS. Nothing in Lean hashes anything: it is a label: what it is worth is what the hold of that sum in a sandbox is worth. -/
noncomputable def Try.pinned : Pinned := { name := "ytppmnjblcblofaa", sum := "69620098dfcef023953a114b40d047b2eabe9ae30f24481444276272bb3ea348", checked := Try.checked }
namespace Rows
def none {H : Type} : Left H := { results := [], args := [] }

/-- 'veneerlaw04.DentsDoes': WHATEVER THE INPUT: true; the input reads as it did. -/
def dentsDoesSpec : ChangeSpec := { name := "dentsDoes", fn := fun _ => fun
  | [d1, d2] => { results := [.lit (.bool true)], args := [d1, d2] }
  | _ => none }
def dentsDoesRow : OpenClaim := { program := "ytppmnjblcblofaa", sum := "69620098dfcef023953a114b40d047b2eabe9ae30f24481444276272bb3ea348", func := "veneer/veneerlaw04.DentsDoes", spec := "dentsDoes", inPlace := ["internal/bytealg.IndexByteString", "internal/bytealg.abigen_runtime_cmpstring", "slices.overlaps[veneer/api.Entry]"], unfollowed := true, recurses := true, apart := false }
def DentsDoesSaid : Prop := dentsDoesRow.holds Try.pinned (OpenSpec.ofChange dentsDoesSpec)

/-- ITS FALSE NEIGHBOUR: 'it returns false'. Refute it at one input. -/
def dentsDoesWrong : ChangeSpec := { name := "dentsDoes", fn := fun _ => fun
  | [d1, d2] => { results := [.lit (.bool false)], args := [d1, d2] }
  | _ => none }
def DentsDoesWrongFalsely : Prop := dentsDoesRow.holds Try.pinned (OpenSpec.ofChange dentsDoesWrong)

/-- 'veneerlaw04.DentsLast': WHATEVER THE INPUT: true; the input reads as it did. -/
def dentsLastSpec : ChangeSpec := { name := "dentsLast", fn := fun _ => fun
  | [d1, d2, d3, d4] => { results := [.lit (.bool true)], args := [d1, d2, d3, d4] }
  | _ => none }
def dentsLastRow : OpenClaim := { program := "ytppmnjblcblofaa", sum := "69620098dfcef023953a114b40d047b2eabe9ae30f24481444276272bb3ea348", func := "veneer/veneerlaw04.DentsLast", spec := "dentsLast", inPlace := ["internal/bytealg.IndexByteString", "internal/bytealg.abigen_runtime_cmpstring", "slices.overlaps[veneer/api.Entry]"], unfollowed := true, recurses := true, apart := false }
def DentsLastSaid : Prop := dentsLastRow.holds Try.pinned (OpenSpec.ofChange dentsLastSpec)

/-- ITS FALSE NEIGHBOUR: 'it returns false'. Refute it at one input. -/
def dentsLastWrong : ChangeSpec := { name := "dentsLast", fn := fun _ => fun
  | [d1, d2, d3, d4] => { results := [.lit (.bool false)], args := [d1, d2, d3, d4] }
  | _ => none }
def DentsLastWrongFalsely : Prop := dentsLastRow.holds Try.pinned (OpenSpec.ofChange dentsLastWrong)

/-- 'veneerlaw04.DentsTurned': WHATEVER THE INPUT: true; the input reads as it did. -/
def dentsTurnedSpec : ChangeSpec := { name := "dentsTurned", fn := fun _ => fun
  | [d] => { results := [.lit (.bool true)], args := [d] }
  | _ => none }
def dentsTurnedRow : OpenClaim := { program := "ytppmnjblcblofaa", sum := "69620098dfcef023953a114b40d047b2eabe9ae30f24481444276272bb3ea348", func := "veneer/veneerlaw04.DentsTurned", spec := "dentsTurned", inPlace := ["internal/bytealg.IndexByteString", "internal/bytealg.abigen_runtime_cmpstring", "slices.overlaps[veneer/api.Entry]"], unfollowed := true, recurses := true, apart := false }
def DentsTurnedSaid : Prop := dentsTurnedRow.holds Try.pinned (OpenSpec.ofChange dentsTurnedSpec)

/-- ITS FALSE NEIGHBOUR: 'it returns false'. Refute it at one input. -/
def dentsTurnedWrong : ChangeSpec := { name := "dentsTurned", fn := fun _ => fun
  | [d] => { results := [.lit (.bool false)], args := [d] }
  | _ => none }
def DentsTurnedWrongFalsely : Prop := dentsTurnedRow.holds Try.pinned (OpenSpec.ofChange dentsTurnedWrong)

/-- 'veneerlaw04.DentsOrder': WHATEVER THE INPUT: true; the input reads as it did. -/
def dentsOrderSpec : ChangeSpec := { name := "dentsOrder", fn := fun _ => fun
  | [d] => { results := [.lit (.bool true)], args := [d] }
  | _ => none }
def dentsOrderRow : OpenClaim := { program := "ytppmnjblcblofaa", sum := "69620098dfcef023953a114b40d047b2eabe9ae30f24481444276272bb3ea348", func := "veneer/veneerlaw04.DentsOrder", spec := "dentsOrder", inPlace := ["internal/bytealg.IndexByteString", "internal/bytealg.abigen_runtime_cmpstring", "slices.overlaps[veneer/api.Entry]"], unfollowed := true, recurses := true, apart := false }
def DentsOrderSaid : Prop := dentsOrderRow.holds Try.pinned (OpenSpec.ofChange dentsOrderSpec)

/-- ITS FALSE NEIGHBOUR: 'it returns false'. Refute it at one input. -/
def dentsOrderWrong : ChangeSpec := { name := "dentsOrder", fn := fun _ => fun
  | [d] => { results := [.lit (.bool false)], args := [d] }
  | _ => none }
def DentsOrderWrongFalsely : Prop := dentsOrderRow.holds Try.pinned (OpenSpec.ofChange dentsOrderWrong)

/-- 'veneerlaw04.DentsNexts': WHATEVER THE INPUT: true; the input reads as it did. -/
def dentsNextsSpec : ChangeSpec := { name := "dentsNexts", fn := fun _ => fun
  | [d1, d2] => { results := [.lit (.bool true)], args := [d1, d2] }
  | _ => none }
def dentsNextsRow : OpenClaim := { program := "ytppmnjblcblofaa", sum := "69620098dfcef023953a114b40d047b2eabe9ae30f24481444276272bb3ea348", func := "veneer/veneerlaw04.DentsNexts", spec := "dentsNexts", inPlace := ["internal/bytealg.IndexByteString", "internal/bytealg.abigen_runtime_cmpstring", "slices.overlaps[veneer/api.Entry]"], unfollowed := true, recurses := true, apart := false }
def DentsNextsSaid : Prop := dentsNextsRow.holds Try.pinned (OpenSpec.ofChange dentsNextsSpec)

/-- ITS FALSE NEIGHBOUR: 'it returns false'. Refute it at one input. -/
def dentsNextsWrong : ChangeSpec := { name := "dentsNexts", fn := fun _ => fun
  | [d1, d2] => { results := [.lit (.bool false)], args := [d1, d2] }
  | _ => none }
def DentsNextsWrongFalsely : Prop := dentsNextsRow.holds Try.pinned (OpenSpec.ofChange dentsNextsWrong)

/- THE SECOND FORM. 'bulk': how many values and letters a reading holds, each counted each time it is reached (what is shared counts as often as it is met; a slice's spare places count too). A statement '..UptoSaid' is the law's where the arguments, and the package variables that the reading takes, are together of bulk at most 1048576: NARROWER than '..Said'. Prove '..Said' where nothing that the law and all that it calls make is longer than what came in: it says more and counts as full. Else prove '..UptoSaid'. A law counts once. -/
mutual
def uptoBulk {H : Type} : DataW H → Nat
  | .lit (.string bytes) => bytes.length + 1
  | .lit _ => 1
  | .nil => 1
  | .ptr d => uptoBulk d + 1
  | .slice elems spare => uptoBulkAll elems + uptoBulkAll spare + 1
  | .agg parts => uptoBulkAll parts + 1
  | .iface _ d => uptoBulk d + 1
  | .map entries => uptoBulkEntries entries + 1
  | .held _ => 1
def uptoBulkAll {H : Type} : List (DataW H) → Nat
  | [] => 0
  | d :: r => uptoBulk d + uptoBulkAll r
def uptoBulkEntries {H : Type} : List (Lit × DataW H) → Nat
  | [] => 0
  | x :: r => uptoBulkEntry x + uptoBulkEntries r
def uptoBulkEntry {H : Type} : Lit × DataW H → Nat
  | (.string bytes, d) => bytes.length + uptoBulk d + 1
  | (_, d) => uptoBulk d + 1
 end
def uptoSmall : (H : Type) → List (DataW H) → Bool := fun _ ds => decide (uptoBulkAll ds ≤ 1048576)
def OpenSpec.upto (s : _root_.Go.ChangeSpec) : _root_.Go.OpenSpec := { _root_.Go.OpenSpec.ofChange s with cond := some uptoSmall }

/-- 'veneerlaw04.DentsDoes', WHERE WHAT IT READS IS OF BULK AT MOST 1048576: true; the input reads as it did. -/
def dentsDoesUptoRow : OpenClaim := { program := "ytppmnjblcblofaa", sum := "69620098dfcef023953a114b40d047b2eabe9ae30f24481444276272bb3ea348", func := "veneer/veneerlaw04.DentsDoes", spec := "dentsDoes", inPlace := ["internal/bytealg.IndexByteString", "internal/bytealg.abigen_runtime_cmpstring", "slices.overlaps[veneer/api.Entry]"], unfollowed := true, recurses := true, apart := false, narrowed := true }
def DentsDoesUptoSaid : Prop := dentsDoesUptoRow.holds Try.pinned (OpenSpec.upto dentsDoesSpec)

/-- 'veneerlaw04.DentsLast', WHERE WHAT IT READS IS OF BULK AT MOST 1048576: true; the input reads as it did. -/
def dentsLastUptoRow : OpenClaim := { program := "ytppmnjblcblofaa", sum := "69620098dfcef023953a114b40d047b2eabe9ae30f24481444276272bb3ea348", func := "veneer/veneerlaw04.DentsLast", spec := "dentsLast", inPlace := ["internal/bytealg.IndexByteString", "internal/bytealg.abigen_runtime_cmpstring", "slices.overlaps[veneer/api.Entry]"], unfollowed := true, recurses := true, apart := false, narrowed := true }
def DentsLastUptoSaid : Prop := dentsLastUptoRow.holds Try.pinned (OpenSpec.upto dentsLastSpec)

/-- 'veneerlaw04.DentsTurned', WHERE WHAT IT READS IS OF BULK AT MOST 1048576: true; the input reads as it did. -/
def dentsTurnedUptoRow : OpenClaim := { program := "ytppmnjblcblofaa", sum := "69620098dfcef023953a114b40d047b2eabe9ae30f24481444276272bb3ea348", func := "veneer/veneerlaw04.DentsTurned", spec := "dentsTurned", inPlace := ["internal/bytealg.IndexByteString", "internal/bytealg.abigen_runtime_cmpstring", "slices.overlaps[veneer/api.Entry]"], unfollowed := true, recurses := true, apart := false, narrowed := true }
def DentsTurnedUptoSaid : Prop := dentsTurnedUptoRow.holds Try.pinned (OpenSpec.upto dentsTurnedSpec)

/-- 'veneerlaw04.DentsOrder', WHERE WHAT IT READS IS OF BULK AT MOST 1048576: true; the input reads as it did. -/
def dentsOrderUptoRow : OpenClaim := { program := "ytppmnjblcblofaa", sum := "69620098dfcef023953a114b40d047b2eabe9ae30f24481444276272bb3ea348", func := "veneer/veneerlaw04.DentsOrder", spec := "dentsOrder", inPlace := ["internal/bytealg.IndexByteString", "internal/bytealg.abigen_runtime_cmpstring", "slices.overlaps[veneer/api.Entry]"], unfollowed := true, recurses := true, apart := false, narrowed := true }
def DentsOrderUptoSaid : Prop := dentsOrderUptoRow.holds Try.pinned (OpenSpec.upto dentsOrderSpec)

/-- 'veneerlaw04.DentsNexts', WHERE WHAT IT READS IS OF BULK AT MOST 1048576: true; the input reads as it did. -/
def dentsNextsUptoRow : OpenClaim := { program := "ytppmnjblcblofaa", sum := "69620098dfcef023953a114b40d047b2eabe9ae30f24481444276272bb3ea348", func := "veneer/veneerlaw04.DentsNexts", spec := "dentsNexts", inPlace := ["internal/bytealg.IndexByteString", "internal/bytealg.abigen_runtime_cmpstring", "slices.overlaps[veneer/api.Entry]"], unfollowed := true, recurses := true, apart := false, narrowed := true }
def DentsNextsUptoSaid : Prop := dentsNextsUptoRow.holds Try.pinned (OpenSpec.upto dentsNextsSpec)

end Rows
end Go.Proofs.Ytppmnjblcblofaa
