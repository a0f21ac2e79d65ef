/-
  No cell of these rows narrows 'for every input' (looked for: loops, veiled, ifaces, maps, wideKeys, modest, calm, conditions, laid).
  DERIVED. THE GIVEN ROWS OF THIS SEAT. 9 by the template 'for every input the law returns true; each argument reads behind the call as it read before'; 0 by the template 'total and deterministic' (their statements: YtpfmhjokcpkliaaTotals.lean).
  GIVEN WITH THE SEED: the statements are not yours to turn. If you find one false, say at which input.
  Laid BY PROGRAM, IN A SANDBOX (cutbox-rows.mjs): the forced cells as the released guide's own fill.sh prints them over the translation 27d6fe6a416aefaf… (all of the seat's roots in one cut). By AI agents, Wed Nov 11 2026. No macro, syntax, notation, axiom, sorry.
-/
import Derived.Test.YtpfmhjokcpkliaaChecked
import GoSem.Claim
import GoSem.ClaimJoined
import GoSem.ClaimMapViews
import Derived.JoinedTies
import Derived.KernelRfl
namespace Go.Proofs.Ytpfmhjokcpkliaa
/- THE CELL 'sum', in the pinned program and in every row, IS THE sha256 OF THE DUMP (.gsa) THAT YtpfmhjokcpkliaaProg.lean LOADS. Nothing in Lean hashes anything: it is a label: what it is worth is what the hold of that sum in a sandbox is worth. -/
noncomputable def Try.pinned : Pinned := { name := "ytpfmhjokcpkliaa", sum := "27d6fe6a416aefaf2a42d2450a9ff7e51c0db82a76104fff9f3c1ad066bb83ab", checked := Try.checked }
namespace Rows
def none {H : Type} : Left H := { results := [], args := [] }

/-- 'veneerlaw01.PathParses': WHATEVER THE INPUT: true; the input reads as it did. -/
def pathParsesSpec : ChangeSpec := { name := "pathParses", fn := fun _ => fun
  | [d] => { results := [.lit (.bool true)], args := [d] }
  | _ => none }
def pathParsesRow : OpenClaim := { program := "ytpfmhjokcpkliaa", sum := "27d6fe6a416aefaf2a42d2450a9ff7e51c0db82a76104fff9f3c1ad066bb83ab", func := "veneer/veneerlaw01.PathParses", spec := "pathParses", inPlace := ["internal/bytealg.IndexByteString", "internal/abi.NoEscape", "internal/bytealg.MakeNoZero"], apart := false }
def PathParsesSaid : Prop := pathParsesRow.holds Try.pinned (OpenSpec.ofChange pathParsesSpec)

/-- ITS FALSE NEIGHBOUR: 'it returns false'. Refute it at one input. -/
def pathParsesWrong : ChangeSpec := { name := "pathParses", fn := fun _ => fun
  | [d] => { results := [.lit (.bool false)], args := [d] }
  | _ => none }
def PathParsesWrongFalsely : Prop := pathParsesRow.holds Try.pinned (OpenSpec.ofChange pathParsesWrong)

/-- 'veneerlaw01.PathTexts': WHATEVER THE INPUT: true; the input reads as it did. -/
def pathTextsSpec : ChangeSpec := { name := "pathTexts", fn := fun _ => fun
  | [d1, d2, d3, d4] => { results := [.lit (.bool true)], args := [d1, d2, d3, d4] }
  | _ => none }
def pathTextsRow : OpenClaim := { program := "ytpfmhjokcpkliaa", sum := "27d6fe6a416aefaf2a42d2450a9ff7e51c0db82a76104fff9f3c1ad066bb83ab", func := "veneer/veneerlaw01.PathTexts", spec := "pathTexts", inPlace := ["internal/bytealg.IndexByteString", "internal/abi.NoEscape", "internal/bytealg.MakeNoZero"], apart := false }
def PathTextsSaid : Prop := pathTextsRow.holds Try.pinned (OpenSpec.ofChange pathTextsSpec)

/-- ITS FALSE NEIGHBOUR: 'it returns false'. Refute it at one input. -/
def pathTextsWrong : ChangeSpec := { name := "pathTexts", fn := fun _ => fun
  | [d1, d2, d3, d4] => { results := [.lit (.bool false)], args := [d1, d2, d3, d4] }
  | _ => none }
def PathTextsWrongFalsely : Prop := pathTextsRow.holds Try.pinned (OpenSpec.ofChange pathTextsWrong)

/-- 'veneerlaw01.PathBack': WHATEVER THE INPUT: true; the input reads as it did. -/
def pathBackSpec : ChangeSpec := { name := "pathBack", fn := fun _ => fun
  | [d] => { results := [.lit (.bool true)], args := [d] }
  | _ => none }
def pathBackRow : OpenClaim := { program := "ytpfmhjokcpkliaa", sum := "27d6fe6a416aefaf2a42d2450a9ff7e51c0db82a76104fff9f3c1ad066bb83ab", func := "veneer/veneerlaw01.PathBack", spec := "pathBack", inPlace := ["internal/bytealg.IndexByteString", "internal/abi.NoEscape", "internal/bytealg.MakeNoZero"], apart := false }
def PathBackSaid : Prop := pathBackRow.holds Try.pinned (OpenSpec.ofChange pathBackSpec)

/-- ITS FALSE NEIGHBOUR: 'it returns false'. Refute it at one input. -/
def pathBackWrong : ChangeSpec := { name := "pathBack", fn := fun _ => fun
  | [d] => { results := [.lit (.bool false)], args := [d] }
  | _ => none }
def PathBackWrongFalsely : Prop := pathBackRow.holds Try.pinned (OpenSpec.ofChange pathBackWrong)

/-- 'veneerlaw01.PathSlashes': WHATEVER THE INPUT: true; the input reads as it did. -/
def pathSlashesSpec : ChangeSpec := { name := "pathSlashes", fn := fun _ => fun
  | [d1, d2, d3] => { results := [.lit (.bool true)], args := [d1, d2, d3] }
  | _ => none }
def pathSlashesRow : OpenClaim := { program := "ytpfmhjokcpkliaa", sum := "27d6fe6a416aefaf2a42d2450a9ff7e51c0db82a76104fff9f3c1ad066bb83ab", func := "veneer/veneerlaw01.PathSlashes", spec := "pathSlashes", inPlace := ["internal/bytealg.IndexByteString", "internal/abi.NoEscape", "internal/bytealg.MakeNoZero"], apart := false }
def PathSlashesSaid : Prop := pathSlashesRow.holds Try.pinned (OpenSpec.ofChange pathSlashesSpec)

/-- ITS FALSE NEIGHBOUR: 'it returns false'. Refute it at one input. -/
def pathSlashesWrong : ChangeSpec := { name := "pathSlashes", fn := fun _ => fun
  | [d1, d2, d3] => { results := [.lit (.bool false)], args := [d1, d2, d3] }
  | _ => none }
def PathSlashesWrongFalsely : Prop := pathSlashesRow.holds Try.pinned (OpenSpec.ofChange pathSlashesWrong)

/-- 'veneerlaw01.PathNames': WHATEVER THE INPUT: true; the input reads as it did. -/
def pathNamesSpec : ChangeSpec := { name := "pathNames", fn := fun _ => fun
  | [d] => { results := [.lit (.bool true)], args := [d] }
  | _ => none }
def pathNamesRow : OpenClaim := { program := "ytpfmhjokcpkliaa", sum := "27d6fe6a416aefaf2a42d2450a9ff7e51c0db82a76104fff9f3c1ad066bb83ab", func := "veneer/veneerlaw01.PathNames", spec := "pathNames", inPlace := ["internal/bytealg.IndexByteString", "internal/abi.NoEscape", "internal/bytealg.MakeNoZero"], apart := false }
def PathNamesSaid : Prop := pathNamesRow.holds Try.pinned (OpenSpec.ofChange pathNamesSpec)

/-- ITS FALSE NEIGHBOUR: 'it returns false'. Refute it at one input. -/
def pathNamesWrong : ChangeSpec := { name := "pathNames", fn := fun _ => fun
  | [d] => { results := [.lit (.bool false)], args := [d] }
  | _ => none }
def PathNamesWrongFalsely : Prop := pathNamesRow.holds Try.pinned (OpenSpec.ofChange pathNamesWrong)

/-- 'veneerlaw01.PathLast': WHATEVER THE INPUT: true; the input reads as it did. -/
def pathLastSpec : ChangeSpec := { name := "pathLast", fn := fun _ => fun
  | [d] => { results := [.lit (.bool true)], args := [d] }
  | _ => none }
def pathLastRow : OpenClaim := { program := "ytpfmhjokcpkliaa", sum := "27d6fe6a416aefaf2a42d2450a9ff7e51c0db82a76104fff9f3c1ad066bb83ab", func := "veneer/veneerlaw01.PathLast", spec := "pathLast", inPlace := ["internal/bytealg.IndexByteString", "internal/abi.NoEscape", "internal/bytealg.MakeNoZero"], apart := false }
def PathLastSaid : Prop := pathLastRow.holds Try.pinned (OpenSpec.ofChange pathLastSpec)

/-- ITS FALSE NEIGHBOUR: 'it returns false'. Refute it at one input. -/
def pathLastWrong : ChangeSpec := { name := "pathLast", fn := fun _ => fun
  | [d] => { results := [.lit (.bool false)], args := [d] }
  | _ => none }
def PathLastWrongFalsely : Prop := pathLastRow.holds Try.pinned (OpenSpec.ofChange pathLastWrong)

/-- 'veneerlaw01.PathLess': WHATEVER THE INPUT: true; the input reads as it did. -/
def pathLessSpec : ChangeSpec := { name := "pathLess", fn := fun _ => fun
  | [d1, d2, d3] => { results := [.lit (.bool true)], args := [d1, d2, d3] }
  | _ => none }
def pathLessRow : OpenClaim := { program := "ytpfmhjokcpkliaa", sum := "27d6fe6a416aefaf2a42d2450a9ff7e51c0db82a76104fff9f3c1ad066bb83ab", func := "veneer/veneerlaw01.PathLess", spec := "pathLess", inPlace := ["internal/bytealg.IndexByteString", "internal/abi.NoEscape", "internal/bytealg.MakeNoZero"], apart := false }
def PathLessSaid : Prop := pathLessRow.holds Try.pinned (OpenSpec.ofChange pathLessSpec)

/-- ITS FALSE NEIGHBOUR: 'it returns false'. Refute it at one input. -/
def pathLessWrong : ChangeSpec := { name := "pathLess", fn := fun _ => fun
  | [d1, d2, d3] => { results := [.lit (.bool false)], args := [d1, d2, d3] }
  | _ => none }
def PathLessWrongFalsely : Prop := pathLessRow.holds Try.pinned (OpenSpec.ofChange pathLessWrong)

/-- 'veneerlaw01.PathUp': WHATEVER THE INPUT: true; the input reads as it did. -/
def pathUpSpec : ChangeSpec := { name := "pathUp", fn := fun _ => fun
  | [d] => { results := [.lit (.bool true)], args := [d] }
  | _ => none }
def pathUpRow : OpenClaim := { program := "ytpfmhjokcpkliaa", sum := "27d6fe6a416aefaf2a42d2450a9ff7e51c0db82a76104fff9f3c1ad066bb83ab", func := "veneer/veneerlaw01.PathUp", spec := "pathUp", inPlace := ["internal/bytealg.IndexByteString", "internal/abi.NoEscape", "internal/bytealg.MakeNoZero"], apart := false }
def PathUpSaid : Prop := pathUpRow.holds Try.pinned (OpenSpec.ofChange pathUpSpec)

/-- ITS FALSE NEIGHBOUR: 'it returns false'. Refute it at one input. -/
def pathUpWrong : ChangeSpec := { name := "pathUp", fn := fun _ => fun
  | [d] => { results := [.lit (.bool false)], args := [d] }
  | _ => none }
def PathUpWrongFalsely : Prop := pathUpRow.holds Try.pinned (OpenSpec.ofChange pathUpWrong)

/-- 'veneerlaw01.PathJoins': WHATEVER THE INPUT: true; the input reads as it did. -/
def pathJoinsSpec : ChangeSpec := { name := "pathJoins", fn := fun _ => fun
  | [d1, d2, d3] => { results := [.lit (.bool true)], args := [d1, d2, d3] }
  | _ => none }
def pathJoinsRow : OpenClaim := { program := "ytpfmhjokcpkliaa", sum := "27d6fe6a416aefaf2a42d2450a9ff7e51c0db82a76104fff9f3c1ad066bb83ab", func := "veneer/veneerlaw01.PathJoins", spec := "pathJoins", inPlace := ["internal/bytealg.IndexByteString", "internal/abi.NoEscape", "internal/bytealg.MakeNoZero"], apart := false }
def PathJoinsSaid : Prop := pathJoinsRow.holds Try.pinned (OpenSpec.ofChange pathJoinsSpec)

/-- ITS FALSE NEIGHBOUR: 'it returns false'. Refute it at one input. -/
def pathJoinsWrong : ChangeSpec := { name := "pathJoins", fn := fun _ => fun
  | [d1, d2, d3] => { results := [.lit (.bool false)], args := [d1, d2, d3] }
  | _ => none }
def PathJoinsWrongFalsely : Prop := pathJoinsRow.holds Try.pinned (OpenSpec.ofChange pathJoinsWrong)

/- THE SECOND FORM. 'bulk': how many values and letters a reading holds, each counted each time it is reached (what is shared counts as often as it is met; a slice's spare places count too). A statement '..UptoSaid' is the law's where the arguments, and the package variables that the reading takes, are together of bulk at most 1048576: NARROWER than '..Said'. Prove '..Said' where nothing that the law and all that it calls make is longer than what came in: it says more and counts as full. Else prove '..UptoSaid'. A law counts once. -/
mutual
def uptoBulk {H : Type} : DataW H → Nat
  | .lit (.string bytes) => bytes.length + 1
  | .lit _ => 1
  | .nil => 1
  | .ptr d => uptoBulk d + 1
  | .slice elems spare => uptoBulkAll elems + uptoBulkAll spare + 1
  | .agg parts => uptoBulkAll parts + 1
  | .iface _ d => uptoBulk d + 1
  | .map entries => uptoBulkEntries entries + 1
  | .held _ => 1
def uptoBulkAll {H : Type} : List (DataW H) → Nat
  | [] => 0
  | d :: r => uptoBulk d + uptoBulkAll r
def uptoBulkEntries {H : Type} : List (Lit × DataW H) → Nat
  | [] => 0
  | x :: r => uptoBulkEntry x + uptoBulkEntries r
def uptoBulkEntry {H : Type} : Lit × DataW H → Nat
  | (.string bytes, d) => bytes.length + uptoBulk d + 1
  | (_, d) => uptoBulk d + 1
 end
def uptoSmall : (H : Type) → List (DataW H) → Bool := fun _ ds => decide (uptoBulkAll ds ≤ 1048576)
def OpenSpec.upto (s : _root_.Go.ChangeSpec) : _root_.Go.OpenSpec := { _root_.Go.OpenSpec.ofChange s with cond := some uptoSmall }

/-- 'veneerlaw01.PathParses', WHERE WHAT IT READS IS OF BULK AT MOST 1048576: true; the input reads as it did. -/
def pathParsesUptoRow : OpenClaim := { program := "ytpfmhjokcpkliaa", sum := "27d6fe6a416aefaf2a42d2450a9ff7e51c0db82a76104fff9f3c1ad066bb83ab", func := "veneer/veneerlaw01.PathParses", spec := "pathParses", inPlace := ["internal/bytealg.IndexByteString", "internal/abi.NoEscape", "internal/bytealg.MakeNoZero"], apart := false, narrowed := true }
def PathParsesUptoSaid : Prop := pathParsesUptoRow.holds Try.pinned (OpenSpec.upto pathParsesSpec)

/-- 'veneerlaw01.PathTexts', WHERE WHAT IT READS IS OF BULK AT MOST 1048576: true; the input reads as it did. -/
def pathTextsUptoRow : OpenClaim := { program := "ytpfmhjokcpkliaa", sum := "27d6fe6a416aefaf2a42d2450a9ff7e51c0db82a76104fff9f3c1ad066bb83ab", func := "veneer/veneerlaw01.PathTexts", spec := "pathTexts", inPlace := ["internal/bytealg.IndexByteString", "internal/abi.NoEscape", "internal/bytealg.MakeNoZero"], apart := false, narrowed := true }
def PathTextsUptoSaid : Prop := pathTextsUptoRow.holds Try.pinned (OpenSpec.upto pathTextsSpec)

/-- 'veneerlaw01.PathBack', WHERE WHAT IT READS IS OF BULK AT MOST 1048576: true; the input reads as it did. -/
def pathBackUptoRow : OpenClaim := { program := "ytpfmhjokcpkliaa", sum := "27d6fe6a416aefaf2a42d2450a9ff7e51c0db82a76104fff9f3c1ad066bb83ab", func := "veneer/veneerlaw01.PathBack", spec := "pathBack", inPlace := ["internal/bytealg.IndexByteString", "internal/abi.NoEscape", "internal/bytealg.MakeNoZero"], apart := false, narrowed := true }
def PathBackUptoSaid : Prop := pathBackUptoRow.holds Try.pinned (OpenSpec.upto pathBackSpec)

/-- 'veneerlaw01.PathSlashes', WHERE WHAT IT READS IS OF BULK AT MOST 1048576: true; the input reads as it did. -/
def pathSlashesUptoRow : OpenClaim := { program := "ytpfmhjokcpkliaa", sum := "27d6fe6a416aefaf2a42d2450a9ff7e51c0db82a76104fff9f3c1ad066bb83ab", func := "veneer/veneerlaw01.PathSlashes", spec := "pathSlashes", inPlace := ["internal/bytealg.IndexByteString", "internal/abi.NoEscape", "internal/bytealg.MakeNoZero"], apart := false, narrowed := true }
def PathSlashesUptoSaid : Prop := pathSlashesUptoRow.holds Try.pinned (OpenSpec.upto pathSlashesSpec)

/-- 'veneerlaw01.PathNames', WHERE WHAT IT READS IS OF BULK AT MOST 1048576: true; the input reads as it did. -/
def pathNamesUptoRow : OpenClaim := { program := "ytpfmhjokcpkliaa", sum := "27d6fe6a416aefaf2a42d2450a9ff7e51c0db82a76104fff9f3c1ad066bb83ab", func := "veneer/veneerlaw01.PathNames", spec := "pathNames", inPlace := ["internal/bytealg.IndexByteString", "internal/abi.NoEscape", "internal/bytealg.MakeNoZero"], apart := false, narrowed := true }
def PathNamesUptoSaid : Prop := pathNamesUptoRow.holds Try.pinned (OpenSpec.upto pathNamesSpec)

/-- 'veneerlaw01.PathLast', WHERE WHAT IT READS IS OF BULK AT MOST 1048576: true; the input reads as it did. -/
def pathLastUptoRow : OpenClaim := { program := "ytpfmhjokcpkliaa", sum := "27d6fe6a416aefaf2a42d2450a9ff7e51c0db82a76104fff9f3c1ad066bb83ab", func := "veneer/veneerlaw01.PathLast", spec := "pathLast", inPlace := ["internal/bytealg.IndexByteString", "internal/abi.NoEscape", "internal/bytealg.MakeNoZero"], apart := false, narrowed := true }
def PathLastUptoSaid : Prop := pathLastUptoRow.holds Try.pinned (OpenSpec.upto pathLastSpec)

/-- 'veneerlaw01.PathLess', WHERE WHAT IT READS IS OF BULK AT MOST 1048576: true; the input reads as it did. -/
def pathLessUptoRow : OpenClaim := { program := "ytpfmhjokcpkliaa", sum := "27d6fe6a416aefaf2a42d2450a9ff7e51c0db82a76104fff9f3c1ad066bb83ab", func := "veneer/veneerlaw01.PathLess", spec := "pathLess", inPlace := ["internal/bytealg.IndexByteString", "internal/abi.NoEscape", "internal/bytealg.MakeNoZero"], apart := false, narrowed := true }
def PathLessUptoSaid : Prop := pathLessUptoRow.holds Try.pinned (OpenSpec.upto pathLessSpec)

/-- 'veneerlaw01.PathUp', WHERE WHAT IT READS IS OF BULK AT MOST 1048576: true; the input reads as it did. -/
def pathUpUptoRow : OpenClaim := { program := "ytpfmhjokcpkliaa", sum := "27d6fe6a416aefaf2a42d2450a9ff7e51c0db82a76104fff9f3c1ad066bb83ab", func := "veneer/veneerlaw01.PathUp", spec := "pathUp", inPlace := ["internal/bytealg.IndexByteString", "internal/abi.NoEscape", "internal/bytealg.MakeNoZero"], apart := false, narrowed := true }
def PathUpUptoSaid : Prop := pathUpUptoRow.holds Try.pinned (OpenSpec.upto pathUpSpec)

/-- 'veneerlaw01.PathJoins', WHERE WHAT IT READS IS OF BULK AT MOST 1048576: true; the input reads as it did. -/
def pathJoinsUptoRow : OpenClaim := { program := "ytpfmhjokcpkliaa", sum := "27d6fe6a416aefaf2a42d2450a9ff7e51c0db82a76104fff9f3c1ad066bb83ab", func := "veneer/veneerlaw01.PathJoins", spec := "pathJoins", inPlace := ["internal/bytealg.IndexByteString", "internal/abi.NoEscape", "internal/bytealg.MakeNoZero"], apart := false, narrowed := true }
def PathJoinsUptoSaid : Prop := pathJoinsUptoRow.holds Try.pinned (OpenSpec.upto pathJoinsSpec)

end Rows
end Go.Proofs.Ytpfmhjokcpkliaa
