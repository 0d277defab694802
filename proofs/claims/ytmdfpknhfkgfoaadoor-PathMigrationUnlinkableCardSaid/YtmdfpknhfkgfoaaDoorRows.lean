/-
  NARROWER THAN 'FOR EVERY INPUT', by the rows' own cells (each row's printed sentence says how): PathBadArguments: laid · PathFallback: laid · PathMatchesReference: laid · PathAmplification: laid · PathBounded: laid · PathValidation: laid · PathIndependent: laid · PathNil: laid · PathMigrationUnlinkable: laid.
  DERIVED. THE GIVEN ROWS OF THIS SEAT. 9 by the template 'for every input the law returns true; each argument reads behind the call as it read before'; 0 by the template 'total and deterministic' (their statements: YtmdfpknhfkgfoaaDoorTotals.lean).
  GIVEN WITH THE SEED: the statements are not yours to turn. If you find one false, say at which input.
  Laid BY PROGRAM, IN A SANDBOX (cutbox-rows.mjs): the forced cells as the released guide's own fill.sh prints them over the translation 406f665936527f55… (all of the seat's roots in one cut). By AI agents, Wed Nov 11 2026. No macro, syntax, notation, axiom, sorry.
-/
import Derived.Test.YtmdfpknhfkgfoaaDoorChecked
import GoSem.Claim
import GoSem.ClaimJoined
import GoSem.ClaimMapViews
import Derived.JoinedTies
import Derived.KernelRfl
namespace Go.Proofs.YtmdfpknhfkgfoaaDoor
/- THE CELL 'sum', in the pinned program and in every row, IS THE sha256 OF THE DUMP (.gsa) THAT YtmdfpknhfkgfoaaDoorProg.lean LOADS. Nothing in Lean hashes anything: it is a label: what it is worth is what the hold of that sum in a sandbox is worth. -/
noncomputable def Tryd.pinned : Pinned := { name := "ytmdfpknhfkgfoaadoor", sum := "406f665936527f5551b36d02c52b2eb11d354c6022bd8f28cc859e9c0fe1e409", checked := Tryd.checked }
namespace Rows
def none {H : Type} : Left H := { results := [], args := [] }

/- WHAT THE LISTED PACKAGE-LEVEL VARIABLES READ AS WHEN THE CALL BEGINS. Each datum BY PROGRAM (the guide's laid-datum.mjs) off the statement by which the dump's own 'gosem.cut.vars' lays the variable. In a bare row this is a premise. The card (YtmdfpknhfkgfoaaDoorCards.lean) ties it to the program's text. -/
def laid_peregrine_path_errArgument {H : Type} : DataW H := .iface "*errors.errorString" (.ptr (.agg [.lit (.string [112, 97, 116, 104, 58, 32, 105, 110, 118, 97, 108, 105, 100, 32, 97, 114, 103, 117, 109, 101, 110, 116])]))
def laid_peregrine_path_errPath {H : Type} : DataW H := .iface "*errors.errorString" (.ptr (.agg [.lit (.string [112, 97, 116, 104, 58, 32, 110, 111, 32, 115, 117, 99, 104, 32, 112, 97, 116, 104])]))

/-- 'peregrinelaw24.PathBadArguments': WHATEVER THE INPUT: true; the input reads as it did. -/
def pathBadArgumentsSpec : ChangeSpec := { name := "pathBadArguments", fn := fun _ => fun
  | [d1, d2, d3] => { results := [.lit (.bool true)], args := [d1, d2, d3] }
  | _ => none }
def pathBadArgumentsRow : OpenClaim := { program := "ytmdfpknhfkgfoaadoor", sum := "406f665936527f5551b36d02c52b2eb11d354c6022bd8f28cc859e9c0fe1e409", func := "peregrine/peregrinelaw24.PathBadArguments", spec := "pathBadArguments", inPlace := ["internal/reflectlite.TypeOf"], unfollowed := true, recurses := true, named := ["peregrine/path.errArgument", "peregrine/path.errPath"], apart := false, laid := [("peregrine/path.errArgument", laid_peregrine_path_errArgument), ("peregrine/path.errPath", laid_peregrine_path_errPath)] }
def PathBadArgumentsSaid : Prop := pathBadArgumentsRow.holds Tryd.pinned (OpenSpec.ofChange pathBadArgumentsSpec)

/-- ITS FALSE NEIGHBOUR: 'it returns false'. Refute it at one input. -/
def pathBadArgumentsWrong : ChangeSpec := { name := "pathBadArguments", fn := fun _ => fun
  | [d1, d2, d3] => { results := [.lit (.bool false)], args := [d1, d2, d3] }
  | _ => none }
def PathBadArgumentsWrongFalsely : Prop := pathBadArgumentsRow.holds Tryd.pinned (OpenSpec.ofChange pathBadArgumentsWrong)

/-- 'peregrinelaw24.PathFallback': WHATEVER THE INPUT: true; the input reads as it did. -/
def pathFallbackSpec : ChangeSpec := { name := "pathFallback", fn := fun _ => fun
  | [d1, d2, d3, d4, d5] => { results := [.lit (.bool true)], args := [d1, d2, d3, d4, d5] }
  | _ => none }
def pathFallbackRow : OpenClaim := { program := "ytmdfpknhfkgfoaadoor", sum := "406f665936527f5551b36d02c52b2eb11d354c6022bd8f28cc859e9c0fe1e409", func := "peregrine/peregrinelaw24.PathFallback", spec := "pathFallback", inPlace := ["internal/reflectlite.TypeOf"], unfollowed := true, recurses := true, named := ["peregrine/path.errArgument", "peregrine/path.errPath"], apart := false, laid := [("peregrine/path.errArgument", laid_peregrine_path_errArgument), ("peregrine/path.errPath", laid_peregrine_path_errPath)] }
def PathFallbackSaid : Prop := pathFallbackRow.holds Tryd.pinned (OpenSpec.ofChange pathFallbackSpec)

/-- ITS FALSE NEIGHBOUR: 'it returns false'. Refute it at one input. -/
def pathFallbackWrong : ChangeSpec := { name := "pathFallback", fn := fun _ => fun
  | [d1, d2, d3, d4, d5] => { results := [.lit (.bool false)], args := [d1, d2, d3, d4, d5] }
  | _ => none }
def PathFallbackWrongFalsely : Prop := pathFallbackRow.holds Tryd.pinned (OpenSpec.ofChange pathFallbackWrong)

/-- 'peregrinelaw24.PathMatchesReference': WHATEVER THE INPUT: true; the input reads as it did. -/
def pathMatchesReferenceSpec : ChangeSpec := { name := "pathMatchesReference", fn := fun _ => fun
  | [d1, d2, d3, d4, d5] => { results := [.lit (.bool true)], args := [d1, d2, d3, d4, d5] }
  | _ => none }
def pathMatchesReferenceRow : OpenClaim := { program := "ytmdfpknhfkgfoaadoor", sum := "406f665936527f5551b36d02c52b2eb11d354c6022bd8f28cc859e9c0fe1e409", func := "peregrine/peregrinelaw24.PathMatchesReference", spec := "pathMatchesReference", inPlace := ["internal/reflectlite.TypeOf"], unfollowed := true, recurses := true, named := ["peregrine/path.errArgument", "peregrine/path.errPath"], apart := false, laid := [("peregrine/path.errArgument", laid_peregrine_path_errArgument), ("peregrine/path.errPath", laid_peregrine_path_errPath)] }
def PathMatchesReferenceSaid : Prop := pathMatchesReferenceRow.holds Tryd.pinned (OpenSpec.ofChange pathMatchesReferenceSpec)

/-- ITS FALSE NEIGHBOUR: 'it returns false'. Refute it at one input. -/
def pathMatchesReferenceWrong : ChangeSpec := { name := "pathMatchesReference", fn := fun _ => fun
  | [d1, d2, d3, d4, d5] => { results := [.lit (.bool false)], args := [d1, d2, d3, d4, d5] }
  | _ => none }
def PathMatchesReferenceWrongFalsely : Prop := pathMatchesReferenceRow.holds Tryd.pinned (OpenSpec.ofChange pathMatchesReferenceWrong)

/-- 'peregrinelaw24.PathAmplification': WHATEVER THE INPUT: true; the input reads as it did. -/
def pathAmplificationSpec : ChangeSpec := { name := "pathAmplification", fn := fun _ => fun
  | [d1, d2] => { results := [.lit (.bool true)], args := [d1, d2] }
  | _ => none }
def pathAmplificationRow : OpenClaim := { program := "ytmdfpknhfkgfoaadoor", sum := "406f665936527f5551b36d02c52b2eb11d354c6022bd8f28cc859e9c0fe1e409", func := "peregrine/peregrinelaw24.PathAmplification", spec := "pathAmplification", inPlace := ["internal/reflectlite.TypeOf"], unfollowed := true, recurses := true, named := ["peregrine/path.errArgument", "peregrine/path.errPath"], apart := false, laid := [("peregrine/path.errArgument", laid_peregrine_path_errArgument), ("peregrine/path.errPath", laid_peregrine_path_errPath)] }
def PathAmplificationSaid : Prop := pathAmplificationRow.holds Tryd.pinned (OpenSpec.ofChange pathAmplificationSpec)

/-- ITS FALSE NEIGHBOUR: 'it returns false'. Refute it at one input. -/
def pathAmplificationWrong : ChangeSpec := { name := "pathAmplification", fn := fun _ => fun
  | [d1, d2] => { results := [.lit (.bool false)], args := [d1, d2] }
  | _ => none }
def PathAmplificationWrongFalsely : Prop := pathAmplificationRow.holds Tryd.pinned (OpenSpec.ofChange pathAmplificationWrong)

/-- 'peregrinelaw24.PathBounded': WHATEVER THE INPUT: true; the input reads as it did. -/
def pathBoundedSpec : ChangeSpec := { name := "pathBounded", fn := fun _ => fun
  | [d1, d2] => { results := [.lit (.bool true)], args := [d1, d2] }
  | _ => none }
def pathBoundedRow : OpenClaim := { program := "ytmdfpknhfkgfoaadoor", sum := "406f665936527f5551b36d02c52b2eb11d354c6022bd8f28cc859e9c0fe1e409", func := "peregrine/peregrinelaw24.PathBounded", spec := "pathBounded", inPlace := ["internal/reflectlite.TypeOf"], unfollowed := true, recurses := true, named := ["peregrine/path.errArgument", "peregrine/path.errPath"], apart := false, laid := [("peregrine/path.errArgument", laid_peregrine_path_errArgument), ("peregrine/path.errPath", laid_peregrine_path_errPath)] }
def PathBoundedSaid : Prop := pathBoundedRow.holds Tryd.pinned (OpenSpec.ofChange pathBoundedSpec)

/-- ITS FALSE NEIGHBOUR: 'it returns false'. Refute it at one input. -/
def pathBoundedWrong : ChangeSpec := { name := "pathBounded", fn := fun _ => fun
  | [d1, d2] => { results := [.lit (.bool false)], args := [d1, d2] }
  | _ => none }
def PathBoundedWrongFalsely : Prop := pathBoundedRow.holds Tryd.pinned (OpenSpec.ofChange pathBoundedWrong)

/-- 'peregrinelaw24.PathValidation': WHATEVER THE INPUT: true; the input reads as it did. -/
def pathValidationSpec : ChangeSpec := { name := "pathValidation", fn := fun _ => fun
  | [d] => { results := [.lit (.bool true)], args := [d] }
  | _ => none }
def pathValidationRow : OpenClaim := { program := "ytmdfpknhfkgfoaadoor", sum := "406f665936527f5551b36d02c52b2eb11d354c6022bd8f28cc859e9c0fe1e409", func := "peregrine/peregrinelaw24.PathValidation", spec := "pathValidation", inPlace := ["internal/reflectlite.TypeOf"], unfollowed := true, recurses := true, named := ["peregrine/path.errArgument", "peregrine/path.errPath"], apart := false, laid := [("peregrine/path.errArgument", laid_peregrine_path_errArgument), ("peregrine/path.errPath", laid_peregrine_path_errPath)] }
def PathValidationSaid : Prop := pathValidationRow.holds Tryd.pinned (OpenSpec.ofChange pathValidationSpec)

/-- ITS FALSE NEIGHBOUR: 'it returns false'. Refute it at one input. -/
def pathValidationWrong : ChangeSpec := { name := "pathValidation", fn := fun _ => fun
  | [d] => { results := [.lit (.bool false)], args := [d] }
  | _ => none }
def PathValidationWrongFalsely : Prop := pathValidationRow.holds Tryd.pinned (OpenSpec.ofChange pathValidationWrong)

/-- 'peregrinelaw24.PathIndependent': WHATEVER THE INPUT: true; the input reads as it did. -/
def pathIndependentSpec : ChangeSpec := { name := "pathIndependent", fn := fun _ => fun
  | [d1, d2, d3, d4, d5] => { results := [.lit (.bool true)], args := [d1, d2, d3, d4, d5] }
  | _ => none }
def pathIndependentRow : OpenClaim := { program := "ytmdfpknhfkgfoaadoor", sum := "406f665936527f5551b36d02c52b2eb11d354c6022bd8f28cc859e9c0fe1e409", func := "peregrine/peregrinelaw24.PathIndependent", spec := "pathIndependent", inPlace := ["internal/reflectlite.TypeOf"], unfollowed := true, recurses := true, named := ["peregrine/path.errArgument", "peregrine/path.errPath"], apart := false, laid := [("peregrine/path.errArgument", laid_peregrine_path_errArgument), ("peregrine/path.errPath", laid_peregrine_path_errPath)] }
def PathIndependentSaid : Prop := pathIndependentRow.holds Tryd.pinned (OpenSpec.ofChange pathIndependentSpec)

/-- ITS FALSE NEIGHBOUR: 'it returns false'. Refute it at one input. -/
def pathIndependentWrong : ChangeSpec := { name := "pathIndependent", fn := fun _ => fun
  | [d1, d2, d3, d4, d5] => { results := [.lit (.bool false)], args := [d1, d2, d3, d4, d5] }
  | _ => none }
def PathIndependentWrongFalsely : Prop := pathIndependentRow.holds Tryd.pinned (OpenSpec.ofChange pathIndependentWrong)

/-- 'peregrinelaw24.PathNil': WHATEVER THE INPUT: true; the input reads as it did. -/
def pathNilSpec : ChangeSpec := { name := "pathNil", fn := fun _ => fun
  | [d] => { results := [.lit (.bool true)], args := [d] }
  | _ => none }
def pathNilRow : OpenClaim := { program := "ytmdfpknhfkgfoaadoor", sum := "406f665936527f5551b36d02c52b2eb11d354c6022bd8f28cc859e9c0fe1e409", func := "peregrine/peregrinelaw24.PathNil", spec := "pathNil", inPlace := ["internal/reflectlite.TypeOf"], unfollowed := true, recurses := true, named := ["peregrine/path.errArgument", "peregrine/path.errPath"], apart := false, laid := [("peregrine/path.errArgument", laid_peregrine_path_errArgument), ("peregrine/path.errPath", laid_peregrine_path_errPath)] }
def PathNilSaid : Prop := pathNilRow.holds Tryd.pinned (OpenSpec.ofChange pathNilSpec)

/-- ITS FALSE NEIGHBOUR: 'it returns false'. Refute it at one input. -/
def pathNilWrong : ChangeSpec := { name := "pathNil", fn := fun _ => fun
  | [d] => { results := [.lit (.bool false)], args := [d] }
  | _ => none }
def PathNilWrongFalsely : Prop := pathNilRow.holds Tryd.pinned (OpenSpec.ofChange pathNilWrong)

/-- 'peregrinelaw24.PathMigrationUnlinkable': WHATEVER THE INPUT: true; the input reads as it did. -/
def pathMigrationUnlinkableSpec : ChangeSpec := { name := "pathMigrationUnlinkable", fn := fun _ => fun
  | [d1, d2] => { results := [.lit (.bool true)], args := [d1, d2] }
  | _ => none }
def pathMigrationUnlinkableRow : OpenClaim := { program := "ytmdfpknhfkgfoaadoor", sum := "406f665936527f5551b36d02c52b2eb11d354c6022bd8f28cc859e9c0fe1e409", func := "peregrine/peregrinelaw24.PathMigrationUnlinkable", spec := "pathMigrationUnlinkable", inPlace := ["internal/reflectlite.TypeOf"], unfollowed := true, recurses := true, named := ["peregrine/path.errArgument", "peregrine/path.errPath"], apart := false, laid := [("peregrine/path.errArgument", laid_peregrine_path_errArgument), ("peregrine/path.errPath", laid_peregrine_path_errPath)] }
def PathMigrationUnlinkableSaid : Prop := pathMigrationUnlinkableRow.holds Tryd.pinned (OpenSpec.ofChange pathMigrationUnlinkableSpec)

/-- ITS FALSE NEIGHBOUR: 'it returns false'. Refute it at one input. -/
def pathMigrationUnlinkableWrong : ChangeSpec := { name := "pathMigrationUnlinkable", fn := fun _ => fun
  | [d1, d2] => { results := [.lit (.bool false)], args := [d1, d2] }
  | _ => none }
def PathMigrationUnlinkableWrongFalsely : Prop := pathMigrationUnlinkableRow.holds Tryd.pinned (OpenSpec.ofChange pathMigrationUnlinkableWrong)

/- THE SECOND FORM. 'bulk': how many values and letters a reading holds, each counted each time it is reached (what is shared counts as often as it is met; a slice's spare places count too). A statement '..UptoSaid' is the law's where the arguments, and the package variables that the reading takes, are together of bulk at most 1048576: NARROWER than '..Said'. Prove '..Said' where nothing that the law and all that it calls make is longer than what came in: it says more and counts as full. Else prove '..UptoSaid'. A law counts once. -/
mutual
def uptoBulk {H : Type} : DataW H → Nat
  | .lit (.string bytes) => bytes.length + 1
  | .lit _ => 1
  | .nil => 1
  | .ptr d => uptoBulk d + 1
  | .slice elems spare => uptoBulkAll elems + uptoBulkAll spare + 1
  | .agg parts => uptoBulkAll parts + 1
  | .iface _ d => uptoBulk d + 1
  | .map entries => uptoBulkEntries entries + 1
  | .held _ => 1
def uptoBulkAll {H : Type} : List (DataW H) → Nat
  | [] => 0
  | d :: r => uptoBulk d + uptoBulkAll r
def uptoBulkEntries {H : Type} : List (Lit × DataW H) → Nat
  | [] => 0
  | x :: r => uptoBulkEntry x + uptoBulkEntries r
def uptoBulkEntry {H : Type} : Lit × DataW H → Nat
  | (.string bytes, d) => bytes.length + uptoBulk d + 1
  | (_, d) => uptoBulk d + 1
 end
def uptoSmall : (H : Type) → List (DataW H) → Bool := fun _ ds => decide (uptoBulkAll ds ≤ 1048576)
def OpenSpec.upto (s : _root_.Go.ChangeSpec) : _root_.Go.OpenSpec := { _root_.Go.OpenSpec.ofChange s with cond := some uptoSmall }

/-- 'peregrinelaw24.PathBadArguments', WHERE WHAT IT READS IS OF BULK AT MOST 1048576: true; the input reads as it did. -/
def pathBadArgumentsUptoRow : OpenClaim := { program := "ytmdfpknhfkgfoaadoor", sum := "406f665936527f5551b36d02c52b2eb11d354c6022bd8f28cc859e9c0fe1e409", func := "peregrine/peregrinelaw24.PathBadArguments", spec := "pathBadArguments", inPlace := ["internal/reflectlite.TypeOf"], unfollowed := true, recurses := true, named := ["peregrine/path.errArgument", "peregrine/path.errPath"], apart := false, laid := [("peregrine/path.errArgument", laid_peregrine_path_errArgument), ("peregrine/path.errPath", laid_peregrine_path_errPath)], narrowed := true }
def PathBadArgumentsUptoSaid : Prop := pathBadArgumentsUptoRow.holds Tryd.pinned (OpenSpec.upto pathBadArgumentsSpec)

/-- 'peregrinelaw24.PathFallback', WHERE WHAT IT READS IS OF BULK AT MOST 1048576: true; the input reads as it did. -/
def pathFallbackUptoRow : OpenClaim := { program := "ytmdfpknhfkgfoaadoor", sum := "406f665936527f5551b36d02c52b2eb11d354c6022bd8f28cc859e9c0fe1e409", func := "peregrine/peregrinelaw24.PathFallback", spec := "pathFallback", inPlace := ["internal/reflectlite.TypeOf"], unfollowed := true, recurses := true, named := ["peregrine/path.errArgument", "peregrine/path.errPath"], apart := false, laid := [("peregrine/path.errArgument", laid_peregrine_path_errArgument), ("peregrine/path.errPath", laid_peregrine_path_errPath)], narrowed := true }
def PathFallbackUptoSaid : Prop := pathFallbackUptoRow.holds Tryd.pinned (OpenSpec.upto pathFallbackSpec)

/-- 'peregrinelaw24.PathMatchesReference', WHERE WHAT IT READS IS OF BULK AT MOST 1048576: true; the input reads as it did. -/
def pathMatchesReferenceUptoRow : OpenClaim := { program := "ytmdfpknhfkgfoaadoor", sum := "406f665936527f5551b36d02c52b2eb11d354c6022bd8f28cc859e9c0fe1e409", func := "peregrine/peregrinelaw24.PathMatchesReference", spec := "pathMatchesReference", inPlace := ["internal/reflectlite.TypeOf"], unfollowed := true, recurses := true, named := ["peregrine/path.errArgument", "peregrine/path.errPath"], apart := false, laid := [("peregrine/path.errArgument", laid_peregrine_path_errArgument), ("peregrine/path.errPath", laid_peregrine_path_errPath)], narrowed := true }
def PathMatchesReferenceUptoSaid : Prop := pathMatchesReferenceUptoRow.holds Tryd.pinned (OpenSpec.upto pathMatchesReferenceSpec)

/-- 'peregrinelaw24.PathAmplification', WHERE WHAT IT READS IS OF BULK AT MOST 1048576: true; the input reads as it did. -/
def pathAmplificationUptoRow : OpenClaim := { program := "ytmdfpknhfkgfoaadoor", sum := "406f665936527f5551b36d02c52b2eb11d354c6022bd8f28cc859e9c0fe1e409", func := "peregrine/peregrinelaw24.PathAmplification", spec := "pathAmplification", inPlace := ["internal/reflectlite.TypeOf"], unfollowed := true, recurses := true, named := ["peregrine/path.errArgument", "peregrine/path.errPath"], apart := false, laid := [("peregrine/path.errArgument", laid_peregrine_path_errArgument), ("peregrine/path.errPath", laid_peregrine_path_errPath)], narrowed := true }
def PathAmplificationUptoSaid : Prop := pathAmplificationUptoRow.holds Tryd.pinned (OpenSpec.upto pathAmplificationSpec)

/-- 'peregrinelaw24.PathBounded', WHERE WHAT IT READS IS OF BULK AT MOST 1048576: true; the input reads as it did. -/
def pathBoundedUptoRow : OpenClaim := { program := "ytmdfpknhfkgfoaadoor", sum := "406f665936527f5551b36d02c52b2eb11d354c6022bd8f28cc859e9c0fe1e409", func := "peregrine/peregrinelaw24.PathBounded", spec := "pathBounded", inPlace := ["internal/reflectlite.TypeOf"], unfollowed := true, recurses := true, named := ["peregrine/path.errArgument", "peregrine/path.errPath"], apart := false, laid := [("peregrine/path.errArgument", laid_peregrine_path_errArgument), ("peregrine/path.errPath", laid_peregrine_path_errPath)], narrowed := true }
def PathBoundedUptoSaid : Prop := pathBoundedUptoRow.holds Tryd.pinned (OpenSpec.upto pathBoundedSpec)

/-- 'peregrinelaw24.PathValidation', WHERE WHAT IT READS IS OF BULK AT MOST 1048576: true; the input reads as it did. -/
def pathValidationUptoRow : OpenClaim := { program := "ytmdfpknhfkgfoaadoor", sum := "406f665936527f5551b36d02c52b2eb11d354c6022bd8f28cc859e9c0fe1e409", func := "peregrine/peregrinelaw24.PathValidation", spec := "pathValidation", inPlace := ["internal/reflectlite.TypeOf"], unfollowed := true, recurses := true, named := ["peregrine/path.errArgument", "peregrine/path.errPath"], apart := false, laid := [("peregrine/path.errArgument", laid_peregrine_path_errArgument), ("peregrine/path.errPath", laid_peregrine_path_errPath)], narrowed := true }
def PathValidationUptoSaid : Prop := pathValidationUptoRow.holds Tryd.pinned (OpenSpec.upto pathValidationSpec)

/-- 'peregrinelaw24.PathIndependent', WHERE WHAT IT READS IS OF BULK AT MOST 1048576: true; the input reads as it did. -/
def pathIndependentUptoRow : OpenClaim := { program := "ytmdfpknhfkgfoaadoor", sum := "406f665936527f5551b36d02c52b2eb11d354c6022bd8f28cc859e9c0fe1e409", func := "peregrine/peregrinelaw24.PathIndependent", spec := "pathIndependent", inPlace := ["internal/reflectlite.TypeOf"], unfollowed := true, recurses := true, named := ["peregrine/path.errArgument", "peregrine/path.errPath"], apart := false, laid := [("peregrine/path.errArgument", laid_peregrine_path_errArgument), ("peregrine/path.errPath", laid_peregrine_path_errPath)], narrowed := true }
def PathIndependentUptoSaid : Prop := pathIndependentUptoRow.holds Tryd.pinned (OpenSpec.upto pathIndependentSpec)

/-- 'peregrinelaw24.PathNil', WHERE WHAT IT READS IS OF BULK AT MOST 1048576: true; the input reads as it did. -/
def pathNilUptoRow : OpenClaim := { program := "ytmdfpknhfkgfoaadoor", sum := "406f665936527f5551b36d02c52b2eb11d354c6022bd8f28cc859e9c0fe1e409", func := "peregrine/peregrinelaw24.PathNil", spec := "pathNil", inPlace := ["internal/reflectlite.TypeOf"], unfollowed := true, recurses := true, named := ["peregrine/path.errArgument", "peregrine/path.errPath"], apart := false, laid := [("peregrine/path.errArgument", laid_peregrine_path_errArgument), ("peregrine/path.errPath", laid_peregrine_path_errPath)], narrowed := true }
def PathNilUptoSaid : Prop := pathNilUptoRow.holds Tryd.pinned (OpenSpec.upto pathNilSpec)

/-- 'peregrinelaw24.PathMigrationUnlinkable', WHERE WHAT IT READS IS OF BULK AT MOST 1048576: true; the input reads as it did. -/
def pathMigrationUnlinkableUptoRow : OpenClaim := { program := "ytmdfpknhfkgfoaadoor", sum := "406f665936527f5551b36d02c52b2eb11d354c6022bd8f28cc859e9c0fe1e409", func := "peregrine/peregrinelaw24.PathMigrationUnlinkable", spec := "pathMigrationUnlinkable", inPlace := ["internal/reflectlite.TypeOf"], unfollowed := true, recurses := true, named := ["peregrine/path.errArgument", "peregrine/path.errPath"], apart := false, laid := [("peregrine/path.errArgument", laid_peregrine_path_errArgument), ("peregrine/path.errPath", laid_peregrine_path_errPath)], narrowed := true }
def PathMigrationUnlinkableUptoSaid : Prop := pathMigrationUnlinkableUptoRow.holds Tryd.pinned (OpenSpec.upto pathMigrationUnlinkableSpec)

end Rows
end Go.Proofs.YtmdfpknhfkgfoaaDoor
