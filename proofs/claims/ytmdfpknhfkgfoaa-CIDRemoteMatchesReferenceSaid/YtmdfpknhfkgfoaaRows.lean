/-
  No cell of these rows narrows 'for every input' (looked for: loops, veiled, ifaces, maps, wideKeys, modest, calm, conditions, laid).
  DERIVED. THE GIVEN ROWS OF THIS SEAT. 10 by the template 'for every input the law returns true; each argument reads behind the call as it read before'; 0 by the template 'total and deterministic' (their statements: YtmdfpknhfkgfoaaTotals.lean).
  GIVEN WITH THE SEED: the statements are not yours to turn. If you find one false, say at which input.
  Laid BY PROGRAM, IN A SANDBOX (cutbox-rows.mjs): the forced cells as the released guide's own fill.sh prints them over the translation 62e720d9ad086a6a… (all of the seat's roots in one cut). By AI agents, Wed Nov 11 2026. No macro, syntax, notation, axiom, sorry.
-/
import Derived.Test.YtmdfpknhfkgfoaaChecked
import GoSem.Claim
import GoSem.ClaimJoined
import GoSem.ClaimMapViews
import Derived.JoinedTies
import Derived.KernelRfl
namespace Go.Proofs.Ytmdfpknhfkgfoaa
/- THE CELL 'sum', in the pinned program and in every row, IS THE sha256 OF THE DUMP (.gsa) THAT YtmdfpknhfkgfoaaProg.lean LOADS. Nothing in Lean hashes anything: it is a label: what it is worth is what the hold of that sum in a sandbox is worth. -/
noncomputable def Try.pinned : Pinned := { name := "ytmdfpknhfkgfoaa", sum := "62e720d9ad086a6a65d44eef5837dc9706b7e99a287a6626dfc464470183fd78", checked := Try.checked }
namespace Rows
def none {H : Type} : Left H := { results := [], args := [] }

/-- 'peregrinelaw02.CipherMatchesReference': WHATEVER THE INPUT: true; the input reads as it did. -/
def cipherMatchesReferenceSpec : ChangeSpec := { name := "cipherMatchesReference", fn := fun _ => fun
  | [d1, d2] => { results := [.lit (.bool true)], args := [d1, d2] }
  | _ => none }
def cipherMatchesReferenceRow : OpenClaim := { program := "ytmdfpknhfkgfoaa", sum := "62e720d9ad086a6a65d44eef5837dc9706b7e99a287a6626dfc464470183fd78", func := "peregrine/peregrinelaw02.CipherMatchesReference", spec := "cipherMatchesReference", unfollowed := true, recurses := true, apart := false }
def CipherMatchesReferenceSaid : Prop := cipherMatchesReferenceRow.holds Try.pinned (OpenSpec.ofChange cipherMatchesReferenceSpec)

/-- ITS FALSE NEIGHBOUR: 'it returns false'. Refute it at one input. -/
def cipherMatchesReferenceWrong : ChangeSpec := { name := "cipherMatchesReference", fn := fun _ => fun
  | [d1, d2] => { results := [.lit (.bool false)], args := [d1, d2] }
  | _ => none }
def CipherMatchesReferenceWrongFalsely : Prop := cipherMatchesReferenceRow.holds Try.pinned (OpenSpec.ofChange cipherMatchesReferenceWrong)

/-- 'peregrinelaw02.CipherInverse': WHATEVER THE INPUT: true; the input reads as it did. -/
def cipherInverseSpec : ChangeSpec := { name := "cipherInverse", fn := fun _ => fun
  | [d1, d2] => { results := [.lit (.bool true)], args := [d1, d2] }
  | _ => none }
def cipherInverseRow : OpenClaim := { program := "ytmdfpknhfkgfoaa", sum := "62e720d9ad086a6a65d44eef5837dc9706b7e99a287a6626dfc464470183fd78", func := "peregrine/peregrinelaw02.CipherInverse", spec := "cipherInverse", unfollowed := true, recurses := true, apart := false }
def CipherInverseSaid : Prop := cipherInverseRow.holds Try.pinned (OpenSpec.ofChange cipherInverseSpec)

/-- ITS FALSE NEIGHBOUR: 'it returns false'. Refute it at one input. -/
def cipherInverseWrong : ChangeSpec := { name := "cipherInverse", fn := fun _ => fun
  | [d1, d2] => { results := [.lit (.bool false)], args := [d1, d2] }
  | _ => none }
def CipherInverseWrongFalsely : Prop := cipherInverseRow.holds Try.pinned (OpenSpec.ofChange cipherInverseWrong)

/-- 'peregrinelaw02.CipherInjective': WHATEVER THE INPUT: true; the input reads as it did. -/
def cipherInjectiveSpec : ChangeSpec := { name := "cipherInjective", fn := fun _ => fun
  | [d1, d2, d3, d4] => { results := [.lit (.bool true)], args := [d1, d2, d3, d4] }
  | _ => none }
def cipherInjectiveRow : OpenClaim := { program := "ytmdfpknhfkgfoaa", sum := "62e720d9ad086a6a65d44eef5837dc9706b7e99a287a6626dfc464470183fd78", func := "peregrine/peregrinelaw02.CipherInjective", spec := "cipherInjective", unfollowed := true, recurses := true, apart := false }
def CipherInjectiveSaid : Prop := cipherInjectiveRow.holds Try.pinned (OpenSpec.ofChange cipherInjectiveSpec)

/-- ITS FALSE NEIGHBOUR: 'it returns false'. Refute it at one input. -/
def cipherInjectiveWrong : ChangeSpec := { name := "cipherInjective", fn := fun _ => fun
  | [d1, d2, d3, d4] => { results := [.lit (.bool false)], args := [d1, d2, d3, d4] }
  | _ => none }
def CipherInjectiveWrongFalsely : Prop := cipherInjectiveRow.holds Try.pinned (OpenSpec.ofChange cipherInjectiveWrong)

/-- 'peregrinelaw02.CipherSizes': WHATEVER THE INPUT: true; the input reads as it did. -/
def cipherSizesSpec : ChangeSpec := { name := "cipherSizes", fn := fun _ => fun
  | [d1, d2] => { results := [.lit (.bool true)], args := [d1, d2] }
  | _ => none }
def cipherSizesRow : OpenClaim := { program := "ytmdfpknhfkgfoaa", sum := "62e720d9ad086a6a65d44eef5837dc9706b7e99a287a6626dfc464470183fd78", func := "peregrine/peregrinelaw02.CipherSizes", spec := "cipherSizes", unfollowed := true, recurses := true, apart := false }
def CipherSizesSaid : Prop := cipherSizesRow.holds Try.pinned (OpenSpec.ofChange cipherSizesSpec)

/-- ITS FALSE NEIGHBOUR: 'it returns false'. Refute it at one input. -/
def cipherSizesWrong : ChangeSpec := { name := "cipherSizes", fn := fun _ => fun
  | [d1, d2] => { results := [.lit (.bool false)], args := [d1, d2] }
  | _ => none }
def CipherSizesWrongFalsely : Prop := cipherSizesRow.holds Try.pinned (OpenSpec.ofChange cipherSizesWrong)

/-- 'peregrinelaw07.CIDRemoteMatchesReference': WHATEVER THE INPUT: true; the input reads as it did. -/
def cIDRemoteMatchesReferenceSpec : ChangeSpec := { name := "cIDRemoteMatchesReference", fn := fun _ => fun
  | [d1, d2] => { results := [.lit (.bool true)], args := [d1, d2] }
  | _ => none }
def cIDRemoteMatchesReferenceRow : OpenClaim := { program := "ytmdfpknhfkgfoaa", sum := "62e720d9ad086a6a65d44eef5837dc9706b7e99a287a6626dfc464470183fd78", func := "peregrine/peregrinelaw07.CIDRemoteMatchesReference", spec := "cIDRemoteMatchesReference", unfollowed := true, recurses := true, apart := false }
def CIDRemoteMatchesReferenceSaid : Prop := cIDRemoteMatchesReferenceRow.holds Try.pinned (OpenSpec.ofChange cIDRemoteMatchesReferenceSpec)

/-- ITS FALSE NEIGHBOUR: 'it returns false'. Refute it at one input. -/
def cIDRemoteMatchesReferenceWrong : ChangeSpec := { name := "cIDRemoteMatchesReference", fn := fun _ => fun
  | [d1, d2] => { results := [.lit (.bool false)], args := [d1, d2] }
  | _ => none }
def CIDRemoteMatchesReferenceWrongFalsely : Prop := cIDRemoteMatchesReferenceRow.holds Try.pinned (OpenSpec.ofChange cIDRemoteMatchesReferenceWrong)

/-- 'peregrinelaw07.CIDRetirePriorTo': WHATEVER THE INPUT: true; the input reads as it did. -/
def cIDRetirePriorToSpec : ChangeSpec := { name := "cIDRetirePriorTo", fn := fun _ => fun
  | [d1, d2] => { results := [.lit (.bool true)], args := [d1, d2] }
  | _ => none }
def cIDRetirePriorToRow : OpenClaim := { program := "ytmdfpknhfkgfoaa", sum := "62e720d9ad086a6a65d44eef5837dc9706b7e99a287a6626dfc464470183fd78", func := "peregrine/peregrinelaw07.CIDRetirePriorTo", spec := "cIDRetirePriorTo", unfollowed := true, recurses := true, apart := false }
def CIDRetirePriorToSaid : Prop := cIDRetirePriorToRow.holds Try.pinned (OpenSpec.ofChange cIDRetirePriorToSpec)

/-- ITS FALSE NEIGHBOUR: 'it returns false'. Refute it at one input. -/
def cIDRetirePriorToWrong : ChangeSpec := { name := "cIDRetirePriorTo", fn := fun _ => fun
  | [d1, d2] => { results := [.lit (.bool false)], args := [d1, d2] }
  | _ => none }
def CIDRetirePriorToWrongFalsely : Prop := cIDRetirePriorToRow.holds Try.pinned (OpenSpec.ofChange cIDRetirePriorToWrong)

/-- 'peregrinelaw07.CIDLocalMatchesReference': WHATEVER THE INPUT: true; the input reads as it did. -/
def cIDLocalMatchesReferenceSpec : ChangeSpec := { name := "cIDLocalMatchesReference", fn := fun _ => fun
  | [d1, d2, d3] => { results := [.lit (.bool true)], args := [d1, d2, d3] }
  | _ => none }
def cIDLocalMatchesReferenceRow : OpenClaim := { program := "ytmdfpknhfkgfoaa", sum := "62e720d9ad086a6a65d44eef5837dc9706b7e99a287a6626dfc464470183fd78", func := "peregrine/peregrinelaw07.CIDLocalMatchesReference", spec := "cIDLocalMatchesReference", unfollowed := true, recurses := true, apart := false }
def CIDLocalMatchesReferenceSaid : Prop := cIDLocalMatchesReferenceRow.holds Try.pinned (OpenSpec.ofChange cIDLocalMatchesReferenceSpec)

/-- ITS FALSE NEIGHBOUR: 'it returns false'. Refute it at one input. -/
def cIDLocalMatchesReferenceWrong : ChangeSpec := { name := "cIDLocalMatchesReference", fn := fun _ => fun
  | [d1, d2, d3] => { results := [.lit (.bool false)], args := [d1, d2, d3] }
  | _ => none }
def CIDLocalMatchesReferenceWrongFalsely : Prop := cIDLocalMatchesReferenceRow.holds Try.pinned (OpenSpec.ofChange cIDLocalMatchesReferenceWrong)

/-- 'peregrinelaw07.CIDDistinct': WHATEVER THE INPUT: true; the input reads as it did. -/
def cIDDistinctSpec : ChangeSpec := { name := "cIDDistinct", fn := fun _ => fun
  | [d1, d2] => { results := [.lit (.bool true)], args := [d1, d2] }
  | _ => none }
def cIDDistinctRow : OpenClaim := { program := "ytmdfpknhfkgfoaa", sum := "62e720d9ad086a6a65d44eef5837dc9706b7e99a287a6626dfc464470183fd78", func := "peregrine/peregrinelaw07.CIDDistinct", spec := "cIDDistinct", unfollowed := true, recurses := true, apart := false }
def CIDDistinctSaid : Prop := cIDDistinctRow.holds Try.pinned (OpenSpec.ofChange cIDDistinctSpec)

/-- ITS FALSE NEIGHBOUR: 'it returns false'. Refute it at one input. -/
def cIDDistinctWrong : ChangeSpec := { name := "cIDDistinct", fn := fun _ => fun
  | [d1, d2] => { results := [.lit (.bool false)], args := [d1, d2] }
  | _ => none }
def CIDDistinctWrongFalsely : Prop := cIDDistinctRow.holds Try.pinned (OpenSpec.ofChange cIDDistinctWrong)

/-- 'peregrinelaw07.CIDPairAgrees': WHATEVER THE INPUT: true; the input reads as it did. -/
def cIDPairAgreesSpec : ChangeSpec := { name := "cIDPairAgrees", fn := fun _ => fun
  | [d1, d2] => { results := [.lit (.bool true)], args := [d1, d2] }
  | _ => none }
def cIDPairAgreesRow : OpenClaim := { program := "ytmdfpknhfkgfoaa", sum := "62e720d9ad086a6a65d44eef5837dc9706b7e99a287a6626dfc464470183fd78", func := "peregrine/peregrinelaw07.CIDPairAgrees", spec := "cIDPairAgrees", unfollowed := true, recurses := true, apart := false }
def CIDPairAgreesSaid : Prop := cIDPairAgreesRow.holds Try.pinned (OpenSpec.ofChange cIDPairAgreesSpec)

/-- ITS FALSE NEIGHBOUR: 'it returns false'. Refute it at one input. -/
def cIDPairAgreesWrong : ChangeSpec := { name := "cIDPairAgrees", fn := fun _ => fun
  | [d1, d2] => { results := [.lit (.bool false)], args := [d1, d2] }
  | _ => none }
def CIDPairAgreesWrongFalsely : Prop := cIDPairAgreesRow.holds Try.pinned (OpenSpec.ofChange cIDPairAgreesWrong)

/-- 'peregrinelaw07.CIDHidesSequence': WHATEVER THE INPUT: true; the input reads as it did. -/
def cIDHidesSequenceSpec : ChangeSpec := { name := "cIDHidesSequence", fn := fun _ => fun
  | [d] => { results := [.lit (.bool true)], args := [d] }
  | _ => none }
def cIDHidesSequenceRow : OpenClaim := { program := "ytmdfpknhfkgfoaa", sum := "62e720d9ad086a6a65d44eef5837dc9706b7e99a287a6626dfc464470183fd78", func := "peregrine/peregrinelaw07.CIDHidesSequence", spec := "cIDHidesSequence", unfollowed := true, recurses := true, apart := false }
def CIDHidesSequenceSaid : Prop := cIDHidesSequenceRow.holds Try.pinned (OpenSpec.ofChange cIDHidesSequenceSpec)

/-- ITS FALSE NEIGHBOUR: 'it returns false'. Refute it at one input. -/
def cIDHidesSequenceWrong : ChangeSpec := { name := "cIDHidesSequence", fn := fun _ => fun
  | [d] => { results := [.lit (.bool false)], args := [d] }
  | _ => none }
def CIDHidesSequenceWrongFalsely : Prop := cIDHidesSequenceRow.holds Try.pinned (OpenSpec.ofChange cIDHidesSequenceWrong)

/- THE SECOND FORM. 'bulk': how many values and letters a reading holds, each counted each time it is reached (what is shared counts as often as it is met; a slice's spare places count too). A statement '..UptoSaid' is the law's where the arguments, and the package variables that the reading takes, are together of bulk at most 1048576: NARROWER than '..Said'. Prove '..Said' where nothing that the law and all that it calls make is longer than what came in: it says more and counts as full. Else prove '..UptoSaid'. A law counts once. -/
mutual
def uptoBulk {H : Type} : DataW H → Nat
  | .lit (.string bytes) => bytes.length + 1
  | .lit _ => 1
  | .nil => 1
  | .ptr d => uptoBulk d + 1
  | .slice elems spare => uptoBulkAll elems + uptoBulkAll spare + 1
  | .agg parts => uptoBulkAll parts + 1
  | .iface _ d => uptoBulk d + 1
  | .map entries => uptoBulkEntries entries + 1
  | .held _ => 1
def uptoBulkAll {H : Type} : List (DataW H) → Nat
  | [] => 0
  | d :: r => uptoBulk d + uptoBulkAll r
def uptoBulkEntries {H : Type} : List (Lit × DataW H) → Nat
  | [] => 0
  | x :: r => uptoBulkEntry x + uptoBulkEntries r
def uptoBulkEntry {H : Type} : Lit × DataW H → Nat
  | (.string bytes, d) => bytes.length + uptoBulk d + 1
  | (_, d) => uptoBulk d + 1
 end
def uptoSmall : (H : Type) → List (DataW H) → Bool := fun _ ds => decide (uptoBulkAll ds ≤ 1048576)
def OpenSpec.upto (s : _root_.Go.ChangeSpec) : _root_.Go.OpenSpec := { _root_.Go.OpenSpec.ofChange s with cond := some uptoSmall }

/-- 'peregrinelaw02.CipherMatchesReference', WHERE WHAT IT READS IS OF BULK AT MOST 1048576: true; the input reads as it did. -/
def cipherMatchesReferenceUptoRow : OpenClaim := { program := "ytmdfpknhfkgfoaa", sum := "62e720d9ad086a6a65d44eef5837dc9706b7e99a287a6626dfc464470183fd78", func := "peregrine/peregrinelaw02.CipherMatchesReference", spec := "cipherMatchesReference", unfollowed := true, recurses := true, apart := false, narrowed := true }
def CipherMatchesReferenceUptoSaid : Prop := cipherMatchesReferenceUptoRow.holds Try.pinned (OpenSpec.upto cipherMatchesReferenceSpec)

/-- 'peregrinelaw02.CipherInverse', WHERE WHAT IT READS IS OF BULK AT MOST 1048576: true; the input reads as it did. -/
def cipherInverseUptoRow : OpenClaim := { program := "ytmdfpknhfkgfoaa", sum := "62e720d9ad086a6a65d44eef5837dc9706b7e99a287a6626dfc464470183fd78", func := "peregrine/peregrinelaw02.CipherInverse", spec := "cipherInverse", unfollowed := true, recurses := true, apart := false, narrowed := true }
def CipherInverseUptoSaid : Prop := cipherInverseUptoRow.holds Try.pinned (OpenSpec.upto cipherInverseSpec)

/-- 'peregrinelaw02.CipherInjective', WHERE WHAT IT READS IS OF BULK AT MOST 1048576: true; the input reads as it did. -/
def cipherInjectiveUptoRow : OpenClaim := { program := "ytmdfpknhfkgfoaa", sum := "62e720d9ad086a6a65d44eef5837dc9706b7e99a287a6626dfc464470183fd78", func := "peregrine/peregrinelaw02.CipherInjective", spec := "cipherInjective", unfollowed := true, recurses := true, apart := false, narrowed := true }
def CipherInjectiveUptoSaid : Prop := cipherInjectiveUptoRow.holds Try.pinned (OpenSpec.upto cipherInjectiveSpec)

/-- 'peregrinelaw02.CipherSizes', WHERE WHAT IT READS IS OF BULK AT MOST 1048576: true; the input reads as it did. -/
def cipherSizesUptoRow : OpenClaim := { program := "ytmdfpknhfkgfoaa", sum := "62e720d9ad086a6a65d44eef5837dc9706b7e99a287a6626dfc464470183fd78", func := "peregrine/peregrinelaw02.CipherSizes", spec := "cipherSizes", unfollowed := true, recurses := true, apart := false, narrowed := true }
def CipherSizesUptoSaid : Prop := cipherSizesUptoRow.holds Try.pinned (OpenSpec.upto cipherSizesSpec)

/-- 'peregrinelaw07.CIDRemoteMatchesReference', WHERE WHAT IT READS IS OF BULK AT MOST 1048576: true; the input reads as it did. -/
def cIDRemoteMatchesReferenceUptoRow : OpenClaim := { program := "ytmdfpknhfkgfoaa", sum := "62e720d9ad086a6a65d44eef5837dc9706b7e99a287a6626dfc464470183fd78", func := "peregrine/peregrinelaw07.CIDRemoteMatchesReference", spec := "cIDRemoteMatchesReference", unfollowed := true, recurses := true, apart := false, narrowed := true }
def CIDRemoteMatchesReferenceUptoSaid : Prop := cIDRemoteMatchesReferenceUptoRow.holds Try.pinned (OpenSpec.upto cIDRemoteMatchesReferenceSpec)

/-- 'peregrinelaw07.CIDRetirePriorTo', WHERE WHAT IT READS IS OF BULK AT MOST 1048576: true; the input reads as it did. -/
def cIDRetirePriorToUptoRow : OpenClaim := { program := "ytmdfpknhfkgfoaa", sum := "62e720d9ad086a6a65d44eef5837dc9706b7e99a287a6626dfc464470183fd78", func := "peregrine/peregrinelaw07.CIDRetirePriorTo", spec := "cIDRetirePriorTo", unfollowed := true, recurses := true, apart := false, narrowed := true }
def CIDRetirePriorToUptoSaid : Prop := cIDRetirePriorToUptoRow.holds Try.pinned (OpenSpec.upto cIDRetirePriorToSpec)

/-- 'peregrinelaw07.CIDLocalMatchesReference', WHERE WHAT IT READS IS OF BULK AT MOST 1048576: true; the input reads as it did. -/
def cIDLocalMatchesReferenceUptoRow : OpenClaim := { program := "ytmdfpknhfkgfoaa", sum := "62e720d9ad086a6a65d44eef5837dc9706b7e99a287a6626dfc464470183fd78", func := "peregrine/peregrinelaw07.CIDLocalMatchesReference", spec := "cIDLocalMatchesReference", unfollowed := true, recurses := true, apart := false, narrowed := true }
def CIDLocalMatchesReferenceUptoSaid : Prop := cIDLocalMatchesReferenceUptoRow.holds Try.pinned (OpenSpec.upto cIDLocalMatchesReferenceSpec)

/-- 'peregrinelaw07.CIDDistinct', WHERE WHAT IT READS IS OF BULK AT MOST 1048576: true; the input reads as it did. -/
def cIDDistinctUptoRow : OpenClaim := { program := "ytmdfpknhfkgfoaa", sum := "62e720d9ad086a6a65d44eef5837dc9706b7e99a287a6626dfc464470183fd78", func := "peregrine/peregrinelaw07.CIDDistinct", spec := "cIDDistinct", unfollowed := true, recurses := true, apart := false, narrowed := true }
def CIDDistinctUptoSaid : Prop := cIDDistinctUptoRow.holds Try.pinned (OpenSpec.upto cIDDistinctSpec)

/-- 'peregrinelaw07.CIDPairAgrees', WHERE WHAT IT READS IS OF BULK AT MOST 1048576: true; the input reads as it did. -/
def cIDPairAgreesUptoRow : OpenClaim := { program := "ytmdfpknhfkgfoaa", sum := "62e720d9ad086a6a65d44eef5837dc9706b7e99a287a6626dfc464470183fd78", func := "peregrine/peregrinelaw07.CIDPairAgrees", spec := "cIDPairAgrees", unfollowed := true, recurses := true, apart := false, narrowed := true }
def CIDPairAgreesUptoSaid : Prop := cIDPairAgreesUptoRow.holds Try.pinned (OpenSpec.upto cIDPairAgreesSpec)

/-- 'peregrinelaw07.CIDHidesSequence', WHERE WHAT IT READS IS OF BULK AT MOST 1048576: true; the input reads as it did. -/
def cIDHidesSequenceUptoRow : OpenClaim := { program := "ytmdfpknhfkgfoaa", sum := "62e720d9ad086a6a65d44eef5837dc9706b7e99a287a6626dfc464470183fd78", func := "peregrine/peregrinelaw07.CIDHidesSequence", spec := "cIDHidesSequence", unfollowed := true, recurses := true, apart := false, narrowed := true }
def CIDHidesSequenceUptoSaid : Prop := cIDHidesSequenceUptoRow.holds Try.pinned (OpenSpec.upto cIDHidesSequenceSpec)

end Rows
end Go.Proofs.Ytmdfpknhfkgfoaa
