/-
  DERIVED. GIVEN WITH THE SEED: THE CARDS: each row of YtmdfpknhfkgfoaaDoorRows.lean that lists a variable, with what it lists TIED to the program's text (the seventh form; the later family's looks); each row that meets fmt, with fmt's text TOLD by the authors' own Lean function (tested against real Go, not proved from fmt's source: count such statements apart). THE CARD IS WHAT COUNTS. Prove the row's statement (the work); the ties are given (YtmdfpknhfkgfoaaDoorTie.lean); close each card by the builder's one call (the guide's Derived/Test/ToyasCard.lean, 'card_holds'). Laid BY PROGRAM, IN A SANDBOX (cutbox-door.mjs). By AI agents, Wed Nov 11 2026. No macro, syntax, notation, axiom, sorry.
-/
import Derived.Test.YtmdfpknhfkgfoaaDoorRows
import GoSem.ClaimSeven
namespace Go.Proofs.YtmdfpknhfkgfoaaDoor
namespace Rows

/-- THE TIED CARD OF 'peregrinelaw24.PathBadArguments'. -/
def pathBadArgumentsCard : Claim7 := { stood := { row := pathBadArgumentsRow, standIns := [], harness := (true, "33b12ab09740da30a2162dd2925cb02514dd50af2dadecfb6d201145f7954ad2"), looks := true }, kinds := [], alts := [], laidByText := true, laidKinds := [.sentinel, .sentinel], laidTests := true, laidLooks := .later }
def PathBadArgumentsCardSaid : Prop := Claim7.holds Tryd.pinned (.plain (OpenSpec.ofChange pathBadArgumentsSpec)) pathBadArgumentsCard

/-- THE TIED CARD OF 'peregrinelaw24.PathFallback'. -/
def pathFallbackCard : Claim7 := { stood := { row := pathFallbackRow, standIns := [], harness := (true, "33b12ab09740da30a2162dd2925cb02514dd50af2dadecfb6d201145f7954ad2"), looks := true }, kinds := [], alts := [], laidByText := true, laidKinds := [.sentinel, .sentinel], laidTests := true, laidLooks := .later }
def PathFallbackCardSaid : Prop := Claim7.holds Tryd.pinned (.plain (OpenSpec.ofChange pathFallbackSpec)) pathFallbackCard

/-- THE TIED CARD OF 'peregrinelaw24.PathMatchesReference'. -/
def pathMatchesReferenceCard : Claim7 := { stood := { row := pathMatchesReferenceRow, standIns := [], harness := (true, "33b12ab09740da30a2162dd2925cb02514dd50af2dadecfb6d201145f7954ad2"), looks := true }, kinds := [], alts := [], laidByText := true, laidKinds := [.sentinel, .sentinel], laidTests := true, laidLooks := .later }
def PathMatchesReferenceCardSaid : Prop := Claim7.holds Tryd.pinned (.plain (OpenSpec.ofChange pathMatchesReferenceSpec)) pathMatchesReferenceCard

/-- THE TIED CARD OF 'peregrinelaw24.PathAmplification'. -/
def pathAmplificationCard : Claim7 := { stood := { row := pathAmplificationRow, standIns := [], harness := (true, "33b12ab09740da30a2162dd2925cb02514dd50af2dadecfb6d201145f7954ad2"), looks := true }, kinds := [], alts := [], laidByText := true, laidKinds := [.sentinel, .sentinel], laidTests := true, laidLooks := .later }
def PathAmplificationCardSaid : Prop := Claim7.holds Tryd.pinned (.plain (OpenSpec.ofChange pathAmplificationSpec)) pathAmplificationCard

/-- THE TIED CARD OF 'peregrinelaw24.PathBounded'. -/
def pathBoundedCard : Claim7 := { stood := { row := pathBoundedRow, standIns := [], harness := (true, "33b12ab09740da30a2162dd2925cb02514dd50af2dadecfb6d201145f7954ad2"), looks := true }, kinds := [], alts := [], laidByText := true, laidKinds := [.sentinel, .sentinel], laidTests := true, laidLooks := .later }
def PathBoundedCardSaid : Prop := Claim7.holds Tryd.pinned (.plain (OpenSpec.ofChange pathBoundedSpec)) pathBoundedCard

/-- THE TIED CARD OF 'peregrinelaw24.PathValidation'. -/
def pathValidationCard : Claim7 := { stood := { row := pathValidationRow, standIns := [], harness := (true, "33b12ab09740da30a2162dd2925cb02514dd50af2dadecfb6d201145f7954ad2"), looks := true }, kinds := [], alts := [], laidByText := true, laidKinds := [.sentinel, .sentinel], laidTests := true, laidLooks := .later }
def PathValidationCardSaid : Prop := Claim7.holds Tryd.pinned (.plain (OpenSpec.ofChange pathValidationSpec)) pathValidationCard

/-- THE TIED CARD OF 'peregrinelaw24.PathIndependent'. -/
def pathIndependentCard : Claim7 := { stood := { row := pathIndependentRow, standIns := [], harness := (true, "33b12ab09740da30a2162dd2925cb02514dd50af2dadecfb6d201145f7954ad2"), looks := true }, kinds := [], alts := [], laidByText := true, laidKinds := [.sentinel, .sentinel], laidTests := true, laidLooks := .later }
def PathIndependentCardSaid : Prop := Claim7.holds Tryd.pinned (.plain (OpenSpec.ofChange pathIndependentSpec)) pathIndependentCard

/-- THE TIED CARD OF 'peregrinelaw24.PathNil'. -/
def pathNilCard : Claim7 := { stood := { row := pathNilRow, standIns := [], harness := (true, "33b12ab09740da30a2162dd2925cb02514dd50af2dadecfb6d201145f7954ad2"), looks := true }, kinds := [], alts := [], laidByText := true, laidKinds := [.sentinel, .sentinel], laidTests := true, laidLooks := .later }
def PathNilCardSaid : Prop := Claim7.holds Tryd.pinned (.plain (OpenSpec.ofChange pathNilSpec)) pathNilCard

/-- THE TIED CARD OF 'peregrinelaw24.PathMigrationUnlinkable'. -/
def pathMigrationUnlinkableCard : Claim7 := { stood := { row := pathMigrationUnlinkableRow, standIns := [], harness := (true, "33b12ab09740da30a2162dd2925cb02514dd50af2dadecfb6d201145f7954ad2"), looks := true }, kinds := [], alts := [], laidByText := true, laidKinds := [.sentinel, .sentinel], laidTests := true, laidLooks := .later }
def PathMigrationUnlinkableCardSaid : Prop := Claim7.holds Tryd.pinned (.plain (OpenSpec.ofChange pathMigrationUnlinkableSpec)) pathMigrationUnlinkableCard

/-- THE SECOND FORM's CARD OF 'peregrinelaw24.PathBadArguments'. -/
def pathBadArgumentsUptoCard : Claim7 := { stood := { row := pathBadArgumentsUptoRow, standIns := [], harness := (true, "33b12ab09740da30a2162dd2925cb02514dd50af2dadecfb6d201145f7954ad2"), looks := true }, kinds := [], alts := [], laidByText := true, laidKinds := [.sentinel, .sentinel], laidTests := true, laidLooks := .later }
def PathBadArgumentsUptoCardSaid : Prop := Claim7.holds Tryd.pinned (.plain (OpenSpec.upto pathBadArgumentsSpec)) pathBadArgumentsUptoCard

/-- THE SECOND FORM's CARD OF 'peregrinelaw24.PathFallback'. -/
def pathFallbackUptoCard : Claim7 := { stood := { row := pathFallbackUptoRow, standIns := [], harness := (true, "33b12ab09740da30a2162dd2925cb02514dd50af2dadecfb6d201145f7954ad2"), looks := true }, kinds := [], alts := [], laidByText := true, laidKinds := [.sentinel, .sentinel], laidTests := true, laidLooks := .later }
def PathFallbackUptoCardSaid : Prop := Claim7.holds Tryd.pinned (.plain (OpenSpec.upto pathFallbackSpec)) pathFallbackUptoCard

/-- THE SECOND FORM's CARD OF 'peregrinelaw24.PathMatchesReference'. -/
def pathMatchesReferenceUptoCard : Claim7 := { stood := { row := pathMatchesReferenceUptoRow, standIns := [], harness := (true, "33b12ab09740da30a2162dd2925cb02514dd50af2dadecfb6d201145f7954ad2"), looks := true }, kinds := [], alts := [], laidByText := true, laidKinds := [.sentinel, .sentinel], laidTests := true, laidLooks := .later }
def PathMatchesReferenceUptoCardSaid : Prop := Claim7.holds Tryd.pinned (.plain (OpenSpec.upto pathMatchesReferenceSpec)) pathMatchesReferenceUptoCard

/-- THE SECOND FORM's CARD OF 'peregrinelaw24.PathAmplification'. -/
def pathAmplificationUptoCard : Claim7 := { stood := { row := pathAmplificationUptoRow, standIns := [], harness := (true, "33b12ab09740da30a2162dd2925cb02514dd50af2dadecfb6d201145f7954ad2"), looks := true }, kinds := [], alts := [], laidByText := true, laidKinds := [.sentinel, .sentinel], laidTests := true, laidLooks := .later }
def PathAmplificationUptoCardSaid : Prop := Claim7.holds Tryd.pinned (.plain (OpenSpec.upto pathAmplificationSpec)) pathAmplificationUptoCard

/-- THE SECOND FORM's CARD OF 'peregrinelaw24.PathBounded'. -/
def pathBoundedUptoCard : Claim7 := { stood := { row := pathBoundedUptoRow, standIns := [], harness := (true, "33b12ab09740da30a2162dd2925cb02514dd50af2dadecfb6d201145f7954ad2"), looks := true }, kinds := [], alts := [], laidByText := true, laidKinds := [.sentinel, .sentinel], laidTests := true, laidLooks := .later }
def PathBoundedUptoCardSaid : Prop := Claim7.holds Tryd.pinned (.plain (OpenSpec.upto pathBoundedSpec)) pathBoundedUptoCard

/-- THE SECOND FORM's CARD OF 'peregrinelaw24.PathValidation'. -/
def pathValidationUptoCard : Claim7 := { stood := { row := pathValidationUptoRow, standIns := [], harness := (true, "33b12ab09740da30a2162dd2925cb02514dd50af2dadecfb6d201145f7954ad2"), looks := true }, kinds := [], alts := [], laidByText := true, laidKinds := [.sentinel, .sentinel], laidTests := true, laidLooks := .later }
def PathValidationUptoCardSaid : Prop := Claim7.holds Tryd.pinned (.plain (OpenSpec.upto pathValidationSpec)) pathValidationUptoCard

/-- THE SECOND FORM's CARD OF 'peregrinelaw24.PathIndependent'. -/
def pathIndependentUptoCard : Claim7 := { stood := { row := pathIndependentUptoRow, standIns := [], harness := (true, "33b12ab09740da30a2162dd2925cb02514dd50af2dadecfb6d201145f7954ad2"), looks := true }, kinds := [], alts := [], laidByText := true, laidKinds := [.sentinel, .sentinel], laidTests := true, laidLooks := .later }
def PathIndependentUptoCardSaid : Prop := Claim7.holds Tryd.pinned (.plain (OpenSpec.upto pathIndependentSpec)) pathIndependentUptoCard

/-- THE SECOND FORM's CARD OF 'peregrinelaw24.PathNil'. -/
def pathNilUptoCard : Claim7 := { stood := { row := pathNilUptoRow, standIns := [], harness := (true, "33b12ab09740da30a2162dd2925cb02514dd50af2dadecfb6d201145f7954ad2"), looks := true }, kinds := [], alts := [], laidByText := true, laidKinds := [.sentinel, .sentinel], laidTests := true, laidLooks := .later }
def PathNilUptoCardSaid : Prop := Claim7.holds Tryd.pinned (.plain (OpenSpec.upto pathNilSpec)) pathNilUptoCard

/-- THE SECOND FORM's CARD OF 'peregrinelaw24.PathMigrationUnlinkable'. -/
def pathMigrationUnlinkableUptoCard : Claim7 := { stood := { row := pathMigrationUnlinkableUptoRow, standIns := [], harness := (true, "33b12ab09740da30a2162dd2925cb02514dd50af2dadecfb6d201145f7954ad2"), looks := true }, kinds := [], alts := [], laidByText := true, laidKinds := [.sentinel, .sentinel], laidTests := true, laidLooks := .later }
def PathMigrationUnlinkableUptoCardSaid : Prop := Claim7.holds Tryd.pinned (.plain (OpenSpec.upto pathMigrationUnlinkableSpec)) pathMigrationUnlinkableUptoCard
end Rows
end Go.Proofs.YtmdfpknhfkgfoaaDoor
