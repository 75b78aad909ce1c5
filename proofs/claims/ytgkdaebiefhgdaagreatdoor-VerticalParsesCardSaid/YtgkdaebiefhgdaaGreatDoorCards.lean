/-
  DERIVED. GIVEN WITH THE SEED: THE CARDS: each row of YtgkdaebiefhgdaaGreatDoorRows.lean that lists a variable, with what it lists TIED to the program's text (the seventh form; the later family's looks); each row that meets fmt, with fmt's text TOLD by the authors' own Lean function (tested against real Go, not proved from fmt's source: count such statements apart). THE CARD IS WHAT COUNTS. Prove the row's statement (the work); the ties are given (YtgkdaebiefhgdaaGreatDoorTie.lean); close each card by the builder's one call (the guide's Derived/Test/ToyasCard.lean, 'card_holds'). Laid BY PROGRAM, IN A SANDBOX (cutbox-door.mjs). By AI agents, Wed Nov 11 2026. No macro, syntax, notation, axiom, sorry.
-/
import Derived.Test.YtgkdaebiefhgdaaGreatDoorRows
import GoSem.ClaimSeven
namespace Go.Proofs.YtgkdaebiefhgdaaGreatDoor
namespace Rows

/-- THE TIED CARD OF 'corporalaw07.VerticalParses'. -/
def verticalParsesCard : Claim7 := { stood := { row := verticalParsesRow, standIns := [], harness := (true, "d10a679169a8adb45264a9acf61b05e89f179ad08a9440263804fa7046afa7a0"), looks := true }, kinds := [], alts := [], laidByText := true, laidKinds := [.data, .pinned], laidTests := true, laidLooks := .later }
def VerticalParsesCardSaid : Prop := Claim7.holds Tryz.pinned (.plain (OpenSpec.ofChange verticalParsesSpec)) verticalParsesCard

/-- THE TIED CARD OF 'corporalaw07.VerticalFormats'. -/
def verticalFormatsCard : Claim7 := { stood := { row := verticalFormatsRow, standIns := [], harness := (true, "d10a679169a8adb45264a9acf61b05e89f179ad08a9440263804fa7046afa7a0"), looks := true }, kinds := [], alts := [], laidByText := true, laidKinds := [.data, .pinned], laidTests := true, laidLooks := .later }
def VerticalFormatsCardSaid : Prop := Claim7.holds Tryz.pinned (.plain (OpenSpec.ofChange verticalFormatsSpec)) verticalFormatsCard

/-- THE TIED CARD OF 'corporalaw07.VerticalRoundTrips'. -/
def verticalRoundTripsCard : Claim7 := { stood := { row := verticalRoundTripsRow, standIns := [], harness := (true, "d10a679169a8adb45264a9acf61b05e89f179ad08a9440263804fa7046afa7a0"), looks := true }, kinds := [], alts := [], laidByText := true, laidKinds := [.data, .pinned], laidTests := true, laidLooks := .later }
def VerticalRoundTripsCardSaid : Prop := Claim7.holds Tryz.pinned (.plain (OpenSpec.ofChange verticalRoundTripsSpec)) verticalRoundTripsCard

/-- THE TIED CARD OF 'corporalaw07.VerticalCuts'. -/
def verticalCutsCard : Claim7 := { stood := { row := verticalCutsRow, standIns := [], harness := (true, "d10a679169a8adb45264a9acf61b05e89f179ad08a9440263804fa7046afa7a0"), looks := true }, kinds := [], alts := [], laidByText := true, laidKinds := [.data, .pinned], laidTests := true, laidLooks := .later }
def VerticalCutsCardSaid : Prop := Claim7.holds Tryz.pinned (.plain (OpenSpec.ofChange verticalCutsSpec)) verticalCutsCard

/-- THE TIED CARD OF 'corporalaw07.VerticalSettles'. -/
def verticalSettlesCard : Claim7 := { stood := { row := verticalSettlesRow, standIns := [], harness := (true, "d10a679169a8adb45264a9acf61b05e89f179ad08a9440263804fa7046afa7a0"), looks := true }, kinds := [], alts := [], laidByText := true, laidKinds := [.data, .pinned], laidTests := true, laidLooks := .later }
def VerticalSettlesCardSaid : Prop := Claim7.holds Tryz.pinned (.plain (OpenSpec.ofChange verticalSettlesSpec)) verticalSettlesCard

/-- THE TIED CARD OF 'corporalaw07.VerticalJoins'. -/
def verticalJoinsCard : Claim7 := { stood := { row := verticalJoinsRow, standIns := [], harness := (true, "d10a679169a8adb45264a9acf61b05e89f179ad08a9440263804fa7046afa7a0"), looks := true }, kinds := [], alts := [], laidByText := true, laidKinds := [.data, .pinned], laidTests := true, laidLooks := .later }
def VerticalJoinsCardSaid : Prop := Claim7.holds Tryz.pinned (.plain (OpenSpec.ofChange verticalJoinsSpec)) verticalJoinsCard

/-- THE SECOND FORM's CARD OF 'corporalaw07.VerticalParses'. -/
def verticalParsesUptoCard : Claim7 := { stood := { row := verticalParsesUptoRow, standIns := [], harness := (true, "d10a679169a8adb45264a9acf61b05e89f179ad08a9440263804fa7046afa7a0"), looks := true }, kinds := [], alts := [], laidByText := true, laidKinds := [.data, .pinned], laidTests := true, laidLooks := .later }
def VerticalParsesUptoCardSaid : Prop := Claim7.holds Tryz.pinned (.plain (OpenSpec.upto verticalParsesSpec)) verticalParsesUptoCard

/-- THE SECOND FORM's CARD OF 'corporalaw07.VerticalFormats'. -/
def verticalFormatsUptoCard : Claim7 := { stood := { row := verticalFormatsUptoRow, standIns := [], harness := (true, "d10a679169a8adb45264a9acf61b05e89f179ad08a9440263804fa7046afa7a0"), looks := true }, kinds := [], alts := [], laidByText := true, laidKinds := [.data, .pinned], laidTests := true, laidLooks := .later }
def VerticalFormatsUptoCardSaid : Prop := Claim7.holds Tryz.pinned (.plain (OpenSpec.upto verticalFormatsSpec)) verticalFormatsUptoCard

/-- THE SECOND FORM's CARD OF 'corporalaw07.VerticalRoundTrips'. -/
def verticalRoundTripsUptoCard : Claim7 := { stood := { row := verticalRoundTripsUptoRow, standIns := [], harness := (true, "d10a679169a8adb45264a9acf61b05e89f179ad08a9440263804fa7046afa7a0"), looks := true }, kinds := [], alts := [], laidByText := true, laidKinds := [.data, .pinned], laidTests := true, laidLooks := .later }
def VerticalRoundTripsUptoCardSaid : Prop := Claim7.holds Tryz.pinned (.plain (OpenSpec.upto verticalRoundTripsSpec)) verticalRoundTripsUptoCard

/-- THE SECOND FORM's CARD OF 'corporalaw07.VerticalCuts'. -/
def verticalCutsUptoCard : Claim7 := { stood := { row := verticalCutsUptoRow, standIns := [], harness := (true, "d10a679169a8adb45264a9acf61b05e89f179ad08a9440263804fa7046afa7a0"), looks := true }, kinds := [], alts := [], laidByText := true, laidKinds := [.data, .pinned], laidTests := true, laidLooks := .later }
def VerticalCutsUptoCardSaid : Prop := Claim7.holds Tryz.pinned (.plain (OpenSpec.upto verticalCutsSpec)) verticalCutsUptoCard

/-- THE SECOND FORM's CARD OF 'corporalaw07.VerticalSettles'. -/
def verticalSettlesUptoCard : Claim7 := { stood := { row := verticalSettlesUptoRow, standIns := [], harness := (true, "d10a679169a8adb45264a9acf61b05e89f179ad08a9440263804fa7046afa7a0"), looks := true }, kinds := [], alts := [], laidByText := true, laidKinds := [.data, .pinned], laidTests := true, laidLooks := .later }
def VerticalSettlesUptoCardSaid : Prop := Claim7.holds Tryz.pinned (.plain (OpenSpec.upto verticalSettlesSpec)) verticalSettlesUptoCard

/-- THE SECOND FORM's CARD OF 'corporalaw07.VerticalJoins'. -/
def verticalJoinsUptoCard : Claim7 := { stood := { row := verticalJoinsUptoRow, standIns := [], harness := (true, "d10a679169a8adb45264a9acf61b05e89f179ad08a9440263804fa7046afa7a0"), looks := true }, kinds := [], alts := [], laidByText := true, laidKinds := [.data, .pinned], laidTests := true, laidLooks := .later }
def VerticalJoinsUptoCardSaid : Prop := Claim7.holds Tryz.pinned (.plain (OpenSpec.upto verticalJoinsSpec)) verticalJoinsUptoCard
end Rows
end Go.Proofs.YtgkdaebiefhgdaaGreatDoor
