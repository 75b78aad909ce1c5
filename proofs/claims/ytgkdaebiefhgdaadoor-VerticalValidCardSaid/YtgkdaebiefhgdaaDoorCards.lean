/-
  DERIVED. GIVEN WITH THE SEED: THE CARDS: each row of YtgkdaebiefhgdaaDoorRows.lean that lists a variable, with what it lists TIED to the program's text (the seventh form; the later family's looks); each row that meets fmt, with fmt's text TOLD by the authors' own Lean function (tested against real Go, not proved from fmt's source: count such statements apart). THE CARD IS WHAT COUNTS. Prove the row's statement (the work); the ties are given (YtgkdaebiefhgdaaDoorTie.lean); close each card by the builder's one call (the guide's Derived/Test/ToyasCard.lean, 'card_holds'). Laid BY PROGRAM, IN A SANDBOX (cutbox-door.mjs). By AI agents, Wed Nov 11 2026. No macro, syntax, notation, axiom, sorry.
-/
import Derived.Test.YtgkdaebiefhgdaaDoorRows
import GoSem.ClaimSeven
namespace Go.Proofs.YtgkdaebiefhgdaaDoor
namespace Rows

/-- THE TIED CARD OF 'corporalaw07.VerticalValid'. -/
def verticalValidCard : Claim7 := { stood := { row := verticalValidRow, standIns := [], harness := (true, "fd488bba2bbf6de3fa9b292ccd2e972019e7ced7a52da6778e3a3c73245a8715"), looks := true }, kinds := [], alts := [], laidByText := true, laidKinds := [.data, .pinned], laidTests := true, laidLooks := .later }
def VerticalValidCardSaid : Prop := Claim7.holds Tryd.pinned (.plain (OpenSpec.ofChange verticalValidSpec)) verticalValidCard

/-- THE TIED CARD OF 'corporalaw07.VerticalEnds'. -/
def verticalEndsCard : Claim7 := { stood := { row := verticalEndsRow, standIns := [], harness := (true, "fd488bba2bbf6de3fa9b292ccd2e972019e7ced7a52da6778e3a3c73245a8715"), looks := true }, kinds := [], alts := [], laidByText := true, laidKinds := [.data, .pinned], laidTests := true, laidLooks := .later }
def VerticalEndsCardSaid : Prop := Claim7.holds Tryd.pinned (.plain (OpenSpec.ofChange verticalEndsSpec)) verticalEndsCard

/-- THE SECOND FORM's CARD OF 'corporalaw07.VerticalValid'. -/
def verticalValidUptoCard : Claim7 := { stood := { row := verticalValidUptoRow, standIns := [], harness := (true, "fd488bba2bbf6de3fa9b292ccd2e972019e7ced7a52da6778e3a3c73245a8715"), looks := true }, kinds := [], alts := [], laidByText := true, laidKinds := [.data, .pinned], laidTests := true, laidLooks := .later }
def VerticalValidUptoCardSaid : Prop := Claim7.holds Tryd.pinned (.plain (OpenSpec.upto verticalValidSpec)) verticalValidUptoCard

/-- THE SECOND FORM's CARD OF 'corporalaw07.VerticalEnds'. -/
def verticalEndsUptoCard : Claim7 := { stood := { row := verticalEndsUptoRow, standIns := [], harness := (true, "fd488bba2bbf6de3fa9b292ccd2e972019e7ced7a52da6778e3a3c73245a8715"), looks := true }, kinds := [], alts := [], laidByText := true, laidKinds := [.data, .pinned], laidTests := true, laidLooks := .later }
def VerticalEndsUptoCardSaid : Prop := Claim7.holds Tryd.pinned (.plain (OpenSpec.upto verticalEndsSpec)) verticalEndsUptoCard
end Rows
end Go.Proofs.YtgkdaebiefhgdaaDoor
