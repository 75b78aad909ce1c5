/-
  DERIVED. GIVEN WITH THE SEED: THE CARDS: each row of YtnbnmomichegaaaDoorRows.lean that lists a variable, with what it lists TIED to the program's text (the seventh form; the later family's looks); each row that meets fmt, with fmt's text TOLD by the authors' own Lean function (tested against real Go, not proved from fmt's source: count such statements apart). THE CARD IS WHAT COUNTS. Prove the row's statement (the work); the ties are given (YtnbnmomichegaaaDoorTie.lean); close each card by the builder's one call (the guide's Derived/Test/ToyasCard.lean, 'card_holds'). Laid BY PROGRAM, IN A SANDBOX (cutbox-door.mjs). By AI agents, Wed Nov 11 2026. No macro, syntax, notation, axiom, sorry.
-/
import Derived.Test.YtnbnmomichegaaaDoorRows
import GoSem.ClaimSeven
namespace Go.Proofs.YtnbnmomichegaaaDoor
namespace Rows

/-- THE TIED CARD OF 'corporalaw09.DependFormats'. -/
def dependFormatsCard : Claim7 := { stood := { row := dependFormatsRow, standIns := [], harness := (true, "137b52baf780017dab00b812b4ad7f8f1c4b8d8f72d4c6676d9043a3f698f93a"), looks := false }, kinds := [], alts := [], laidByText := true, laidKinds := [.data, .data, .data], laidTests := true, laidLooks := .later }
def DependFormatsCardSaid : Prop := Claim7.holds Tryd.pinned (.plain (OpenSpec.ofChange dependFormatsSpec)) dependFormatsCard

/-- THE TIED CARD OF 'corporalaw09.DependRoundTrips'. -/
def dependRoundTripsCard : Claim7 := { stood := { row := dependRoundTripsRow, standIns := [], harness := (true, "137b52baf780017dab00b812b4ad7f8f1c4b8d8f72d4c6676d9043a3f698f93a"), looks := false }, kinds := [], alts := [], laidByText := true, laidKinds := [.data, .data, .data], laidTests := true, laidLooks := .later }
def DependRoundTripsCardSaid : Prop := Claim7.holds Tryd.pinned (.plain (OpenSpec.ofChange dependRoundTripsSpec)) dependRoundTripsCard

/-- THE TIED CARD OF 'corporalaw09.DependCorpus'. -/
def dependCorpusCard : Claim7 := { stood := { row := dependCorpusRow, standIns := [], harness := (true, "137b52baf780017dab00b812b4ad7f8f1c4b8d8f72d4c6676d9043a3f698f93a"), looks := false }, kinds := [], alts := [], laidByText := true, laidKinds := [.data, .data, .data], laidTests := true, laidLooks := .later }
def DependCorpusCardSaid : Prop := Claim7.holds Tryd.pinned (.plain (OpenSpec.ofChange dependCorpusSpec)) dependCorpusCard

/-- THE SECOND FORM's CARD OF 'corporalaw09.DependFormats'. -/
def dependFormatsUptoCard : Claim7 := { stood := { row := dependFormatsUptoRow, standIns := [], harness := (true, "137b52baf780017dab00b812b4ad7f8f1c4b8d8f72d4c6676d9043a3f698f93a"), looks := false }, kinds := [], alts := [], laidByText := true, laidKinds := [.data, .data, .data], laidTests := true, laidLooks := .later }
def DependFormatsUptoCardSaid : Prop := Claim7.holds Tryd.pinned (.plain (OpenSpec.upto dependFormatsSpec)) dependFormatsUptoCard

/-- THE SECOND FORM's CARD OF 'corporalaw09.DependRoundTrips'. -/
def dependRoundTripsUptoCard : Claim7 := { stood := { row := dependRoundTripsUptoRow, standIns := [], harness := (true, "137b52baf780017dab00b812b4ad7f8f1c4b8d8f72d4c6676d9043a3f698f93a"), looks := false }, kinds := [], alts := [], laidByText := true, laidKinds := [.data, .data, .data], laidTests := true, laidLooks := .later }
def DependRoundTripsUptoCardSaid : Prop := Claim7.holds Tryd.pinned (.plain (OpenSpec.upto dependRoundTripsSpec)) dependRoundTripsUptoCard

/-- THE SECOND FORM's CARD OF 'corporalaw09.DependCorpus'. -/
def dependCorpusUptoCard : Claim7 := { stood := { row := dependCorpusUptoRow, standIns := [], harness := (true, "137b52baf780017dab00b812b4ad7f8f1c4b8d8f72d4c6676d9043a3f698f93a"), looks := false }, kinds := [], alts := [], laidByText := true, laidKinds := [.data, .data, .data], laidTests := true, laidLooks := .later }
def DependCorpusUptoCardSaid : Prop := Claim7.holds Tryd.pinned (.plain (OpenSpec.upto dependCorpusSpec)) dependCorpusUptoCard
end Rows
end Go.Proofs.YtnbnmomichegaaaDoor
