/-
  NARROWER THAN 'FOR EVERY INPUT', by the rows' own cells (each row's printed sentence says how): VerticalParses: laid · VerticalFormats: laid · VerticalRoundTrips: laid · VerticalCuts: laid · VerticalSettles: laid · VerticalJoins: laid.
  DERIVED. THE GIVEN ROWS OF THIS SEAT. 6 by the template 'for every input the law returns true; each argument reads behind the call as it read before'; 0 by the template 'total and deterministic' (their statements: YtgkdaebiefhgdaaGreatDoorTotals.lean).
  GIVEN WITH THE SEED: the statements are not yours to turn. If you find one false, say at which input.
  Laid BY PROGRAM, IN A SANDBOX (cutbox-rows.mjs): the forced cells as the released guide's own fill.sh prints them over the translation 24f0edacebac53f8… (all of the seat's roots in one cut). By AI agents, Wed Nov 11 2026. No macro, syntax, notation, axiom, sorry.
-/
import Derived.Test.YtgkdaebiefhgdaaGreatDoorChecked
import GoSem.PinnedTables
import GoSem.Claim
import GoSem.ClaimJoined
import GoSem.ClaimMapViews
import Derived.JoinedTies
import Derived.KernelRfl
namespace Go.Proofs.YtgkdaebiefhgdaaGreatDoor
/- THE CELL 'sum', in the pinned program and in every row, IS THE sha256 OF THE DUMP (.gsa) THAT YtgkdaebiefhgdaaGreatDoorProg.lean LOADS. Nothing in Lean hashes anything: it is a label: what it is worth is what the hold of that sum in a sandbox is worth. -/
noncomputable def Tryz.pinned : Pinned := { name := "ytgkdaebiefhgdaagreatdoor", sum := "24f0edacebac53f819f68016b68f1ad813b8aae5cd5783a6032f7839e555198c", checked := Tryz.checked }
namespace Rows
def none {H : Type} : Left H := { results := [], args := [] }

/- WHAT THE LISTED PACKAGE-LEVEL VARIABLES READ AS WHEN THE CALL BEGINS. Each datum BY PROGRAM (the guide's laid-datum.mjs) off the statement by which the dump's own 'gosem.cut.vars' lays the variable. In a bare row this is a premise. The card (YtgkdaebiefhgdaaGreatDoorCards.lean) ties it to the program's text. -/
def laid_unicode_utf8_acceptRanges {H : Type} : DataW H := .agg [.agg [.lit (.int .u8 128), .lit (.int .u8 191)], .agg [.lit (.int .u8 160), .lit (.int .u8 191)], .agg [.lit (.int .u8 128), .lit (.int .u8 159)], .agg [.lit (.int .u8 144), .lit (.int .u8 191)], .agg [.lit (.int .u8 128), .lit (.int .u8 143)], .agg [.lit (.int .u8 0), .lit (.int .u8 0)], .agg [.lit (.int .u8 0), .lit (.int .u8 0)], .agg [.lit (.int .u8 0), .lit (.int .u8 0)], .agg [.lit (.int .u8 0), .lit (.int .u8 0)], .agg [.lit (.int .u8 0), .lit (.int .u8 0)], .agg [.lit (.int .u8 0), .lit (.int .u8 0)], .agg [.lit (.int .u8 0), .lit (.int .u8 0)], .agg [.lit (.int .u8 0), .lit (.int .u8 0)], .agg [.lit (.int .u8 0), .lit (.int .u8 0)], .agg [.lit (.int .u8 0), .lit (.int .u8 0)], .agg [.lit (.int .u8 0), .lit (.int .u8 0)]]
/-- One of Go's own tables, pinned by name: the form's constant. -/
def laid_unicode_utf8_first : DataW Unit := Go.Pinned.utf8First

/-- 'corporalaw07.VerticalParses': WHATEVER THE INPUT: true; the input reads as it did. -/
def verticalParsesSpec : ChangeSpec := { name := "verticalParses", fn := fun _ => fun
  | [d1, d2] => { results := [.lit (.bool true)], args := [d1, d2] }
  | _ => none }
def verticalParsesRow : OpenClaim := { program := "ytgkdaebiefhgdaagreatdoor", sum := "24f0edacebac53f819f68016b68f1ad813b8aae5cd5783a6032f7839e555198c", func := "corpora/corporalaw07.VerticalParses", spec := "verticalParses", inPlace := ["internal/bytealg.IndexByteString", "internal/bytealg.IndexString", "internal/bytealg.CountString"], unfollowed := true, recurses := true, named := ["internal/bytealg.MaxLen", "unicode/utf8.first", "unicode/utf8.acceptRanges"], apart := false, laid := [("unicode/utf8.acceptRanges", laid_unicode_utf8_acceptRanges), ("unicode/utf8.first", laid_unicode_utf8_first)] }
def VerticalParsesSaid : Prop := verticalParsesRow.holds Tryz.pinned (OpenSpec.ofChange verticalParsesSpec)

/-- ITS FALSE NEIGHBOUR: 'it returns false'. Refute it at one input. -/
def verticalParsesWrong : ChangeSpec := { name := "verticalParses", fn := fun _ => fun
  | [d1, d2] => { results := [.lit (.bool false)], args := [d1, d2] }
  | _ => none }
def VerticalParsesWrongFalsely : Prop := verticalParsesRow.holds Tryz.pinned (OpenSpec.ofChange verticalParsesWrong)

/-- 'corporalaw07.VerticalFormats': WHATEVER THE INPUT: true; the input reads as it did. -/
def verticalFormatsSpec : ChangeSpec := { name := "verticalFormats", fn := fun _ => fun
  | [d] => { results := [.lit (.bool true)], args := [d] }
  | _ => none }
def verticalFormatsRow : OpenClaim := { program := "ytgkdaebiefhgdaagreatdoor", sum := "24f0edacebac53f819f68016b68f1ad813b8aae5cd5783a6032f7839e555198c", func := "corpora/corporalaw07.VerticalFormats", spec := "verticalFormats", inPlace := ["internal/abi.NoEscape", "internal/bytealg.MakeNoZero", "internal/bytealg.IndexByteString", "internal/bytealg.IndexString", "internal/bytealg.CountString"], unfollowed := true, recurses := true, named := ["internal/bytealg.MaxLen", "unicode/utf8.first", "unicode/utf8.acceptRanges"], apart := false, laid := [("unicode/utf8.acceptRanges", laid_unicode_utf8_acceptRanges), ("unicode/utf8.first", laid_unicode_utf8_first)] }
def VerticalFormatsSaid : Prop := verticalFormatsRow.holds Tryz.pinned (OpenSpec.ofChange verticalFormatsSpec)

/-- ITS FALSE NEIGHBOUR: 'it returns false'. Refute it at one input. -/
def verticalFormatsWrong : ChangeSpec := { name := "verticalFormats", fn := fun _ => fun
  | [d] => { results := [.lit (.bool false)], args := [d] }
  | _ => none }
def VerticalFormatsWrongFalsely : Prop := verticalFormatsRow.holds Tryz.pinned (OpenSpec.ofChange verticalFormatsWrong)

/-- 'corporalaw07.VerticalRoundTrips': WHATEVER THE INPUT: true; the input reads as it did. -/
def verticalRoundTripsSpec : ChangeSpec := { name := "verticalRoundTrips", fn := fun _ => fun
  | [d] => { results := [.lit (.bool true)], args := [d] }
  | _ => none }
def verticalRoundTripsRow : OpenClaim := { program := "ytgkdaebiefhgdaagreatdoor", sum := "24f0edacebac53f819f68016b68f1ad813b8aae5cd5783a6032f7839e555198c", func := "corpora/corporalaw07.VerticalRoundTrips", spec := "verticalRoundTrips", inPlace := ["internal/abi.NoEscape", "internal/bytealg.MakeNoZero", "internal/bytealg.IndexByteString", "internal/bytealg.IndexString", "internal/bytealg.CountString"], unfollowed := true, recurses := true, named := ["internal/bytealg.MaxLen", "unicode/utf8.first", "unicode/utf8.acceptRanges"], apart := false, laid := [("unicode/utf8.acceptRanges", laid_unicode_utf8_acceptRanges), ("unicode/utf8.first", laid_unicode_utf8_first)] }
def VerticalRoundTripsSaid : Prop := verticalRoundTripsRow.holds Tryz.pinned (OpenSpec.ofChange verticalRoundTripsSpec)

/-- ITS FALSE NEIGHBOUR: 'it returns false'. Refute it at one input. -/
def verticalRoundTripsWrong : ChangeSpec := { name := "verticalRoundTrips", fn := fun _ => fun
  | [d] => { results := [.lit (.bool false)], args := [d] }
  | _ => none }
def VerticalRoundTripsWrongFalsely : Prop := verticalRoundTripsRow.holds Tryz.pinned (OpenSpec.ofChange verticalRoundTripsWrong)

/-- 'corporalaw07.VerticalCuts': WHATEVER THE INPUT: true; the input reads as it did. -/
def verticalCutsSpec : ChangeSpec := { name := "verticalCuts", fn := fun _ => fun
  | [d1, d2] => { results := [.lit (.bool true)], args := [d1, d2] }
  | _ => none }
def verticalCutsRow : OpenClaim := { program := "ytgkdaebiefhgdaagreatdoor", sum := "24f0edacebac53f819f68016b68f1ad813b8aae5cd5783a6032f7839e555198c", func := "corpora/corporalaw07.VerticalCuts", spec := "verticalCuts", inPlace := ["internal/abi.NoEscape", "internal/bytealg.MakeNoZero", "internal/bytealg.IndexByteString", "internal/bytealg.IndexString", "internal/bytealg.CountString"], unfollowed := true, recurses := true, named := ["internal/bytealg.MaxLen", "unicode/utf8.first", "unicode/utf8.acceptRanges"], apart := false, laid := [("unicode/utf8.acceptRanges", laid_unicode_utf8_acceptRanges), ("unicode/utf8.first", laid_unicode_utf8_first)] }
def VerticalCutsSaid : Prop := verticalCutsRow.holds Tryz.pinned (OpenSpec.ofChange verticalCutsSpec)

/-- ITS FALSE NEIGHBOUR: 'it returns false'. Refute it at one input. -/
def verticalCutsWrong : ChangeSpec := { name := "verticalCuts", fn := fun _ => fun
  | [d1, d2] => { results := [.lit (.bool false)], args := [d1, d2] }
  | _ => none }
def VerticalCutsWrongFalsely : Prop := verticalCutsRow.holds Tryz.pinned (OpenSpec.ofChange verticalCutsWrong)

/-- 'corporalaw07.VerticalSettles': WHATEVER THE INPUT: true; the input reads as it did. -/
def verticalSettlesSpec : ChangeSpec := { name := "verticalSettles", fn := fun _ => fun
  | [d1, d2] => { results := [.lit (.bool true)], args := [d1, d2] }
  | _ => none }
def verticalSettlesRow : OpenClaim := { program := "ytgkdaebiefhgdaagreatdoor", sum := "24f0edacebac53f819f68016b68f1ad813b8aae5cd5783a6032f7839e555198c", func := "corpora/corporalaw07.VerticalSettles", spec := "verticalSettles", inPlace := ["internal/bytealg.IndexByteString", "internal/bytealg.IndexString", "internal/bytealg.CountString", "internal/abi.NoEscape", "internal/bytealg.MakeNoZero"], unfollowed := true, recurses := true, named := ["internal/bytealg.MaxLen", "unicode/utf8.first", "unicode/utf8.acceptRanges"], apart := false, laid := [("unicode/utf8.acceptRanges", laid_unicode_utf8_acceptRanges), ("unicode/utf8.first", laid_unicode_utf8_first)] }
def VerticalSettlesSaid : Prop := verticalSettlesRow.holds Tryz.pinned (OpenSpec.ofChange verticalSettlesSpec)

/-- ITS FALSE NEIGHBOUR: 'it returns false'. Refute it at one input. -/
def verticalSettlesWrong : ChangeSpec := { name := "verticalSettles", fn := fun _ => fun
  | [d1, d2] => { results := [.lit (.bool false)], args := [d1, d2] }
  | _ => none }
def VerticalSettlesWrongFalsely : Prop := verticalSettlesRow.holds Tryz.pinned (OpenSpec.ofChange verticalSettlesWrong)

/-- 'corporalaw07.VerticalJoins': WHATEVER THE INPUT: true; the input reads as it did. -/
def verticalJoinsSpec : ChangeSpec := { name := "verticalJoins", fn := fun _ => fun
  | [d1, d2] => { results := [.lit (.bool true)], args := [d1, d2] }
  | _ => none }
def verticalJoinsRow : OpenClaim := { program := "ytgkdaebiefhgdaagreatdoor", sum := "24f0edacebac53f819f68016b68f1ad813b8aae5cd5783a6032f7839e555198c", func := "corpora/corporalaw07.VerticalJoins", spec := "verticalJoins", inPlace := ["internal/abi.NoEscape", "internal/bytealg.MakeNoZero", "internal/bytealg.IndexByteString", "internal/bytealg.IndexString", "internal/bytealg.CountString"], unfollowed := true, recurses := true, named := ["internal/bytealg.MaxLen", "unicode/utf8.first", "unicode/utf8.acceptRanges"], apart := false, laid := [("unicode/utf8.acceptRanges", laid_unicode_utf8_acceptRanges), ("unicode/utf8.first", laid_unicode_utf8_first)] }
def VerticalJoinsSaid : Prop := verticalJoinsRow.holds Tryz.pinned (OpenSpec.ofChange verticalJoinsSpec)

/-- ITS FALSE NEIGHBOUR: 'it returns false'. Refute it at one input. -/
def verticalJoinsWrong : ChangeSpec := { name := "verticalJoins", fn := fun _ => fun
  | [d1, d2] => { results := [.lit (.bool false)], args := [d1, d2] }
  | _ => none }
def VerticalJoinsWrongFalsely : Prop := verticalJoinsRow.holds Tryz.pinned (OpenSpec.ofChange verticalJoinsWrong)

/- THE SECOND FORM. 'bulk': how many values and letters a reading holds, each counted each time it is reached (what is shared counts as often as it is met; a slice's spare places count too). A statement '..UptoSaid' is the law's where the arguments, and the package variables that the reading takes, are together of bulk at most 1048576: NARROWER than '..Said'. Prove '..Said' where nothing that the law and all that it calls make is longer than what came in: it says more and counts as full. Else prove '..UptoSaid'. A law counts once. -/
mutual
def uptoBulk {H : Type} : DataW H → Nat
  | .lit (.string bytes) => bytes.length + 1
  | .lit _ => 1
  | .nil => 1
  | .ptr d => uptoBulk d + 1
  | .slice elems spare => uptoBulkAll elems + uptoBulkAll spare + 1
  | .agg parts => uptoBulkAll parts + 1
  | .iface _ d => uptoBulk d + 1
  | .map entries => uptoBulkEntries entries + 1
  | .held _ => 1
def uptoBulkAll {H : Type} : List (DataW H) → Nat
  | [] => 0
  | d :: r => uptoBulk d + uptoBulkAll r
def uptoBulkEntries {H : Type} : List (Lit × DataW H) → Nat
  | [] => 0
  | x :: r => uptoBulkEntry x + uptoBulkEntries r
def uptoBulkEntry {H : Type} : Lit × DataW H → Nat
  | (.string bytes, d) => bytes.length + uptoBulk d + 1
  | (_, d) => uptoBulk d + 1
 end
def uptoSmall : (H : Type) → List (DataW H) → Bool := fun _ ds => decide (uptoBulkAll ds ≤ 1048576)
def OpenSpec.upto (s : _root_.Go.ChangeSpec) : _root_.Go.OpenSpec := { _root_.Go.OpenSpec.ofChange s with cond := some uptoSmall }

/-- 'corporalaw07.VerticalParses', WHERE WHAT IT READS IS OF BULK AT MOST 1048576: true; the input reads as it did. -/
def verticalParsesUptoRow : OpenClaim := { program := "ytgkdaebiefhgdaagreatdoor", sum := "24f0edacebac53f819f68016b68f1ad813b8aae5cd5783a6032f7839e555198c", func := "corpora/corporalaw07.VerticalParses", spec := "verticalParses", inPlace := ["internal/bytealg.IndexByteString", "internal/bytealg.IndexString", "internal/bytealg.CountString"], unfollowed := true, recurses := true, named := ["internal/bytealg.MaxLen", "unicode/utf8.first", "unicode/utf8.acceptRanges"], apart := false, laid := [("unicode/utf8.acceptRanges", laid_unicode_utf8_acceptRanges), ("unicode/utf8.first", laid_unicode_utf8_first)], narrowed := true }
def VerticalParsesUptoSaid : Prop := verticalParsesUptoRow.holds Tryz.pinned (OpenSpec.upto verticalParsesSpec)

/-- 'corporalaw07.VerticalFormats', WHERE WHAT IT READS IS OF BULK AT MOST 1048576: true; the input reads as it did. -/
def verticalFormatsUptoRow : OpenClaim := { program := "ytgkdaebiefhgdaagreatdoor", sum := "24f0edacebac53f819f68016b68f1ad813b8aae5cd5783a6032f7839e555198c", func := "corpora/corporalaw07.VerticalFormats", spec := "verticalFormats", inPlace := ["internal/abi.NoEscape", "internal/bytealg.MakeNoZero", "internal/bytealg.IndexByteString", "internal/bytealg.IndexString", "internal/bytealg.CountString"], unfollowed := true, recurses := true, named := ["internal/bytealg.MaxLen", "unicode/utf8.first", "unicode/utf8.acceptRanges"], apart := false, laid := [("unicode/utf8.acceptRanges", laid_unicode_utf8_acceptRanges), ("unicode/utf8.first", laid_unicode_utf8_first)], narrowed := true }
def VerticalFormatsUptoSaid : Prop := verticalFormatsUptoRow.holds Tryz.pinned (OpenSpec.upto verticalFormatsSpec)

/-- 'corporalaw07.VerticalRoundTrips', WHERE WHAT IT READS IS OF BULK AT MOST 1048576: true; the input reads as it did. -/
def verticalRoundTripsUptoRow : OpenClaim := { program := "ytgkdaebiefhgdaagreatdoor", sum := "24f0edacebac53f819f68016b68f1ad813b8aae5cd5783a6032f7839e555198c", func := "corpora/corporalaw07.VerticalRoundTrips", spec := "verticalRoundTrips", inPlace := ["internal/abi.NoEscape", "internal/bytealg.MakeNoZero", "internal/bytealg.IndexByteString", "internal/bytealg.IndexString", "internal/bytealg.CountString"], unfollowed := true, recurses := true, named := ["internal/bytealg.MaxLen", "unicode/utf8.first", "unicode/utf8.acceptRanges"], apart := false, laid := [("unicode/utf8.acceptRanges", laid_unicode_utf8_acceptRanges), ("unicode/utf8.first", laid_unicode_utf8_first)], narrowed := true }
def VerticalRoundTripsUptoSaid : Prop := verticalRoundTripsUptoRow.holds Tryz.pinned (OpenSpec.upto verticalRoundTripsSpec)

/-- 'corporalaw07.VerticalCuts', WHERE WHAT IT READS IS OF BULK AT MOST 1048576: true; the input reads as it did. -/
def verticalCutsUptoRow : OpenClaim := { program := "ytgkdaebiefhgdaagreatdoor", sum := "24f0edacebac53f819f68016b68f1ad813b8aae5cd5783a6032f7839e555198c", func := "corpora/corporalaw07.VerticalCuts", spec := "verticalCuts", inPlace := ["internal/abi.NoEscape", "internal/bytealg.MakeNoZero", "internal/bytealg.IndexByteString", "internal/bytealg.IndexString", "internal/bytealg.CountString"], unfollowed := true, recurses := true, named := ["internal/bytealg.MaxLen", "unicode/utf8.first", "unicode/utf8.acceptRanges"], apart := false, laid := [("unicode/utf8.acceptRanges", laid_unicode_utf8_acceptRanges), ("unicode/utf8.first", laid_unicode_utf8_first)], narrowed := true }
def VerticalCutsUptoSaid : Prop := verticalCutsUptoRow.holds Tryz.pinned (OpenSpec.upto verticalCutsSpec)

/-- 'corporalaw07.VerticalSettles', WHERE WHAT IT READS IS OF BULK AT MOST 1048576: true; the input reads as it did. -/
def verticalSettlesUptoRow : OpenClaim := { program := "ytgkdaebiefhgdaagreatdoor", sum := "24f0edacebac53f819f68016b68f1ad813b8aae5cd5783a6032f7839e555198c", func := "corpora/corporalaw07.VerticalSettles", spec := "verticalSettles", inPlace := ["internal/bytealg.IndexByteString", "internal/bytealg.IndexString", "internal/bytealg.CountString", "internal/abi.NoEscape", "internal/bytealg.MakeNoZero"], unfollowed := true, recurses := true, named := ["internal/bytealg.MaxLen", "unicode/utf8.first", "unicode/utf8.acceptRanges"], apart := false, laid := [("unicode/utf8.acceptRanges", laid_unicode_utf8_acceptRanges), ("unicode/utf8.first", laid_unicode_utf8_first)], narrowed := true }
def VerticalSettlesUptoSaid : Prop := verticalSettlesUptoRow.holds Tryz.pinned (OpenSpec.upto verticalSettlesSpec)

/-- 'corporalaw07.VerticalJoins', WHERE WHAT IT READS IS OF BULK AT MOST 1048576: true; the input reads as it did. -/
def verticalJoinsUptoRow : OpenClaim := { program := "ytgkdaebiefhgdaagreatdoor", sum := "24f0edacebac53f819f68016b68f1ad813b8aae5cd5783a6032f7839e555198c", func := "corpora/corporalaw07.VerticalJoins", spec := "verticalJoins", inPlace := ["internal/abi.NoEscape", "internal/bytealg.MakeNoZero", "internal/bytealg.IndexByteString", "internal/bytealg.IndexString", "internal/bytealg.CountString"], unfollowed := true, recurses := true, named := ["internal/bytealg.MaxLen", "unicode/utf8.first", "unicode/utf8.acceptRanges"], apart := false, laid := [("unicode/utf8.acceptRanges", laid_unicode_utf8_acceptRanges), ("unicode/utf8.first", laid_unicode_utf8_first)], narrowed := true }
def VerticalJoinsUptoSaid : Prop := verticalJoinsUptoRow.holds Tryz.pinned (OpenSpec.upto verticalJoinsSpec)

end Rows
end Go.Proofs.YtgkdaebiefhgdaaGreatDoor
