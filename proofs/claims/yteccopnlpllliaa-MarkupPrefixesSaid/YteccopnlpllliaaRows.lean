/-
  No cell of these rows narrows 'for every input' (looked for: loops, veiled, ifaces, maps, wideKeys, modest, calm, conditions, laid).
  DERIVED. THE GIVEN ROWS OF THIS SEAT. 11 by the template 'for every input the law returns true; each argument reads behind the call as it read before'; 0 by the template 'total and deterministic' (their statements: YteccopnlpllliaaTotals.lean).
  GIVEN WITH THE SEED: the statements are not yours to turn. If you find one false, say at which input.
  Laid BY PROGRAM, IN A SANDBOX (cutbox-rows.mjs): the forced cells as the released guide's own fill.sh prints them over the translation 8182b5138b198380… (all of the seat's roots in one cut). By AI agents, Wed Nov 11 2026. No macro, syntax, notation, axiom, sorry.
-/
import Derived.Test.YteccopnlpllliaaChecked
import GoSem.Claim
import GoSem.ClaimJoined
import GoSem.ClaimMapViews
import Derived.JoinedTies
import Derived.KernelRfl
namespace Go.Proofs.Yteccopnlpllliaa
/- THE CELL 'sum', in the pinned program and in every row, IS THE sha256 OF THE DUMP (.gsa) THAT YteccopnlpllliaaProg.lean LOADS. Nothing in Lean hashes anything: it is a label: what it is worth is what the hold of that sum in a sandbox is worth. -/
noncomputable def Try.pinned : Pinned := { name := "yteccopnlpllliaa", sum := "8182b5138b198380555f98451fd7409be9646d4e951859b5a73e9898a577ab9d", checked := Try.checked }
namespace Rows
def none {H : Type} : Left H := { results := [], args := [] }

/-- 'corporalaw04.MarkupNames': WHATEVER THE INPUT: true; the input reads as it did. -/
def markupNamesSpec : ChangeSpec := { name := "markupNames", fn := fun _ => fun
  | [d] => { results := [.lit (.bool true)], args := [d] }
  | _ => none }
def markupNamesRow : OpenClaim := { program := "yteccopnlpllliaa", sum := "8182b5138b198380555f98451fd7409be9646d4e951859b5a73e9898a577ab9d", func := "corpora/corporalaw04.MarkupNames", spec := "markupNames", unfollowed := true, recurses := true, apart := false }
def MarkupNamesSaid : Prop := markupNamesRow.holds Try.pinned (OpenSpec.ofChange markupNamesSpec)

/-- ITS FALSE NEIGHBOUR: 'it returns false'. Refute it at one input. -/
def markupNamesWrong : ChangeSpec := { name := "markupNames", fn := fun _ => fun
  | [d] => { results := [.lit (.bool false)], args := [d] }
  | _ => none }
def MarkupNamesWrongFalsely : Prop := markupNamesRow.holds Try.pinned (OpenSpec.ofChange markupNamesWrong)

/-- 'corporalaw04.MarkupValues': WHATEVER THE INPUT: true; the input reads as it did. -/
def markupValuesSpec : ChangeSpec := { name := "markupValues", fn := fun _ => fun
  | [d] => { results := [.lit (.bool true)], args := [d] }
  | _ => none }
def markupValuesRow : OpenClaim := { program := "yteccopnlpllliaa", sum := "8182b5138b198380555f98451fd7409be9646d4e951859b5a73e9898a577ab9d", func := "corpora/corporalaw04.MarkupValues", spec := "markupValues", unfollowed := true, recurses := true, apart := false }
def MarkupValuesSaid : Prop := markupValuesRow.holds Try.pinned (OpenSpec.ofChange markupValuesSpec)

/-- ITS FALSE NEIGHBOUR: 'it returns false'. Refute it at one input. -/
def markupValuesWrong : ChangeSpec := { name := "markupValues", fn := fun _ => fun
  | [d] => { results := [.lit (.bool false)], args := [d] }
  | _ => none }
def MarkupValuesWrongFalsely : Prop := markupValuesRow.holds Try.pinned (OpenSpec.ofChange markupValuesWrong)

/-- 'corporalaw04.MarkupEscapes': WHATEVER THE INPUT: true; the input reads as it did. -/
def markupEscapesSpec : ChangeSpec := { name := "markupEscapes", fn := fun _ => fun
  | [d] => { results := [.lit (.bool true)], args := [d] }
  | _ => none }
def markupEscapesRow : OpenClaim := { program := "yteccopnlpllliaa", sum := "8182b5138b198380555f98451fd7409be9646d4e951859b5a73e9898a577ab9d", func := "corpora/corporalaw04.MarkupEscapes", spec := "markupEscapes", unfollowed := true, recurses := true, apart := false }
def MarkupEscapesSaid : Prop := markupEscapesRow.holds Try.pinned (OpenSpec.ofChange markupEscapesSpec)

/-- ITS FALSE NEIGHBOUR: 'it returns false'. Refute it at one input. -/
def markupEscapesWrong : ChangeSpec := { name := "markupEscapes", fn := fun _ => fun
  | [d] => { results := [.lit (.bool false)], args := [d] }
  | _ => none }
def MarkupEscapesWrongFalsely : Prop := markupEscapesRow.holds Try.pinned (OpenSpec.ofChange markupEscapesWrong)

/-- 'corporalaw04.MarkupUnescapes': WHATEVER THE INPUT: true; the input reads as it did. -/
def markupUnescapesSpec : ChangeSpec := { name := "markupUnescapes", fn := fun _ => fun
  | [d] => { results := [.lit (.bool true)], args := [d] }
  | _ => none }
def markupUnescapesRow : OpenClaim := { program := "yteccopnlpllliaa", sum := "8182b5138b198380555f98451fd7409be9646d4e951859b5a73e9898a577ab9d", func := "corpora/corporalaw04.MarkupUnescapes", spec := "markupUnescapes", unfollowed := true, recurses := true, apart := false }
def MarkupUnescapesSaid : Prop := markupUnescapesRow.holds Try.pinned (OpenSpec.ofChange markupUnescapesSpec)

/-- ITS FALSE NEIGHBOUR: 'it returns false'. Refute it at one input. -/
def markupUnescapesWrong : ChangeSpec := { name := "markupUnescapes", fn := fun _ => fun
  | [d] => { results := [.lit (.bool false)], args := [d] }
  | _ => none }
def MarkupUnescapesWrongFalsely : Prop := markupUnescapesRow.holds Try.pinned (OpenSpec.ofChange markupUnescapesWrong)

/-- 'corporalaw04.MarkupNumbers': WHATEVER THE INPUT: true; the input reads as it did. -/
def markupNumbersSpec : ChangeSpec := { name := "markupNumbers", fn := fun _ => fun
  | [d1, d2] => { results := [.lit (.bool true)], args := [d1, d2] }
  | _ => none }
def markupNumbersRow : OpenClaim := { program := "yteccopnlpllliaa", sum := "8182b5138b198380555f98451fd7409be9646d4e951859b5a73e9898a577ab9d", func := "corpora/corporalaw04.MarkupNumbers", spec := "markupNumbers", unfollowed := true, recurses := true, apart := false }
def MarkupNumbersSaid : Prop := markupNumbersRow.holds Try.pinned (OpenSpec.ofChange markupNumbersSpec)

/-- ITS FALSE NEIGHBOUR: 'it returns false'. Refute it at one input. -/
def markupNumbersWrong : ChangeSpec := { name := "markupNumbers", fn := fun _ => fun
  | [d1, d2] => { results := [.lit (.bool false)], args := [d1, d2] }
  | _ => none }
def MarkupNumbersWrongFalsely : Prop := markupNumbersRow.holds Try.pinned (OpenSpec.ofChange markupNumbersWrong)

/-- 'corporalaw04.MarkupBack': WHATEVER THE INPUT: true; the input reads as it did. -/
def markupBackSpec : ChangeSpec := { name := "markupBack", fn := fun _ => fun
  | [d1, d2] => { results := [.lit (.bool true)], args := [d1, d2] }
  | _ => none }
def markupBackRow : OpenClaim := { program := "yteccopnlpllliaa", sum := "8182b5138b198380555f98451fd7409be9646d4e951859b5a73e9898a577ab9d", func := "corpora/corporalaw04.MarkupBack", spec := "markupBack", unfollowed := true, recurses := true, apart := false }
def MarkupBackSaid : Prop := markupBackRow.holds Try.pinned (OpenSpec.ofChange markupBackSpec)

/-- ITS FALSE NEIGHBOUR: 'it returns false'. Refute it at one input. -/
def markupBackWrong : ChangeSpec := { name := "markupBack", fn := fun _ => fun
  | [d1, d2] => { results := [.lit (.bool false)], args := [d1, d2] }
  | _ => none }
def MarkupBackWrongFalsely : Prop := markupBackRow.holds Try.pinned (OpenSpec.ofChange markupBackWrong)

/-- 'corporalaw04.MarkupParses': WHATEVER THE INPUT: true; the input reads as it did. -/
def markupParsesSpec : ChangeSpec := { name := "markupParses", fn := fun _ => fun
  | [d] => { results := [.lit (.bool true)], args := [d] }
  | _ => none }
def markupParsesRow : OpenClaim := { program := "yteccopnlpllliaa", sum := "8182b5138b198380555f98451fd7409be9646d4e951859b5a73e9898a577ab9d", func := "corpora/corporalaw04.MarkupParses", spec := "markupParses", unfollowed := true, recurses := true, apart := false }
def MarkupParsesSaid : Prop := markupParsesRow.holds Try.pinned (OpenSpec.ofChange markupParsesSpec)

/-- ITS FALSE NEIGHBOUR: 'it returns false'. Refute it at one input. -/
def markupParsesWrong : ChangeSpec := { name := "markupParses", fn := fun _ => fun
  | [d] => { results := [.lit (.bool false)], args := [d] }
  | _ => none }
def MarkupParsesWrongFalsely : Prop := markupParsesRow.holds Try.pinned (OpenSpec.ofChange markupParsesWrong)

/-- 'corporalaw04.MarkupStays': WHATEVER THE INPUT: true; the input reads as it did. -/
def markupStaysSpec : ChangeSpec := { name := "markupStays", fn := fun _ => fun
  | [d1, d2] => { results := [.lit (.bool true)], args := [d1, d2] }
  | _ => none }
def markupStaysRow : OpenClaim := { program := "yteccopnlpllliaa", sum := "8182b5138b198380555f98451fd7409be9646d4e951859b5a73e9898a577ab9d", func := "corpora/corporalaw04.MarkupStays", spec := "markupStays", unfollowed := true, recurses := true, apart := false }
def MarkupStaysSaid : Prop := markupStaysRow.holds Try.pinned (OpenSpec.ofChange markupStaysSpec)

/-- ITS FALSE NEIGHBOUR: 'it returns false'. Refute it at one input. -/
def markupStaysWrong : ChangeSpec := { name := "markupStays", fn := fun _ => fun
  | [d1, d2] => { results := [.lit (.bool false)], args := [d1, d2] }
  | _ => none }
def MarkupStaysWrongFalsely : Prop := markupStaysRow.holds Try.pinned (OpenSpec.ofChange markupStaysWrong)

/-- 'corporalaw04.MarkupFormats': WHATEVER THE INPUT: true; the input reads as it did. -/
def markupFormatsSpec : ChangeSpec := { name := "markupFormats", fn := fun _ => fun
  | [d] => { results := [.lit (.bool true)], args := [d] }
  | _ => none }
def markupFormatsRow : OpenClaim := { program := "yteccopnlpllliaa", sum := "8182b5138b198380555f98451fd7409be9646d4e951859b5a73e9898a577ab9d", func := "corpora/corporalaw04.MarkupFormats", spec := "markupFormats", unfollowed := true, recurses := true, apart := false }
def MarkupFormatsSaid : Prop := markupFormatsRow.holds Try.pinned (OpenSpec.ofChange markupFormatsSpec)

/-- ITS FALSE NEIGHBOUR: 'it returns false'. Refute it at one input. -/
def markupFormatsWrong : ChangeSpec := { name := "markupFormats", fn := fun _ => fun
  | [d] => { results := [.lit (.bool false)], args := [d] }
  | _ => none }
def MarkupFormatsWrongFalsely : Prop := markupFormatsRow.holds Try.pinned (OpenSpec.ofChange markupFormatsWrong)

/-- 'corporalaw04.MarkupRoundTrips': WHATEVER THE INPUT: true; the input reads as it did. -/
def markupRoundTripsSpec : ChangeSpec := { name := "markupRoundTrips", fn := fun _ => fun
  | [d1, d2] => { results := [.lit (.bool true)], args := [d1, d2] }
  | _ => none }
def markupRoundTripsRow : OpenClaim := { program := "yteccopnlpllliaa", sum := "8182b5138b198380555f98451fd7409be9646d4e951859b5a73e9898a577ab9d", func := "corpora/corporalaw04.MarkupRoundTrips", spec := "markupRoundTrips", unfollowed := true, recurses := true, apart := false }
def MarkupRoundTripsSaid : Prop := markupRoundTripsRow.holds Try.pinned (OpenSpec.ofChange markupRoundTripsSpec)

/-- ITS FALSE NEIGHBOUR: 'it returns false'. Refute it at one input. -/
def markupRoundTripsWrong : ChangeSpec := { name := "markupRoundTrips", fn := fun _ => fun
  | [d1, d2] => { results := [.lit (.bool false)], args := [d1, d2] }
  | _ => none }
def MarkupRoundTripsWrongFalsely : Prop := markupRoundTripsRow.holds Try.pinned (OpenSpec.ofChange markupRoundTripsWrong)

/-- 'corporalaw04.MarkupPrefixes': WHATEVER THE INPUT: true; the input reads as it did. -/
def markupPrefixesSpec : ChangeSpec := { name := "markupPrefixes", fn := fun _ => fun
  | [d1, d2, d3] => { results := [.lit (.bool true)], args := [d1, d2, d3] }
  | _ => none }
def markupPrefixesRow : OpenClaim := { program := "yteccopnlpllliaa", sum := "8182b5138b198380555f98451fd7409be9646d4e951859b5a73e9898a577ab9d", func := "corpora/corporalaw04.MarkupPrefixes", spec := "markupPrefixes", unfollowed := true, recurses := true, apart := false }
def MarkupPrefixesSaid : Prop := markupPrefixesRow.holds Try.pinned (OpenSpec.ofChange markupPrefixesSpec)

/-- ITS FALSE NEIGHBOUR: 'it returns false'. Refute it at one input. -/
def markupPrefixesWrong : ChangeSpec := { name := "markupPrefixes", fn := fun _ => fun
  | [d1, d2, d3] => { results := [.lit (.bool false)], args := [d1, d2, d3] }
  | _ => none }
def MarkupPrefixesWrongFalsely : Prop := markupPrefixesRow.holds Try.pinned (OpenSpec.ofChange markupPrefixesWrong)

/- THE SECOND FORM. 'bulk': how many values and letters a reading holds, each counted each time it is reached (what is shared counts as often as it is met; a slice's spare places count too). A statement '..UptoSaid' is the law's where the arguments, and the package variables that the reading takes, are together of bulk at most 1048576: NARROWER than '..Said'. Prove '..Said' where nothing that the law and all that it calls make is longer than what came in: it says more and counts as full. Else prove '..UptoSaid'. A law counts once. -/
mutual
def uptoBulk {H : Type} : DataW H → Nat
  | .lit (.string bytes) => bytes.length + 1
  | .lit _ => 1
  | .nil => 1
  | .ptr d => uptoBulk d + 1
  | .slice elems spare => uptoBulkAll elems + uptoBulkAll spare + 1
  | .agg parts => uptoBulkAll parts + 1
  | .iface _ d => uptoBulk d + 1
  | .map entries => uptoBulkEntries entries + 1
  | .held _ => 1
def uptoBulkAll {H : Type} : List (DataW H) → Nat
  | [] => 0
  | d :: r => uptoBulk d + uptoBulkAll r
def uptoBulkEntries {H : Type} : List (Lit × DataW H) → Nat
  | [] => 0
  | x :: r => uptoBulkEntry x + uptoBulkEntries r
def uptoBulkEntry {H : Type} : Lit × DataW H → Nat
  | (.string bytes, d) => bytes.length + uptoBulk d + 1
  | (_, d) => uptoBulk d + 1
 end
def uptoSmall : (H : Type) → List (DataW H) → Bool := fun _ ds => decide (uptoBulkAll ds ≤ 1048576)
def OpenSpec.upto (s : _root_.Go.ChangeSpec) : _root_.Go.OpenSpec := { _root_.Go.OpenSpec.ofChange s with cond := some uptoSmall }

/-- 'corporalaw04.MarkupNames', WHERE WHAT IT READS IS OF BULK AT MOST 1048576: true; the input reads as it did. -/
def markupNamesUptoRow : OpenClaim := { program := "yteccopnlpllliaa", sum := "8182b5138b198380555f98451fd7409be9646d4e951859b5a73e9898a577ab9d", func := "corpora/corporalaw04.MarkupNames", spec := "markupNames", unfollowed := true, recurses := true, apart := false, narrowed := true }
def MarkupNamesUptoSaid : Prop := markupNamesUptoRow.holds Try.pinned (OpenSpec.upto markupNamesSpec)

/-- 'corporalaw04.MarkupValues', WHERE WHAT IT READS IS OF BULK AT MOST 1048576: true; the input reads as it did. -/
def markupValuesUptoRow : OpenClaim := { program := "yteccopnlpllliaa", sum := "8182b5138b198380555f98451fd7409be9646d4e951859b5a73e9898a577ab9d", func := "corpora/corporalaw04.MarkupValues", spec := "markupValues", unfollowed := true, recurses := true, apart := false, narrowed := true }
def MarkupValuesUptoSaid : Prop := markupValuesUptoRow.holds Try.pinned (OpenSpec.upto markupValuesSpec)

/-- 'corporalaw04.MarkupEscapes', WHERE WHAT IT READS IS OF BULK AT MOST 1048576: true; the input reads as it did. -/
def markupEscapesUptoRow : OpenClaim := { program := "yteccopnlpllliaa", sum := "8182b5138b198380555f98451fd7409be9646d4e951859b5a73e9898a577ab9d", func := "corpora/corporalaw04.MarkupEscapes", spec := "markupEscapes", unfollowed := true, recurses := true, apart := false, narrowed := true }
def MarkupEscapesUptoSaid : Prop := markupEscapesUptoRow.holds Try.pinned (OpenSpec.upto markupEscapesSpec)

/-- 'corporalaw04.MarkupUnescapes', WHERE WHAT IT READS IS OF BULK AT MOST 1048576: true; the input reads as it did. -/
def markupUnescapesUptoRow : OpenClaim := { program := "yteccopnlpllliaa", sum := "8182b5138b198380555f98451fd7409be9646d4e951859b5a73e9898a577ab9d", func := "corpora/corporalaw04.MarkupUnescapes", spec := "markupUnescapes", unfollowed := true, recurses := true, apart := false, narrowed := true }
def MarkupUnescapesUptoSaid : Prop := markupUnescapesUptoRow.holds Try.pinned (OpenSpec.upto markupUnescapesSpec)

/-- 'corporalaw04.MarkupNumbers', WHERE WHAT IT READS IS OF BULK AT MOST 1048576: true; the input reads as it did. -/
def markupNumbersUptoRow : OpenClaim := { program := "yteccopnlpllliaa", sum := "8182b5138b198380555f98451fd7409be9646d4e951859b5a73e9898a577ab9d", func := "corpora/corporalaw04.MarkupNumbers", spec := "markupNumbers", unfollowed := true, recurses := true, apart := false, narrowed := true }
def MarkupNumbersUptoSaid : Prop := markupNumbersUptoRow.holds Try.pinned (OpenSpec.upto markupNumbersSpec)

/-- 'corporalaw04.MarkupBack', WHERE WHAT IT READS IS OF BULK AT MOST 1048576: true; the input reads as it did. -/
def markupBackUptoRow : OpenClaim := { program := "yteccopnlpllliaa", sum := "8182b5138b198380555f98451fd7409be9646d4e951859b5a73e9898a577ab9d", func := "corpora/corporalaw04.MarkupBack", spec := "markupBack", unfollowed := true, recurses := true, apart := false, narrowed := true }
def MarkupBackUptoSaid : Prop := markupBackUptoRow.holds Try.pinned (OpenSpec.upto markupBackSpec)

/-- 'corporalaw04.MarkupParses', WHERE WHAT IT READS IS OF BULK AT MOST 1048576: true; the input reads as it did. -/
def markupParsesUptoRow : OpenClaim := { program := "yteccopnlpllliaa", sum := "8182b5138b198380555f98451fd7409be9646d4e951859b5a73e9898a577ab9d", func := "corpora/corporalaw04.MarkupParses", spec := "markupParses", unfollowed := true, recurses := true, apart := false, narrowed := true }
def MarkupParsesUptoSaid : Prop := markupParsesUptoRow.holds Try.pinned (OpenSpec.upto markupParsesSpec)

/-- 'corporalaw04.MarkupStays', WHERE WHAT IT READS IS OF BULK AT MOST 1048576: true; the input reads as it did. -/
def markupStaysUptoRow : OpenClaim := { program := "yteccopnlpllliaa", sum := "8182b5138b198380555f98451fd7409be9646d4e951859b5a73e9898a577ab9d", func := "corpora/corporalaw04.MarkupStays", spec := "markupStays", unfollowed := true, recurses := true, apart := false, narrowed := true }
def MarkupStaysUptoSaid : Prop := markupStaysUptoRow.holds Try.pinned (OpenSpec.upto markupStaysSpec)

/-- 'corporalaw04.MarkupFormats', WHERE WHAT IT READS IS OF BULK AT MOST 1048576: true; the input reads as it did. -/
def markupFormatsUptoRow : OpenClaim := { program := "yteccopnlpllliaa", sum := "8182b5138b198380555f98451fd7409be9646d4e951859b5a73e9898a577ab9d", func := "corpora/corporalaw04.MarkupFormats", spec := "markupFormats", unfollowed := true, recurses := true, apart := false, narrowed := true }
def MarkupFormatsUptoSaid : Prop := markupFormatsUptoRow.holds Try.pinned (OpenSpec.upto markupFormatsSpec)

/-- 'corporalaw04.MarkupRoundTrips', WHERE WHAT IT READS IS OF BULK AT MOST 1048576: true; the input reads as it did. -/
def markupRoundTripsUptoRow : OpenClaim := { program := "yteccopnlpllliaa", sum := "8182b5138b198380555f98451fd7409be9646d4e951859b5a73e9898a577ab9d", func := "corpora/corporalaw04.MarkupRoundTrips", spec := "markupRoundTrips", unfollowed := true, recurses := true, apart := false, narrowed := true }
def MarkupRoundTripsUptoSaid : Prop := markupRoundTripsUptoRow.holds Try.pinned (OpenSpec.upto markupRoundTripsSpec)

/-- 'corporalaw04.MarkupPrefixes', WHERE WHAT IT READS IS OF BULK AT MOST 1048576: true; the input reads as it did. -/
def markupPrefixesUptoRow : OpenClaim := { program := "yteccopnlpllliaa", sum := "8182b5138b198380555f98451fd7409be9646d4e951859b5a73e9898a577ab9d", func := "corpora/corporalaw04.MarkupPrefixes", spec := "markupPrefixes", unfollowed := true, recurses := true, apart := false, narrowed := true }
def MarkupPrefixesUptoSaid : Prop := markupPrefixesUptoRow.holds Try.pinned (OpenSpec.upto markupPrefixesSpec)

end Rows
end Go.Proofs.Yteccopnlpllliaa
