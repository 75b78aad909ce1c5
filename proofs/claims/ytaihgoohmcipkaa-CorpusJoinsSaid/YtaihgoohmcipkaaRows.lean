/-
  No cell of these rows narrows 'for every input' (looked for: loops, veiled, ifaces, maps, wideKeys, modest, calm, conditions, laid).
  DERIVED. THE GIVEN ROWS OF THIS SEAT. 11 by the template 'for every input the law returns true; each argument reads behind the call as it read before'; 0 by the template 'total and deterministic' (their statements: YtaihgoohmcipkaaTotals.lean).
  GIVEN WITH THE SEED: the statements are not yours to turn. If you find one false, say at which input.
  Laid BY PROGRAM, IN A SANDBOX (cutbox-rows.mjs): the forced cells as the released guide's own fill.sh prints them over the translation 008d389b4eb4b9c0… (all of the seat's roots in one cut). By AI agents, Wed Nov 11 2026. No macro, syntax, notation, axiom, sorry.
-/
import Derived.Test.YtaihgoohmcipkaaChecked
import GoSem.Claim
import GoSem.ClaimJoined
import GoSem.ClaimMapViews
import Derived.JoinedTies
import Derived.KernelRfl
namespace Go.Proofs.Ytaihgoohmcipkaa
/- THE CELL 'sum', in the pinned program and in every row, IS THE sha256 OF THE DUMP (.gsa) THAT YtaihgoohmcipkaaProg.lean LOADS. Nothing in Lean hashes anything: it is a label: what it is worth is what the hold of that sum in a sandbox is worth. -/
noncomputable def Try.pinned : Pinned := { name := "ytaihgoohmcipkaa", sum := "008d389b4eb4b9c01fc6677d018615b5e699fd784f806074ea8fb2db9c8da087", checked := Try.checked }
namespace Rows
def none {H : Type} : Left H := { results := [], args := [] }

/-- 'corporalaw06.CorpusValidates': WHATEVER THE INPUT: true; the input reads as it did. -/
def corpusValidatesSpec : ChangeSpec := { name := "corpusValidates", fn := fun _ => fun
  | [d] => { results := [.lit (.bool true)], args := [d] }
  | _ => none }
def corpusValidatesRow : OpenClaim := { program := "ytaihgoohmcipkaa", sum := "008d389b4eb4b9c01fc6677d018615b5e699fd784f806074ea8fb2db9c8da087", func := "corpora/corporalaw06.CorpusValidates", spec := "corpusValidates", unfollowed := true, recurses := true, apart := false }
def CorpusValidatesSaid : Prop := corpusValidatesRow.holds Try.pinned (OpenSpec.ofChange corpusValidatesSpec)

/-- ITS FALSE NEIGHBOUR: 'it returns false'. Refute it at one input. -/
def corpusValidatesWrong : ChangeSpec := { name := "corpusValidates", fn := fun _ => fun
  | [d] => { results := [.lit (.bool false)], args := [d] }
  | _ => none }
def CorpusValidatesWrongFalsely : Prop := corpusValidatesRow.holds Try.pinned (OpenSpec.ofChange corpusValidatesWrong)

/-- 'corporalaw06.CorpusCompares': WHATEVER THE INPUT: true; the input reads as it did. -/
def corpusComparesSpec : ChangeSpec := { name := "corpusCompares", fn := fun _ => fun
  | [d1, d2] => { results := [.lit (.bool true)], args := [d1, d2] }
  | _ => none }
def corpusComparesRow : OpenClaim := { program := "ytaihgoohmcipkaa", sum := "008d389b4eb4b9c01fc6677d018615b5e699fd784f806074ea8fb2db9c8da087", func := "corpora/corporalaw06.CorpusCompares", spec := "corpusCompares", unfollowed := true, recurses := true, apart := false }
def CorpusComparesSaid : Prop := corpusComparesRow.holds Try.pinned (OpenSpec.ofChange corpusComparesSpec)

/-- ITS FALSE NEIGHBOUR: 'it returns false'. Refute it at one input. -/
def corpusComparesWrong : ChangeSpec := { name := "corpusCompares", fn := fun _ => fun
  | [d1, d2] => { results := [.lit (.bool false)], args := [d1, d2] }
  | _ => none }
def CorpusComparesWrongFalsely : Prop := corpusComparesRow.holds Try.pinned (OpenSpec.ofChange corpusComparesWrong)

/-- 'corporalaw06.CorpusOrders': WHATEVER THE INPUT: true; the input reads as it did. -/
def corpusOrdersSpec : ChangeSpec := { name := "corpusOrders", fn := fun _ => fun
  | [d1, d2, d3] => { results := [.lit (.bool true)], args := [d1, d2, d3] }
  | _ => none }
def corpusOrdersRow : OpenClaim := { program := "ytaihgoohmcipkaa", sum := "008d389b4eb4b9c01fc6677d018615b5e699fd784f806074ea8fb2db9c8da087", func := "corpora/corporalaw06.CorpusOrders", spec := "corpusOrders", unfollowed := true, recurses := true, apart := false }
def CorpusOrdersSaid : Prop := corpusOrdersRow.holds Try.pinned (OpenSpec.ofChange corpusOrdersSpec)

/-- ITS FALSE NEIGHBOUR: 'it returns false'. Refute it at one input. -/
def corpusOrdersWrong : ChangeSpec := { name := "corpusOrders", fn := fun _ => fun
  | [d1, d2, d3] => { results := [.lit (.bool false)], args := [d1, d2, d3] }
  | _ => none }
def CorpusOrdersWrongFalsely : Prop := corpusOrdersRow.holds Try.pinned (OpenSpec.ofChange corpusOrdersWrong)

/-- 'corporalaw06.CorpusExtracts': WHATEVER THE INPUT: true; the input reads as it did. -/
def corpusExtractsSpec : ChangeSpec := { name := "corpusExtracts", fn := fun _ => fun
  | [d1, d2] => { results := [.lit (.bool true)], args := [d1, d2] }
  | _ => none }
def corpusExtractsRow : OpenClaim := { program := "ytaihgoohmcipkaa", sum := "008d389b4eb4b9c01fc6677d018615b5e699fd784f806074ea8fb2db9c8da087", func := "corpora/corporalaw06.CorpusExtracts", spec := "corpusExtracts", unfollowed := true, recurses := true, apart := false }
def CorpusExtractsSaid : Prop := corpusExtractsRow.holds Try.pinned (OpenSpec.ofChange corpusExtractsSpec)

/-- ITS FALSE NEIGHBOUR: 'it returns false'. Refute it at one input. -/
def corpusExtractsWrong : ChangeSpec := { name := "corpusExtracts", fn := fun _ => fun
  | [d1, d2] => { results := [.lit (.bool false)], args := [d1, d2] }
  | _ => none }
def CorpusExtractsWrongFalsely : Prop := corpusExtractsRow.holds Try.pinned (OpenSpec.ofChange corpusExtractsWrong)

/-- 'corporalaw06.CorpusFinds': WHATEVER THE INPUT: true; the input reads as it did. -/
def corpusFindsSpec : ChangeSpec := { name := "corpusFinds", fn := fun _ => fun
  | [d1, d2, d3] => { results := [.lit (.bool true)], args := [d1, d2, d3] }
  | _ => none }
def corpusFindsRow : OpenClaim := { program := "ytaihgoohmcipkaa", sum := "008d389b4eb4b9c01fc6677d018615b5e699fd784f806074ea8fb2db9c8da087", func := "corpora/corporalaw06.CorpusFinds", spec := "corpusFinds", unfollowed := true, recurses := true, apart := false }
def CorpusFindsSaid : Prop := corpusFindsRow.holds Try.pinned (OpenSpec.ofChange corpusFindsSpec)

/-- ITS FALSE NEIGHBOUR: 'it returns false'. Refute it at one input. -/
def corpusFindsWrong : ChangeSpec := { name := "corpusFinds", fn := fun _ => fun
  | [d1, d2, d3] => { results := [.lit (.bool false)], args := [d1, d2, d3] }
  | _ => none }
def CorpusFindsWrongFalsely : Prop := corpusFindsRow.holds Try.pinned (OpenSpec.ofChange corpusFindsWrong)

/-- 'corporalaw06.CorpusSorts': WHATEVER THE INPUT: true; the input reads as it did. -/
def corpusSortsSpec : ChangeSpec := { name := "corpusSorts", fn := fun _ => fun
  | [d] => { results := [.lit (.bool true)], args := [d] }
  | _ => none }
def corpusSortsRow : OpenClaim := { program := "ytaihgoohmcipkaa", sum := "008d389b4eb4b9c01fc6677d018615b5e699fd784f806074ea8fb2db9c8da087", func := "corpora/corporalaw06.CorpusSorts", spec := "corpusSorts", unfollowed := true, recurses := true, apart := false }
def CorpusSortsSaid : Prop := corpusSortsRow.holds Try.pinned (OpenSpec.ofChange corpusSortsSpec)

/-- ITS FALSE NEIGHBOUR: 'it returns false'. Refute it at one input. -/
def corpusSortsWrong : ChangeSpec := { name := "corpusSorts", fn := fun _ => fun
  | [d] => { results := [.lit (.bool false)], args := [d] }
  | _ => none }
def CorpusSortsWrongFalsely : Prop := corpusSortsRow.holds Try.pinned (OpenSpec.ofChange corpusSortsWrong)

/-- 'corporalaw06.CorpusEquals': WHATEVER THE INPUT: true; the input reads as it did. -/
def corpusEqualsSpec : ChangeSpec := { name := "corpusEquals", fn := fun _ => fun
  | [d1, d2] => { results := [.lit (.bool true)], args := [d1, d2] }
  | _ => none }
def corpusEqualsRow : OpenClaim := { program := "ytaihgoohmcipkaa", sum := "008d389b4eb4b9c01fc6677d018615b5e699fd784f806074ea8fb2db9c8da087", func := "corpora/corporalaw06.CorpusEquals", spec := "corpusEquals", unfollowed := true, recurses := true, apart := false }
def CorpusEqualsSaid : Prop := corpusEqualsRow.holds Try.pinned (OpenSpec.ofChange corpusEqualsSpec)

/-- ITS FALSE NEIGHBOUR: 'it returns false'. Refute it at one input. -/
def corpusEqualsWrong : ChangeSpec := { name := "corpusEquals", fn := fun _ => fun
  | [d1, d2] => { results := [.lit (.bool false)], args := [d1, d2] }
  | _ => none }
def CorpusEqualsWrongFalsely : Prop := corpusEqualsRow.holds Try.pinned (OpenSpec.ofChange corpusEqualsWrong)

/-- 'corporalaw06.CorpusJoins': WHATEVER THE INPUT: true; the input reads as it did. -/
def corpusJoinsSpec : ChangeSpec := { name := "corpusJoins", fn := fun _ => fun
  | [d1, d2] => { results := [.lit (.bool true)], args := [d1, d2] }
  | _ => none }
def corpusJoinsRow : OpenClaim := { program := "ytaihgoohmcipkaa", sum := "008d389b4eb4b9c01fc6677d018615b5e699fd784f806074ea8fb2db9c8da087", func := "corpora/corporalaw06.CorpusJoins", spec := "corpusJoins", unfollowed := true, recurses := true, apart := false }
def CorpusJoinsSaid : Prop := corpusJoinsRow.holds Try.pinned (OpenSpec.ofChange corpusJoinsSpec)

/-- ITS FALSE NEIGHBOUR: 'it returns false'. Refute it at one input. -/
def corpusJoinsWrong : ChangeSpec := { name := "corpusJoins", fn := fun _ => fun
  | [d1, d2] => { results := [.lit (.bool false)], args := [d1, d2] }
  | _ => none }
def CorpusJoinsWrongFalsely : Prop := corpusJoinsRow.holds Try.pinned (OpenSpec.ofChange corpusJoinsWrong)

/-- 'corporalaw06.CorpusAssociates': WHATEVER THE INPUT: true; the input reads as it did. -/
def corpusAssociatesSpec : ChangeSpec := { name := "corpusAssociates", fn := fun _ => fun
  | [d1, d2, d3] => { results := [.lit (.bool true)], args := [d1, d2, d3] }
  | _ => none }
def corpusAssociatesRow : OpenClaim := { program := "ytaihgoohmcipkaa", sum := "008d389b4eb4b9c01fc6677d018615b5e699fd784f806074ea8fb2db9c8da087", func := "corpora/corporalaw06.CorpusAssociates", spec := "corpusAssociates", unfollowed := true, recurses := true, apart := false }
def CorpusAssociatesSaid : Prop := corpusAssociatesRow.holds Try.pinned (OpenSpec.ofChange corpusAssociatesSpec)

/-- ITS FALSE NEIGHBOUR: 'it returns false'. Refute it at one input. -/
def corpusAssociatesWrong : ChangeSpec := { name := "corpusAssociates", fn := fun _ => fun
  | [d1, d2, d3] => { results := [.lit (.bool false)], args := [d1, d2, d3] }
  | _ => none }
def CorpusAssociatesWrongFalsely : Prop := corpusAssociatesRow.holds Try.pinned (OpenSpec.ofChange corpusAssociatesWrong)

/-- 'corporalaw06.CorpusKeeps': WHATEVER THE INPUT: true; the input reads as it did. -/
def corpusKeepsSpec : ChangeSpec := { name := "corpusKeeps", fn := fun _ => fun
  | [d1, d2] => { results := [.lit (.bool true)], args := [d1, d2] }
  | _ => none }
def corpusKeepsRow : OpenClaim := { program := "ytaihgoohmcipkaa", sum := "008d389b4eb4b9c01fc6677d018615b5e699fd784f806074ea8fb2db9c8da087", func := "corpora/corporalaw06.CorpusKeeps", spec := "corpusKeeps", unfollowed := true, recurses := true, apart := false }
def CorpusKeepsSaid : Prop := corpusKeepsRow.holds Try.pinned (OpenSpec.ofChange corpusKeepsSpec)

/-- ITS FALSE NEIGHBOUR: 'it returns false'. Refute it at one input. -/
def corpusKeepsWrong : ChangeSpec := { name := "corpusKeeps", fn := fun _ => fun
  | [d1, d2] => { results := [.lit (.bool false)], args := [d1, d2] }
  | _ => none }
def CorpusKeepsWrongFalsely : Prop := corpusKeepsRow.holds Try.pinned (OpenSpec.ofChange corpusKeepsWrong)

/-- 'corporalaw06.CorpusDivides': WHATEVER THE INPUT: true; the input reads as it did. -/
def corpusDividesSpec : ChangeSpec := { name := "corpusDivides", fn := fun _ => fun
  | [d] => { results := [.lit (.bool true)], args := [d] }
  | _ => none }
def corpusDividesRow : OpenClaim := { program := "ytaihgoohmcipkaa", sum := "008d389b4eb4b9c01fc6677d018615b5e699fd784f806074ea8fb2db9c8da087", func := "corpora/corporalaw06.CorpusDivides", spec := "corpusDivides", unfollowed := true, recurses := true, apart := false }
def CorpusDividesSaid : Prop := corpusDividesRow.holds Try.pinned (OpenSpec.ofChange corpusDividesSpec)

/-- ITS FALSE NEIGHBOUR: 'it returns false'. Refute it at one input. -/
def corpusDividesWrong : ChangeSpec := { name := "corpusDivides", fn := fun _ => fun
  | [d] => { results := [.lit (.bool false)], args := [d] }
  | _ => none }
def CorpusDividesWrongFalsely : Prop := corpusDividesRow.holds Try.pinned (OpenSpec.ofChange corpusDividesWrong)

/- THE SECOND FORM. 'bulk': how many values and letters a reading holds, each counted each time it is reached (what is shared counts as often as it is met; a slice's spare places count too). A statement '..UptoSaid' is the law's where the arguments, and the package variables that the reading takes, are together of bulk at most 1048576: NARROWER than '..Said'. Prove '..Said' where nothing that the law and all that it calls make is longer than what came in: it says more and counts as full. Else prove '..UptoSaid'. A law counts once. -/
mutual
def uptoBulk {H : Type} : DataW H → Nat
  | .lit (.string bytes) => bytes.length + 1
  | .lit _ => 1
  | .nil => 1
  | .ptr d => uptoBulk d + 1
  | .slice elems spare => uptoBulkAll elems + uptoBulkAll spare + 1
  | .agg parts => uptoBulkAll parts + 1
  | .iface _ d => uptoBulk d + 1
  | .map entries => uptoBulkEntries entries + 1
  | .held _ => 1
def uptoBulkAll {H : Type} : List (DataW H) → Nat
  | [] => 0
  | d :: r => uptoBulk d + uptoBulkAll r
def uptoBulkEntries {H : Type} : List (Lit × DataW H) → Nat
  | [] => 0
  | x :: r => uptoBulkEntry x + uptoBulkEntries r
def uptoBulkEntry {H : Type} : Lit × DataW H → Nat
  | (.string bytes, d) => bytes.length + uptoBulk d + 1
  | (_, d) => uptoBulk d + 1
 end
def uptoSmall : (H : Type) → List (DataW H) → Bool := fun _ ds => decide (uptoBulkAll ds ≤ 1048576)
def OpenSpec.upto (s : _root_.Go.ChangeSpec) : _root_.Go.OpenSpec := { _root_.Go.OpenSpec.ofChange s with cond := some uptoSmall }

/-- 'corporalaw06.CorpusValidates', WHERE WHAT IT READS IS OF BULK AT MOST 1048576: true; the input reads as it did. -/
def corpusValidatesUptoRow : OpenClaim := { program := "ytaihgoohmcipkaa", sum := "008d389b4eb4b9c01fc6677d018615b5e699fd784f806074ea8fb2db9c8da087", func := "corpora/corporalaw06.CorpusValidates", spec := "corpusValidates", unfollowed := true, recurses := true, apart := false, narrowed := true }
def CorpusValidatesUptoSaid : Prop := corpusValidatesUptoRow.holds Try.pinned (OpenSpec.upto corpusValidatesSpec)

/-- 'corporalaw06.CorpusCompares', WHERE WHAT IT READS IS OF BULK AT MOST 1048576: true; the input reads as it did. -/
def corpusComparesUptoRow : OpenClaim := { program := "ytaihgoohmcipkaa", sum := "008d389b4eb4b9c01fc6677d018615b5e699fd784f806074ea8fb2db9c8da087", func := "corpora/corporalaw06.CorpusCompares", spec := "corpusCompares", unfollowed := true, recurses := true, apart := false, narrowed := true }
def CorpusComparesUptoSaid : Prop := corpusComparesUptoRow.holds Try.pinned (OpenSpec.upto corpusComparesSpec)

/-- 'corporalaw06.CorpusOrders', WHERE WHAT IT READS IS OF BULK AT MOST 1048576: true; the input reads as it did. -/
def corpusOrdersUptoRow : OpenClaim := { program := "ytaihgoohmcipkaa", sum := "008d389b4eb4b9c01fc6677d018615b5e699fd784f806074ea8fb2db9c8da087", func := "corpora/corporalaw06.CorpusOrders", spec := "corpusOrders", unfollowed := true, recurses := true, apart := false, narrowed := true }
def CorpusOrdersUptoSaid : Prop := corpusOrdersUptoRow.holds Try.pinned (OpenSpec.upto corpusOrdersSpec)

/-- 'corporalaw06.CorpusExtracts', WHERE WHAT IT READS IS OF BULK AT MOST 1048576: true; the input reads as it did. -/
def corpusExtractsUptoRow : OpenClaim := { program := "ytaihgoohmcipkaa", sum := "008d389b4eb4b9c01fc6677d018615b5e699fd784f806074ea8fb2db9c8da087", func := "corpora/corporalaw06.CorpusExtracts", spec := "corpusExtracts", unfollowed := true, recurses := true, apart := false, narrowed := true }
def CorpusExtractsUptoSaid : Prop := corpusExtractsUptoRow.holds Try.pinned (OpenSpec.upto corpusExtractsSpec)

/-- 'corporalaw06.CorpusFinds', WHERE WHAT IT READS IS OF BULK AT MOST 1048576: true; the input reads as it did. -/
def corpusFindsUptoRow : OpenClaim := { program := "ytaihgoohmcipkaa", sum := "008d389b4eb4b9c01fc6677d018615b5e699fd784f806074ea8fb2db9c8da087", func := "corpora/corporalaw06.CorpusFinds", spec := "corpusFinds", unfollowed := true, recurses := true, apart := false, narrowed := true }
def CorpusFindsUptoSaid : Prop := corpusFindsUptoRow.holds Try.pinned (OpenSpec.upto corpusFindsSpec)

/-- 'corporalaw06.CorpusSorts', WHERE WHAT IT READS IS OF BULK AT MOST 1048576: true; the input reads as it did. -/
def corpusSortsUptoRow : OpenClaim := { program := "ytaihgoohmcipkaa", sum := "008d389b4eb4b9c01fc6677d018615b5e699fd784f806074ea8fb2db9c8da087", func := "corpora/corporalaw06.CorpusSorts", spec := "corpusSorts", unfollowed := true, recurses := true, apart := false, narrowed := true }
def CorpusSortsUptoSaid : Prop := corpusSortsUptoRow.holds Try.pinned (OpenSpec.upto corpusSortsSpec)

/-- 'corporalaw06.CorpusEquals', WHERE WHAT IT READS IS OF BULK AT MOST 1048576: true; the input reads as it did. -/
def corpusEqualsUptoRow : OpenClaim := { program := "ytaihgoohmcipkaa", sum := "008d389b4eb4b9c01fc6677d018615b5e699fd784f806074ea8fb2db9c8da087", func := "corpora/corporalaw06.CorpusEquals", spec := "corpusEquals", unfollowed := true, recurses := true, apart := false, narrowed := true }
def CorpusEqualsUptoSaid : Prop := corpusEqualsUptoRow.holds Try.pinned (OpenSpec.upto corpusEqualsSpec)

/-- 'corporalaw06.CorpusJoins', WHERE WHAT IT READS IS OF BULK AT MOST 1048576: true; the input reads as it did. -/
def corpusJoinsUptoRow : OpenClaim := { program := "ytaihgoohmcipkaa", sum := "008d389b4eb4b9c01fc6677d018615b5e699fd784f806074ea8fb2db9c8da087", func := "corpora/corporalaw06.CorpusJoins", spec := "corpusJoins", unfollowed := true, recurses := true, apart := false, narrowed := true }
def CorpusJoinsUptoSaid : Prop := corpusJoinsUptoRow.holds Try.pinned (OpenSpec.upto corpusJoinsSpec)

/-- 'corporalaw06.CorpusAssociates', WHERE WHAT IT READS IS OF BULK AT MOST 1048576: true; the input reads as it did. -/
def corpusAssociatesUptoRow : OpenClaim := { program := "ytaihgoohmcipkaa", sum := "008d389b4eb4b9c01fc6677d018615b5e699fd784f806074ea8fb2db9c8da087", func := "corpora/corporalaw06.CorpusAssociates", spec := "corpusAssociates", unfollowed := true, recurses := true, apart := false, narrowed := true }
def CorpusAssociatesUptoSaid : Prop := corpusAssociatesUptoRow.holds Try.pinned (OpenSpec.upto corpusAssociatesSpec)

/-- 'corporalaw06.CorpusKeeps', WHERE WHAT IT READS IS OF BULK AT MOST 1048576: true; the input reads as it did. -/
def corpusKeepsUptoRow : OpenClaim := { program := "ytaihgoohmcipkaa", sum := "008d389b4eb4b9c01fc6677d018615b5e699fd784f806074ea8fb2db9c8da087", func := "corpora/corporalaw06.CorpusKeeps", spec := "corpusKeeps", unfollowed := true, recurses := true, apart := false, narrowed := true }
def CorpusKeepsUptoSaid : Prop := corpusKeepsUptoRow.holds Try.pinned (OpenSpec.upto corpusKeepsSpec)

/-- 'corporalaw06.CorpusDivides', WHERE WHAT IT READS IS OF BULK AT MOST 1048576: true; the input reads as it did. -/
def corpusDividesUptoRow : OpenClaim := { program := "ytaihgoohmcipkaa", sum := "008d389b4eb4b9c01fc6677d018615b5e699fd784f806074ea8fb2db9c8da087", func := "corpora/corporalaw06.CorpusDivides", spec := "corpusDivides", unfollowed := true, recurses := true, apart := false, narrowed := true }
def CorpusDividesUptoSaid : Prop := corpusDividesUptoRow.holds Try.pinned (OpenSpec.upto corpusDividesSpec)

end Rows
end Go.Proofs.Ytaihgoohmcipkaa
