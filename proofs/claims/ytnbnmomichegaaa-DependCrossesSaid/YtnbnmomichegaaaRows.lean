/-
  No cell of these rows narrows 'for every input' (looked for: loops, veiled, ifaces, maps, wideKeys, modest, calm, conditions, laid).
  DERIVED. THE GIVEN ROWS OF THIS SEAT. 8 by the template 'for every input the law returns true; each argument reads behind the call as it read before'; 0 by the template 'total and deterministic' (their statements: YtnbnmomichegaaaTotals.lean).
  GIVEN WITH THE SEED: the statements are not yours to turn. If you find one false, say at which input.
  Laid BY PROGRAM, IN A SANDBOX (cutbox-rows.mjs): the forced cells as the released guide's own fill.sh prints them over the translation b84511fcea394953… (all of the seat's roots in one cut). By AI agents, Wed Nov 11 2026. No macro, syntax, notation, axiom, sorry.
-/
import Derived.Test.YtnbnmomichegaaaChecked
import GoSem.Claim
import GoSem.ClaimJoined
import GoSem.ClaimMapViews
import Derived.JoinedTies
import Derived.KernelRfl
namespace Go.Proofs.Ytnbnmomichegaaa
/- THE CELL 'sum', in the pinned program and in every row, IS THE sha256 OF THE DUMP (.gsa) THAT YtnbnmomichegaaaProg.lean LOADS. Nothing in Lean hashes anything: it is a label: what it is worth is what the hold of that sum in a sandbox is worth. -/
noncomputable def Try.pinned : Pinned := { name := "ytnbnmomichegaaa", sum := "b84511fcea394953dc059e3c70c2837fc2ef0dad38b979121b0690fbbac40e20", checked := Try.checked }
namespace Rows
def none {H : Type} : Left H := { results := [], args := [] }

/-- 'corporalaw09.DependChecks': WHATEVER THE INPUT: true; the input reads as it did. -/
def dependChecksSpec : ChangeSpec := { name := "dependChecks", fn := fun _ => fun
  | [d] => { results := [.lit (.bool true)], args := [d] }
  | _ => none }
def dependChecksRow : OpenClaim := { program := "ytnbnmomichegaaa", sum := "b84511fcea394953dc059e3c70c2837fc2ef0dad38b979121b0690fbbac40e20", func := "corpora/corporalaw09.DependChecks", spec := "dependChecks", inPlace := ["internal/bytealg.IndexByteString", "internal/bytealg.IndexString"], named := ["internal/bytealg.MaxLen"], apart := false }
def DependChecksSaid : Prop := dependChecksRow.holds Try.pinned (OpenSpec.ofChange dependChecksSpec)

/-- ITS FALSE NEIGHBOUR: 'it returns false'. Refute it at one input. -/
def dependChecksWrong : ChangeSpec := { name := "dependChecks", fn := fun _ => fun
  | [d] => { results := [.lit (.bool false)], args := [d] }
  | _ => none }
def DependChecksWrongFalsely : Prop := dependChecksRow.holds Try.pinned (OpenSpec.ofChange dependChecksWrong)

/-- 'corporalaw09.DependDepths': WHATEVER THE INPUT: true; the input reads as it did. -/
def dependDepthsSpec : ChangeSpec := { name := "dependDepths", fn := fun _ => fun
  | [d1, d2] => { results := [.lit (.bool true)], args := [d1, d2] }
  | _ => none }
def dependDepthsRow : OpenClaim := { program := "ytnbnmomichegaaa", sum := "b84511fcea394953dc059e3c70c2837fc2ef0dad38b979121b0690fbbac40e20", func := "corpora/corporalaw09.DependDepths", spec := "dependDepths", inPlace := ["internal/bytealg.IndexByteString", "internal/bytealg.IndexString"], named := ["internal/bytealg.MaxLen"], apart := false }
def DependDepthsSaid : Prop := dependDepthsRow.holds Try.pinned (OpenSpec.ofChange dependDepthsSpec)

/-- ITS FALSE NEIGHBOUR: 'it returns false'. Refute it at one input. -/
def dependDepthsWrong : ChangeSpec := { name := "dependDepths", fn := fun _ => fun
  | [d1, d2] => { results := [.lit (.bool false)], args := [d1, d2] }
  | _ => none }
def DependDepthsWrongFalsely : Prop := dependDepthsRow.holds Try.pinned (OpenSpec.ofChange dependDepthsWrong)

/-- 'corporalaw09.DependPaths': WHATEVER THE INPUT: true; the input reads as it did. -/
def dependPathsSpec : ChangeSpec := { name := "dependPaths", fn := fun _ => fun
  | [d1, d2, d3] => { results := [.lit (.bool true)], args := [d1, d2, d3] }
  | _ => none }
def dependPathsRow : OpenClaim := { program := "ytnbnmomichegaaa", sum := "b84511fcea394953dc059e3c70c2837fc2ef0dad38b979121b0690fbbac40e20", func := "corpora/corporalaw09.DependPaths", spec := "dependPaths", inPlace := ["internal/bytealg.IndexByteString", "internal/bytealg.IndexString"], named := ["internal/bytealg.MaxLen"], apart := false }
def DependPathsSaid : Prop := dependPathsRow.holds Try.pinned (OpenSpec.ofChange dependPathsSpec)

/-- ITS FALSE NEIGHBOUR: 'it returns false'. Refute it at one input. -/
def dependPathsWrong : ChangeSpec := { name := "dependPaths", fn := fun _ => fun
  | [d1, d2, d3] => { results := [.lit (.bool false)], args := [d1, d2, d3] }
  | _ => none }
def DependPathsWrongFalsely : Prop := dependPathsRow.holds Try.pinned (OpenSpec.ofChange dependPathsWrong)

/-- 'corporalaw09.DependConnects': WHATEVER THE INPUT: true; the input reads as it did. -/
def dependConnectsSpec : ChangeSpec := { name := "dependConnects", fn := fun _ => fun
  | [d1, d2, d3] => { results := [.lit (.bool true)], args := [d1, d2, d3] }
  | _ => none }
def dependConnectsRow : OpenClaim := { program := "ytnbnmomichegaaa", sum := "b84511fcea394953dc059e3c70c2837fc2ef0dad38b979121b0690fbbac40e20", func := "corpora/corporalaw09.DependConnects", spec := "dependConnects", inPlace := ["internal/bytealg.IndexByteString", "internal/bytealg.IndexString"], named := ["internal/bytealg.MaxLen"], apart := false }
def DependConnectsSaid : Prop := dependConnectsRow.holds Try.pinned (OpenSpec.ofChange dependConnectsSpec)

/-- ITS FALSE NEIGHBOUR: 'it returns false'. Refute it at one input. -/
def dependConnectsWrong : ChangeSpec := { name := "dependConnects", fn := fun _ => fun
  | [d1, d2, d3] => { results := [.lit (.bool false)], args := [d1, d2, d3] }
  | _ => none }
def DependConnectsWrongFalsely : Prop := dependConnectsRow.holds Try.pinned (OpenSpec.ofChange dependConnectsWrong)

/-- 'corporalaw09.DependProjects': WHATEVER THE INPUT: true; the input reads as it did. -/
def dependProjectsSpec : ChangeSpec := { name := "dependProjects", fn := fun _ => fun
  | [d] => { results := [.lit (.bool true)], args := [d] }
  | _ => none }
def dependProjectsRow : OpenClaim := { program := "ytnbnmomichegaaa", sum := "b84511fcea394953dc059e3c70c2837fc2ef0dad38b979121b0690fbbac40e20", func := "corpora/corporalaw09.DependProjects", spec := "dependProjects", inPlace := ["internal/bytealg.IndexByteString", "internal/bytealg.IndexString"], named := ["internal/bytealg.MaxLen"], apart := false }
def DependProjectsSaid : Prop := dependProjectsRow.holds Try.pinned (OpenSpec.ofChange dependProjectsSpec)

/-- ITS FALSE NEIGHBOUR: 'it returns false'. Refute it at one input. -/
def dependProjectsWrong : ChangeSpec := { name := "dependProjects", fn := fun _ => fun
  | [d] => { results := [.lit (.bool false)], args := [d] }
  | _ => none }
def DependProjectsWrongFalsely : Prop := dependProjectsRow.holds Try.pinned (OpenSpec.ofChange dependProjectsWrong)

/-- 'corporalaw09.DependCrosses': WHATEVER THE INPUT: true; the input reads as it did. -/
def dependCrossesSpec : ChangeSpec := { name := "dependCrosses", fn := fun _ => fun
  | [d] => { results := [.lit (.bool true)], args := [d] }
  | _ => none }
def dependCrossesRow : OpenClaim := { program := "ytnbnmomichegaaa", sum := "b84511fcea394953dc059e3c70c2837fc2ef0dad38b979121b0690fbbac40e20", func := "corpora/corporalaw09.DependCrosses", spec := "dependCrosses", inPlace := ["internal/bytealg.IndexByteString", "internal/bytealg.IndexString"], named := ["internal/bytealg.MaxLen"], apart := false }
def DependCrossesSaid : Prop := dependCrossesRow.holds Try.pinned (OpenSpec.ofChange dependCrossesSpec)

/-- ITS FALSE NEIGHBOUR: 'it returns false'. Refute it at one input. -/
def dependCrossesWrong : ChangeSpec := { name := "dependCrosses", fn := fun _ => fun
  | [d] => { results := [.lit (.bool false)], args := [d] }
  | _ => none }
def DependCrossesWrongFalsely : Prop := dependCrossesRow.holds Try.pinned (OpenSpec.ofChange dependCrossesWrong)

/-- 'corporalaw09.DependParses': WHATEVER THE INPUT: true; the input reads as it did. -/
def dependParsesSpec : ChangeSpec := { name := "dependParses", fn := fun _ => fun
  | [d1, d2] => { results := [.lit (.bool true)], args := [d1, d2] }
  | _ => none }
def dependParsesRow : OpenClaim := { program := "ytnbnmomichegaaa", sum := "b84511fcea394953dc059e3c70c2837fc2ef0dad38b979121b0690fbbac40e20", func := "corpora/corporalaw09.DependParses", spec := "dependParses", inPlace := ["internal/bytealg.IndexByteString", "internal/bytealg.IndexString"], named := ["internal/bytealg.MaxLen"], apart := false }
def DependParsesSaid : Prop := dependParsesRow.holds Try.pinned (OpenSpec.ofChange dependParsesSpec)

/-- ITS FALSE NEIGHBOUR: 'it returns false'. Refute it at one input. -/
def dependParsesWrong : ChangeSpec := { name := "dependParses", fn := fun _ => fun
  | [d1, d2] => { results := [.lit (.bool false)], args := [d1, d2] }
  | _ => none }
def DependParsesWrongFalsely : Prop := dependParsesRow.holds Try.pinned (OpenSpec.ofChange dependParsesWrong)

/-- 'corporalaw09.DependValid': WHATEVER THE INPUT: true; the input reads as it did. -/
def dependValidSpec : ChangeSpec := { name := "dependValid", fn := fun _ => fun
  | [d1, d2] => { results := [.lit (.bool true)], args := [d1, d2] }
  | _ => none }
def dependValidRow : OpenClaim := { program := "ytnbnmomichegaaa", sum := "b84511fcea394953dc059e3c70c2837fc2ef0dad38b979121b0690fbbac40e20", func := "corpora/corporalaw09.DependValid", spec := "dependValid", inPlace := ["internal/bytealg.IndexByteString", "internal/bytealg.IndexString"], named := ["internal/bytealg.MaxLen"], apart := false }
def DependValidSaid : Prop := dependValidRow.holds Try.pinned (OpenSpec.ofChange dependValidSpec)

/-- ITS FALSE NEIGHBOUR: 'it returns false'. Refute it at one input. -/
def dependValidWrong : ChangeSpec := { name := "dependValid", fn := fun _ => fun
  | [d1, d2] => { results := [.lit (.bool false)], args := [d1, d2] }
  | _ => none }
def DependValidWrongFalsely : Prop := dependValidRow.holds Try.pinned (OpenSpec.ofChange dependValidWrong)

/- THE SECOND FORM. 'bulk': how many values and letters a reading holds, each counted each time it is reached (what is shared counts as often as it is met; a slice's spare places count too). A statement '..UptoSaid' is the law's where the arguments, and the package variables that the reading takes, are together of bulk at most 1048576: NARROWER than '..Said'. Prove '..Said' where nothing that the law and all that it calls make is longer than what came in: it says more and counts as full. Else prove '..UptoSaid'. A law counts once. -/
mutual
def uptoBulk {H : Type} : DataW H → Nat
  | .lit (.string bytes) => bytes.length + 1
  | .lit _ => 1
  | .nil => 1
  | .ptr d => uptoBulk d + 1
  | .slice elems spare => uptoBulkAll elems + uptoBulkAll spare + 1
  | .agg parts => uptoBulkAll parts + 1
  | .iface _ d => uptoBulk d + 1
  | .map entries => uptoBulkEntries entries + 1
  | .held _ => 1
def uptoBulkAll {H : Type} : List (DataW H) → Nat
  | [] => 0
  | d :: r => uptoBulk d + uptoBulkAll r
def uptoBulkEntries {H : Type} : List (Lit × DataW H) → Nat
  | [] => 0
  | x :: r => uptoBulkEntry x + uptoBulkEntries r
def uptoBulkEntry {H : Type} : Lit × DataW H → Nat
  | (.string bytes, d) => bytes.length + uptoBulk d + 1
  | (_, d) => uptoBulk d + 1
 end
def uptoSmall : (H : Type) → List (DataW H) → Bool := fun _ ds => decide (uptoBulkAll ds ≤ 1048576)
def OpenSpec.upto (s : _root_.Go.ChangeSpec) : _root_.Go.OpenSpec := { _root_.Go.OpenSpec.ofChange s with cond := some uptoSmall }

/-- 'corporalaw09.DependChecks', WHERE WHAT IT READS IS OF BULK AT MOST 1048576: true; the input reads as it did. -/
def dependChecksUptoRow : OpenClaim := { program := "ytnbnmomichegaaa", sum := "b84511fcea394953dc059e3c70c2837fc2ef0dad38b979121b0690fbbac40e20", func := "corpora/corporalaw09.DependChecks", spec := "dependChecks", inPlace := ["internal/bytealg.IndexByteString", "internal/bytealg.IndexString"], named := ["internal/bytealg.MaxLen"], apart := false, narrowed := true }
def DependChecksUptoSaid : Prop := dependChecksUptoRow.holds Try.pinned (OpenSpec.upto dependChecksSpec)

/-- 'corporalaw09.DependDepths', WHERE WHAT IT READS IS OF BULK AT MOST 1048576: true; the input reads as it did. -/
def dependDepthsUptoRow : OpenClaim := { program := "ytnbnmomichegaaa", sum := "b84511fcea394953dc059e3c70c2837fc2ef0dad38b979121b0690fbbac40e20", func := "corpora/corporalaw09.DependDepths", spec := "dependDepths", inPlace := ["internal/bytealg.IndexByteString", "internal/bytealg.IndexString"], named := ["internal/bytealg.MaxLen"], apart := false, narrowed := true }
def DependDepthsUptoSaid : Prop := dependDepthsUptoRow.holds Try.pinned (OpenSpec.upto dependDepthsSpec)

/-- 'corporalaw09.DependPaths', WHERE WHAT IT READS IS OF BULK AT MOST 1048576: true; the input reads as it did. -/
def dependPathsUptoRow : OpenClaim := { program := "ytnbnmomichegaaa", sum := "b84511fcea394953dc059e3c70c2837fc2ef0dad38b979121b0690fbbac40e20", func := "corpora/corporalaw09.DependPaths", spec := "dependPaths", inPlace := ["internal/bytealg.IndexByteString", "internal/bytealg.IndexString"], named := ["internal/bytealg.MaxLen"], apart := false, narrowed := true }
def DependPathsUptoSaid : Prop := dependPathsUptoRow.holds Try.pinned (OpenSpec.upto dependPathsSpec)

/-- 'corporalaw09.DependConnects', WHERE WHAT IT READS IS OF BULK AT MOST 1048576: true; the input reads as it did. -/
def dependConnectsUptoRow : OpenClaim := { program := "ytnbnmomichegaaa", sum := "b84511fcea394953dc059e3c70c2837fc2ef0dad38b979121b0690fbbac40e20", func := "corpora/corporalaw09.DependConnects", spec := "dependConnects", inPlace := ["internal/bytealg.IndexByteString", "internal/bytealg.IndexString"], named := ["internal/bytealg.MaxLen"], apart := false, narrowed := true }
def DependConnectsUptoSaid : Prop := dependConnectsUptoRow.holds Try.pinned (OpenSpec.upto dependConnectsSpec)

/-- 'corporalaw09.DependProjects', WHERE WHAT IT READS IS OF BULK AT MOST 1048576: true; the input reads as it did. -/
def dependProjectsUptoRow : OpenClaim := { program := "ytnbnmomichegaaa", sum := "b84511fcea394953dc059e3c70c2837fc2ef0dad38b979121b0690fbbac40e20", func := "corpora/corporalaw09.DependProjects", spec := "dependProjects", inPlace := ["internal/bytealg.IndexByteString", "internal/bytealg.IndexString"], named := ["internal/bytealg.MaxLen"], apart := false, narrowed := true }
def DependProjectsUptoSaid : Prop := dependProjectsUptoRow.holds Try.pinned (OpenSpec.upto dependProjectsSpec)

/-- 'corporalaw09.DependCrosses', WHERE WHAT IT READS IS OF BULK AT MOST 1048576: true; the input reads as it did. -/
def dependCrossesUptoRow : OpenClaim := { program := "ytnbnmomichegaaa", sum := "b84511fcea394953dc059e3c70c2837fc2ef0dad38b979121b0690fbbac40e20", func := "corpora/corporalaw09.DependCrosses", spec := "dependCrosses", inPlace := ["internal/bytealg.IndexByteString", "internal/bytealg.IndexString"], named := ["internal/bytealg.MaxLen"], apart := false, narrowed := true }
def DependCrossesUptoSaid : Prop := dependCrossesUptoRow.holds Try.pinned (OpenSpec.upto dependCrossesSpec)

/-- 'corporalaw09.DependParses', WHERE WHAT IT READS IS OF BULK AT MOST 1048576: true; the input reads as it did. -/
def dependParsesUptoRow : OpenClaim := { program := "ytnbnmomichegaaa", sum := "b84511fcea394953dc059e3c70c2837fc2ef0dad38b979121b0690fbbac40e20", func := "corpora/corporalaw09.DependParses", spec := "dependParses", inPlace := ["internal/bytealg.IndexByteString", "internal/bytealg.IndexString"], named := ["internal/bytealg.MaxLen"], apart := false, narrowed := true }
def DependParsesUptoSaid : Prop := dependParsesUptoRow.holds Try.pinned (OpenSpec.upto dependParsesSpec)

/-- 'corporalaw09.DependValid', WHERE WHAT IT READS IS OF BULK AT MOST 1048576: true; the input reads as it did. -/
def dependValidUptoRow : OpenClaim := { program := "ytnbnmomichegaaa", sum := "b84511fcea394953dc059e3c70c2837fc2ef0dad38b979121b0690fbbac40e20", func := "corpora/corporalaw09.DependValid", spec := "dependValid", inPlace := ["internal/bytealg.IndexByteString", "internal/bytealg.IndexString"], named := ["internal/bytealg.MaxLen"], apart := false, narrowed := true }
def DependValidUptoSaid : Prop := dependValidUptoRow.holds Try.pinned (OpenSpec.upto dependValidSpec)

end Rows
end Go.Proofs.Ytnbnmomichegaaa
