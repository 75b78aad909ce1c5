/-
  The contracts of the reference's Units and Valid: for every text the units, and whether all are valid. Condition: the text has at most 2097152 bytes.
-/
import Derived.Test.YtnbnmomichegaaaDoorBase6
import Derived.Lib.OthersKept
import Derived.Maps.AppendAt
namespace Go.Proofs.YtnbnmomichegaaaDoor
open Go.RowKit Utf

end Go.Proofs.YtnbnmomichegaaaDoor
