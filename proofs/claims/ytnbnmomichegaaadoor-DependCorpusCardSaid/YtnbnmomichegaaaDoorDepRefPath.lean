/-
  The contract of the reference's Path: the same connection, or the same error. Condition: the list's length is an int.
-/
import Derived.Test.YtnbnmomichegaaaDoorDepPathW
namespace Go.Proofs.YtnbnmomichegaaaDoor
open Go.RowKit Dep

end Go.Proofs.YtnbnmomichegaaaDoor
