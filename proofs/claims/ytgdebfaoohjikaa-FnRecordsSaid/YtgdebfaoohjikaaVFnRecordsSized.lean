/- Merged texts below the law FnRecords: Go functions as Lean functions, their contracts, and plain lemmas. -/
import Derived.SizedLaws
import Derived.ChangeSlices
namespace Go.Proofs.YtgdebfaoohjikaaW.PrintWords
open Go.ChangeShapes Go.WideShapes
end Go.Proofs.YtgdebfaoohjikaaW.PrintWords
