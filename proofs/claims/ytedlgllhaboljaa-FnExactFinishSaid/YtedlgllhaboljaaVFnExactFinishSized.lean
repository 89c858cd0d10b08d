/- Merged texts below the law FnExactFinish: Go functions as Lean functions, their contracts, and plain lemmas. -/
import Derived.SizedLaws
import Derived.ChangeSlices
namespace Go.Proofs.YtedlgllhaboljaaW.PrintWords
open Go.ChangeShapes Go.WideShapes
end Go.Proofs.YtedlgllhaboljaaW.PrintWords
