/- Merged texts below the law FnExactAppendTo: Go functions as Lean functions, their contracts, and plain lemmas. -/
import Derived.SizedLaws
import Derived.ChangeSlices
namespace Go.Proofs.YtalbkbmnjpameaaW.PrintWords
open Go.ChangeShapes Go.WideShapes
end Go.Proofs.YtalbkbmnjpameaaW.PrintWords
