/- Merged texts below the law FnExactWalCompact: Go functions as Lean functions, their contracts, and plain lemmas. -/
import Derived.SizedLaws
import Derived.ChangeSlices
namespace Go.Proofs.YtcgojdhbphocgaaDoorW.PrintWords
open Go.ChangeShapes Go.WideShapes
end Go.Proofs.YtcgojdhbphocgaaDoorW.PrintWords
