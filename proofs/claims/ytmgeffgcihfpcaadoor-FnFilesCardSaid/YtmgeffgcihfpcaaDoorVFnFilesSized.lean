/- Merged texts below the law FnFiles: Go functions as Lean functions, their contracts, and plain lemmas. -/
import Derived.SizedLaws
import Derived.ChangeSlices
namespace Go.Proofs.YtmgeffgcihfpcaaDoorW.PrintWords
open Go.ChangeShapes Go.WideShapes
end Go.Proofs.YtmgeffgcihfpcaaDoorW.PrintWords
