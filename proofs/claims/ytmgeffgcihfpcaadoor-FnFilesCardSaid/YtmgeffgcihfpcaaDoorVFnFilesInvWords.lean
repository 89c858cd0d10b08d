/- Merged texts below the law FnFiles: Go functions as Lean functions, their contracts, and plain lemmas. -/
import Derived.Test.YtmgeffgcihfpcaaDoorVFnFilesInv
import Derived.Test.YtmgeffgcihfpcaaDoorVFnFilesFootNe
namespace Go.Proofs.YtmgeffgcihfpcaaDoorW.PrintWords
open Go.RowKit
end Go.Proofs.YtmgeffgcihfpcaaDoorW.PrintWords
namespace Go.Proofs.YtmgeffgcihfpcaaDoorW.PrintLast
section
variable {ops : Array Oper} {a : Act} {o og : Oper} {g : Nat} {t : Tmp} {u : Bool}
end
end Go.Proofs.YtmgeffgcihfpcaaDoorW.PrintLast
