/- Merged texts below the law FnExactWalAppend: Go functions as Lean functions, their contracts, and plain lemmas. -/
import Derived.Test.YtcgojdhbphocgaaDoorVFnExactWalAppendInv
import Derived.Test.YtcgojdhbphocgaaDoorVFnExactWalAppendFootNe
namespace Go.Proofs.YtcgojdhbphocgaaDoorW.PrintWords
open Go.RowKit
end Go.Proofs.YtcgojdhbphocgaaDoorW.PrintWords
namespace Go.Proofs.YtcgojdhbphocgaaDoorW.PrintLast
section
variable {ops : Array Oper} {a : Act} {o og : Oper} {g : Nat} {t : Tmp} {u : Bool}
end
end Go.Proofs.YtcgojdhbphocgaaDoorW.PrintLast
