/- Merged texts below the law FnWal: Go functions as Lean functions, their contracts, and plain lemmas. -/
import Derived.Test.YtcgojdhbphocgaaDoorVFnWalInv
import Derived.Test.YtcgojdhbphocgaaDoorVFnWalFootNe
namespace Go.Proofs.YtcgojdhbphocgaaDoorW.PrintWords
open Go.RowKit
end Go.Proofs.YtcgojdhbphocgaaDoorW.PrintWords
namespace Go.Proofs.YtcgojdhbphocgaaDoorW.PrintLast
section
variable {ops : Array Oper} {a : Act} {o og : Oper} {g : Nat} {t : Tmp} {u : Bool}
end
end Go.Proofs.YtcgojdhbphocgaaDoorW.PrintLast
