/- Merged texts below the law FnAppended: Go functions as Lean functions, their contracts, and plain lemmas. -/
import Derived.Test.YtalbkbmnjpameaaVFnAppendedInv
import Derived.Test.YtalbkbmnjpameaaVFnAppendedFootNe
namespace Go.Proofs.YtalbkbmnjpameaaW.PrintWords
open Go.RowKit
end Go.Proofs.YtalbkbmnjpameaaW.PrintWords
namespace Go.Proofs.YtalbkbmnjpameaaW.PrintLast
section
variable {ops : Array Oper} {a : Act} {o og : Oper} {g : Nat} {t : Tmp} {u : Bool}
end
end Go.Proofs.YtalbkbmnjpameaaW.PrintLast
