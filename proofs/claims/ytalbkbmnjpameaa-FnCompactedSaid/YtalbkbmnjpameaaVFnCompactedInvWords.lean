/- Merged texts below the law FnCompacted: Go functions as Lean functions, their contracts, and plain lemmas. -/
import Derived.Test.YtalbkbmnjpameaaVFnCompactedInv
import Derived.Test.YtalbkbmnjpameaaVFnCompactedFootNe
namespace Go.Proofs.YtalbkbmnjpameaaW.PrintWords
open Go.RowKit
end Go.Proofs.YtalbkbmnjpameaaW.PrintWords
namespace Go.Proofs.YtalbkbmnjpameaaW.PrintLast
section
variable {ops : Array Oper} {a : Act} {o og : Oper} {g : Nat} {t : Tmp} {u : Bool}
end
end Go.Proofs.YtalbkbmnjpameaaW.PrintLast
