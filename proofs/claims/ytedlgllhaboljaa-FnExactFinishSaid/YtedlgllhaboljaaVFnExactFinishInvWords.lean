/- Merged texts below the law FnExactFinish: Go functions as Lean functions, their contracts, and plain lemmas. -/
import Derived.Test.YtedlgllhaboljaaVFnExactFinishInv
import Derived.Test.YtedlgllhaboljaaVFnExactFinishFootNe
namespace Go.Proofs.YtedlgllhaboljaaW.PrintWords
open Go.RowKit
end Go.Proofs.YtedlgllhaboljaaW.PrintWords
namespace Go.Proofs.YtedlgllhaboljaaW.PrintLast
section
variable {ops : Array Oper} {a : Act} {o og : Oper} {g : Nat} {t : Tmp} {u : Bool}
end
end Go.Proofs.YtedlgllhaboljaaW.PrintLast
