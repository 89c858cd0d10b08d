/- Merged texts below the law FnRecords: Go functions as Lean functions, their contracts, and plain lemmas. -/
import Derived.Test.YtgdebfaoohjikaaVFnRecordsInv
import Derived.Test.YtgdebfaoohjikaaVFnRecordsFootNe
namespace Go.Proofs.YtgdebfaoohjikaaW.PrintWords
open Go.RowKit
end Go.Proofs.YtgdebfaoohjikaaW.PrintWords
namespace Go.Proofs.YtgdebfaoohjikaaW.PrintLast
section
variable {ops : Array Oper} {a : Act} {o og : Oper} {g : Nat} {t : Tmp} {u : Bool}
end
end Go.Proofs.YtgdebfaoohjikaaW.PrintLast
