/- Merged texts below the law FnRecords: Go functions as Lean functions, their contracts, and plain lemmas. -/
import Derived.Test.YtgdebfaoohjikaaVFnRecordsN
namespace Go.Proofs.YtgdebfaoohjikaaW.PrintWords
open Go.RowKit
namespace Kd
section
variable {α : Type} {d : Kd α} {W : World} {g n : Nat} {S ok : Nat → Prop} {A : Option Addr} {ad : Addr} {xs : List α}
end
end Kd
end Go.Proofs.YtgdebfaoohjikaaW.PrintWords
