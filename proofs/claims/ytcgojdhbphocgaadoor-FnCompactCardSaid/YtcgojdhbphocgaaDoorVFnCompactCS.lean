/- Merged texts below the law FnCompact: Go functions as Lean functions, their contracts, and plain lemmas. -/
import Derived.Test.YtcgojdhbphocgaaDoorQFnCompact23
import Derived.Test.YtcgojdhbphocgaaDoorQFnCompact24
import Derived.Test.YtcgojdhbphocgaaDoorQFnCompact35
import Derived.Test.YtcgojdhbphocgaaDoorQFnCompact33
import Derived.Test.YtcgojdhbphocgaaDoorQFnCompact40
import Derived.Deep.DeepCutAuto
namespace Go.Proofs.YtcgojdhbphocgaaDoor.F
open Go.RowKit Go.Proofs.YtcgojdhbphocgaaDoorW.PrintWords Go.Proofs.YtcgojdhbphocgaaDoorW.PrintLast Go.Proofs.YtcgojdhbphocgaaDoorW.PrintMore
open Go.Proofs.YtcgojdhbphocgaaDoor
set_option linter.unusedVariables false
set_option linter.unusedSimpArgs false
end Go.Proofs.YtcgojdhbphocgaaDoor.F
