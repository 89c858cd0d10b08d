/- Merged texts below the law FnExactWalSync: Go functions as Lean functions, their contracts, and plain lemmas. -/
import Derived.Test.YtcgojdhbphocgaaDoorQFnExactWalSync26
namespace Go.Proofs.YtcgojdhbphocgaaDoor.DK
set_option linter.unusedVariables false
set_option linter.unusedSimpArgs false
open Go.RowKit Go.Proofs.YtcgojdhbphocgaaDoor.F Go.Proofs.YtcgojdhbphocgaaDoor.PK Go.Proofs.YtcgojdhbphocgaaDoorW.PrintWords Go.Proofs.YtcgojdhbphocgaaDoorW.PrintLast Go.Proofs.YtcgojdhbphocgaaDoorW.PrintMore
open Go.Proofs.YtcgojdhbphocgaaDoor.BY Go.Proofs.YtcgojdhbphocgaaDoor.CR Go.Proofs.YtcgojdhbphocgaaDoor.FR Go.Proofs.YtcgojdhbphocgaaDoor.SC
def logS : ByteArray := ⟨#[108, 111, 103]⟩
def wfB (l : List S55) : Prop := ∀ y ∈ l, Byt y.f1 ∧ Byt y.f2
end Go.Proofs.YtcgojdhbphocgaaDoor.DK
