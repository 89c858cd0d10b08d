/- Merged texts below the law FnWal: Go functions as Lean functions, their contracts, and plain lemmas. -/
import Derived.Test.YtcgojdhbphocgaaDoorQFnWal32
import Derived.Test.YtcgojdhbphocgaaDoorQFnWal25
import Derived.Test.YtcgojdhbphocgaaDoorVFnWalA
namespace Go.Proofs.YtcgojdhbphocgaaDoor.DK
set_option linter.unusedVariables false
set_option linter.unusedSimpArgs false
open Go.RowKit Go.Proofs.YtcgojdhbphocgaaDoor.F Go.Proofs.YtcgojdhbphocgaaDoor.PK Go.Proofs.YtcgojdhbphocgaaDoorW.PrintWords Go.Proofs.YtcgojdhbphocgaaDoorW.PrintLast
open Go.Proofs.YtcgojdhbphocgaaDoor.DK Go.Proofs.YtcgojdhbphocgaaDoor.BY Go.Proofs.YtcgojdhbphocgaaDoor.FR
def wapM (l : List S55) (p : List Int) : List S55 × Bool := if (frameM p).length = 0 then (l, false) else appM l (⟨#[108, 111, 103]⟩ : ByteArray) (frameM p)
theorem log_size : (⟨#[108, 111, 103]⟩ : ByteArray).size ≤ 9223372036854775807 := by decide
theorem spec_wap (l : List S55) (p : List Int) (hl : l.length ≤ 1048576) (hw : wfD l) (hp : p.length ≤ 1048576) : Ev (fun k => spec_WalAppend.f k l p) (wapM l p) := by
  have hf := frameM_le p
  unfold spec_WalAppend.f
  refine (EvB (spec_frame p hp)).2 ?_
  unfold wapM
  by_cases h : (frameM p).length = 0
  · simp only [if_pos h, if_pos (show ((frameM p).length : Int) = 0 by omega)]
    exact (EvB (copyS l (by omega) (wfD_le' hw))).2 EvN
  · simp only [if_neg h, if_neg (show ¬ ((frameM p).length : Int) = 0 by omega)]
    exact spec_app l _ _ hl hw log_size (by omega)
theorem impl_wap (l : List S55) (p : List Int) (hl : l.length ≤ 1048576) (hw : wfD l) (hp : p.length ≤ 1048576) : Ev (fun k => impl_WalAppend.f k l p) (wapM l p) := by
  have hf := frameM_le p
  unfold impl_WalAppend.f
  refine (EvB (impl_frame p hp)).2 ?_
  unfold wapM
  by_cases h : (frameM p).length = 0
  · simp only [if_pos h, if_pos (show ((frameM p).length : Int) = 0 by omega)]
    exact (EvB (copyI l (by omega) (wfD_le hw))).2 EvN
  · simp only [if_neg h, if_neg (show ¬ ((frameM p).length : Int) = 0 by omega)]
    exact impl_app l _ _ hl hw log_size (by omega)
end Go.Proofs.YtcgojdhbphocgaaDoor.DK
