/-
  No cell of these rows narrows 'for every input' (looked for: loops, veiled, ifaces, maps, wideKeys, modest, calm, conditions, laid).
  DERIVED. THE GIVEN ROWS OF THIS SEAT. 10 by the template 'for every input the law returns true; each argument reads behind the call as it read before'; 0 by the template 'total and deterministic' (their statements: YtalbkbmnjpameaaTotals.lean).
  GIVEN WITH THE SEED: the statements are not yours to turn. If you find one false, say at which input.
  Laid BY PROGRAM, IN A SANDBOX (cutbox-rows.mjs): the forced cells as the released guide's own fill.sh prints them over the translation 52a77c9075793352… (all of the seat's roots in one cut). By AI agents, Wed Nov 11 2026. No macro, syntax, notation, axiom, sorry.
-/
import Derived.Test.YtalbkbmnjpameaaChecked
import GoSem.Claim
import GoSem.ClaimJoined
import GoSem.ClaimMapViews
import Derived.JoinedTies
import Derived.KernelRfl
namespace Go.Proofs.Ytalbkbmnjpameaa
/- THE CELL 'sum', in the pinned program and in every row, IS THE sha256 OF THE DUMP (.gsa) THAT YtalbkbmnjpameaaProg.lean LOADS. Nothing in Lean hashes anything: it is a label: what it is worth is what the hold of that sum in a sandbox is worth. -/
noncomputable def Try.pinned : Pinned := { name := "ytalbkbmnjpameaa", sum := "52a77c9075793352ad92f200af802e1b19185106432c27fad6e337e905af4b58", checked := Try.checked }
namespace Rows
def none {H : Type} : Left H := { results := [], args := [] }

/-- 'laws.FnExactRLogOk': WHATEVER THE INPUT: true; the input reads as it did. -/
def fnExactRLogOkSpec : ChangeSpec := { name := "fnExactRLogOk", fn := fun _ => fun
  | [d] => { results := [.lit (.bool true)], args := [d] }
  | _ => none }
def fnExactRLogOkRow : OpenClaim := { program := "ytalbkbmnjpameaa", sum := "52a77c9075793352ad92f200af802e1b19185106432c27fad6e337e905af4b58", func := "loop.example/g00138/laws.FnExactRLogOk", spec := "fnExactRLogOk", apart := false }
def FnExactRLogOkSaid : Prop := fnExactRLogOkRow.holds Try.pinned (OpenSpec.ofChange fnExactRLogOkSpec)

/-- ITS FALSE NEIGHBOUR: 'it returns false'. Refute it at one input. -/
def fnExactRLogOkWrong : ChangeSpec := { name := "fnExactRLogOk", fn := fun _ => fun
  | [d] => { results := [.lit (.bool false)], args := [d] }
  | _ => none }
def FnExactRLogOkWrongFalsely : Prop := fnExactRLogOkRow.holds Try.pinned (OpenSpec.ofChange fnExactRLogOkWrong)

/-- 'laws.FnExactLastIndex': WHATEVER THE INPUT: true; the input reads as it did. -/
def fnExactLastIndexSpec : ChangeSpec := { name := "fnExactLastIndex", fn := fun _ => fun
  | [d] => { results := [.lit (.bool true)], args := [d] }
  | _ => none }
def fnExactLastIndexRow : OpenClaim := { program := "ytalbkbmnjpameaa", sum := "52a77c9075793352ad92f200af802e1b19185106432c27fad6e337e905af4b58", func := "loop.example/g00138/laws.FnExactLastIndex", spec := "fnExactLastIndex", apart := false }
def FnExactLastIndexSaid : Prop := fnExactLastIndexRow.holds Try.pinned (OpenSpec.ofChange fnExactLastIndexSpec)

/-- ITS FALSE NEIGHBOUR: 'it returns false'. Refute it at one input. -/
def fnExactLastIndexWrong : ChangeSpec := { name := "fnExactLastIndex", fn := fun _ => fun
  | [d] => { results := [.lit (.bool false)], args := [d] }
  | _ => none }
def FnExactLastIndexWrongFalsely : Prop := fnExactLastIndexRow.holds Try.pinned (OpenSpec.ofChange fnExactLastIndexWrong)

/-- 'laws.FnExactTermAt': WHATEVER THE INPUT: true; the input reads as it did. -/
def fnExactTermAtSpec : ChangeSpec := { name := "fnExactTermAt", fn := fun _ => fun
  | [d1, d2] => { results := [.lit (.bool true)], args := [d1, d2] }
  | _ => none }
def fnExactTermAtRow : OpenClaim := { program := "ytalbkbmnjpameaa", sum := "52a77c9075793352ad92f200af802e1b19185106432c27fad6e337e905af4b58", func := "loop.example/g00138/laws.FnExactTermAt", spec := "fnExactTermAt", apart := false }
def FnExactTermAtSaid : Prop := fnExactTermAtRow.holds Try.pinned (OpenSpec.ofChange fnExactTermAtSpec)

/-- ITS FALSE NEIGHBOUR: 'it returns false'. Refute it at one input. -/
def fnExactTermAtWrong : ChangeSpec := { name := "fnExactTermAt", fn := fun _ => fun
  | [d1, d2] => { results := [.lit (.bool false)], args := [d1, d2] }
  | _ => none }
def FnExactTermAtWrongFalsely : Prop := fnExactTermAtRow.holds Try.pinned (OpenSpec.ofChange fnExactTermAtWrong)

/-- 'laws.FnExactUpToDate': WHATEVER THE INPUT: true; the input reads as it did. -/
def fnExactUpToDateSpec : ChangeSpec := { name := "fnExactUpToDate", fn := fun _ => fun
  | [d1, d2, d3] => { results := [.lit (.bool true)], args := [d1, d2, d3] }
  | _ => none }
def fnExactUpToDateRow : OpenClaim := { program := "ytalbkbmnjpameaa", sum := "52a77c9075793352ad92f200af802e1b19185106432c27fad6e337e905af4b58", func := "loop.example/g00138/laws.FnExactUpToDate", spec := "fnExactUpToDate", apart := false }
def FnExactUpToDateSaid : Prop := fnExactUpToDateRow.holds Try.pinned (OpenSpec.ofChange fnExactUpToDateSpec)

/-- ITS FALSE NEIGHBOUR: 'it returns false'. Refute it at one input. -/
def fnExactUpToDateWrong : ChangeSpec := { name := "fnExactUpToDate", fn := fun _ => fun
  | [d1, d2, d3] => { results := [.lit (.bool false)], args := [d1, d2, d3] }
  | _ => none }
def FnExactUpToDateWrongFalsely : Prop := fnExactUpToDateRow.holds Try.pinned (OpenSpec.ofChange fnExactUpToDateWrong)

/-- 'laws.FnExactAgree': WHATEVER THE INPUT: true; the input reads as it did. -/
def fnExactAgreeSpec : ChangeSpec := { name := "fnExactAgree", fn := fun _ => fun
  | [d1, d2] => { results := [.lit (.bool true)], args := [d1, d2] }
  | _ => none }
def fnExactAgreeRow : OpenClaim := { program := "ytalbkbmnjpameaa", sum := "52a77c9075793352ad92f200af802e1b19185106432c27fad6e337e905af4b58", func := "loop.example/g00138/laws.FnExactAgree", spec := "fnExactAgree", apart := false }
def FnExactAgreeSaid : Prop := fnExactAgreeRow.holds Try.pinned (OpenSpec.ofChange fnExactAgreeSpec)

/-- ITS FALSE NEIGHBOUR: 'it returns false'. Refute it at one input. -/
def fnExactAgreeWrong : ChangeSpec := { name := "fnExactAgree", fn := fun _ => fun
  | [d1, d2] => { results := [.lit (.bool false)], args := [d1, d2] }
  | _ => none }
def FnExactAgreeWrongFalsely : Prop := fnExactAgreeRow.holds Try.pinned (OpenSpec.ofChange fnExactAgreeWrong)

/-- 'laws.FnExactTailOf': WHATEVER THE INPUT: true; the input reads as it did. -/
def fnExactTailOfSpec : ChangeSpec := { name := "fnExactTailOf", fn := fun _ => fun
  | [d1, d2, d3] => { results := [.lit (.bool true)], args := [d1, d2, d3] }
  | _ => none }
def fnExactTailOfRow : OpenClaim := { program := "ytalbkbmnjpameaa", sum := "52a77c9075793352ad92f200af802e1b19185106432c27fad6e337e905af4b58", func := "loop.example/g00138/laws.FnExactTailOf", spec := "fnExactTailOf", apart := false }
def FnExactTailOfSaid : Prop := fnExactTailOfRow.holds Try.pinned (OpenSpec.ofChange fnExactTailOfSpec)

/-- ITS FALSE NEIGHBOUR: 'it returns false'. Refute it at one input. -/
def fnExactTailOfWrong : ChangeSpec := { name := "fnExactTailOf", fn := fun _ => fun
  | [d1, d2, d3] => { results := [.lit (.bool false)], args := [d1, d2, d3] }
  | _ => none }
def FnExactTailOfWrongFalsely : Prop := fnExactTailOfRow.holds Try.pinned (OpenSpec.ofChange fnExactTailOfWrong)

/-- 'laws.FnExactCompactTo': WHATEVER THE INPUT: true; the input reads as it did. -/
def fnExactCompactToSpec : ChangeSpec := { name := "fnExactCompactTo", fn := fun _ => fun
  | [d1, d2] => { results := [.lit (.bool true)], args := [d1, d2] }
  | _ => none }
def fnExactCompactToRow : OpenClaim := { program := "ytalbkbmnjpameaa", sum := "52a77c9075793352ad92f200af802e1b19185106432c27fad6e337e905af4b58", func := "loop.example/g00138/laws.FnExactCompactTo", spec := "fnExactCompactTo", apart := false }
def FnExactCompactToSaid : Prop := fnExactCompactToRow.holds Try.pinned (OpenSpec.ofChange fnExactCompactToSpec)

/-- ITS FALSE NEIGHBOUR: 'it returns false'. Refute it at one input. -/
def fnExactCompactToWrong : ChangeSpec := { name := "fnExactCompactTo", fn := fun _ => fun
  | [d1, d2] => { results := [.lit (.bool false)], args := [d1, d2] }
  | _ => none }
def FnExactCompactToWrongFalsely : Prop := fnExactCompactToRow.holds Try.pinned (OpenSpec.ofChange fnExactCompactToWrong)

/-- 'laws.FnExactAppendTo': WHATEVER THE INPUT: true; the input reads as it did. -/
def fnExactAppendToSpec : ChangeSpec := { name := "fnExactAppendTo", fn := fun _ => fun
  | [d1, d2, d3, d4] => { results := [.lit (.bool true)], args := [d1, d2, d3, d4] }
  | _ => none }
def fnExactAppendToRow : OpenClaim := { program := "ytalbkbmnjpameaa", sum := "52a77c9075793352ad92f200af802e1b19185106432c27fad6e337e905af4b58", func := "loop.example/g00138/laws.FnExactAppendTo", spec := "fnExactAppendTo", apart := false }
def FnExactAppendToSaid : Prop := fnExactAppendToRow.holds Try.pinned (OpenSpec.ofChange fnExactAppendToSpec)

/-- ITS FALSE NEIGHBOUR: 'it returns false'. Refute it at one input. -/
def fnExactAppendToWrong : ChangeSpec := { name := "fnExactAppendTo", fn := fun _ => fun
  | [d1, d2, d3, d4] => { results := [.lit (.bool false)], args := [d1, d2, d3, d4] }
  | _ => none }
def FnExactAppendToWrongFalsely : Prop := fnExactAppendToRow.holds Try.pinned (OpenSpec.ofChange fnExactAppendToWrong)

/-- 'laws.FnCompacted': WHATEVER THE INPUT: true; the input reads as it did. -/
def fnCompactedSpec : ChangeSpec := { name := "fnCompacted", fn := fun _ => fun
  | [d] => { results := [.lit (.bool true)], args := [d] }
  | _ => none }
def fnCompactedRow : OpenClaim := { program := "ytalbkbmnjpameaa", sum := "52a77c9075793352ad92f200af802e1b19185106432c27fad6e337e905af4b58", func := "loop.example/g00138/laws.FnCompacted", spec := "fnCompacted", apart := false }
def FnCompactedSaid : Prop := fnCompactedRow.holds Try.pinned (OpenSpec.ofChange fnCompactedSpec)

/-- ITS FALSE NEIGHBOUR: 'it returns false'. Refute it at one input. -/
def fnCompactedWrong : ChangeSpec := { name := "fnCompacted", fn := fun _ => fun
  | [d] => { results := [.lit (.bool false)], args := [d] }
  | _ => none }
def FnCompactedWrongFalsely : Prop := fnCompactedRow.holds Try.pinned (OpenSpec.ofChange fnCompactedWrong)

/-- 'laws.FnAppended': WHATEVER THE INPUT: true; the input reads as it did. -/
def fnAppendedSpec : ChangeSpec := { name := "fnAppended", fn := fun _ => fun
  | [d] => { results := [.lit (.bool true)], args := [d] }
  | _ => none }
def fnAppendedRow : OpenClaim := { program := "ytalbkbmnjpameaa", sum := "52a77c9075793352ad92f200af802e1b19185106432c27fad6e337e905af4b58", func := "loop.example/g00138/laws.FnAppended", spec := "fnAppended", apart := false }
def FnAppendedSaid : Prop := fnAppendedRow.holds Try.pinned (OpenSpec.ofChange fnAppendedSpec)

/-- ITS FALSE NEIGHBOUR: 'it returns false'. Refute it at one input. -/
def fnAppendedWrong : ChangeSpec := { name := "fnAppended", fn := fun _ => fun
  | [d] => { results := [.lit (.bool false)], args := [d] }
  | _ => none }
def FnAppendedWrongFalsely : Prop := fnAppendedRow.holds Try.pinned (OpenSpec.ofChange fnAppendedWrong)

/- THE SECOND FORM. 'bulk': how many values and letters a reading holds, each counted each time it is reached (what is shared counts as often as it is met; a slice's spare places count too). A statement '..UptoSaid' is the law's where the arguments, and the package variables that the reading takes, are together of bulk at most 1048576: NARROWER than '..Said'. Prove '..Said' where nothing that the law and all that it calls make is longer than what came in: it says more and counts as full. Else prove '..UptoSaid'. A law counts once. -/
mutual
def uptoBulk {H : Type} : DataW H → Nat
  | .lit (.string bytes) => bytes.length + 1
  | .lit _ => 1
  | .nil => 1
  | .ptr d => uptoBulk d + 1
  | .slice elems spare => uptoBulkAll elems + uptoBulkAll spare + 1
  | .agg parts => uptoBulkAll parts + 1
  | .iface _ d => uptoBulk d + 1
  | .map entries => uptoBulkEntries entries + 1
  | .held _ => 1
def uptoBulkAll {H : Type} : List (DataW H) → Nat
  | [] => 0
  | d :: r => uptoBulk d + uptoBulkAll r
def uptoBulkEntries {H : Type} : List (Lit × DataW H) → Nat
  | [] => 0
  | x :: r => uptoBulkEntry x + uptoBulkEntries r
def uptoBulkEntry {H : Type} : Lit × DataW H → Nat
  | (.string bytes, d) => bytes.length + uptoBulk d + 1
  | (_, d) => uptoBulk d + 1
 end
def uptoSmall : (H : Type) → List (DataW H) → Bool := fun _ ds => decide (uptoBulkAll ds ≤ 1048576)
def OpenSpec.upto (s : _root_.Go.ChangeSpec) : _root_.Go.OpenSpec := { _root_.Go.OpenSpec.ofChange s with cond := some uptoSmall }

/-- 'laws.FnExactRLogOk', WHERE WHAT IT READS IS OF BULK AT MOST 1048576: true; the input reads as it did. -/
def fnExactRLogOkUptoRow : OpenClaim := { program := "ytalbkbmnjpameaa", sum := "52a77c9075793352ad92f200af802e1b19185106432c27fad6e337e905af4b58", func := "loop.example/g00138/laws.FnExactRLogOk", spec := "fnExactRLogOk", apart := false, narrowed := true }
def FnExactRLogOkUptoSaid : Prop := fnExactRLogOkUptoRow.holds Try.pinned (OpenSpec.upto fnExactRLogOkSpec)

/-- 'laws.FnExactLastIndex', WHERE WHAT IT READS IS OF BULK AT MOST 1048576: true; the input reads as it did. -/
def fnExactLastIndexUptoRow : OpenClaim := { program := "ytalbkbmnjpameaa", sum := "52a77c9075793352ad92f200af802e1b19185106432c27fad6e337e905af4b58", func := "loop.example/g00138/laws.FnExactLastIndex", spec := "fnExactLastIndex", apart := false, narrowed := true }
def FnExactLastIndexUptoSaid : Prop := fnExactLastIndexUptoRow.holds Try.pinned (OpenSpec.upto fnExactLastIndexSpec)

/-- 'laws.FnExactTermAt', WHERE WHAT IT READS IS OF BULK AT MOST 1048576: true; the input reads as it did. -/
def fnExactTermAtUptoRow : OpenClaim := { program := "ytalbkbmnjpameaa", sum := "52a77c9075793352ad92f200af802e1b19185106432c27fad6e337e905af4b58", func := "loop.example/g00138/laws.FnExactTermAt", spec := "fnExactTermAt", apart := false, narrowed := true }
def FnExactTermAtUptoSaid : Prop := fnExactTermAtUptoRow.holds Try.pinned (OpenSpec.upto fnExactTermAtSpec)

/-- 'laws.FnExactUpToDate', WHERE WHAT IT READS IS OF BULK AT MOST 1048576: true; the input reads as it did. -/
def fnExactUpToDateUptoRow : OpenClaim := { program := "ytalbkbmnjpameaa", sum := "52a77c9075793352ad92f200af802e1b19185106432c27fad6e337e905af4b58", func := "loop.example/g00138/laws.FnExactUpToDate", spec := "fnExactUpToDate", apart := false, narrowed := true }
def FnExactUpToDateUptoSaid : Prop := fnExactUpToDateUptoRow.holds Try.pinned (OpenSpec.upto fnExactUpToDateSpec)

/-- 'laws.FnExactAgree', WHERE WHAT IT READS IS OF BULK AT MOST 1048576: true; the input reads as it did. -/
def fnExactAgreeUptoRow : OpenClaim := { program := "ytalbkbmnjpameaa", sum := "52a77c9075793352ad92f200af802e1b19185106432c27fad6e337e905af4b58", func := "loop.example/g00138/laws.FnExactAgree", spec := "fnExactAgree", apart := false, narrowed := true }
def FnExactAgreeUptoSaid : Prop := fnExactAgreeUptoRow.holds Try.pinned (OpenSpec.upto fnExactAgreeSpec)

/-- 'laws.FnExactTailOf', WHERE WHAT IT READS IS OF BULK AT MOST 1048576: true; the input reads as it did. -/
def fnExactTailOfUptoRow : OpenClaim := { program := "ytalbkbmnjpameaa", sum := "52a77c9075793352ad92f200af802e1b19185106432c27fad6e337e905af4b58", func := "loop.example/g00138/laws.FnExactTailOf", spec := "fnExactTailOf", apart := false, narrowed := true }
def FnExactTailOfUptoSaid : Prop := fnExactTailOfUptoRow.holds Try.pinned (OpenSpec.upto fnExactTailOfSpec)

/-- 'laws.FnExactCompactTo', WHERE WHAT IT READS IS OF BULK AT MOST 1048576: true; the input reads as it did. -/
def fnExactCompactToUptoRow : OpenClaim := { program := "ytalbkbmnjpameaa", sum := "52a77c9075793352ad92f200af802e1b19185106432c27fad6e337e905af4b58", func := "loop.example/g00138/laws.FnExactCompactTo", spec := "fnExactCompactTo", apart := false, narrowed := true }
def FnExactCompactToUptoSaid : Prop := fnExactCompactToUptoRow.holds Try.pinned (OpenSpec.upto fnExactCompactToSpec)

/-- 'laws.FnExactAppendTo', WHERE WHAT IT READS IS OF BULK AT MOST 1048576: true; the input reads as it did. -/
def fnExactAppendToUptoRow : OpenClaim := { program := "ytalbkbmnjpameaa", sum := "52a77c9075793352ad92f200af802e1b19185106432c27fad6e337e905af4b58", func := "loop.example/g00138/laws.FnExactAppendTo", spec := "fnExactAppendTo", apart := false, narrowed := true }
def FnExactAppendToUptoSaid : Prop := fnExactAppendToUptoRow.holds Try.pinned (OpenSpec.upto fnExactAppendToSpec)

/-- 'laws.FnCompacted', WHERE WHAT IT READS IS OF BULK AT MOST 1048576: true; the input reads as it did. -/
def fnCompactedUptoRow : OpenClaim := { program := "ytalbkbmnjpameaa", sum := "52a77c9075793352ad92f200af802e1b19185106432c27fad6e337e905af4b58", func := "loop.example/g00138/laws.FnCompacted", spec := "fnCompacted", apart := false, narrowed := true }
def FnCompactedUptoSaid : Prop := fnCompactedUptoRow.holds Try.pinned (OpenSpec.upto fnCompactedSpec)

/-- 'laws.FnAppended', WHERE WHAT IT READS IS OF BULK AT MOST 1048576: true; the input reads as it did. -/
def fnAppendedUptoRow : OpenClaim := { program := "ytalbkbmnjpameaa", sum := "52a77c9075793352ad92f200af802e1b19185106432c27fad6e337e905af4b58", func := "loop.example/g00138/laws.FnAppended", spec := "fnAppended", apart := false, narrowed := true }
def FnAppendedUptoSaid : Prop := fnAppendedUptoRow.holds Try.pinned (OpenSpec.upto fnAppendedSpec)

end Rows
end Go.Proofs.Ytalbkbmnjpameaa
