/-
  No cell of these rows narrows 'for every input' (looked for: loops, veiled, ifaces, maps, wideKeys, modest, calm, conditions, laid).
  DERIVED. THE GIVEN ROWS OF THIS SEAT. 5 by the template 'for every input the law returns true; each argument reads behind the call as it read before'; 0 by the template 'total and deterministic' (their statements: YtedlgllhaboljaaTotals.lean).
  GIVEN WITH THE SEED: the statements are not yours to turn. If you find one false, say at which input.
  Laid BY PROGRAM, IN A SANDBOX (cutbox-rows.mjs): the forced cells as the released guide's own fill.sh prints them over the translation d8b84ccc40f39d70… (all of the seat's roots in one cut). By AI agents, Wed Nov 11 2026. No macro, syntax, notation, axiom, sorry.
-/
import Derived.Test.YtedlgllhaboljaaChecked
import GoSem.Claim
import GoSem.ClaimJoined
import GoSem.ClaimMapViews
import Derived.JoinedTies
import Derived.KernelRfl
namespace Go.Proofs.Ytedlgllhaboljaa
/- THE CELL 'sum', in the pinned program and in every row, IS THE sha256 OF THE DUMP (.gsa) THAT YtedlgllhaboljaaProg.lean LOADS. Nothing in Lean hashes anything: it is a label: what it is worth is what the hold of that sum in a sandbox is worth. -/
noncomputable def Try.pinned : Pinned := { name := "ytedlgllhaboljaa", sum := "d8b84ccc40f39d7078737473e5b6f53ef6331495154220287d8c40bc29b2528a", checked := Try.checked }
namespace Rows
def none {H : Type} : Left H := { results := [], args := [] }

/-- 'laws.FnExactConfOk': WHATEVER THE INPUT: true; the input reads as it did. -/
def fnExactConfOkSpec : ChangeSpec := { name := "fnExactConfOk", fn := fun _ => fun
  | [d] => { results := [.lit (.bool true)], args := [d] }
  | _ => none }
def fnExactConfOkRow : OpenClaim := { program := "ytedlgllhaboljaa", sum := "d8b84ccc40f39d7078737473e5b6f53ef6331495154220287d8c40bc29b2528a", func := "loop.example/g00138/laws.FnExactConfOk", spec := "fnExactConfOk", unfollowed := true, recurses := true, apart := false }
def FnExactConfOkSaid : Prop := fnExactConfOkRow.holds Try.pinned (OpenSpec.ofChange fnExactConfOkSpec)

/-- ITS FALSE NEIGHBOUR: 'it returns false'. Refute it at one input. -/
def fnExactConfOkWrong : ChangeSpec := { name := "fnExactConfOk", fn := fun _ => fun
  | [d] => { results := [.lit (.bool false)], args := [d] }
  | _ => none }
def FnExactConfOkWrongFalsely : Prop := fnExactConfOkRow.holds Try.pinned (OpenSpec.ofChange fnExactConfOkWrong)

/-- 'laws.FnExactQuorum': WHATEVER THE INPUT: true; the input reads as it did. -/
def fnExactQuorumSpec : ChangeSpec := { name := "fnExactQuorum", fn := fun _ => fun
  | [d1, d2] => { results := [.lit (.bool true)], args := [d1, d2] }
  | _ => none }
def fnExactQuorumRow : OpenClaim := { program := "ytedlgllhaboljaa", sum := "d8b84ccc40f39d7078737473e5b6f53ef6331495154220287d8c40bc29b2528a", func := "loop.example/g00138/laws.FnExactQuorum", spec := "fnExactQuorum", unfollowed := true, recurses := true, apart := false }
def FnExactQuorumSaid : Prop := fnExactQuorumRow.holds Try.pinned (OpenSpec.ofChange fnExactQuorumSpec)

/-- ITS FALSE NEIGHBOUR: 'it returns false'. Refute it at one input. -/
def fnExactQuorumWrong : ChangeSpec := { name := "fnExactQuorum", fn := fun _ => fun
  | [d1, d2] => { results := [.lit (.bool false)], args := [d1, d2] }
  | _ => none }
def FnExactQuorumWrongFalsely : Prop := fnExactQuorumRow.holds Try.pinned (OpenSpec.ofChange fnExactQuorumWrong)

/-- 'laws.FnExactFinish': WHATEVER THE INPUT: true; the input reads as it did. -/
def fnExactFinishSpec : ChangeSpec := { name := "fnExactFinish", fn := fun _ => fun
  | [d] => { results := [.lit (.bool true)], args := [d] }
  | _ => none }
def fnExactFinishRow : OpenClaim := { program := "ytedlgllhaboljaa", sum := "d8b84ccc40f39d7078737473e5b6f53ef6331495154220287d8c40bc29b2528a", func := "loop.example/g00138/laws.FnExactFinish", spec := "fnExactFinish", unfollowed := true, recurses := true, apart := false }
def FnExactFinishSaid : Prop := fnExactFinishRow.holds Try.pinned (OpenSpec.ofChange fnExactFinishSpec)

/-- ITS FALSE NEIGHBOUR: 'it returns false'. Refute it at one input. -/
def fnExactFinishWrong : ChangeSpec := { name := "fnExactFinish", fn := fun _ => fun
  | [d] => { results := [.lit (.bool false)], args := [d] }
  | _ => none }
def FnExactFinishWrongFalsely : Prop := fnExactFinishRow.holds Try.pinned (OpenSpec.ofChange fnExactFinishWrong)

/-- 'laws.FnExactBegin': WHATEVER THE INPUT: true; the input reads as it did. -/
def fnExactBeginSpec : ChangeSpec := { name := "fnExactBegin", fn := fun _ => fun
  | [d1, d2] => { results := [.lit (.bool true)], args := [d1, d2] }
  | _ => none }
def fnExactBeginRow : OpenClaim := { program := "ytedlgllhaboljaa", sum := "d8b84ccc40f39d7078737473e5b6f53ef6331495154220287d8c40bc29b2528a", func := "loop.example/g00138/laws.FnExactBegin", spec := "fnExactBegin", unfollowed := true, recurses := true, apart := false }
def FnExactBeginSaid : Prop := fnExactBeginRow.holds Try.pinned (OpenSpec.ofChange fnExactBeginSpec)

/-- ITS FALSE NEIGHBOUR: 'it returns false'. Refute it at one input. -/
def fnExactBeginWrong : ChangeSpec := { name := "fnExactBegin", fn := fun _ => fun
  | [d1, d2] => { results := [.lit (.bool false)], args := [d1, d2] }
  | _ => none }
def FnExactBeginWrongFalsely : Prop := fnExactBeginRow.holds Try.pinned (OpenSpec.ofChange fnExactBeginWrong)

/-- 'laws.FnExactCommitOf': WHATEVER THE INPUT: true; the input reads as it did. -/
def fnExactCommitOfSpec : ChangeSpec := { name := "fnExactCommitOf", fn := fun _ => fun
  | [d1, d2] => { results := [.lit (.bool true)], args := [d1, d2] }
  | _ => none }
def fnExactCommitOfRow : OpenClaim := { program := "ytedlgllhaboljaa", sum := "d8b84ccc40f39d7078737473e5b6f53ef6331495154220287d8c40bc29b2528a", func := "loop.example/g00138/laws.FnExactCommitOf", spec := "fnExactCommitOf", unfollowed := true, recurses := true, apart := false }
def FnExactCommitOfSaid : Prop := fnExactCommitOfRow.holds Try.pinned (OpenSpec.ofChange fnExactCommitOfSpec)

/-- ITS FALSE NEIGHBOUR: 'it returns false'. Refute it at one input. -/
def fnExactCommitOfWrong : ChangeSpec := { name := "fnExactCommitOf", fn := fun _ => fun
  | [d1, d2] => { results := [.lit (.bool false)], args := [d1, d2] }
  | _ => none }
def FnExactCommitOfWrongFalsely : Prop := fnExactCommitOfRow.holds Try.pinned (OpenSpec.ofChange fnExactCommitOfWrong)

/- THE SECOND FORM. 'bulk': how many values and letters a reading holds, each counted each time it is reached (what is shared counts as often as it is met; a slice's spare places count too). A statement '..UptoSaid' is the law's where the arguments, and the package variables that the reading takes, are together of bulk at most 1048576: NARROWER than '..Said'. Prove '..Said' where nothing that the law and all that it calls make is longer than what came in: it says more and counts as full. Else prove '..UptoSaid'. A law counts once. -/
mutual
def uptoBulk {H : Type} : DataW H → Nat
  | .lit (.string bytes) => bytes.length + 1
  | .lit _ => 1
  | .nil => 1
  | .ptr d => uptoBulk d + 1
  | .slice elems spare => uptoBulkAll elems + uptoBulkAll spare + 1
  | .agg parts => uptoBulkAll parts + 1
  | .iface _ d => uptoBulk d + 1
  | .map entries => uptoBulkEntries entries + 1
  | .held _ => 1
def uptoBulkAll {H : Type} : List (DataW H) → Nat
  | [] => 0
  | d :: r => uptoBulk d + uptoBulkAll r
def uptoBulkEntries {H : Type} : List (Lit × DataW H) → Nat
  | [] => 0
  | x :: r => uptoBulkEntry x + uptoBulkEntries r
def uptoBulkEntry {H : Type} : Lit × DataW H → Nat
  | (.string bytes, d) => bytes.length + uptoBulk d + 1
  | (_, d) => uptoBulk d + 1
 end
def uptoSmall : (H : Type) → List (DataW H) → Bool := fun _ ds => decide (uptoBulkAll ds ≤ 1048576)
def OpenSpec.upto (s : _root_.Go.ChangeSpec) : _root_.Go.OpenSpec := { _root_.Go.OpenSpec.ofChange s with cond := some uptoSmall }

/-- 'laws.FnExactConfOk', WHERE WHAT IT READS IS OF BULK AT MOST 1048576: true; the input reads as it did. -/
def fnExactConfOkUptoRow : OpenClaim := { program := "ytedlgllhaboljaa", sum := "d8b84ccc40f39d7078737473e5b6f53ef6331495154220287d8c40bc29b2528a", func := "loop.example/g00138/laws.FnExactConfOk", spec := "fnExactConfOk", unfollowed := true, recurses := true, apart := false, narrowed := true }
def FnExactConfOkUptoSaid : Prop := fnExactConfOkUptoRow.holds Try.pinned (OpenSpec.upto fnExactConfOkSpec)

/-- 'laws.FnExactQuorum', WHERE WHAT IT READS IS OF BULK AT MOST 1048576: true; the input reads as it did. -/
def fnExactQuorumUptoRow : OpenClaim := { program := "ytedlgllhaboljaa", sum := "d8b84ccc40f39d7078737473e5b6f53ef6331495154220287d8c40bc29b2528a", func := "loop.example/g00138/laws.FnExactQuorum", spec := "fnExactQuorum", unfollowed := true, recurses := true, apart := false, narrowed := true }
def FnExactQuorumUptoSaid : Prop := fnExactQuorumUptoRow.holds Try.pinned (OpenSpec.upto fnExactQuorumSpec)

/-- 'laws.FnExactFinish', WHERE WHAT IT READS IS OF BULK AT MOST 1048576: true; the input reads as it did. -/
def fnExactFinishUptoRow : OpenClaim := { program := "ytedlgllhaboljaa", sum := "d8b84ccc40f39d7078737473e5b6f53ef6331495154220287d8c40bc29b2528a", func := "loop.example/g00138/laws.FnExactFinish", spec := "fnExactFinish", unfollowed := true, recurses := true, apart := false, narrowed := true }
def FnExactFinishUptoSaid : Prop := fnExactFinishUptoRow.holds Try.pinned (OpenSpec.upto fnExactFinishSpec)

/-- 'laws.FnExactBegin', WHERE WHAT IT READS IS OF BULK AT MOST 1048576: true; the input reads as it did. -/
def fnExactBeginUptoRow : OpenClaim := { program := "ytedlgllhaboljaa", sum := "d8b84ccc40f39d7078737473e5b6f53ef6331495154220287d8c40bc29b2528a", func := "loop.example/g00138/laws.FnExactBegin", spec := "fnExactBegin", unfollowed := true, recurses := true, apart := false, narrowed := true }
def FnExactBeginUptoSaid : Prop := fnExactBeginUptoRow.holds Try.pinned (OpenSpec.upto fnExactBeginSpec)

/-- 'laws.FnExactCommitOf', WHERE WHAT IT READS IS OF BULK AT MOST 1048576: true; the input reads as it did. -/
def fnExactCommitOfUptoRow : OpenClaim := { program := "ytedlgllhaboljaa", sum := "d8b84ccc40f39d7078737473e5b6f53ef6331495154220287d8c40bc29b2528a", func := "loop.example/g00138/laws.FnExactCommitOf", spec := "fnExactCommitOf", unfollowed := true, recurses := true, apart := false, narrowed := true }
def FnExactCommitOfUptoSaid : Prop := fnExactCommitOfUptoRow.holds Try.pinned (OpenSpec.upto fnExactCommitOfSpec)

end Rows
end Go.Proofs.Ytedlgllhaboljaa
