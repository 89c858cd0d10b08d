/-
  No cell of these rows narrows 'for every input' (looked for: loops, veiled, ifaces, maps, wideKeys, modest, calm, conditions, laid).
  DERIVED. THE GIVEN ROWS OF THIS SEAT. 10 by the template 'for every input the law returns true; each argument reads behind the call as it read before'; 0 by the template 'total and deterministic' (their statements: YtgdebfaoohjikaaTotals.lean).
  GIVEN WITH THE SEED: the statements are not yours to turn. If you find one false, say at which input.
  Laid BY PROGRAM, IN A SANDBOX (cutbox-rows.mjs): the forced cells as the released guide's own fill.sh prints them over the translation e0a8e528003b79b4… (all of the seat's roots in one cut). By AI agents, Wed Nov 11 2026. No macro, syntax, notation, axiom, sorry.
-/
import Derived.Test.YtgdebfaoohjikaaChecked
import GoSem.Claim
import GoSem.ClaimJoined
import GoSem.ClaimMapViews
import Derived.JoinedTies
import Derived.KernelRfl
namespace Go.Proofs.Ytgdebfaoohjikaa
/- THE CELL 'sum', in the pinned program and in every row, IS THE sha256 OF THE DUMP (.gsa) THAT YtgdebfaoohjikaaProg.lean LOADS. Nothing in Lean hashes anything: it is a label: what it is worth is what the hold of that sum in a sandbox is worth. -/
noncomputable def Try.pinned : Pinned := { name := "ytgdebfaoohjikaa", sum := "e0a8e528003b79b42d772d8e4316b8a30c67fadc6e6b9c56baf4e959d1843740", checked := Try.checked }
namespace Rows
def none {H : Type} : Left H := { results := [], args := [] }

/-- 'laws.FnExactConstants': WHATEVER THE INPUT: true; the input reads as it did. -/
def fnExactConstantsSpec : ChangeSpec := { name := "fnExactConstants", fn := fun _ => fun
  | [] => { results := [.lit (.bool true)], args := [] }
  | _ => none }
def fnExactConstantsRow : OpenClaim := { program := "ytgdebfaoohjikaa", sum := "e0a8e528003b79b42d772d8e4316b8a30c67fadc6e6b9c56baf4e959d1843740", func := "loop.example/g00138/laws.FnExactConstants", spec := "fnExactConstants", apart := false }
def FnExactConstantsSaid : Prop := fnExactConstantsRow.holds Try.pinned (OpenSpec.ofChange fnExactConstantsSpec)

/-- ITS FALSE NEIGHBOUR: 'it returns false'. Refute it at one input. -/
def fnExactConstantsWrong : ChangeSpec := { name := "fnExactConstants", fn := fun _ => fun
  | [] => { results := [.lit (.bool false)], args := [] }
  | _ => none }
def FnExactConstantsWrongFalsely : Prop := fnExactConstantsRow.holds Try.pinned (OpenSpec.ofChange fnExactConstantsWrong)

/-- 'laws.FnExactPutVar': WHATEVER THE INPUT: true; the input reads as it did. -/
def fnExactPutVarSpec : ChangeSpec := { name := "fnExactPutVar", fn := fun _ => fun
  | [d] => { results := [.lit (.bool true)], args := [d] }
  | _ => none }
def fnExactPutVarRow : OpenClaim := { program := "ytgdebfaoohjikaa", sum := "e0a8e528003b79b42d772d8e4316b8a30c67fadc6e6b9c56baf4e959d1843740", func := "loop.example/g00138/laws.FnExactPutVar", spec := "fnExactPutVar", apart := false }
def FnExactPutVarSaid : Prop := fnExactPutVarRow.holds Try.pinned (OpenSpec.ofChange fnExactPutVarSpec)

/-- ITS FALSE NEIGHBOUR: 'it returns false'. Refute it at one input. -/
def fnExactPutVarWrong : ChangeSpec := { name := "fnExactPutVar", fn := fun _ => fun
  | [d] => { results := [.lit (.bool false)], args := [d] }
  | _ => none }
def FnExactPutVarWrongFalsely : Prop := fnExactPutVarRow.holds Try.pinned (OpenSpec.ofChange fnExactPutVarWrong)

/-- 'laws.FnExactGetVar': WHATEVER THE INPUT: true; the input reads as it did. -/
def fnExactGetVarSpec : ChangeSpec := { name := "fnExactGetVar", fn := fun _ => fun
  | [d1, d2] => { results := [.lit (.bool true)], args := [d1, d2] }
  | _ => none }
def fnExactGetVarRow : OpenClaim := { program := "ytgdebfaoohjikaa", sum := "e0a8e528003b79b42d772d8e4316b8a30c67fadc6e6b9c56baf4e959d1843740", func := "loop.example/g00138/laws.FnExactGetVar", spec := "fnExactGetVar", apart := false }
def FnExactGetVarSaid : Prop := fnExactGetVarRow.holds Try.pinned (OpenSpec.ofChange fnExactGetVarSpec)

/-- ITS FALSE NEIGHBOUR: 'it returns false'. Refute it at one input. -/
def fnExactGetVarWrong : ChangeSpec := { name := "fnExactGetVar", fn := fun _ => fun
  | [d1, d2] => { results := [.lit (.bool false)], args := [d1, d2] }
  | _ => none }
def FnExactGetVarWrongFalsely : Prop := fnExactGetVarRow.holds Try.pinned (OpenSpec.ofChange fnExactGetVarWrong)

/-- 'laws.FnVars': WHATEVER THE INPUT: true; the input reads as it did. -/
def fnVarsSpec : ChangeSpec := { name := "fnVars", fn := fun _ => fun
  | [d] => { results := [.lit (.bool true)], args := [d] }
  | _ => none }
def fnVarsRow : OpenClaim := { program := "ytgdebfaoohjikaa", sum := "e0a8e528003b79b42d772d8e4316b8a30c67fadc6e6b9c56baf4e959d1843740", func := "loop.example/g00138/laws.FnVars", spec := "fnVars", apart := false }
def FnVarsSaid : Prop := fnVarsRow.holds Try.pinned (OpenSpec.ofChange fnVarsSpec)

/-- ITS FALSE NEIGHBOUR: 'it returns false'. Refute it at one input. -/
def fnVarsWrong : ChangeSpec := { name := "fnVars", fn := fun _ => fun
  | [d] => { results := [.lit (.bool false)], args := [d] }
  | _ => none }
def FnVarsWrongFalsely : Prop := fnVarsRow.holds Try.pinned (OpenSpec.ofChange fnVarsWrong)

/-- 'laws.FnExactRecordOk': WHATEVER THE INPUT: true; the input reads as it did. -/
def fnExactRecordOkSpec : ChangeSpec := { name := "fnExactRecordOk", fn := fun _ => fun
  | [d] => { results := [.lit (.bool true)], args := [d] }
  | _ => none }
def fnExactRecordOkRow : OpenClaim := { program := "ytgdebfaoohjikaa", sum := "e0a8e528003b79b42d772d8e4316b8a30c67fadc6e6b9c56baf4e959d1843740", func := "loop.example/g00138/laws.FnExactRecordOk", spec := "fnExactRecordOk", unfollowed := true, recurses := true, apart := false }
def FnExactRecordOkSaid : Prop := fnExactRecordOkRow.holds Try.pinned (OpenSpec.ofChange fnExactRecordOkSpec)

/-- ITS FALSE NEIGHBOUR: 'it returns false'. Refute it at one input. -/
def fnExactRecordOkWrong : ChangeSpec := { name := "fnExactRecordOk", fn := fun _ => fun
  | [d] => { results := [.lit (.bool false)], args := [d] }
  | _ => none }
def FnExactRecordOkWrongFalsely : Prop := fnExactRecordOkRow.holds Try.pinned (OpenSpec.ofChange fnExactRecordOkWrong)

/-- 'laws.FnExactEncode': WHATEVER THE INPUT: true; the input reads as it did. -/
def fnExactEncodeSpec : ChangeSpec := { name := "fnExactEncode", fn := fun _ => fun
  | [d] => { results := [.lit (.bool true)], args := [d] }
  | _ => none }
def fnExactEncodeRow : OpenClaim := { program := "ytgdebfaoohjikaa", sum := "e0a8e528003b79b42d772d8e4316b8a30c67fadc6e6b9c56baf4e959d1843740", func := "loop.example/g00138/laws.FnExactEncode", spec := "fnExactEncode", unfollowed := true, recurses := true, apart := false }
def FnExactEncodeSaid : Prop := fnExactEncodeRow.holds Try.pinned (OpenSpec.ofChange fnExactEncodeSpec)

/-- ITS FALSE NEIGHBOUR: 'it returns false'. Refute it at one input. -/
def fnExactEncodeWrong : ChangeSpec := { name := "fnExactEncode", fn := fun _ => fun
  | [d] => { results := [.lit (.bool false)], args := [d] }
  | _ => none }
def FnExactEncodeWrongFalsely : Prop := fnExactEncodeRow.holds Try.pinned (OpenSpec.ofChange fnExactEncodeWrong)

/-- 'laws.FnExactDecode': WHATEVER THE INPUT: true; the input reads as it did. -/
def fnExactDecodeSpec : ChangeSpec := { name := "fnExactDecode", fn := fun _ => fun
  | [d] => { results := [.lit (.bool true)], args := [d] }
  | _ => none }
def fnExactDecodeRow : OpenClaim := { program := "ytgdebfaoohjikaa", sum := "e0a8e528003b79b42d772d8e4316b8a30c67fadc6e6b9c56baf4e959d1843740", func := "loop.example/g00138/laws.FnExactDecode", spec := "fnExactDecode", unfollowed := true, recurses := true, apart := false }
def FnExactDecodeSaid : Prop := fnExactDecodeRow.holds Try.pinned (OpenSpec.ofChange fnExactDecodeSpec)

/-- ITS FALSE NEIGHBOUR: 'it returns false'. Refute it at one input. -/
def fnExactDecodeWrong : ChangeSpec := { name := "fnExactDecode", fn := fun _ => fun
  | [d] => { results := [.lit (.bool false)], args := [d] }
  | _ => none }
def FnExactDecodeWrongFalsely : Prop := fnExactDecodeRow.holds Try.pinned (OpenSpec.ofChange fnExactDecodeWrong)

/-- 'laws.FnExactEncodeAll': WHATEVER THE INPUT: true; the input reads as it did. -/
def fnExactEncodeAllSpec : ChangeSpec := { name := "fnExactEncodeAll", fn := fun _ => fun
  | [d] => { results := [.lit (.bool true)], args := [d] }
  | _ => none }
def fnExactEncodeAllRow : OpenClaim := { program := "ytgdebfaoohjikaa", sum := "e0a8e528003b79b42d772d8e4316b8a30c67fadc6e6b9c56baf4e959d1843740", func := "loop.example/g00138/laws.FnExactEncodeAll", spec := "fnExactEncodeAll", unfollowed := true, recurses := true, apart := false }
def FnExactEncodeAllSaid : Prop := fnExactEncodeAllRow.holds Try.pinned (OpenSpec.ofChange fnExactEncodeAllSpec)

/-- ITS FALSE NEIGHBOUR: 'it returns false'. Refute it at one input. -/
def fnExactEncodeAllWrong : ChangeSpec := { name := "fnExactEncodeAll", fn := fun _ => fun
  | [d] => { results := [.lit (.bool false)], args := [d] }
  | _ => none }
def FnExactEncodeAllWrongFalsely : Prop := fnExactEncodeAllRow.holds Try.pinned (OpenSpec.ofChange fnExactEncodeAllWrong)

/-- 'laws.FnExactDecodeAll': WHATEVER THE INPUT: true; the input reads as it did. -/
def fnExactDecodeAllSpec : ChangeSpec := { name := "fnExactDecodeAll", fn := fun _ => fun
  | [d] => { results := [.lit (.bool true)], args := [d] }
  | _ => none }
def fnExactDecodeAllRow : OpenClaim := { program := "ytgdebfaoohjikaa", sum := "e0a8e528003b79b42d772d8e4316b8a30c67fadc6e6b9c56baf4e959d1843740", func := "loop.example/g00138/laws.FnExactDecodeAll", spec := "fnExactDecodeAll", unfollowed := true, recurses := true, apart := false }
def FnExactDecodeAllSaid : Prop := fnExactDecodeAllRow.holds Try.pinned (OpenSpec.ofChange fnExactDecodeAllSpec)

/-- ITS FALSE NEIGHBOUR: 'it returns false'. Refute it at one input. -/
def fnExactDecodeAllWrong : ChangeSpec := { name := "fnExactDecodeAll", fn := fun _ => fun
  | [d] => { results := [.lit (.bool false)], args := [d] }
  | _ => none }
def FnExactDecodeAllWrongFalsely : Prop := fnExactDecodeAllRow.holds Try.pinned (OpenSpec.ofChange fnExactDecodeAllWrong)

/-- 'laws.FnRecords': WHATEVER THE INPUT: true; the input reads as it did. -/
def fnRecordsSpec : ChangeSpec := { name := "fnRecords", fn := fun _ => fun
  | [d] => { results := [.lit (.bool true)], args := [d] }
  | _ => none }
def fnRecordsRow : OpenClaim := { program := "ytgdebfaoohjikaa", sum := "e0a8e528003b79b42d772d8e4316b8a30c67fadc6e6b9c56baf4e959d1843740", func := "loop.example/g00138/laws.FnRecords", spec := "fnRecords", unfollowed := true, recurses := true, apart := false }
def FnRecordsSaid : Prop := fnRecordsRow.holds Try.pinned (OpenSpec.ofChange fnRecordsSpec)

/-- ITS FALSE NEIGHBOUR: 'it returns false'. Refute it at one input. -/
def fnRecordsWrong : ChangeSpec := { name := "fnRecords", fn := fun _ => fun
  | [d] => { results := [.lit (.bool false)], args := [d] }
  | _ => none }
def FnRecordsWrongFalsely : Prop := fnRecordsRow.holds Try.pinned (OpenSpec.ofChange fnRecordsWrong)

/- THE SECOND FORM. 'bulk': how many values and letters a reading holds, each counted each time it is reached (what is shared counts as often as it is met; a slice's spare places count too). A statement '..UptoSaid' is the law's where the arguments, and the package variables that the reading takes, are together of bulk at most 1048576: NARROWER than '..Said'. Prove '..Said' where nothing that the law and all that it calls make is longer than what came in: it says more and counts as full. Else prove '..UptoSaid'. A law counts once. -/
mutual
def uptoBulk {H : Type} : DataW H → Nat
  | .lit (.string bytes) => bytes.length + 1
  | .lit _ => 1
  | .nil => 1
  | .ptr d => uptoBulk d + 1
  | .slice elems spare => uptoBulkAll elems + uptoBulkAll spare + 1
  | .agg parts => uptoBulkAll parts + 1
  | .iface _ d => uptoBulk d + 1
  | .map entries => uptoBulkEntries entries + 1
  | .held _ => 1
def uptoBulkAll {H : Type} : List (DataW H) → Nat
  | [] => 0
  | d :: r => uptoBulk d + uptoBulkAll r
def uptoBulkEntries {H : Type} : List (Lit × DataW H) → Nat
  | [] => 0
  | x :: r => uptoBulkEntry x + uptoBulkEntries r
def uptoBulkEntry {H : Type} : Lit × DataW H → Nat
  | (.string bytes, d) => bytes.length + uptoBulk d + 1
  | (_, d) => uptoBulk d + 1
 end
def uptoSmall : (H : Type) → List (DataW H) → Bool := fun _ ds => decide (uptoBulkAll ds ≤ 1048576)
def OpenSpec.upto (s : _root_.Go.ChangeSpec) : _root_.Go.OpenSpec := { _root_.Go.OpenSpec.ofChange s with cond := some uptoSmall }

/-- 'laws.FnExactConstants', WHERE WHAT IT READS IS OF BULK AT MOST 1048576: true; the input reads as it did. -/
def fnExactConstantsUptoRow : OpenClaim := { program := "ytgdebfaoohjikaa", sum := "e0a8e528003b79b42d772d8e4316b8a30c67fadc6e6b9c56baf4e959d1843740", func := "loop.example/g00138/laws.FnExactConstants", spec := "fnExactConstants", apart := false, narrowed := true }
def FnExactConstantsUptoSaid : Prop := fnExactConstantsUptoRow.holds Try.pinned (OpenSpec.upto fnExactConstantsSpec)

/-- 'laws.FnExactPutVar', WHERE WHAT IT READS IS OF BULK AT MOST 1048576: true; the input reads as it did. -/
def fnExactPutVarUptoRow : OpenClaim := { program := "ytgdebfaoohjikaa", sum := "e0a8e528003b79b42d772d8e4316b8a30c67fadc6e6b9c56baf4e959d1843740", func := "loop.example/g00138/laws.FnExactPutVar", spec := "fnExactPutVar", apart := false, narrowed := true }
def FnExactPutVarUptoSaid : Prop := fnExactPutVarUptoRow.holds Try.pinned (OpenSpec.upto fnExactPutVarSpec)

/-- 'laws.FnExactGetVar', WHERE WHAT IT READS IS OF BULK AT MOST 1048576: true; the input reads as it did. -/
def fnExactGetVarUptoRow : OpenClaim := { program := "ytgdebfaoohjikaa", sum := "e0a8e528003b79b42d772d8e4316b8a30c67fadc6e6b9c56baf4e959d1843740", func := "loop.example/g00138/laws.FnExactGetVar", spec := "fnExactGetVar", apart := false, narrowed := true }
def FnExactGetVarUptoSaid : Prop := fnExactGetVarUptoRow.holds Try.pinned (OpenSpec.upto fnExactGetVarSpec)

/-- 'laws.FnVars', WHERE WHAT IT READS IS OF BULK AT MOST 1048576: true; the input reads as it did. -/
def fnVarsUptoRow : OpenClaim := { program := "ytgdebfaoohjikaa", sum := "e0a8e528003b79b42d772d8e4316b8a30c67fadc6e6b9c56baf4e959d1843740", func := "loop.example/g00138/laws.FnVars", spec := "fnVars", apart := false, narrowed := true }
def FnVarsUptoSaid : Prop := fnVarsUptoRow.holds Try.pinned (OpenSpec.upto fnVarsSpec)

/-- 'laws.FnExactRecordOk', WHERE WHAT IT READS IS OF BULK AT MOST 1048576: true; the input reads as it did. -/
def fnExactRecordOkUptoRow : OpenClaim := { program := "ytgdebfaoohjikaa", sum := "e0a8e528003b79b42d772d8e4316b8a30c67fadc6e6b9c56baf4e959d1843740", func := "loop.example/g00138/laws.FnExactRecordOk", spec := "fnExactRecordOk", unfollowed := true, recurses := true, apart := false, narrowed := true }
def FnExactRecordOkUptoSaid : Prop := fnExactRecordOkUptoRow.holds Try.pinned (OpenSpec.upto fnExactRecordOkSpec)

/-- 'laws.FnExactEncode', WHERE WHAT IT READS IS OF BULK AT MOST 1048576: true; the input reads as it did. -/
def fnExactEncodeUptoRow : OpenClaim := { program := "ytgdebfaoohjikaa", sum := "e0a8e528003b79b42d772d8e4316b8a30c67fadc6e6b9c56baf4e959d1843740", func := "loop.example/g00138/laws.FnExactEncode", spec := "fnExactEncode", unfollowed := true, recurses := true, apart := false, narrowed := true }
def FnExactEncodeUptoSaid : Prop := fnExactEncodeUptoRow.holds Try.pinned (OpenSpec.upto fnExactEncodeSpec)

/-- 'laws.FnExactDecode', WHERE WHAT IT READS IS OF BULK AT MOST 1048576: true; the input reads as it did. -/
def fnExactDecodeUptoRow : OpenClaim := { program := "ytgdebfaoohjikaa", sum := "e0a8e528003b79b42d772d8e4316b8a30c67fadc6e6b9c56baf4e959d1843740", func := "loop.example/g00138/laws.FnExactDecode", spec := "fnExactDecode", unfollowed := true, recurses := true, apart := false, narrowed := true }
def FnExactDecodeUptoSaid : Prop := fnExactDecodeUptoRow.holds Try.pinned (OpenSpec.upto fnExactDecodeSpec)

/-- 'laws.FnExactEncodeAll', WHERE WHAT IT READS IS OF BULK AT MOST 1048576: true; the input reads as it did. -/
def fnExactEncodeAllUptoRow : OpenClaim := { program := "ytgdebfaoohjikaa", sum := "e0a8e528003b79b42d772d8e4316b8a30c67fadc6e6b9c56baf4e959d1843740", func := "loop.example/g00138/laws.FnExactEncodeAll", spec := "fnExactEncodeAll", unfollowed := true, recurses := true, apart := false, narrowed := true }
def FnExactEncodeAllUptoSaid : Prop := fnExactEncodeAllUptoRow.holds Try.pinned (OpenSpec.upto fnExactEncodeAllSpec)

/-- 'laws.FnExactDecodeAll', WHERE WHAT IT READS IS OF BULK AT MOST 1048576: true; the input reads as it did. -/
def fnExactDecodeAllUptoRow : OpenClaim := { program := "ytgdebfaoohjikaa", sum := "e0a8e528003b79b42d772d8e4316b8a30c67fadc6e6b9c56baf4e959d1843740", func := "loop.example/g00138/laws.FnExactDecodeAll", spec := "fnExactDecodeAll", unfollowed := true, recurses := true, apart := false, narrowed := true }
def FnExactDecodeAllUptoSaid : Prop := fnExactDecodeAllUptoRow.holds Try.pinned (OpenSpec.upto fnExactDecodeAllSpec)

/-- 'laws.FnRecords', WHERE WHAT IT READS IS OF BULK AT MOST 1048576: true; the input reads as it did. -/
def fnRecordsUptoRow : OpenClaim := { program := "ytgdebfaoohjikaa", sum := "e0a8e528003b79b42d772d8e4316b8a30c67fadc6e6b9c56baf4e959d1843740", func := "loop.example/g00138/laws.FnRecords", spec := "fnRecords", unfollowed := true, recurses := true, apart := false, narrowed := true }
def FnRecordsUptoSaid : Prop := fnRecordsUptoRow.holds Try.pinned (OpenSpec.upto fnRecordsSpec)

end Rows
end Go.Proofs.Ytgdebfaoohjikaa
