/- The Go law FnExactAppendTo answers true at every input: the last of the merged texts, with the row. -/
import Derived.Test.YtalbkbmnjpameaaRows
import Derived.Test.YtalbkbmnjpameaaQFnExactAppendTo25
import Derived.Test.YtalbkbmnjpameaaQFnExactAppendTo26
import Derived.WalkKit
import Derived.ProofKit
import Derived.OpenShut
import Derived.ShutString
import Derived.ChangeOld
import Derived.Below
import Derived.SizedLaws
import Derived.Test.YtalbkbmnjpameaaVFnExactAppendToSized
namespace Go.Proofs.Ytalbkbmnjpameaa.fnExactAppendTo
open Go.ChangeShapes Go.WideShapes Go.ChangeAt Go.RowKit
open Go.ChangeMaps (open_string shut_string)
open Go.Proofs.Ytalbkbmnjpameaa.Opens Go.Proofs.Ytalbkbmnjpameaa.F Go.Proofs.YtalbkbmnjpameaaW.PrintWords
set_option linter.unusedVariables false
theorem own : ownKnob Try.prog.godebug = none := by kernel_rfl
theorem laidOut : laidOutB Try.prog = true := by kernel_rfl
set_option maxHeartbeats 1000000 in
set_option maxRecDepth 100000 in
theorem lifted (os : Os) (started : os.Started) (H : Type) (enc : TypeId × Value → H) :
    ReturnsInHanded {} Try.checked os 10 .any (Rows.fnExactAppendToSpec.pre6 enc Try.prog Try.f10 Rows.fnExactAppendToRow.domain false) (Rows.fnExactAppendToSpec.post enc Try.prog Try.f10 false true false false) := by
  refine returnsInHanded_of_change_sized (C := Try.checked) own started (by kernel_rfl) Try.func10
    (ChangeSpec.witness6 (enc := enc) (C := Try.checked) false ⟨#[], #[.agg #[.int .i64 0, .int .i64 0, .slice none 0 0], .int .i64 0, .int .i64 0, .slice none 0 0], []⟩ 8 (by kernel_rfl) (by kernel_rfl) (by kernel_rfl) (by kernel_rfl)) ?_
  intro W base args ds gs before hval0 hW hcnd hsz0 _
  have hval : ∀ (j : Nat) t v, Try.f10.params[j]? = some t → args[j]? = some v → Value.okWide Try.prog W .any base t v := hval0
  have hW' := hW
  obtain ⟨p, q, hA0, hV, rfl, hfz, hnd⟩ := hW
  have hA : DataW.TrodAll enc Try.prog W 0 (fun _ => true) true Try.f10.params.toList args.toList ds p := hA0
  rw [Try.params10] at hA hval
  obtain ⟨v0, vs0, d0, ds0, p0, q0, hargs, rfl, rfl, h0, r0⟩ := trodAll_cons hA
  obtain ⟨v1, vs1, d1, ds1, p1, q1, rfl, rfl, rfl, h1, r1⟩ := trodAll_cons r0
  obtain ⟨v2, vs2, d2, ds2, p2, q2, rfl, rfl, rfl, h2, r2⟩ := trodAll_cons r1
  obtain ⟨v3, vs3, d3, ds3, p3, q3, rfl, rfl, rfl, h3, r3⟩ := trodAll_cons r2
  obtain ⟨rfl, rfl, rfl⟩ := trodAll_nil r3
  obtain rfl : args = #[v0, v1, v2, v3] := by cases args; simp_all
  obtain ⟨rfl, rfl⟩ := trodVars_none hV
  obtain ⟨cs0, rfl, hsz0⟩ := okWide_struct Try.underlying24 (hval 0 24 v0 rfl rfl)
  have k0 := h0
  have lt0 : ∀ x ∈ p0, x.block < W.heap.size := by obtain ⟨m, hm⟩ := k0; exact DataW.trod_lt m _ _ _ hm
  obtain ⟨fu0, hf0⟩ := h0
  obtain ⟨⟨a0_0, a0_1, l0_2⟩, ⟨_, _, hcs0, rfl, _, _, rfl, rfl, ⟨A0_2, c0_2, rfl, hc0_2, hr0_2⟩⟩, hw0_0, hw0_1, hw0_2⟩ := (opens_struct Try.underlying24 (by kernel_rfl) (opens_field rfl (opens_int Try.underlying3 (by kernel_rfl)) (opens_field rfl (opens_int Try.underlying3 (by kernel_rfl)) (opens_last rfl (opens_slice Try.underlying22 (by kernel_rfl) (show Opens _ 64 k64 _ from opens_iso (fun x : S64 => (x.f0, x.f1)) (fun p => ⟨p.1, p.2⟩) (fun _ => rfl) (opens_struct Try.underlying64 (by kernel_rfl) (opens_field rfl (opens_int Try.underlying3 (by kernel_rfl)) (opens_last rfl (opens_string Try.underlying9 (by kernel_rfl))))))))))).2 _ _ _ _ _ _ _ hf0
  obtain rfl : cs0 = #[.int .i64 a0_0, .int .i64 a0_1, .slice A0_2 l0_2.length c0_2] := by
    cases cs0
    simpa [Value.cells] using hcs0
  obtain ⟨a1, rfl, rfl, rfl, hw1⟩ := open_int Try.underlying3 (hval 1 3 v1 rfl rfl) h1
  obtain ⟨a2, rfl, rfl, rfl, hw2⟩ := open_int Try.underlying3 (hval 2 3 v2 rfl rfl) h2
  obtain ⟨a3, len3, cap3, rfl⟩ := okWide_slice Try.underlying22 (hval 3 22 v3 rfl rfl)
  have k3 := h3
  have lt3 : ∀ x ∈ p3, x.block < W.heap.size := by obtain ⟨m, hm⟩ := k3; exact DataW.trod_lt m _ _ _ hm
  obtain ⟨fu3, hf3⟩ := h3
  obtain ⟨l3, ⟨A3, c3, hcs3, hc3, hr3⟩, hw3⟩ := ((opens_slice Try.underlying22 (by kernel_rfl) (show Opens _ 64 k64 _ from opens_iso (fun x : S64 => (x.f0, x.f1)) (fun p => ⟨p.1, p.2⟩) (fun _ => rfl) (opens_struct Try.underlying64 (by kernel_rfl) (opens_field rfl (opens_int Try.underlying3 (by kernel_rfl)) (opens_last rfl (opens_string Try.underlying9 (by kernel_rfl)))))))).2 _ _ _ _ _ _ _ hf3
  simp [Value.cells] at hcs3
  obtain ⟨rfl, rfl, rfl⟩ := hcs3
  clear hA0 hval0 hsz0
  obtain ⟨k, h⟩ := (Pure.FnExactAppendTo : _) a0_0 a0_1 l0_2 a1 a2 l3 hw0_0 hw0_1 hw0_2 hw1 hw2 hw3
  refine (laws_FnExactAppendTo.calls k a0_0 a0_1 _ _ l0_2 a1 a2 _ _ l3 true W hr0_2 hc0_2 hr3 hc3 h).mono fun e W' ⟨he, bel⟩ => ?_
  subst he
  exact ⟨_, rfl, _, _, _, [], _, [], hW', trodAll_mk1 (shut_bool Try.underlying4 _), (trodAll_cons_mk (Below.trod laidOut (by kernel_rfl) (of_decide_eq_true (by kernel_rfl)) k0 bel lt0) (trodAll_cons_mk (shut_int Try.underlying3 hw1) (trodAll_cons_mk (shut_int Try.underlying3 hw2) (trodAll_cons_mk (Below.trod laidOut (by kernel_rfl) (of_decide_eq_true (by kernel_rfl)) k3 bel lt3) trodAll_mk0)))), rfl, bel.frame _, fun h => by cases h⟩
theorem over : Rows.fnExactAppendToRow.holds Try.pinned (OpenSpec.ofChange Rows.fnExactAppendToSpec) :=
  OpenClaim.holds_of_wide 10 Try.f10 rfl rfl rfl rfl rfl rfl rfl ⟨rfl, rfl, rfl, rfl, rfl⟩ rfl rfl rfl rfl rfl (by kernel_rfl) Try.func10 (by kernel_rfl)
    (of_decide_eq_true (by kernel_rfl)) (by unfold Func.isWrapper; first | (rw [if_pos (by decide +kernel)]; kernel_rfl) | (rw [if_neg (by decide +kernel)]; exact ⟨rfl, rfl⟩))
    (fun os started H enc _ => lifted os started H enc)
theorem proved : Rows.FnExactAppendToSaid := over
#print axioms proved
end Go.Proofs.Ytalbkbmnjpameaa.fnExactAppendTo
namespace Go.Proofs.Ytalbkbmnjpameaa
theorem fnExactAppendTo_holds : Rows.FnExactAppendToSaid := fnExactAppendTo.proved
end Go.Proofs.Ytalbkbmnjpameaa
