/- The Go law FnExactPlayDisk answers true at every input: the last of the merged texts, with the row. -/
import Derived.Test.YtmgeffgcihfpcaaDoorRows
import Derived.Test.YtmgeffgcihfpcaaDoorQFnExactPlayDisk29
import Derived.Test.YtmgeffgcihfpcaaDoorTie
import Derived.Test.YtmgeffgcihfpcaaDoorCards
import Derived.LaidMore
import Derived.Lay
import Derived.Stop.Joined
import Derived.SevenTiedAt
import Derived.WalkKit
import Derived.ProofKit
import Derived.OpenShut
import Derived.ShutString
import Derived.ChangeOld
import Derived.Below
import Derived.SizedLaws
import Derived.Test.YtmgeffgcihfpcaaDoorVFnExactPlayDiskSized
namespace Go.Proofs.YtmgeffgcihfpcaaDoor.fnExactPlayDisk
open Go.ChangeShapes Go.WideShapes Go.ChangeAt Go.RowKit
open Go.ChangeMaps (open_string shut_string)
open Go.Proofs.YtmgeffgcihfpcaaDoor.Opens Go.Proofs.YtmgeffgcihfpcaaDoor.F Go.Proofs.YtmgeffgcihfpcaaDoorW.PrintWords
set_option linter.unusedVariables false
theorem own : ownKnob Tryd.prog.godebug = none := by kernel_rfl
theorem laidOut : laidOutB Tryd.prog = true := by kernel_rfl
set_option maxHeartbeats 1000000 in
set_option maxRecDepth 100000 in
theorem lifted (os : Os) (started : os.Started) (H : Type) (enc : TypeId × Value → H) :
    ReturnsInHanded {} Tryd.checked os 11 .any (fun w args => (Rows.fnExactPlayDiskSpec.pre enc Tryd.prog Tryd.f11 Rows.fnExactPlayDiskRow.domain false w args ∧ laidMetH Tryd.prog Rows.fnExactPlayDiskRow.laid w) ∧ sizedMet enc Tryd.prog Tryd.f11 (OpenSpec.ofChange Rows.fnExactPlayDiskSpec) false w args)
      (Rows.fnExactPlayDiskSpec.post enc Tryd.prog Tryd.f11 false true false false) := by
  refine returnsInHanded_of_change_and (C := Tryd.checked) (X := fun w _ => laidMetH Tryd.prog Rows.fnExactPlayDiskRow.laid w) (fun _ _ _ hh h => h.of_heap hh) own started (by kernel_rfl) Tryd.func11
    (ChangeSpec.witness_shaped (enc := enc) (C := Tryd.checked) (os := os) (X := fun w _ => laidMetH Tryd.prog Rows.fnExactPlayDiskRow.laid w) false (World.laidAll Tryd.prog os Rows.fnExactPlayDiskRow.laid) #[.agg #[.slice none 0 0], .slice none 0 0] 8 (World.laidAll_os _ _ _)
      (World.shaped_of_ZipB (by kernel_rfl) (by kernel_rfl)) (by kernel_rfl) (by kernel_rfl) (by kernel_rfl)
      (by rw [MakeChecks.laidMetH_plain _ _ _ (by kernel_rfl)]; exact laidMet_laidAll _ (by kernel_rfl) (by kernel_rfl))) ?_
  intro W base args ds gs before hval0 hW hcnd hsz0 hL _
  have hval : ∀ (j : Nat) t v, Tryd.f11.params[j]? = some t → args[j]? = some v → Value.okWide Tryd.prog W .any base t v := hval0
  have hW' := hW
  obtain ⟨p, q, hA0, hV, rfl, hfz, hnd⟩ := hW
  have hA : DataW.TrodAll enc Tryd.prog W 0 (fun _ => true) true Tryd.f11.params.toList args.toList ds p := hA0
  rw [Tryd.params11] at hA hval
  obtain ⟨v0, vs0, d0, ds0, p0, q0, hargs, rfl, rfl, h0, r0⟩ := trodAll_cons hA
  obtain ⟨v1, vs1, d1, ds1, p1, q1, rfl, rfl, rfl, h1, r1⟩ := trodAll_cons r0
  obtain ⟨rfl, rfl, rfl⟩ := trodAll_nil r1
  obtain rfl : args = #[v0, v1] := by cases args; simp_all
  obtain ⟨rfl, rfl⟩ := trodVars_none hV
  obtain ⟨cs0, rfl, hsz0⟩ := okWide_struct Tryd.underlying24 (hval 0 24 v0 rfl rfl)
  have k0 := h0
  have lt0 : ∀ x ∈ p0, x.block < W.heap.size := by obtain ⟨m, hm⟩ := k0; exact DataW.trod_lt m _ _ _ hm
  obtain ⟨fu0, hf0⟩ := h0
  obtain ⟨l0_0, ⟨A0_0, c0_0, hcs0, hc0_0, hr0_0⟩, hw0_0⟩ := (opens_struct Tryd.underlying24 (by kernel_rfl) (opens_last rfl (opens_slice Tryd.underlying22 (by kernel_rfl) (show Opens _ 101 k101 _ from opens_iso (fun x : S101 => (x.f0, x.f1, x.f2)) (fun p => ⟨p.1, p.2.1, p.2.2⟩) (fun _ => rfl) (opens_struct Tryd.underlying101 (by kernel_rfl) (opens_field rfl (opens_string Tryd.underlying9 (by kernel_rfl)) (opens_field rfl (opens_slice Tryd.underlying33 (by kernel_rfl) (opens_int Tryd.underlying5 (by kernel_rfl))) (opens_last rfl (opens_slice Tryd.underlying33 (by kernel_rfl) (opens_int Tryd.underlying5 (by kernel_rfl))))))))))).2 _ _ _ _ _ _ _ hf0
  obtain rfl : cs0 = #[.slice A0_0 l0_0.length c0_0] := by
    cases cs0
    simpa [Value.cells] using hcs0
  obtain ⟨a1, len1, cap1, rfl⟩ := okWide_slice Tryd.underlying55 (hval 1 55 v1 rfl rfl)
  have k1 := h1
  have lt1 : ∀ x ∈ p1, x.block < W.heap.size := by obtain ⟨m, hm⟩ := k1; exact DataW.trod_lt m _ _ _ hm
  obtain ⟨fu1, hf1⟩ := h1
  obtain ⟨l1, ⟨A1, c1, hcs1, hc1, hr1⟩, hw1⟩ := ((opens_slice Tryd.underlying55 (by kernel_rfl) (show Opens _ 90 k90 _ from opens_iso (fun x : S90 => (x.f0, x.f1, x.f2, x.f3, x.f4)) (fun p => ⟨p.1, p.2.1, p.2.2.1, p.2.2.2.1, p.2.2.2.2⟩) (fun _ => rfl) (opens_struct Tryd.underlying90 (by kernel_rfl) (opens_field rfl (opens_int Tryd.underlying3 (by kernel_rfl)) (opens_field rfl (opens_string Tryd.underlying9 (by kernel_rfl)) (opens_field rfl (opens_string Tryd.underlying9 (by kernel_rfl)) (opens_field rfl (opens_slice Tryd.underlying33 (by kernel_rfl) (opens_int Tryd.underlying5 (by kernel_rfl))) (opens_last rfl (opens_int Tryd.underlying3 (by kernel_rfl))))))))))).2 _ _ _ _ _ _ _ hf1
  simp [Value.cells] at hcs1
  obtain ⟨rfl, rfl, rfl⟩ := hcs1
  clear hA0 hval0
  obtain ⟨k, h⟩ := (Pure.FnExactPlayDisk : _) l0_0 l1 hw0_0 hw1
  refine (laws_FnExactPlayDisk.calls k _ _ l0_0 _ _ l1 true W hr0_0 hc0_0 hr1 hc1 h).mono fun e W' ⟨he, bel⟩ => ?_
  subst he
  exact ⟨_, rfl, _, _, _, [], _, [], hW', trodAll_mk1 (shut_bool Tryd.underlying4 _), (trodAll_cons_mk (Below.trod laidOut (by kernel_rfl) (of_decide_eq_true (by kernel_rfl)) k0 bel lt0) (trodAll_cons_mk (Below.trod laidOut (by kernel_rfl) (of_decide_eq_true (by kernel_rfl)) k1 bel lt1) trodAll_mk0)), rfl, bel.frame _, fun h => by cases h⟩
theorem over : Rows.fnExactPlayDiskRow.holds Tryd.pinned (OpenSpec.ofChange Rows.fnExactPlayDiskSpec) :=
  OpenClaim.holds_of_wide 11 Tryd.f11 rfl rfl rfl rfl rfl rfl rfl ⟨rfl, rfl, rfl, rfl, rfl⟩ rfl rfl rfl rfl rfl (by kernel_rfl) Tryd.func11 (by kernel_rfl)
    (of_decide_eq_true (by kernel_rfl)) (by unfold Func.isWrapper; first | (rw [if_pos (by decide +kernel)]; kernel_rfl) | (rw [if_neg (by decide +kernel)]; exact ⟨rfl, rfl⟩))
    (fun os started H enc _ => lifted os started H enc)
theorem card : Rows.FnExactPlayDiskCardSaid :=
  Claim7.holds_tied_plain_at .later [] [.data, .pinned] true (true, "0d237fb825eb718256397f307b5ffec76eaf7c8950bef828907dadf65337cff5") false over (fun _ h => by cases h) (by kernel_rfl) (fun _ h => by cases h) fnExactPlayDisk_row_tie rfl ⟨rfl, rfl⟩ (by kernel_rfl) rfl
    (fun f fn hf hfn => by
      obtain rfl : f = 11 := Option.some.inj ((show Tryd.prog.funcNamed "loop.example/g00138/laws.FnExactPlayDisk" = some 11 by kernel_rfl).symm.trans hf) |>.symm
      obtain rfl : fn = Tryd.f11 := (Option.some.inj (Tryd.func11.symm.trans hfn)).symm
      exact ⟨by kernel_rfl, fun j t ht => by
        rw [Tryd.params11] at ht
        have hm : t ∈ [24, 55] := by simpa using Array.mem_of_getElem? ht
        have hall : ([24, 55].all fun u => !Tryd.prog.wantsStandIn u) = true := by kernel_rfl
        exact (show Tryd.prog.wantsStandIn t = false by simpa using List.all_eq_true.1 hall t hm)⟩)
    (by kernel_rfl)
#print axioms card
end Go.Proofs.YtmgeffgcihfpcaaDoor.fnExactPlayDisk
namespace Go.Proofs.YtmgeffgcihfpcaaDoor
theorem fnExactPlayDisk_card : Rows.FnExactPlayDiskCardSaid := fnExactPlayDisk.card
end Go.Proofs.YtmgeffgcihfpcaaDoor
