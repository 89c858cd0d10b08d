/- The Go law FnExactCompactTo answers true at every input: the last of the merged texts, with the row. -/
import Derived.Test.YtalbkbmnjpameaaQFnExactCompactTo1
import Derived.Test.YtalbkbmnjpameaaQFnExactCompactTo2
import Derived.Test.YtalbkbmnjpameaaWMore
import Derived.Deep.Slices
import Derived.ChangeSame
import Derived.WideShapes
import Derived.Test.YtalbkbmnjpameaaRows
import Derived.WalkKit
import Derived.ProofKit
import Derived.OpenShut
import Derived.ShutString
import Derived.ChangeOld
import Derived.Below
import Derived.SizedLaws
import Derived.Test.YtalbkbmnjpameaaWSized
namespace Go.Proofs.Ytalbkbmnjpameaa.F
open Go.RowKit Go.Proofs.YtalbkbmnjpameaaW.PrintWords Go.Proofs.YtalbkbmnjpameaaW.PrintLast Go.Proofs.YtalbkbmnjpameaaW.PrintMore
attribute [local go_sem] max2_int min2_int max_two min_two max_three min_three max_four min_four   -- for this text's walks alone
set_option linter.unusedVariables false
set_option linter.unusedSimpArgs false

/-! ### laws_FnExactCompactTo: function 9 -/
mutual
def laws_FnExactCompactTo.j0 : Nat → Int → Bool → Bool → Bool → Int → Int → List (S64) → Int → Int → List (S54) → Int → Int → List (S54) → Int → Int → List (S54) → Option (Bool)
  | 0, _, _, _, _, _, _, _, _, _, _, _, _, _, _, _, _ => none
  | k + 1, x1, x7, x10, x44, x455000, x455001, x455002, x468000, x468001, x468002, x474000, x474001, x474002, x481000, x481001, x481002 => if x44 = true then (none) else ((laws_toRLog.f k x455000 x455001 x455002).bind fun bt482 => ((laws_eqRLog.f k x474000 x474001 x474002 bt482.1 bt482.2.1 bt482.2.2).bind fun t487 => (if t487 = true then ((laws_markRLog.f k x474000 x474001 x474002 1).bind fun bt488 => (if bt488.1 < 0 then (laws_FnExactCompactTo.j1 k x1 x7 true x455000 x455001 x455002 x468000 x468001 x468002 x481000 x481001 x481002) else ((laws_eqRLog.f k x481000 x481001 x481002 x468000 x468001 x468002).bind fun t490 => (if t490 = true then (laws_FnExactCompactTo.j1 k x1 x7 (x10 != x7) x455000 x455001 x455002 x468000 x468001 x468002 x481000 x481001 x481002) else (laws_FnExactCompactTo.j1 k x1 x7 true x455000 x455001 x455002 x468000 x468001 x468002 x481000 x481001 x481002))))) else (none))))
def laws_FnExactCompactTo.j1 : Nat → Int → Bool → Bool → Int → Int → List (S64) → Int → Int → List (S54) → Int → Int → List (S54) → Option (Bool)
  | 0, _, _, _, _, _, _, _, _, _, _, _, _ => none
  | k + 1, x1, x7, x65, x455000, x455001, x455002, x468000, x468001, x468002, x481000, x481001, x481002 => if x65 = true then (none) else ((laws_markRLog.f k x481000 x481001 x481002 1).bind fun bt491 => ((laws_heldRLog.f k x481000 x481001 bt491.2 1).bind fun t493 => (if t493 < 0 then (none) else (if t493 = bt491.1 then ((laws_toRLog.f k x455000 x455001 x455002).bind fun bt494 => ((impl_CompactTo.f k bt494.1 bt494.2.1 bt494.2.2 x1).bind fun bt499 => ((laws_eqRLog.f k bt499.1 bt499.2.1 bt499.2.2.1 x468000 x468001 x468002).bind fun t506 => (if t506 = true then (laws_FnExactCompactTo.j2 k bt491.1 (bt499.2.2.2 != x7) x481000 x481001 bt491.2) else (laws_FnExactCompactTo.j2 k bt491.1 true x481000 x481001 bt491.2))))) else (none)))))
def laws_FnExactCompactTo.j2 : Nat → Int → Bool → Int → Int → List (S54) → Option (Bool)
  | 0, _, _, _, _, _ => none
  | k + 1, x12, x92, x481000, x481001, x481002 => if x92 = true then (none) else ((laws_heldRLog.f k x481000 x481001 x481002 1).bind fun t507 => (if t507 < 0 then (none) else (if t507 = x12 then (some true) else (none))))
end
def laws_FnExactCompactTo.f (k : Nat) (a0_0 : Int) (a0_1 : Int) (l0_2 : List (S64)) (a1 : Int) : Option (Bool) := (laws_szRLog.f k a0_0 a0_1 l0_2 1048576).bind fun t455 => (if t455 < 0 then (some true) else ((laws_toRLog.f k a0_0 a0_1 l0_2).bind fun bt456 => ((spec_CompactTo.f k bt456.1 bt456.2.1 bt456.2.2 a1).bind fun bt461 => ((laws_toRLog.f k a0_0 a0_1 l0_2).bind fun bt468 => ((impl_CompactTo.f k bt468.1 bt468.2.1 bt468.2.2 a1).bind fun bt474 => ((laws_eqRLog.f k bt474.1 bt474.2.1 bt474.2.2.1 bt461.1 bt461.2.1 bt461.2.2.1).bind fun t481 => (if t481 = true then (laws_FnExactCompactTo.j0 k a1 bt461.2.2.2 bt474.2.2.2 (bt474.2.2.2 != bt461.2.2.2) a0_0 a0_1 l0_2 bt461.1 bt461.2.1 bt461.2.2.1 bt468.1 bt468.2.1 bt468.2.2 bt474.1 bt474.2.1 bt474.2.2.1) else (laws_FnExactCompactTo.j0 k a1 bt461.2.2.2 bt474.2.2.2 true a0_0 a0_1 l0_2 bt461.1 bt461.2.1 bt461.2.2.1 bt468.1 bt468.2.1 bt468.2.2 bt474.1 bt474.2.1 bt474.2.2.1))))))))
theorem laws_FnExactCompactTo.mono_l : ∀ k, (∀ y0 y1 y2 y3 y4 y5 y6 y7 y8 y9 y10 y11 y12 y13 y14 y15, LeO (laws_FnExactCompactTo.j0 k y0 y1 y2 y3 y4 y5 y6 y7 y8 y9 y10 y11 y12 y13 y14 y15) (laws_FnExactCompactTo.j0 (k + 1) y0 y1 y2 y3 y4 y5 y6 y7 y8 y9 y10 y11 y12 y13 y14 y15)) ∧ (∀ y0 y1 y2 y3 y4 y5 y6 y7 y8 y9 y10 y11, LeO (laws_FnExactCompactTo.j1 k y0 y1 y2 y3 y4 y5 y6 y7 y8 y9 y10 y11) (laws_FnExactCompactTo.j1 (k + 1) y0 y1 y2 y3 y4 y5 y6 y7 y8 y9 y10 y11)) ∧ (∀ y0 y1 y2 y3 y4, LeO (laws_FnExactCompactTo.j2 k y0 y1 y2 y3 y4) (laws_FnExactCompactTo.j2 (k + 1) y0 y1 y2 y3 y4))
  | 0 => ⟨fun _ _ _ _ _ _ _ _ _ _ _ _ _ _ _ _ r h => by simp [laws_FnExactCompactTo.j0] at h, fun _ _ _ _ _ _ _ _ _ _ _ _ r h => by simp [laws_FnExactCompactTo.j1] at h, fun _ _ _ _ _ r h => by simp [laws_FnExactCompactTo.j2] at h⟩
  | k + 1 => by
    obtain ⟨ih0, ih1, ih2⟩ := laws_FnExactCompactTo.mono_l k
    refine ⟨?_, ?_, ?_⟩
    · intro y0 y1 y2 y3 y4 y5 y6 y7 y8 y9 y10 y11 y12 y13 y14 y15
      unfold laws_FnExactCompactTo.j0
      repeat' first
      | (with_reducible exact ih0 _ _ _ _ _ _ _ _ _ _ _ _ _ _ _ _)
      | (with_reducible exact ih1 _ _ _ _ _ _ _ _ _ _ _ _)
      | (with_reducible exact ih2 _ _ _ _ _)
      | (with_reducible exact impl_CompactTo.mono _ _ _ _ _)
      | (with_reducible exact laws_eqRLog.mono _ _ _ _ _ _ _)
      | (with_reducible exact laws_heldRLog.mono _ _ _ _ _)
      | (with_reducible exact laws_markRLog.mono _ _ _ _ _)
      | (with_reducible exact laws_szRLog.mono _ _ _ _ _)
      | (with_reducible exact laws_toRLog.mono _ _ _ _)
      | (with_reducible exact spec_CompactTo.mono _ _ _ _ _)
      | (with_reducible exact LeO.refl _)
      | (with_reducible exact LeO.none _)
      | (with_reducible refine LeO.ite ?_ ?_)
      | (with_reducible refine LeO.bind ?_ (fun _ => ?_))
      | exact ih0 _ _ _ _ _ _ _ _ _ _ _ _ _ _ _ _
      | exact ih1 _ _ _ _ _ _ _ _ _ _ _ _
      | exact ih2 _ _ _ _ _
      | exact impl_CompactTo.mono _ _ _ _ _
      | exact laws_eqRLog.mono _ _ _ _ _ _ _
      | exact laws_heldRLog.mono _ _ _ _ _
      | exact laws_markRLog.mono _ _ _ _ _
      | exact laws_szRLog.mono _ _ _ _ _
      | exact laws_toRLog.mono _ _ _ _
      | exact spec_CompactTo.mono _ _ _ _ _
      | exact LeO.none _
      | refine LeO.ite ?_ ?_
      | refine LeO.bind ?_ (fun _ => ?_)
    · intro y0 y1 y2 y3 y4 y5 y6 y7 y8 y9 y10 y11
      unfold laws_FnExactCompactTo.j1
      repeat' first
      | (with_reducible exact ih0 _ _ _ _ _ _ _ _ _ _ _ _ _ _ _ _)
      | (with_reducible exact ih1 _ _ _ _ _ _ _ _ _ _ _ _)
      | (with_reducible exact ih2 _ _ _ _ _)
      | (with_reducible exact impl_CompactTo.mono _ _ _ _ _)
      | (with_reducible exact laws_eqRLog.mono _ _ _ _ _ _ _)
      | (with_reducible exact laws_heldRLog.mono _ _ _ _ _)
      | (with_reducible exact laws_markRLog.mono _ _ _ _ _)
      | (with_reducible exact laws_szRLog.mono _ _ _ _ _)
      | (with_reducible exact laws_toRLog.mono _ _ _ _)
      | (with_reducible exact spec_CompactTo.mono _ _ _ _ _)
      | (with_reducible exact LeO.refl _)
      | (with_reducible exact LeO.none _)
      | (with_reducible refine LeO.ite ?_ ?_)
      | (with_reducible refine LeO.bind ?_ (fun _ => ?_))
      | exact ih0 _ _ _ _ _ _ _ _ _ _ _ _ _ _ _ _
      | exact ih1 _ _ _ _ _ _ _ _ _ _ _ _
      | exact ih2 _ _ _ _ _
      | exact impl_CompactTo.mono _ _ _ _ _
      | exact laws_eqRLog.mono _ _ _ _ _ _ _
      | exact laws_heldRLog.mono _ _ _ _ _
      | exact laws_markRLog.mono _ _ _ _ _
      | exact laws_szRLog.mono _ _ _ _ _
      | exact laws_toRLog.mono _ _ _ _
      | exact spec_CompactTo.mono _ _ _ _ _
      | exact LeO.none _
      | refine LeO.ite ?_ ?_
      | refine LeO.bind ?_ (fun _ => ?_)
    · intro y0 y1 y2 y3 y4
      unfold laws_FnExactCompactTo.j2
      repeat' first
      | (with_reducible exact ih0 _ _ _ _ _ _ _ _ _ _ _ _ _ _ _ _)
      | (with_reducible exact ih1 _ _ _ _ _ _ _ _ _ _ _ _)
      | (with_reducible exact ih2 _ _ _ _ _)
      | (with_reducible exact impl_CompactTo.mono _ _ _ _ _)
      | (with_reducible exact laws_eqRLog.mono _ _ _ _ _ _ _)
      | (with_reducible exact laws_heldRLog.mono _ _ _ _ _)
      | (with_reducible exact laws_markRLog.mono _ _ _ _ _)
      | (with_reducible exact laws_szRLog.mono _ _ _ _ _)
      | (with_reducible exact laws_toRLog.mono _ _ _ _)
      | (with_reducible exact spec_CompactTo.mono _ _ _ _ _)
      | (with_reducible exact LeO.refl _)
      | (with_reducible exact LeO.none _)
      | (with_reducible refine LeO.ite ?_ ?_)
      | (with_reducible refine LeO.bind ?_ (fun _ => ?_))
      | exact ih0 _ _ _ _ _ _ _ _ _ _ _ _ _ _ _ _
      | exact ih1 _ _ _ _ _ _ _ _ _ _ _ _
      | exact ih2 _ _ _ _ _
      | exact impl_CompactTo.mono _ _ _ _ _
      | exact laws_eqRLog.mono _ _ _ _ _ _ _
      | exact laws_heldRLog.mono _ _ _ _ _
      | exact laws_markRLog.mono _ _ _ _ _
      | exact laws_szRLog.mono _ _ _ _ _
      | exact laws_toRLog.mono _ _ _ _
      | exact spec_CompactTo.mono _ _ _ _ _
      | exact LeO.none _
      | refine LeO.ite ?_ ?_
      | refine LeO.bind ?_ (fun _ => ?_)
theorem laws_FnExactCompactTo.mono : ∀ a0 a1 a2 a3 k, LeO (laws_FnExactCompactTo.f k a0 a1 a2 a3) (laws_FnExactCompactTo.f (k + 1) a0 a1 a2 a3) := by
  intro a0 a1 a2 a3 k
  obtain ⟨ih0, ih1, ih2⟩ := laws_FnExactCompactTo.mono_l k
  unfold laws_FnExactCompactTo.f
  repeat' first
      | (with_reducible exact ih0 _ _ _ _ _ _ _ _ _ _ _ _ _ _ _ _)
      | (with_reducible exact ih1 _ _ _ _ _ _ _ _ _ _ _ _)
      | (with_reducible exact ih2 _ _ _ _ _)
      | (with_reducible exact impl_CompactTo.mono _ _ _ _ _)
      | (with_reducible exact laws_eqRLog.mono _ _ _ _ _ _ _)
      | (with_reducible exact laws_heldRLog.mono _ _ _ _ _)
      | (with_reducible exact laws_markRLog.mono _ _ _ _ _)
      | (with_reducible exact laws_szRLog.mono _ _ _ _ _)
      | (with_reducible exact laws_toRLog.mono _ _ _ _)
      | (with_reducible exact spec_CompactTo.mono _ _ _ _ _)
      | (with_reducible exact LeO.refl _)
      | (with_reducible exact LeO.none _)
      | (with_reducible refine LeO.ite ?_ ?_)
      | (with_reducible refine LeO.bind ?_ (fun _ => ?_))
      | exact ih0 _ _ _ _ _ _ _ _ _ _ _ _ _ _ _ _
      | exact ih1 _ _ _ _ _ _ _ _ _ _ _ _
      | exact ih2 _ _ _ _ _
      | exact impl_CompactTo.mono _ _ _ _ _
      | exact laws_eqRLog.mono _ _ _ _ _ _ _
      | exact laws_heldRLog.mono _ _ _ _ _
      | exact laws_markRLog.mono _ _ _ _ _
      | exact laws_szRLog.mono _ _ _ _ _
      | exact laws_toRLog.mono _ _ _ _
      | exact spec_CompactTo.mono _ _ _ _ _
      | exact LeO.none _
      | refine LeO.ite ?_ ?_
      | refine LeO.bind ?_ (fun _ => ?_)
set_option maxHeartbeats 8000000 in
set_option maxRecDepth 100000 in
theorem laws_FnExactCompactTo.calls (k : Nat) (a0_0 : Int) (a0_1 : Int) (A0_2 : Option Addr) (c0_2 : Nat) (l0_2 : List (S64)) (a1 : Int) (r : Bool) (w : World) (hr0_2 : Kd.C k64 w A0_2 l0_2.length l0_2) (hc0_2 : l0_2.length ≤ c0_2) (h : laws_FnExactCompactTo.f k a0_0 a0_1 l0_2 a1 = some r) :
    Calls Try.prog 9 #[.agg #[.int .i64 a0_0, .int .i64 a0_1, .slice A0_2 l0_2.length c0_2], .int .i64 a1] w fun e w' => e = .returned (.bool r) ∧ Below w.heap.size w w' := by
  have hu24 := Try.underlying24
  have hu29 := Try.underlying29
  have HR0_2 := Aside0.mk hr0_2
  have HC0_2 := Aside0.mk hc0_2
  clear hr0_2 hc0_2
  have HB := Aside0.mk (Below.refl w.heap.size w)
  have H : ((laws_szRLog.f k a0_0 a0_1 l0_2 1048576).bind fun t455 => (if t455 < 0 then (some true) else ((laws_toRLog.f k a0_0 a0_1 l0_2).bind fun bt456 => ((spec_CompactTo.f k bt456.1 bt456.2.1 bt456.2.2 a1).bind fun bt461 => ((laws_toRLog.f k a0_0 a0_1 l0_2).bind fun bt468 => ((impl_CompactTo.f k bt468.1 bt468.2.1 bt468.2.2 a1).bind fun bt474 => ((laws_eqRLog.f k bt474.1 bt474.2.1 bt474.2.2.1 bt461.1 bt461.2.1 bt461.2.2.1).bind fun t481 => (if t481 = true then (laws_FnExactCompactTo.j0 k a1 bt461.2.2.2 bt474.2.2.2 (bt474.2.2.2 != bt461.2.2.2) a0_0 a0_1 l0_2 bt461.1 bt461.2.1 bt461.2.2.1 bt468.1 bt468.2.1 bt468.2.2 bt474.1 bt474.2.1 bt474.2.2.1) else (laws_FnExactCompactTo.j0 k a1 bt461.2.2.2 bt474.2.2.2 true a0_0 a0_1 l0_2 bt461.1 bt461.2.1 bt461.2.2.1 bt468.1 bt468.2.1 bt468.2.2 bt474.1 bt474.2.1 bt474.2.2.1))))))))) = some r := h
  clear h
  replace H := Option.bind_eq_some_iff.mp H
  obtain ⟨t455, A30, H⟩ := H
  replace H : (if t455 < 0 then (some true) else ((laws_toRLog.f k a0_0 a0_1 l0_2).bind fun bt456 => ((spec_CompactTo.f k bt456.1 bt456.2.1 bt456.2.2 a1).bind fun bt461 => ((laws_toRLog.f k a0_0 a0_1 l0_2).bind fun bt468 => ((impl_CompactTo.f k bt468.1 bt468.2.1 bt468.2.2 a1).bind fun bt474 => ((laws_eqRLog.f k bt474.1 bt474.2.1 bt474.2.2.1 bt461.1 bt461.2.1 bt461.2.2.1).bind fun t481 => (if t481 = true then (laws_FnExactCompactTo.j0 k a1 bt461.2.2.2 bt474.2.2.2 (bt474.2.2.2 != bt461.2.2.2) a0_0 a0_1 l0_2 bt461.1 bt461.2.1 bt461.2.2.1 bt468.1 bt468.2.1 bt468.2.2 bt474.1 bt474.2.1 bt474.2.2.1) else (laws_FnExactCompactTo.j0 k a1 bt461.2.2.2 bt474.2.2.2 true a0_0 a0_1 l0_2 bt461.1 bt461.2.1 bt461.2.2.1 bt468.1 bt468.2.1 bt468.2.2 bt474.1 bt474.2.1 bt474.2.2.1)))))))) = some r := H
  have A3 := Aside0.mk A30
  clear A30
  by_cases c4 : t455 < 0
  · rw [if_pos c4] at H
    have c4b0 : decide (t455 < 0) = true := decide_eq_true c4
    clear c4
    obtain rfl := Option.some.inj H
    go_enter Try.func9, Try.ntmps9
    go_wp2_with (first | ((with_reducible refine gate_dst (N := 2) rfl ?_); refine box_event ?hg (N := 2) ?hd (cs := #[.int .i64 a0_0, .int .i64 a0_1, .slice A0_2 l0_2.length c0_2]) (t := 24) ?hr ?_; (case hd => rfl); (case hg => rfl); (case hr => first | (go_simp; done) | (go_simp; rfl)); intro gb454 hg w5 hbox hb; have n0_ := Aside0.mk (below_step (by repeat (first | (with_reducible first | exact HB.out | apply below_alloc | apply pw_below_drewN | apply below_drew1) | exact HB.out)) hb); have n1_ := Aside0.mk (hbox); have n2_ := Aside0.mk ((by rw [hg]; exact (below_size (by repeat (first | (with_reducible first | exact HB.out | apply below_alloc | apply pw_below_drewN | apply below_drew1) | exact HB.out))) : w.heap.size ≤ gb454)); have n3_ := Aside0.mk ((by rw [hg]; exact (below_size (by repeat (first | (with_reducible first | exact HB.out | apply below_alloc | apply pw_below_drewN | apply below_drew1) | exact HB.out))) : w.heap.size ≤ gb454)); clear HB; have HB := n0_; have BK454 := n1_; have GW454 := n2_; have GE454 := n3_; clear n0_ n1_ n2_ n3_; clear hb hbox hg; have hcz6_0 : w5.cell? ⟨gb454, 0, none⟩ = some (.int .i64 a0_0) := (blk_cell BK454.out 0).trans rfl; have hcz6_1 : w5.cell? ⟨gb454, 1, none⟩ = some (.int .i64 a0_1) := (blk_cell BK454.out 1).trans rfl; have hcz6_2 : w5.cell? ⟨gb454, 2, none⟩ = some (.slice A0_2 l0_2.length c0_2) := (blk_cell BK454.out 2).trans rfl; have hfz6_0 := blk_frozen BK454.out 0; have hfz6_1 := blk_frozen BK454.out 1; have hfz6_2 := blk_frozen BK454.out 2) | ((with_reducible refine gate_callee (f := 13) rfl ?_); refine goesL_ (some 18) rfl rfl Try.func13 (by kernel_rfl) rfl #[.agg #[.int .i64 a0_0, .int .i64 a0_1, .slice A0_2 l0_2.length c0_2], .int .i64 1048576] rfl (by (try simp only [List.map_toArray, List.map_cons, List.map_nil]); first | done | rfl | (simp only [List.length_drop, List.length_take]; rfl)) ?_; (with_reducible refine (laws_szRLog.calls k a0_0 a0_1 _ _ l0_2 1048576 t455 _ ?side1 ?side2 A3.out).mono ?_); (case side1 => repeat (first | exact (Kd.C_below HR0_2.out HB.out) | (with_reducible refine Kd.C_alloc ?_ _) | (with_reducible refine Kd.C_drewN ?_ _) | (with_reducible refine Kd.C_drew ?_))); (case side2 => exact HC0_2.out); rintro e w7 ⟨rfl, hb⟩; refine ⟨_, rfl, ?_⟩; have n0_ := Aside0.mk (blk_below (g := gb454) (o := .cells #[.int .i64 a0_0, .int .i64 a0_1, .slice A0_2 l0_2.length c0_2] 24 (0, 0)) (by (with_reducible repeat (first | refine blk_drewN ?_ _ | refine blk_drew ?_ | refine blk_alloc ?_ _)); exact BK454.out) hb); have n1_ := Aside0.mk (below_step (by repeat (first | (with_reducible first | exact HB.out | apply below_alloc | apply pw_below_drewN | apply below_drew1 | refine below_set ?_ GE454.out) | exact HB.out)) hb); clear BK454; clear HB; have BK454 := n0_; have HB := n1_; clear n0_ n1_; (try clear hb); (try clear hb2); (try clear hk); (try clear hi)))
    go_ret
    exact ⟨by first | rfl | (simp [errW_none, errW_some] <;> rfl) | (simp [*, errW_none, errW_some] <;> rfl), by repeat (first | (with_reducible first | exact HB.out | apply below_alloc | apply pw_below_drewN | apply below_drew1 | refine below_set ?_ GE454.out) | exact HB.out)⟩
  · rw [if_neg c4] at H
    have c4b0 : decide (t455 < 0) = false := decide_eq_false c4
    clear c4
    replace H := Option.bind_eq_some_iff.mp H
    obtain ⟨⟨t456, t457, t458⟩, A80, H⟩ := H
    replace H : ((spec_CompactTo.f k t456 t457 t458 a1).bind fun bt461 => ((laws_toRLog.f k a0_0 a0_1 l0_2).bind fun bt468 => ((impl_CompactTo.f k bt468.1 bt468.2.1 bt468.2.2 a1).bind fun bt474 => ((laws_eqRLog.f k bt474.1 bt474.2.1 bt474.2.2.1 bt461.1 bt461.2.1 bt461.2.2.1).bind fun t481 => (if t481 = true then (laws_FnExactCompactTo.j0 k a1 bt461.2.2.2 bt474.2.2.2 (bt474.2.2.2 != bt461.2.2.2) a0_0 a0_1 l0_2 bt461.1 bt461.2.1 bt461.2.2.1 bt468.1 bt468.2.1 bt468.2.2 bt474.1 bt474.2.1 bt474.2.2.1) else (laws_FnExactCompactTo.j0 k a1 bt461.2.2.2 bt474.2.2.2 true a0_0 a0_1 l0_2 bt461.1 bt461.2.1 bt461.2.2.1 bt468.1 bt468.2.1 bt468.2.2 bt474.1 bt474.2.1 bt474.2.2.1)))))) = some r := H
    have A8 := Aside0.mk A80
    clear A80
    replace H := Option.bind_eq_some_iff.mp H
    obtain ⟨⟨t461, t462, t463, t466⟩, A90, H⟩ := H
    replace H : ((laws_toRLog.f k a0_0 a0_1 l0_2).bind fun bt468 => ((impl_CompactTo.f k bt468.1 bt468.2.1 bt468.2.2 a1).bind fun bt474 => ((laws_eqRLog.f k bt474.1 bt474.2.1 bt474.2.2.1 t461 t462 t463).bind fun t481 => (if t481 = true then (laws_FnExactCompactTo.j0 k a1 t466 bt474.2.2.2 (bt474.2.2.2 != t466) a0_0 a0_1 l0_2 t461 t462 t463 bt468.1 bt468.2.1 bt468.2.2 bt474.1 bt474.2.1 bt474.2.2.1) else (laws_FnExactCompactTo.j0 k a1 t466 bt474.2.2.2 true a0_0 a0_1 l0_2 t461 t462 t463 bt468.1 bt468.2.1 bt468.2.2 bt474.1 bt474.2.1 bt474.2.2.1))))) = some r := H
    have A9 := Aside0.mk A90
    clear A90
    replace H := Option.bind_eq_some_iff.mp H
    obtain ⟨⟨t468, t469, t470⟩, A100, H⟩ := H
    replace H : ((impl_CompactTo.f k t468 t469 t470 a1).bind fun bt474 => ((laws_eqRLog.f k bt474.1 bt474.2.1 bt474.2.2.1 t461 t462 t463).bind fun t481 => (if t481 = true then (laws_FnExactCompactTo.j0 k a1 t466 bt474.2.2.2 (bt474.2.2.2 != t466) a0_0 a0_1 l0_2 t461 t462 t463 t468 t469 t470 bt474.1 bt474.2.1 bt474.2.2.1) else (laws_FnExactCompactTo.j0 k a1 t466 bt474.2.2.2 true a0_0 a0_1 l0_2 t461 t462 t463 t468 t469 t470 bt474.1 bt474.2.1 bt474.2.2.1)))) = some r := H
    have A10 := Aside0.mk A100
    clear A100
    replace H := Option.bind_eq_some_iff.mp H
    obtain ⟨⟨t474, t475, t476, t479⟩, A110, H⟩ := H
    replace H : ((laws_eqRLog.f k t474 t475 t476 t461 t462 t463).bind fun t481 => (if t481 = true then (laws_FnExactCompactTo.j0 k a1 t466 t479 (t479 != t466) a0_0 a0_1 l0_2 t461 t462 t463 t468 t469 t470 t474 t475 t476) else (laws_FnExactCompactTo.j0 k a1 t466 t479 true a0_0 a0_1 l0_2 t461 t462 t463 t468 t469 t470 t474 t475 t476))) = some r := H
    have A11 := Aside0.mk A110
    clear A110
    have HC12 := Aside0.mk H
    clear H
    go_enter Try.func9, Try.ntmps9
    go_upto_region 8 with (first | ((with_reducible refine gate_dst (N := 2) rfl ?_); refine box_event ?hg (N := 2) ?hd (cs := #[.int .i64 a0_0, .int .i64 a0_1, .slice A0_2 l0_2.length c0_2]) (t := 24) ?hr ?_; (case hd => rfl); (case hg => rfl); (case hr => first | (go_simp; done) | (go_simp; rfl)); intro gb454 hg w13 hbox hb; have n0_ := Aside0.mk (below_step (by repeat (first | (with_reducible first | exact HB.out | apply below_alloc | apply pw_below_drewN | apply below_drew1) | exact HB.out)) hb); have n1_ := Aside0.mk (hbox); have n2_ := Aside0.mk ((by rw [hg]; exact (below_size (by repeat (first | (with_reducible first | exact HB.out | apply below_alloc | apply pw_below_drewN | apply below_drew1) | exact HB.out))) : w.heap.size ≤ gb454)); have n3_ := Aside0.mk ((by rw [hg]; exact (below_size (by repeat (first | (with_reducible first | exact HB.out | apply below_alloc | apply pw_below_drewN | apply below_drew1) | exact HB.out))) : w.heap.size ≤ gb454)); clear HB; have HB := n0_; have BK454 := n1_; have GW454 := n2_; have GE454 := n3_; clear n0_ n1_ n2_ n3_; clear hb hbox hg; have hcz14_0 : w13.cell? ⟨gb454, 0, none⟩ = some (.int .i64 a0_0) := (blk_cell BK454.out 0).trans rfl; have hcz14_1 : w13.cell? ⟨gb454, 1, none⟩ = some (.int .i64 a0_1) := (blk_cell BK454.out 1).trans rfl; have hcz14_2 : w13.cell? ⟨gb454, 2, none⟩ = some (.slice A0_2 l0_2.length c0_2) := (blk_cell BK454.out 2).trans rfl; have hfz14_0 := blk_frozen BK454.out 0; have hfz14_1 := blk_frozen BK454.out 1; have hfz14_2 := blk_frozen BK454.out 2) | ((with_reducible refine gate_callee (f := 13) rfl ?_); refine goesL_ (some 18) rfl rfl Try.func13 (by kernel_rfl) rfl #[.agg #[.int .i64 a0_0, .int .i64 a0_1, .slice A0_2 l0_2.length c0_2], .int .i64 1048576] rfl (by (try simp only [List.map_toArray, List.map_cons, List.map_nil]); first | done | rfl | (simp only [List.length_drop, List.length_take]; rfl)) ?_; (with_reducible refine (laws_szRLog.calls k a0_0 a0_1 _ _ l0_2 1048576 t455 _ ?side1 ?side2 A3.out).mono ?_); (case side1 => repeat (first | exact (Kd.C_below HR0_2.out HB.out) | (with_reducible refine Kd.C_alloc ?_ _) | (with_reducible refine Kd.C_drewN ?_ _) | (with_reducible refine Kd.C_drew ?_))); (case side2 => exact HC0_2.out); rintro e w15 ⟨rfl, hb⟩; refine ⟨_, rfl, ?_⟩; have n0_ := Aside0.mk (blk_below (g := gb454) (o := .cells #[.int .i64 a0_0, .int .i64 a0_1, .slice A0_2 l0_2.length c0_2] 24 (0, 0)) (by (with_reducible repeat (first | refine blk_drewN ?_ _ | refine blk_drew ?_ | refine blk_alloc ?_ _)); exact BK454.out) hb); have n1_ := Aside0.mk (below_step (by repeat (first | (with_reducible first | exact HB.out | apply below_alloc | apply pw_below_drewN | apply below_drew1 | refine below_set ?_ GE454.out) | exact HB.out)) hb); clear BK454; clear HB; have BK454 := n0_; have HB := n1_; clear n0_ n1_; (try clear hb); (try clear hb2); (try clear hk); (try clear hi); have hcz16_0 : w15.cell? ⟨gb454, 0, none⟩ = some (.int .i64 a0_0) := (blk_cell BK454.out 0).trans rfl; have hcz16_1 : w15.cell? ⟨gb454, 1, none⟩ = some (.int .i64 a0_1) := (blk_cell BK454.out 1).trans rfl; have hcz16_2 : w15.cell? ⟨gb454, 2, none⟩ = some (.slice A0_2 l0_2.length c0_2) := (blk_cell BK454.out 2).trans rfl; have hfz16_0 := blk_frozen BK454.out 0; have hfz16_1 := blk_frozen BK454.out 1; have hfz16_2 := blk_frozen BK454.out 2) | ((with_reducible refine gate_callee (f := 15) rfl ?_); refine goesL_ (some 23) rfl rfl Try.func15 (by kernel_rfl) rfl #[.agg #[.int .i64 a0_0, .int .i64 a0_1, .slice A0_2 l0_2.length c0_2]] rfl (by (try simp only [List.map_toArray, List.map_cons, List.map_nil]); first | done | rfl | (simp only [List.length_drop, List.length_take]; rfl)) ?_; (with_reducible refine (laws_toRLog.calls k a0_0 a0_1 _ _ l0_2 t456 t457 t458 _ ?side1 ?side2 A8.out).mono ?_); (case side1 => repeat (first | exact (Kd.C_below HR0_2.out HB.out) | (with_reducible refine Kd.C_alloc ?_ _) | (with_reducible refine Kd.C_drewN ?_ _) | (with_reducible refine Kd.C_drew ?_))); (case side2 => exact HC0_2.out); rintro e w17 ⟨v459, rfl, ho0, hb⟩; refine ⟨_, rfl, ?_⟩; have n0_ := Aside0.mk (Kd.R_lower ho0 (below_size (by repeat (first | (with_reducible first | exact HB.out | apply below_alloc | apply pw_below_drewN | apply below_drew1 | refine below_set ?_ GE454.out) | exact HB.out)))); have n1_ := Aside0.mk (blk_below (g := gb454) (o := .cells #[.int .i64 a0_0, .int .i64 a0_1, .slice A0_2 l0_2.length c0_2] 24 (0, 0)) (by (with_reducible repeat (first | refine blk_drewN ?_ _ | refine blk_drew ?_ | refine blk_alloc ?_ _)); exact BK454.out) hb); have n2_ := Aside0.mk (below_step (by repeat (first | (with_reducible first | exact HB.out | apply below_alloc | apply pw_below_drewN | apply below_drew1 | refine below_set ?_ GE454.out) | exact HB.out)) hb); clear BK454; clear HB; have HO460 := n0_; have BK454 := n1_; have HB := n2_; clear n0_ n1_ n2_; (try clear hb); (try clear hb2); (try clear hk); (try clear hi); (try clear ho0); obtain ⟨Ao18, co18, eo18⟩ := Kd.R_slice HO460.out; subst eo18) | ((with_reducible refine gate_callee (f := 32) rfl ?_); refine goesL_ (some 25) rfl rfl Try.func32 (by kernel_rfl) rfl #[.agg #[.int .i64 t456, .int .i64 t457, .slice Ao18 t458.length co18], .int .i64 a1] rfl (by (try simp only [List.map_toArray, List.map_cons, List.map_nil]); first | done | rfl | (simp only [List.length_drop, List.length_take]; rfl)) ?_; (with_reducible refine (spec_CompactTo.calls k t456 t457 _ _ t458 a1 t461 t462 t463 t466 _ ?side1 ?side2 A9.out).mono ?_); (case side1 => repeat (first | exact (Kd.R_reads' HO460.out).2.2 | (with_reducible refine Kd.C_alloc ?_ _) | (with_reducible refine Kd.C_drewN ?_ _) | (with_reducible refine Kd.C_drew ?_))); (case side2 => exact (Kd.R_reads' HO460.out).2.1); rintro e w19 ⟨v464, rfl, ho0, hb⟩; refine ⟨_, rfl, ?_⟩; have n0_ := Aside0.mk (Kd.R_elder' (by (with_reducible repeat (first | apply Kd.R_alloc | apply Kd.R_drewN | apply Kd.R_drew)); exact HO460.out) (Kd.R_base ho0) hb); have n1_ := Aside0.mk (Kd.R_lower (Kd.R_new' ho0 (Kd.R_lt (by (with_reducible repeat (first | apply Kd.R_alloc | apply Kd.R_drewN | apply Kd.R_drew)); exact HO460.out))) (below_size (by repeat (first | (with_reducible first | exact HB.out | apply below_alloc | apply pw_below_drewN | apply below_drew1 | refine below_set ?_ GE454.out) | exact HB.out)))); have n2_ := Aside0.mk (blk_below (g := gb454) (o := .cells #[.int .i64 a0_0, .int .i64 a0_1, .slice A0_2 l0_2.length c0_2] 24 (0, 0)) (by (with_reducible repeat (first | refine blk_drewN ?_ _ | refine blk_drew ?_ | refine blk_alloc ?_ _)); exact BK454.out) hb); have n3_ := Aside0.mk (below_step (by repeat (first | (with_reducible first | exact HB.out | apply below_alloc | apply pw_below_drewN | apply below_drew1 | refine below_set ?_ GE454.out) | exact HB.out)) hb); clear HO460; clear BK454; clear HB; have HO460 := n0_; have HO465 := n1_; have BK454 := n2_; have HB := n3_; clear n0_ n1_ n2_ n3_; (try clear hb); (try clear hb2); (try clear hk); (try clear hi); (try clear ho0)) | ((with_reducible refine gate_dst (N := 6) rfl ?_); refine box_event ?hg (N := 6) ?hd (cs := #[.int .i64 0, .int .i64 0, .slice none 0 0]) (t := 29) ?hr ?_; (case hd => rfl); (case hg => rfl); (case hr => first | (go_simp; done) | (go_simp; rfl)); intro gb467 hg w20 hbox hb; have n0_ := Aside0.mk (Kd.R_below (by (with_reducible repeat (first | apply Kd.R_alloc | apply Kd.R_drewN | apply Kd.R_drew)); exact HO460.out) hb); have n1_ := Aside0.mk (Kd.R_below (by (with_reducible repeat (first | apply Kd.R_alloc | apply Kd.R_drewN | apply Kd.R_drew)); exact HO465.out) hb); have n2_ := Aside0.mk (blk_below (g := gb454) (o := .cells #[.int .i64 a0_0, .int .i64 a0_1, .slice A0_2 l0_2.length c0_2] 24 (0, 0)) (by (with_reducible repeat (first | refine blk_drewN ?_ _ | refine blk_drew ?_ | refine blk_alloc ?_ _)); exact BK454.out) hb); have n3_ := Aside0.mk (below_step (by repeat (first | (with_reducible first | exact HB.out | apply below_alloc | apply pw_below_drewN | apply below_drew1 | refine below_set ?_ GE454.out) | exact HB.out)) hb); have n4_ := Aside0.mk (hbox); have n5_ := Aside0.mk ((by rw [hg]; exact (below_size (by repeat (first | (with_reducible first | exact HB.out | apply below_alloc | apply pw_below_drewN | apply below_drew1 | refine below_set ?_ GE454.out) | exact HB.out))) : w.heap.size ≤ gb467)); have n6_ := Aside0.mk ((by rw [hg]; exact (below_size (by repeat (first | (with_reducible first | exact HB.out | apply below_alloc | apply pw_below_drewN | apply below_drew1 | refine below_set ?_ GE454.out) | exact HB.out))) : w.heap.size ≤ gb467)); have n7_ := Aside0.mk ((by rw [hg]; exact Nat.ne_of_lt (blk_lt (g := gb454) (o := .cells #[.int .i64 a0_0, .int .i64 a0_1, .slice A0_2 l0_2.length c0_2] 24 (0, 0)) (by (with_reducible repeat (first | refine blk_drewN ?_ _ | refine blk_drew ?_ | refine blk_alloc ?_ _)); exact BK454.out)) : gb454 ≠ gb467)); have n8_ := Aside0.mk ((by rw [hg]; exact Nat.ne_of_gt (blk_lt (g := gb454) (o := .cells #[.int .i64 a0_0, .int .i64 a0_1, .slice A0_2 l0_2.length c0_2] 24 (0, 0)) (by (with_reducible repeat (first | refine blk_drewN ?_ _ | refine blk_drew ?_ | refine blk_alloc ?_ _)); exact BK454.out)) : gb467 ≠ gb454)); clear HO460; clear HO465; clear BK454; clear HB; have HO460 := n0_; have HO465 := n1_; have BK454 := n2_; have HB := n3_; have BK467 := n4_; have GW467 := n5_; have GE467 := n6_; have NB454_467 := n7_; have NB467_454 := n8_; clear n0_ n1_ n2_ n3_ n4_ n5_ n6_ n7_ n8_; clear hb hbox hg; have hnb21 := NB467_454.out; have hnc21 := NB454_467.out; have hcz22_0 : w20.cell? ⟨gb467, 0, none⟩ = some (.int .i64 0) := (blk_cell BK467.out 0).trans rfl; have hcz22_1 : w20.cell? ⟨gb467, 1, none⟩ = some (.int .i64 0) := (blk_cell BK467.out 1).trans rfl; have hcz22_2 : w20.cell? ⟨gb467, 2, none⟩ = some (.slice none 0 0) := (blk_cell BK467.out 2).trans rfl; have hfz22_0 := blk_frozen BK467.out 0; have hfz22_1 := blk_frozen BK467.out 1; have hfz22_2 := blk_frozen BK467.out 2; obtain ⟨Ao23, co23, eo23⟩ := Kd.R_slice HO465.out; subst eo23; have hcz24_0 : w20.cell? ⟨gb454, 0, none⟩ = some (.int .i64 a0_0) := (blk_cell BK454.out 0).trans rfl; have hcz24_1 : w20.cell? ⟨gb454, 1, none⟩ = some (.int .i64 a0_1) := (blk_cell BK454.out 1).trans rfl; have hcz24_2 : w20.cell? ⟨gb454, 2, none⟩ = some (.slice A0_2 l0_2.length c0_2) := (blk_cell BK454.out 2).trans rfl; have hfz24_0 := blk_frozen BK454.out 0; have hfz24_1 := blk_frozen BK454.out 1; have hfz24_2 := blk_frozen BK454.out 2) | ((with_reducible refine gate_callee (f := 15) rfl ?_); refine goesL_ (some 29) rfl rfl Try.func15 (by kernel_rfl) rfl #[.agg #[.int .i64 a0_0, .int .i64 a0_1, .slice A0_2 l0_2.length c0_2]] rfl (by (try simp only [List.map_toArray, List.map_cons, List.map_nil]); first | done | rfl | (simp only [List.length_drop, List.length_take]; rfl)) ?_; (with_reducible refine (laws_toRLog.calls k a0_0 a0_1 _ _ l0_2 t468 t469 t470 _ ?side1 ?side2 A10.out).mono ?_); (case side1 => exact Kd.C_below HR0_2.out (by repeat (first | (with_reducible first | exact HB.out | apply below_alloc | apply pw_below_drewN | apply below_drew1 | refine below_set ?_ GE454.out | refine below_set ?_ GE467.out) | exact HB.out))); (case side2 => exact HC0_2.out); rintro e w25 ⟨v471, rfl, ho0, hb⟩; refine ⟨_, rfl, ?_⟩; have n0_ := Aside0.mk (Kd.R_elder' (by (with_reducible repeat (first | apply Kd.R_alloc | apply Kd.R_drewN | apply Kd.R_drew)); exact (Kd.R_mono (Kd.R_far (p := ⟨gb467, 2, none⟩) (Kd.R_far (p := ⟨gb467, 1, none⟩) (Kd.R_far (p := ⟨gb467, 0, none⟩) (Kd.R_types HO460.out BK467.out (by decide)) (fun _ hk => hk.2) (.int .i64 t461)) (fun _ hk => hk.2) (.int .i64 t462)) (fun _ hk => hk.2) (.slice Ao23 t463.length co23)) (fun _ h_ => h_.1))) (Kd.R_base ho0) hb); have n1_ := Aside0.mk (Kd.R_elder' (by (with_reducible repeat (first | apply Kd.R_alloc | apply Kd.R_drewN | apply Kd.R_drew)); exact (Kd.R_mono (Kd.R_far (p := ⟨gb467, 2, none⟩) (Kd.R_far (p := ⟨gb467, 1, none⟩) (Kd.R_far (p := ⟨gb467, 0, none⟩) (Kd.R_types HO465.out BK467.out (by decide)) (fun _ hk => hk.2) (.int .i64 t461)) (fun _ hk => hk.2) (.int .i64 t462)) (fun _ hk => hk.2) (.slice Ao23 t463.length co23)) (fun _ h_ => h_.1))) (Kd.R_base ho0) hb); have n2_ := Aside0.mk (Kd.R_lower (Kd.R_new' (Kd.R_new' ho0 (Kd.R_lt (by (with_reducible repeat (first | apply Kd.R_alloc | apply Kd.R_drewN | apply Kd.R_drew)); exact (Kd.R_mono (Kd.R_far (p := ⟨gb467, 2, none⟩) (Kd.R_far (p := ⟨gb467, 1, none⟩) (Kd.R_far (p := ⟨gb467, 0, none⟩) (Kd.R_types HO460.out BK467.out (by decide)) (fun _ hk => hk.2) (.int .i64 t461)) (fun _ hk => hk.2) (.int .i64 t462)) (fun _ hk => hk.2) (.slice Ao23 t463.length co23)) (fun _ h_ => h_.1))))) (Kd.R_lt (by (with_reducible repeat (first | apply Kd.R_alloc | apply Kd.R_drewN | apply Kd.R_drew)); exact (Kd.R_mono (Kd.R_far (p := ⟨gb467, 2, none⟩) (Kd.R_far (p := ⟨gb467, 1, none⟩) (Kd.R_far (p := ⟨gb467, 0, none⟩) (Kd.R_types HO465.out BK467.out (by decide)) (fun _ hk => hk.2) (.int .i64 t461)) (fun _ hk => hk.2) (.int .i64 t462)) (fun _ hk => hk.2) (.slice Ao23 t463.length co23)) (fun _ h_ => h_.1))))) (below_size (by repeat (first | (with_reducible first | exact HB.out | apply below_alloc | apply pw_below_drewN | apply below_drew1 | refine below_set ?_ GE454.out | refine below_set ?_ GE467.out) | exact HB.out)))); have n3_ := Aside0.mk (blk_below (g := gb454) (o := .cells #[.int .i64 a0_0, .int .i64 a0_1, .slice A0_2 l0_2.length c0_2] 24 (0, 0)) (by (with_reducible repeat (first | refine blk_drewN ?_ _ | refine blk_drew ?_ | refine blk_alloc ?_ _)); refine blk_far ?_ NB454_467.out _; (with_reducible repeat (first | refine blk_drewN ?_ _ | refine blk_drew ?_ | refine blk_alloc ?_ _)); refine blk_far ?_ NB454_467.out _; (with_reducible repeat (first | refine blk_drewN ?_ _ | refine blk_drew ?_ | refine blk_alloc ?_ _)); refine blk_far ?_ NB454_467.out _; (with_reducible repeat (first | refine blk_drewN ?_ _ | refine blk_drew ?_ | refine blk_alloc ?_ _)); exact BK454.out) hb); have n4_ := Aside0.mk (blk_below (g := gb467) (o := .cells #[.int .i64 t461, .int .i64 t462, .slice Ao23 t463.length co23] 29 (0, 0)) (by (with_reducible repeat (first | refine blk_drewN ?_ _ | refine blk_drew ?_ | refine blk_alloc ?_ _)); refine blk_put (cs := #[.int .i64 t461, .int .i64 t462, .slice none 0 0]) ?_ 2 _ rfl; (with_reducible repeat (first | refine blk_drewN ?_ _ | refine blk_drew ?_ | refine blk_alloc ?_ _)); refine blk_put (cs := #[.int .i64 t461, .int .i64 0, .slice none 0 0]) ?_ 1 _ rfl; (with_reducible repeat (first | refine blk_drewN ?_ _ | refine blk_drew ?_ | refine blk_alloc ?_ _)); refine blk_put (cs := #[.int .i64 0, .int .i64 0, .slice none 0 0]) ?_ 0 _ rfl; (with_reducible repeat (first | refine blk_drewN ?_ _ | refine blk_drew ?_ | refine blk_alloc ?_ _)); exact BK467.out) hb); have n5_ := Aside0.mk (below_step (by repeat (first | (with_reducible first | exact HB.out | apply below_alloc | apply pw_below_drewN | apply below_drew1 | refine below_set ?_ GE454.out | refine below_set ?_ GE467.out) | exact HB.out)) hb); clear HO460; clear HO465; clear BK454; clear BK467; clear HB; have HO460 := n0_; have HO465 := n1_; have HO472 := n2_; have BK454 := n3_; have BK467 := n4_; have HB := n5_; clear n0_ n1_ n2_ n3_ n4_ n5_; (try clear hb); (try clear hb2); (try clear hk); (try clear hi); (try clear ho0)) | ((with_reducible refine gate_dst (N := 8) rfl ?_); refine box_event ?hg (N := 8) ?hd (cs := #[.int .i64 0, .int .i64 0, .slice none 0 0]) (t := 29) ?hr ?_; (case hd => rfl); (case hg => rfl); (case hr => first | (go_simp; done) | (go_simp; rfl)); intro gb473 hg w26 hbox hb; have n0_ := Aside0.mk (Kd.R_below (by (with_reducible repeat (first | apply Kd.R_alloc | apply Kd.R_drewN | apply Kd.R_drew)); exact HO460.out) hb); have n1_ := Aside0.mk (Kd.R_below (by (with_reducible repeat (first | apply Kd.R_alloc | apply Kd.R_drewN | apply Kd.R_drew)); exact HO465.out) hb); have n2_ := Aside0.mk (Kd.R_below (by (with_reducible repeat (first | apply Kd.R_alloc | apply Kd.R_drewN | apply Kd.R_drew)); exact HO472.out) hb); have n3_ := Aside0.mk (blk_below (g := gb454) (o := .cells #[.int .i64 a0_0, .int .i64 a0_1, .slice A0_2 l0_2.length c0_2] 24 (0, 0)) (by (with_reducible repeat (first | refine blk_drewN ?_ _ | refine blk_drew ?_ | refine blk_alloc ?_ _)); exact BK454.out) hb); have n4_ := Aside0.mk (blk_below (g := gb467) (o := .cells #[.int .i64 t461, .int .i64 t462, .slice Ao23 t463.length co23] 29 (0, 0)) (by (with_reducible repeat (first | refine blk_drewN ?_ _ | refine blk_drew ?_ | refine blk_alloc ?_ _)); exact BK467.out) hb); have n5_ := Aside0.mk (below_step (by repeat (first | (with_reducible first | exact HB.out | apply below_alloc | apply pw_below_drewN | apply below_drew1 | refine below_set ?_ GE454.out | refine below_set ?_ GE467.out) | exact HB.out)) hb); have n6_ := Aside0.mk (hbox); have n7_ := Aside0.mk ((by rw [hg]; exact (below_size (by repeat (first | (with_reducible first | exact HB.out | apply below_alloc | apply pw_below_drewN | apply below_drew1 | refine below_set ?_ GE454.out | refine below_set ?_ GE467.out) | exact HB.out))) : w.heap.size ≤ gb473)); have n8_ := Aside0.mk ((by rw [hg]; exact (below_size (by repeat (first | (with_reducible first | exact HB.out | apply below_alloc | apply pw_below_drewN | apply below_drew1 | refine below_set ?_ GE454.out | refine below_set ?_ GE467.out) | exact HB.out))) : w.heap.size ≤ gb473)); have n9_ := Aside0.mk ((by rw [hg]; exact Nat.ne_of_lt (blk_lt (g := gb454) (o := .cells #[.int .i64 a0_0, .int .i64 a0_1, .slice A0_2 l0_2.length c0_2] 24 (0, 0)) (by (with_reducible repeat (first | refine blk_drewN ?_ _ | refine blk_drew ?_ | refine blk_alloc ?_ _)); exact BK454.out)) : gb454 ≠ gb473)); have n10_ := Aside0.mk ((by rw [hg]; exact Nat.ne_of_gt (blk_lt (g := gb454) (o := .cells #[.int .i64 a0_0, .int .i64 a0_1, .slice A0_2 l0_2.length c0_2] 24 (0, 0)) (by (with_reducible repeat (first | refine blk_drewN ?_ _ | refine blk_drew ?_ | refine blk_alloc ?_ _)); exact BK454.out)) : gb473 ≠ gb454)); have n11_ := Aside0.mk ((by rw [hg]; exact Nat.ne_of_lt (blk_lt (g := gb467) (o := .cells #[.int .i64 t461, .int .i64 t462, .slice Ao23 t463.length co23] 29 (0, 0)) (by (with_reducible repeat (first | refine blk_drewN ?_ _ | refine blk_drew ?_ | refine blk_alloc ?_ _)); exact BK467.out)) : gb467 ≠ gb473)); have n12_ := Aside0.mk ((by rw [hg]; exact Nat.ne_of_gt (blk_lt (g := gb467) (o := .cells #[.int .i64 t461, .int .i64 t462, .slice Ao23 t463.length co23] 29 (0, 0)) (by (with_reducible repeat (first | refine blk_drewN ?_ _ | refine blk_drew ?_ | refine blk_alloc ?_ _)); exact BK467.out)) : gb473 ≠ gb467)); clear HO460; clear HO465; clear HO472; clear BK454; clear BK467; clear HB; have HO460 := n0_; have HO465 := n1_; have HO472 := n2_; have BK454 := n3_; have BK467 := n4_; have HB := n5_; have BK473 := n6_; have GW473 := n7_; have GE473 := n8_; have NB454_473 := n9_; have NB473_454 := n10_; have NB467_473 := n11_; have NB473_467 := n12_; clear n0_ n1_ n2_ n3_ n4_ n5_ n6_ n7_ n8_ n9_ n10_ n11_ n12_; clear hb hbox hg; have hnb27 := NB473_454.out; have hnc27 := NB454_473.out; have hnb28 := NB473_467.out; have hnc28 := NB467_473.out; have hcz29_0 : w26.cell? ⟨gb473, 0, none⟩ = some (.int .i64 0) := (blk_cell BK473.out 0).trans rfl; have hcz29_1 : w26.cell? ⟨gb473, 1, none⟩ = some (.int .i64 0) := (blk_cell BK473.out 1).trans rfl; have hcz29_2 : w26.cell? ⟨gb473, 2, none⟩ = some (.slice none 0 0) := (blk_cell BK473.out 2).trans rfl; have hfz29_0 := blk_frozen BK473.out 0; have hfz29_1 := blk_frozen BK473.out 1; have hfz29_2 := blk_frozen BK473.out 2; obtain ⟨Ao30, co30, eo30⟩ := Kd.R_slice HO472.out; subst eo30) | ((with_reducible refine gate_callee (f := 33) rfl ?_); refine goesL_ (some 33) rfl rfl Try.func33 (by kernel_rfl) rfl #[.agg #[.int .i64 t468, .int .i64 t469, .slice Ao30 t470.length co30], .int .i64 a1] rfl (by (try simp only [List.map_toArray, List.map_cons, List.map_nil]); first | done | rfl | (simp only [List.length_drop, List.length_take]; rfl)) ?_; (with_reducible refine (impl_CompactTo.calls k t468 t469 _ _ t470 a1 t474 t475 t476 t479 _ ?side1 ?side2 A11.out).mono ?_); (case side1 => refine (Kd.R_reads' (e := 54) (base := w.heap.size) (ok := fun k_ => ((True ∧ some k_ ≠ (.slice Ao18 t458.length co18 : Value).ownBlock) ∧ some k_ ≠ (.slice Ao23 t463.length co23 : Value).ownBlock)) (n := t470.length) (c := co30) ?_).2.2; exact (by (with_reducible repeat (first | apply Kd.R_alloc | apply Kd.R_drewN | apply Kd.R_drew)); exact (Kd.R_mono (Kd.R_far (p := ⟨gb473, 2, none⟩) (Kd.R_far (p := ⟨gb473, 1, none⟩) (Kd.R_far (p := ⟨gb473, 0, none⟩) (Kd.R_types HO472.out BK473.out (by decide)) (fun _ hk => hk.2) (.int .i64 t468)) (fun _ hk => hk.2) (.int .i64 t469)) (fun _ hk => hk.2) (.slice Ao30 t470.length co30)) (fun _ h_ => h_.1)))); (case side2 => exact (Kd.R_reads' HO472.out).2.1); rintro e w31 ⟨v477, rfl, ho0, hb⟩; refine ⟨_, rfl, ?_⟩; have n0_ := Aside0.mk (Kd.R_elder' (by (with_reducible repeat (first | apply Kd.R_alloc | apply Kd.R_drewN | apply Kd.R_drew)); exact (Kd.R_mono (Kd.R_far (p := ⟨gb473, 2, none⟩) (Kd.R_far (p := ⟨gb473, 1, none⟩) (Kd.R_far (p := ⟨gb473, 0, none⟩) (Kd.R_types HO460.out BK473.out (by decide)) (fun _ hk => hk.2) (.int .i64 t468)) (fun _ hk => hk.2) (.int .i64 t469)) (fun _ hk => hk.2) (.slice Ao30 t470.length co30)) (fun _ h_ => h_.1))) (Kd.R_base ho0) hb); have n1_ := Aside0.mk (Kd.R_elder' (by (with_reducible repeat (first | apply Kd.R_alloc | apply Kd.R_drewN | apply Kd.R_drew)); exact (Kd.R_mono (Kd.R_far (p := ⟨gb473, 2, none⟩) (Kd.R_far (p := ⟨gb473, 1, none⟩) (Kd.R_far (p := ⟨gb473, 0, none⟩) (Kd.R_types HO465.out BK473.out (by decide)) (fun _ hk => hk.2) (.int .i64 t468)) (fun _ hk => hk.2) (.int .i64 t469)) (fun _ hk => hk.2) (.slice Ao30 t470.length co30)) (fun _ h_ => h_.1))) (Kd.R_base ho0) hb); have n2_ := Aside0.mk (Kd.R_elder' (by (with_reducible repeat (first | apply Kd.R_alloc | apply Kd.R_drewN | apply Kd.R_drew)); exact (Kd.R_mono (Kd.R_far (p := ⟨gb473, 2, none⟩) (Kd.R_far (p := ⟨gb473, 1, none⟩) (Kd.R_far (p := ⟨gb473, 0, none⟩) (Kd.R_types HO472.out BK473.out (by decide)) (fun _ hk => hk.2) (.int .i64 t468)) (fun _ hk => hk.2) (.int .i64 t469)) (fun _ hk => hk.2) (.slice Ao30 t470.length co30)) (fun _ h_ => h_.1))) (Kd.R_base ho0) hb); have n3_ := Aside0.mk (Kd.R_lower (Kd.R_new' (Kd.R_new' (Kd.R_new' ho0 (Kd.R_lt (by (with_reducible repeat (first | apply Kd.R_alloc | apply Kd.R_drewN | apply Kd.R_drew)); exact (Kd.R_mono (Kd.R_far (p := ⟨gb473, 2, none⟩) (Kd.R_far (p := ⟨gb473, 1, none⟩) (Kd.R_far (p := ⟨gb473, 0, none⟩) (Kd.R_types HO460.out BK473.out (by decide)) (fun _ hk => hk.2) (.int .i64 t468)) (fun _ hk => hk.2) (.int .i64 t469)) (fun _ hk => hk.2) (.slice Ao30 t470.length co30)) (fun _ h_ => h_.1))))) (Kd.R_lt (by (with_reducible repeat (first | apply Kd.R_alloc | apply Kd.R_drewN | apply Kd.R_drew)); exact (Kd.R_mono (Kd.R_far (p := ⟨gb473, 2, none⟩) (Kd.R_far (p := ⟨gb473, 1, none⟩) (Kd.R_far (p := ⟨gb473, 0, none⟩) (Kd.R_types HO465.out BK473.out (by decide)) (fun _ hk => hk.2) (.int .i64 t468)) (fun _ hk => hk.2) (.int .i64 t469)) (fun _ hk => hk.2) (.slice Ao30 t470.length co30)) (fun _ h_ => h_.1))))) (Kd.R_lt (by (with_reducible repeat (first | apply Kd.R_alloc | apply Kd.R_drewN | apply Kd.R_drew)); exact (Kd.R_mono (Kd.R_far (p := ⟨gb473, 2, none⟩) (Kd.R_far (p := ⟨gb473, 1, none⟩) (Kd.R_far (p := ⟨gb473, 0, none⟩) (Kd.R_types HO472.out BK473.out (by decide)) (fun _ hk => hk.2) (.int .i64 t468)) (fun _ hk => hk.2) (.int .i64 t469)) (fun _ hk => hk.2) (.slice Ao30 t470.length co30)) (fun _ h_ => h_.1))))) (below_size (by repeat (first | (with_reducible first | exact HB.out | apply below_alloc | apply pw_below_drewN | apply below_drew1 | refine below_set ?_ GE454.out | refine below_set ?_ GE467.out | refine below_set ?_ GE473.out) | exact HB.out)))); have n4_ := Aside0.mk (blk_below (g := gb454) (o := .cells #[.int .i64 a0_0, .int .i64 a0_1, .slice A0_2 l0_2.length c0_2] 24 (0, 0)) (by (with_reducible repeat (first | refine blk_drewN ?_ _ | refine blk_drew ?_ | refine blk_alloc ?_ _)); refine blk_far ?_ NB454_473.out _; (with_reducible repeat (first | refine blk_drewN ?_ _ | refine blk_drew ?_ | refine blk_alloc ?_ _)); refine blk_far ?_ NB454_473.out _; (with_reducible repeat (first | refine blk_drewN ?_ _ | refine blk_drew ?_ | refine blk_alloc ?_ _)); refine blk_far ?_ NB454_473.out _; (with_reducible repeat (first | refine blk_drewN ?_ _ | refine blk_drew ?_ | refine blk_alloc ?_ _)); exact BK454.out) hb); have n5_ := Aside0.mk (blk_below (g := gb467) (o := .cells #[.int .i64 t461, .int .i64 t462, .slice Ao23 t463.length co23] 29 (0, 0)) (by (with_reducible repeat (first | refine blk_drewN ?_ _ | refine blk_drew ?_ | refine blk_alloc ?_ _)); refine blk_far ?_ NB467_473.out _; (with_reducible repeat (first | refine blk_drewN ?_ _ | refine blk_drew ?_ | refine blk_alloc ?_ _)); refine blk_far ?_ NB467_473.out _; (with_reducible repeat (first | refine blk_drewN ?_ _ | refine blk_drew ?_ | refine blk_alloc ?_ _)); refine blk_far ?_ NB467_473.out _; (with_reducible repeat (first | refine blk_drewN ?_ _ | refine blk_drew ?_ | refine blk_alloc ?_ _)); exact BK467.out) hb); have n6_ := Aside0.mk (blk_below (g := gb473) (o := .cells #[.int .i64 t468, .int .i64 t469, .slice Ao30 t470.length co30] 29 (0, 0)) (by (with_reducible repeat (first | refine blk_drewN ?_ _ | refine blk_drew ?_ | refine blk_alloc ?_ _)); refine blk_put (cs := #[.int .i64 t468, .int .i64 t469, .slice none 0 0]) ?_ 2 _ rfl; (with_reducible repeat (first | refine blk_drewN ?_ _ | refine blk_drew ?_ | refine blk_alloc ?_ _)); refine blk_put (cs := #[.int .i64 t468, .int .i64 0, .slice none 0 0]) ?_ 1 _ rfl; (with_reducible repeat (first | refine blk_drewN ?_ _ | refine blk_drew ?_ | refine blk_alloc ?_ _)); refine blk_put (cs := #[.int .i64 0, .int .i64 0, .slice none 0 0]) ?_ 0 _ rfl; (with_reducible repeat (first | refine blk_drewN ?_ _ | refine blk_drew ?_ | refine blk_alloc ?_ _)); exact BK473.out) hb); have n7_ := Aside0.mk (below_step (by repeat (first | (with_reducible first | exact HB.out | apply below_alloc | apply pw_below_drewN | apply below_drew1 | refine below_set ?_ GE454.out | refine below_set ?_ GE467.out | refine below_set ?_ GE473.out) | exact HB.out)) hb); clear HO460; clear HO465; clear HO472; clear BK454; clear BK467; clear BK473; clear HB; have HO460 := n0_; have HO465 := n1_; have HO472 := n2_; have HO478 := n3_; have BK454 := n4_; have BK467 := n5_; have BK473 := n6_; have HB := n7_; clear n0_ n1_ n2_ n3_ n4_ n5_ n6_ n7_; (try clear hb); (try clear hb2); (try clear hk); (try clear hi); (try clear ho0)) | ((with_reducible refine gate_dst (N := 9) rfl ?_); refine box_event ?hg (N := 9) ?hd (cs := #[.int .i64 0, .int .i64 0, .slice none 0 0]) (t := 29) ?hr ?_; (case hd => rfl); (case hg => rfl); (case hr => first | (go_simp; done) | (go_simp; rfl)); intro gb480 hg w32 hbox hb; have n0_ := Aside0.mk (Kd.R_below (by (with_reducible repeat (first | apply Kd.R_alloc | apply Kd.R_drewN | apply Kd.R_drew)); exact HO460.out) hb); have n1_ := Aside0.mk (Kd.R_below (by (with_reducible repeat (first | apply Kd.R_alloc | apply Kd.R_drewN | apply Kd.R_drew)); exact HO465.out) hb); have n2_ := Aside0.mk (Kd.R_below (by (with_reducible repeat (first | apply Kd.R_alloc | apply Kd.R_drewN | apply Kd.R_drew)); exact HO472.out) hb); have n3_ := Aside0.mk (Kd.R_below (by (with_reducible repeat (first | apply Kd.R_alloc | apply Kd.R_drewN | apply Kd.R_drew)); exact HO478.out) hb); have n4_ := Aside0.mk (blk_below (g := gb454) (o := .cells #[.int .i64 a0_0, .int .i64 a0_1, .slice A0_2 l0_2.length c0_2] 24 (0, 0)) (by (with_reducible repeat (first | refine blk_drewN ?_ _ | refine blk_drew ?_ | refine blk_alloc ?_ _)); exact BK454.out) hb); have n5_ := Aside0.mk (blk_below (g := gb467) (o := .cells #[.int .i64 t461, .int .i64 t462, .slice Ao23 t463.length co23] 29 (0, 0)) (by (with_reducible repeat (first | refine blk_drewN ?_ _ | refine blk_drew ?_ | refine blk_alloc ?_ _)); exact BK467.out) hb); have n6_ := Aside0.mk (blk_below (g := gb473) (o := .cells #[.int .i64 t468, .int .i64 t469, .slice Ao30 t470.length co30] 29 (0, 0)) (by (with_reducible repeat (first | refine blk_drewN ?_ _ | refine blk_drew ?_ | refine blk_alloc ?_ _)); exact BK473.out) hb); have n7_ := Aside0.mk (below_step (by repeat (first | (with_reducible first | exact HB.out | apply below_alloc | apply pw_below_drewN | apply below_drew1 | refine below_set ?_ GE454.out | refine below_set ?_ GE467.out | refine below_set ?_ GE473.out) | exact HB.out)) hb); have n8_ := Aside0.mk (hbox); have n9_ := Aside0.mk ((by rw [hg]; exact (below_size (by repeat (first | (with_reducible first | exact HB.out | apply below_alloc | apply pw_below_drewN | apply below_drew1 | refine below_set ?_ GE454.out | refine below_set ?_ GE467.out | refine below_set ?_ GE473.out) | exact HB.out))) : w.heap.size ≤ gb480)); have n10_ := Aside0.mk ((by rw [hg]; exact (below_size (by repeat (first | (with_reducible first | exact HB.out | apply below_alloc | apply pw_below_drewN | apply below_drew1 | refine below_set ?_ GE454.out | refine below_set ?_ GE467.out | refine below_set ?_ GE473.out) | exact HB.out))) : w.heap.size ≤ gb480)); have n11_ := Aside0.mk ((by rw [hg]; exact Nat.ne_of_lt (blk_lt (g := gb454) (o := .cells #[.int .i64 a0_0, .int .i64 a0_1, .slice A0_2 l0_2.length c0_2] 24 (0, 0)) (by (with_reducible repeat (first | refine blk_drewN ?_ _ | refine blk_drew ?_ | refine blk_alloc ?_ _)); exact BK454.out)) : gb454 ≠ gb480)); have n12_ := Aside0.mk ((by rw [hg]; exact Nat.ne_of_gt (blk_lt (g := gb454) (o := .cells #[.int .i64 a0_0, .int .i64 a0_1, .slice A0_2 l0_2.length c0_2] 24 (0, 0)) (by (with_reducible repeat (first | refine blk_drewN ?_ _ | refine blk_drew ?_ | refine blk_alloc ?_ _)); exact BK454.out)) : gb480 ≠ gb454)); have n13_ := Aside0.mk ((by rw [hg]; exact Nat.ne_of_lt (blk_lt (g := gb467) (o := .cells #[.int .i64 t461, .int .i64 t462, .slice Ao23 t463.length co23] 29 (0, 0)) (by (with_reducible repeat (first | refine blk_drewN ?_ _ | refine blk_drew ?_ | refine blk_alloc ?_ _)); exact BK467.out)) : gb467 ≠ gb480)); have n14_ := Aside0.mk ((by rw [hg]; exact Nat.ne_of_gt (blk_lt (g := gb467) (o := .cells #[.int .i64 t461, .int .i64 t462, .slice Ao23 t463.length co23] 29 (0, 0)) (by (with_reducible repeat (first | refine blk_drewN ?_ _ | refine blk_drew ?_ | refine blk_alloc ?_ _)); exact BK467.out)) : gb480 ≠ gb467)); have n15_ := Aside0.mk ((by rw [hg]; exact Nat.ne_of_lt (blk_lt (g := gb473) (o := .cells #[.int .i64 t468, .int .i64 t469, .slice Ao30 t470.length co30] 29 (0, 0)) (by (with_reducible repeat (first | refine blk_drewN ?_ _ | refine blk_drew ?_ | refine blk_alloc ?_ _)); exact BK473.out)) : gb473 ≠ gb480)); have n16_ := Aside0.mk ((by rw [hg]; exact Nat.ne_of_gt (blk_lt (g := gb473) (o := .cells #[.int .i64 t468, .int .i64 t469, .slice Ao30 t470.length co30] 29 (0, 0)) (by (with_reducible repeat (first | refine blk_drewN ?_ _ | refine blk_drew ?_ | refine blk_alloc ?_ _)); exact BK473.out)) : gb480 ≠ gb473)); clear HO460; clear HO465; clear HO472; clear HO478; clear BK454; clear BK467; clear BK473; clear HB; have HO460 := n0_; have HO465 := n1_; have HO472 := n2_; have HO478 := n3_; have BK454 := n4_; have BK467 := n5_; have BK473 := n6_; have HB := n7_; have BK480 := n8_; have GW480 := n9_; have GE480 := n10_; have NB454_480 := n11_; have NB480_454 := n12_; have NB467_480 := n13_; have NB480_467 := n14_; have NB473_480 := n15_; have NB480_473 := n16_; clear n0_ n1_ n2_ n3_ n4_ n5_ n6_ n7_ n8_ n9_ n10_ n11_ n12_ n13_ n14_ n15_ n16_; clear hb hbox hg; have hnb33 := NB480_454.out; have hnc33 := NB454_480.out; have hnb34 := NB480_467.out; have hnc34 := NB467_480.out; have hnb35 := NB480_473.out; have hnc35 := NB473_480.out; have hcz36_0 : w32.cell? ⟨gb480, 0, none⟩ = some (.int .i64 0) := (blk_cell BK480.out 0).trans rfl; have hcz36_1 : w32.cell? ⟨gb480, 1, none⟩ = some (.int .i64 0) := (blk_cell BK480.out 1).trans rfl; have hcz36_2 : w32.cell? ⟨gb480, 2, none⟩ = some (.slice none 0 0) := (blk_cell BK480.out 2).trans rfl; have hfz36_0 := blk_frozen BK480.out 0; have hfz36_1 := blk_frozen BK480.out 1; have hfz36_2 := blk_frozen BK480.out 2; obtain ⟨Ao37, co37, eo37⟩ := Kd.R_slice HO478.out; subst eo37))
    (try simp only [Act.put, List.setIfInBounds_toArray, List.set_cons_zero, List.set_cons_succ])
    go_cut [44] (fun v44 wc => ∃ (kq : Nat) (x44_11 : Bool), v44 = .bool x44_11 ∧ Aside0 (laws_FnExactCompactTo.j0 kq a1 t466 t479 x44_11 a0_0 a0_1 l0_2 t461 t462 t463 t468 t469 t470 t474 t475 t476 = some r) ∧ Aside0 (kq ≤ k) ∧ Aside0 (Kd.R k54 54 wc w.heap.size (fun k_ => some k_ ≠ ((.slice Ao30 t470.length co30) : Value).ownBlock ∧ some k_ ≠ ((.slice Ao37 t476.length co37) : Value).ownBlock) (.slice Ao23 t463.length co23) t463) ∧ Aside0 (Kd.R k54 54 wc w.heap.size (fun k_ => some k_ ≠ ((.slice Ao23 t463.length co23) : Value).ownBlock ∧ some k_ ≠ ((.slice Ao37 t476.length co37) : Value).ownBlock) (.slice Ao30 t470.length co30) t470) ∧ Aside0 (Kd.R k54 54 wc w.heap.size (fun k_ => some k_ ≠ ((.slice Ao23 t463.length co23) : Value).ownBlock ∧ some k_ ≠ ((.slice Ao30 t470.length co30) : Value).ownBlock) (.slice Ao37 t476.length co37) t476) ∧ Aside0 (wc.heap[gb454]? = some (.cells #[.int .i64 a0_0, .int .i64 a0_1, (.slice A0_2 l0_2.length c0_2)] 24 (0, 0))) ∧ Aside0 (wc.heap[gb467]? = some (.cells #[.int .i64 t461, .int .i64 t462, (.slice Ao23 t463.length co23)] 29 (0, 0))) ∧ Aside0 (wc.heap[gb473]? = some (.cells #[.int .i64 t468, .int .i64 t469, (.slice Ao30 t470.length co30)] 29 (0, 0))) ∧ Aside0 (wc.heap[gb480]? = some (.cells #[.int .i64 t474, .int .i64 t475, (.slice Ao37 t476.length co37)] 29 (0, 0))) ∧ Aside0 (Below w.heap.size w wc))
    case first =>
      have H := HC12.out
      clear HC12
      replace H := Option.bind_eq_some_iff.mp H
      obtain ⟨t481, A380, H⟩ := H
      replace H : (if t481 = true then (laws_FnExactCompactTo.j0 k a1 t466 t479 (t479 != t466) a0_0 a0_1 l0_2 t461 t462 t463 t468 t469 t470 t474 t475 t476) else (laws_FnExactCompactTo.j0 k a1 t466 t479 true a0_0 a0_1 l0_2 t461 t462 t463 t468 t469 t470 t474 t475 t476)) = some r := H
      have A38 := Aside0.mk A380
      clear A380
      by_cases c39 : t481 = true
      · subst c39
        have H1 : (laws_FnExactCompactTo.j0 k a1 t466 t479 (t479 != t466) a0_0 a0_1 l0_2 t461 t462 t463 t468 t469 t470 t474 t475 t476) = some r := by rw [if_pos rfl] at H; exact H
        clear H
        have H := H1
        clear H1
        have H' := Aside0.mk H
        clear H
        have hnb40 := NB480_454.out
        have hnc40 := NB454_480.out
        have hnb41 := NB480_467.out
        have hnc41 := NB467_480.out
        have hnb42 := NB480_473.out
        have hnc42 := NB473_480.out
        have hcz43_0 : w32.cell? ⟨gb480, 0, none⟩ = some (.int .i64 0) := (blk_cell BK480.out 0).trans rfl
        have hcz43_1 : w32.cell? ⟨gb480, 1, none⟩ = some (.int .i64 0) := (blk_cell BK480.out 1).trans rfl
        have hcz43_2 : w32.cell? ⟨gb480, 2, none⟩ = some (.slice none 0 0) := (blk_cell BK480.out 2).trans rfl
        have hfz43_0 := blk_frozen BK480.out 0
        have hfz43_1 := blk_frozen BK480.out 1
        have hfz43_2 := blk_frozen BK480.out 2
        have hnb44 := NB467_454.out
        have hnc44 := NB454_467.out
        have hnb45 := NB467_473.out
        have hnc45 := NB473_467.out
        have hcz46_0 : w32.cell? ⟨gb467, 0, none⟩ = some (.int .i64 t461) := (blk_cell BK467.out 0).trans rfl
        have hcz46_1 : w32.cell? ⟨gb467, 1, none⟩ = some (.int .i64 t462) := (blk_cell BK467.out 1).trans rfl
        have hcz46_2 : w32.cell? ⟨gb467, 2, none⟩ = some (.slice Ao23 t463.length co23) := (blk_cell BK467.out 2).trans rfl
        have hfz46_0 := blk_frozen BK467.out 0
        have hfz46_1 := blk_frozen BK467.out 1
        have hfz46_2 := blk_frozen BK467.out 2
        go_wp2_with (first | ((with_reducible refine gate_callee (f := 17) rfl ?_); refine goesL_ (some 38) rfl rfl Try.func17 (by kernel_rfl) rfl #[.agg #[.int .i64 t474, .int .i64 t475, .slice Ao37 t476.length co37], .agg #[.int .i64 t461, .int .i64 t462, .slice Ao23 t463.length co23]] rfl (by (try simp only [List.map_toArray, List.map_cons, List.map_nil]); first | done | rfl | (simp only [List.length_drop, List.length_take]; rfl)) ?_; (with_reducible refine (laws_eqRLog.calls k t474 t475 _ _ t476 t461 t462 _ _ t463 true _ ?side1 ?side2 ?side3 ?side4 A38.out).mono ?_); (case side1 => refine (Kd.R_reads' (e := 54) (base := w.heap.size) (ok := fun k_ => (((True ∧ some k_ ≠ (.slice Ao18 t458.length co18 : Value).ownBlock) ∧ some k_ ≠ (.slice Ao23 t463.length co23 : Value).ownBlock) ∧ some k_ ≠ (.slice Ao30 t470.length co30 : Value).ownBlock)) (n := t476.length) (c := co37) ?_).2.2; exact (by (with_reducible repeat (first | apply Kd.R_alloc | apply Kd.R_drewN | apply Kd.R_drew)); exact (Kd.R_mono (Kd.R_far (p := ⟨gb480, 2, none⟩) (Kd.R_far (p := ⟨gb480, 1, none⟩) (Kd.R_far (p := ⟨gb480, 0, none⟩) (Kd.R_types HO478.out BK480.out (by decide)) (fun _ hk => hk.2) (.int .i64 t474)) (fun _ hk => hk.2) (.int .i64 t475)) (fun _ hk => hk.2) (.slice Ao37 t476.length co37)) (fun _ h_ => h_.1)))); (case side2 => exact (Kd.R_reads' HO478.out).2.1); (case side3 => refine (Kd.R_reads' (e := 54) (base := w.heap.size) (ok := fun k_ => (((True ∧ some k_ ≠ (.slice Ao18 t458.length co18 : Value).ownBlock) ∧ some k_ ≠ (.slice Ao30 t470.length co30 : Value).ownBlock) ∧ some k_ ≠ (.slice Ao37 t476.length co37 : Value).ownBlock)) (n := t463.length) (c := co23) ?_).2.2; exact (by (with_reducible repeat (first | apply Kd.R_alloc | apply Kd.R_drewN | apply Kd.R_drew)); exact (Kd.R_mono (Kd.R_far (p := ⟨gb480, 2, none⟩) (Kd.R_far (p := ⟨gb480, 1, none⟩) (Kd.R_far (p := ⟨gb480, 0, none⟩) (Kd.R_types HO465.out BK480.out (by decide)) (fun _ hk => hk.2) (.int .i64 t474)) (fun _ hk => hk.2) (.int .i64 t475)) (fun _ hk => hk.2) (.slice Ao37 t476.length co37)) (fun _ h_ => h_.1)))); (case side4 => exact (Kd.R_reads' HO465.out).2.1); rintro e w47 ⟨rfl, hb⟩; refine ⟨_, rfl, ?_⟩; have n0_ := Aside0.mk (Kd.R_below (by (with_reducible repeat (first | apply Kd.R_alloc | apply Kd.R_drewN | apply Kd.R_drew)); exact (Kd.R_mono (Kd.R_far (p := ⟨gb480, 2, none⟩) (Kd.R_far (p := ⟨gb480, 1, none⟩) (Kd.R_far (p := ⟨gb480, 0, none⟩) (Kd.R_types HO460.out BK480.out (by decide)) (fun _ hk => hk.2) (.int .i64 t474)) (fun _ hk => hk.2) (.int .i64 t475)) (fun _ hk => hk.2) (.slice Ao37 t476.length co37)) (fun _ h_ => h_.1))) hb); have n1_ := Aside0.mk (Kd.R_below (by (with_reducible repeat (first | apply Kd.R_alloc | apply Kd.R_drewN | apply Kd.R_drew)); exact (Kd.R_mono (Kd.R_far (p := ⟨gb480, 2, none⟩) (Kd.R_far (p := ⟨gb480, 1, none⟩) (Kd.R_far (p := ⟨gb480, 0, none⟩) (Kd.R_types HO465.out BK480.out (by decide)) (fun _ hk => hk.2) (.int .i64 t474)) (fun _ hk => hk.2) (.int .i64 t475)) (fun _ hk => hk.2) (.slice Ao37 t476.length co37)) (fun _ h_ => h_.1))) hb); have n2_ := Aside0.mk (Kd.R_below (by (with_reducible repeat (first | apply Kd.R_alloc | apply Kd.R_drewN | apply Kd.R_drew)); exact (Kd.R_mono (Kd.R_far (p := ⟨gb480, 2, none⟩) (Kd.R_far (p := ⟨gb480, 1, none⟩) (Kd.R_far (p := ⟨gb480, 0, none⟩) (Kd.R_types HO472.out BK480.out (by decide)) (fun _ hk => hk.2) (.int .i64 t474)) (fun _ hk => hk.2) (.int .i64 t475)) (fun _ hk => hk.2) (.slice Ao37 t476.length co37)) (fun _ h_ => h_.1))) hb); have n3_ := Aside0.mk (Kd.R_below (by (with_reducible repeat (first | apply Kd.R_alloc | apply Kd.R_drewN | apply Kd.R_drew)); exact (Kd.R_mono (Kd.R_far (p := ⟨gb480, 2, none⟩) (Kd.R_far (p := ⟨gb480, 1, none⟩) (Kd.R_far (p := ⟨gb480, 0, none⟩) (Kd.R_types HO478.out BK480.out (by decide)) (fun _ hk => hk.2) (.int .i64 t474)) (fun _ hk => hk.2) (.int .i64 t475)) (fun _ hk => hk.2) (.slice Ao37 t476.length co37)) (fun _ h_ => h_.1))) hb); have n4_ := Aside0.mk (blk_below (g := gb454) (o := .cells #[.int .i64 a0_0, .int .i64 a0_1, .slice A0_2 l0_2.length c0_2] 24 (0, 0)) (by (with_reducible repeat (first | refine blk_drewN ?_ _ | refine blk_drew ?_ | refine blk_alloc ?_ _)); refine blk_far ?_ NB454_480.out _; (with_reducible repeat (first | refine blk_drewN ?_ _ | refine blk_drew ?_ | refine blk_alloc ?_ _)); refine blk_far ?_ NB454_480.out _; (with_reducible repeat (first | refine blk_drewN ?_ _ | refine blk_drew ?_ | refine blk_alloc ?_ _)); refine blk_far ?_ NB454_480.out _; (with_reducible repeat (first | refine blk_drewN ?_ _ | refine blk_drew ?_ | refine blk_alloc ?_ _)); exact BK454.out) hb); have n5_ := Aside0.mk (blk_below (g := gb467) (o := .cells #[.int .i64 t461, .int .i64 t462, .slice Ao23 t463.length co23] 29 (0, 0)) (by (with_reducible repeat (first | refine blk_drewN ?_ _ | refine blk_drew ?_ | refine blk_alloc ?_ _)); refine blk_far ?_ NB467_480.out _; (with_reducible repeat (first | refine blk_drewN ?_ _ | refine blk_drew ?_ | refine blk_alloc ?_ _)); refine blk_far ?_ NB467_480.out _; (with_reducible repeat (first | refine blk_drewN ?_ _ | refine blk_drew ?_ | refine blk_alloc ?_ _)); refine blk_far ?_ NB467_480.out _; (with_reducible repeat (first | refine blk_drewN ?_ _ | refine blk_drew ?_ | refine blk_alloc ?_ _)); exact BK467.out) hb); have n6_ := Aside0.mk (blk_below (g := gb473) (o := .cells #[.int .i64 t468, .int .i64 t469, .slice Ao30 t470.length co30] 29 (0, 0)) (by (with_reducible repeat (first | refine blk_drewN ?_ _ | refine blk_drew ?_ | refine blk_alloc ?_ _)); refine blk_far ?_ NB473_480.out _; (with_reducible repeat (first | refine blk_drewN ?_ _ | refine blk_drew ?_ | refine blk_alloc ?_ _)); refine blk_far ?_ NB473_480.out _; (with_reducible repeat (first | refine blk_drewN ?_ _ | refine blk_drew ?_ | refine blk_alloc ?_ _)); refine blk_far ?_ NB473_480.out _; (with_reducible repeat (first | refine blk_drewN ?_ _ | refine blk_drew ?_ | refine blk_alloc ?_ _)); exact BK473.out) hb); have n7_ := Aside0.mk (blk_below (g := gb480) (o := .cells #[.int .i64 t474, .int .i64 t475, .slice Ao37 t476.length co37] 29 (0, 0)) (by (with_reducible repeat (first | refine blk_drewN ?_ _ | refine blk_drew ?_ | refine blk_alloc ?_ _)); refine blk_put (cs := #[.int .i64 t474, .int .i64 t475, .slice none 0 0]) ?_ 2 _ rfl; (with_reducible repeat (first | refine blk_drewN ?_ _ | refine blk_drew ?_ | refine blk_alloc ?_ _)); refine blk_put (cs := #[.int .i64 t474, .int .i64 0, .slice none 0 0]) ?_ 1 _ rfl; (with_reducible repeat (first | refine blk_drewN ?_ _ | refine blk_drew ?_ | refine blk_alloc ?_ _)); refine blk_put (cs := #[.int .i64 0, .int .i64 0, .slice none 0 0]) ?_ 0 _ rfl; (with_reducible repeat (first | refine blk_drewN ?_ _ | refine blk_drew ?_ | refine blk_alloc ?_ _)); exact BK480.out) hb); have n8_ := Aside0.mk (below_step (by repeat (first | (with_reducible first | exact HB.out | apply below_alloc | apply pw_below_drewN | apply below_drew1 | refine below_set ?_ GE454.out | refine below_set ?_ GE467.out | refine below_set ?_ GE473.out | refine below_set ?_ GE480.out) | exact HB.out)) hb); clear HO460; clear HO465; clear HO472; clear HO478; clear BK454; clear BK467; clear BK473; clear BK480; clear HB; have HO460 := n0_; have HO465 := n1_; have HO472 := n2_; have HO478 := n3_; have BK454 := n4_; have BK467 := n5_; have BK473 := n6_; have BK480 := n7_; have HB := n8_; clear n0_ n1_ n2_ n3_ n4_ n5_ n6_ n7_ n8_; (try clear hb); (try clear hb2); (try clear hk); (try clear hi)))
        go_meet
        case rel => exact ⟨_, ((t479 != t466)), (by first | rfl | (simp; done) | (simp [*]; done)), H', ⟨by first | omega | exact Nat.le_refl _⟩, ⟨by (with_reducible repeat (first | apply Kd.R_alloc | apply Kd.R_drewN | apply Kd.R_drew)); exact Kd.R_mono HO465.out (fun _ hk => ⟨hk.1.2, hk.2⟩)⟩, ⟨by (with_reducible repeat (first | apply Kd.R_alloc | apply Kd.R_drewN | apply Kd.R_drew)); exact Kd.R_mono HO472.out (fun _ hk => ⟨hk.1.2, hk.2⟩)⟩, ⟨by (with_reducible repeat (first | apply Kd.R_alloc | apply Kd.R_drewN | apply Kd.R_drew)); exact Kd.R_mono HO478.out (fun _ hk => ⟨hk.1.2, hk.2⟩)⟩, ⟨by (with_reducible repeat (first | refine blk_drewN ?_ _ | refine blk_drew ?_ | refine blk_alloc ?_ _)); exact BK454.out⟩, ⟨by (with_reducible repeat (first | refine blk_drewN ?_ _ | refine blk_drew ?_ | refine blk_alloc ?_ _)); exact BK467.out⟩, ⟨by (with_reducible repeat (first | refine blk_drewN ?_ _ | refine blk_drew ?_ | refine blk_alloc ?_ _)); exact BK473.out⟩, ⟨by (with_reducible repeat (first | refine blk_drewN ?_ _ | refine blk_drew ?_ | refine blk_alloc ?_ _)); exact BK480.out⟩, ⟨by repeat (first | (with_reducible first | exact HB.out | apply below_alloc | apply pw_below_drewN | apply below_drew1 | refine below_set ?_ GE454.out | refine below_set ?_ GE467.out | refine below_set ?_ GE473.out | refine below_set ?_ GE480.out) | exact HB.out)⟩⟩
      · replace c39 := Bool.eq_false_iff.mpr c39
        subst c39
        have H1 : (laws_FnExactCompactTo.j0 k a1 t466 t479 true a0_0 a0_1 l0_2 t461 t462 t463 t468 t469 t470 t474 t475 t476) = some r := by rw [if_neg (show ¬ (false = true) by decide)] at H; exact H
        clear H
        have H := H1
        clear H1
        have H' := Aside0.mk H
        clear H
        have hnb48 := NB480_454.out
        have hnc48 := NB454_480.out
        have hnb49 := NB480_467.out
        have hnc49 := NB467_480.out
        have hnb50 := NB480_473.out
        have hnc50 := NB473_480.out
        have hcz51_0 : w32.cell? ⟨gb480, 0, none⟩ = some (.int .i64 0) := (blk_cell BK480.out 0).trans rfl
        have hcz51_1 : w32.cell? ⟨gb480, 1, none⟩ = some (.int .i64 0) := (blk_cell BK480.out 1).trans rfl
        have hcz51_2 : w32.cell? ⟨gb480, 2, none⟩ = some (.slice none 0 0) := (blk_cell BK480.out 2).trans rfl
        have hfz51_0 := blk_frozen BK480.out 0
        have hfz51_1 := blk_frozen BK480.out 1
        have hfz51_2 := blk_frozen BK480.out 2
        have hnb52 := NB467_454.out
        have hnc52 := NB454_467.out
        have hnb53 := NB467_473.out
        have hnc53 := NB473_467.out
        have hcz54_0 : w32.cell? ⟨gb467, 0, none⟩ = some (.int .i64 t461) := (blk_cell BK467.out 0).trans rfl
        have hcz54_1 : w32.cell? ⟨gb467, 1, none⟩ = some (.int .i64 t462) := (blk_cell BK467.out 1).trans rfl
        have hcz54_2 : w32.cell? ⟨gb467, 2, none⟩ = some (.slice Ao23 t463.length co23) := (blk_cell BK467.out 2).trans rfl
        have hfz54_0 := blk_frozen BK467.out 0
        have hfz54_1 := blk_frozen BK467.out 1
        have hfz54_2 := blk_frozen BK467.out 2
        go_wp2_with (first | ((with_reducible refine gate_callee (f := 17) rfl ?_); refine goesL_ (some 38) rfl rfl Try.func17 (by kernel_rfl) rfl #[.agg #[.int .i64 t474, .int .i64 t475, .slice Ao37 t476.length co37], .agg #[.int .i64 t461, .int .i64 t462, .slice Ao23 t463.length co23]] rfl (by (try simp only [List.map_toArray, List.map_cons, List.map_nil]); first | done | rfl | (simp only [List.length_drop, List.length_take]; rfl)) ?_; (with_reducible refine (laws_eqRLog.calls k t474 t475 _ _ t476 t461 t462 _ _ t463 false _ ?side1 ?side2 ?side3 ?side4 A38.out).mono ?_); (case side1 => refine (Kd.R_reads' (e := 54) (base := w.heap.size) (ok := fun k_ => (((True ∧ some k_ ≠ (.slice Ao18 t458.length co18 : Value).ownBlock) ∧ some k_ ≠ (.slice Ao23 t463.length co23 : Value).ownBlock) ∧ some k_ ≠ (.slice Ao30 t470.length co30 : Value).ownBlock)) (n := t476.length) (c := co37) ?_).2.2; exact (by (with_reducible repeat (first | apply Kd.R_alloc | apply Kd.R_drewN | apply Kd.R_drew)); exact (Kd.R_mono (Kd.R_far (p := ⟨gb480, 2, none⟩) (Kd.R_far (p := ⟨gb480, 1, none⟩) (Kd.R_far (p := ⟨gb480, 0, none⟩) (Kd.R_types HO478.out BK480.out (by decide)) (fun _ hk => hk.2) (.int .i64 t474)) (fun _ hk => hk.2) (.int .i64 t475)) (fun _ hk => hk.2) (.slice Ao37 t476.length co37)) (fun _ h_ => h_.1)))); (case side2 => exact (Kd.R_reads' HO478.out).2.1); (case side3 => refine (Kd.R_reads' (e := 54) (base := w.heap.size) (ok := fun k_ => (((True ∧ some k_ ≠ (.slice Ao18 t458.length co18 : Value).ownBlock) ∧ some k_ ≠ (.slice Ao30 t470.length co30 : Value).ownBlock) ∧ some k_ ≠ (.slice Ao37 t476.length co37 : Value).ownBlock)) (n := t463.length) (c := co23) ?_).2.2; exact (by (with_reducible repeat (first | apply Kd.R_alloc | apply Kd.R_drewN | apply Kd.R_drew)); exact (Kd.R_mono (Kd.R_far (p := ⟨gb480, 2, none⟩) (Kd.R_far (p := ⟨gb480, 1, none⟩) (Kd.R_far (p := ⟨gb480, 0, none⟩) (Kd.R_types HO465.out BK480.out (by decide)) (fun _ hk => hk.2) (.int .i64 t474)) (fun _ hk => hk.2) (.int .i64 t475)) (fun _ hk => hk.2) (.slice Ao37 t476.length co37)) (fun _ h_ => h_.1)))); (case side4 => exact (Kd.R_reads' HO465.out).2.1); rintro e w55 ⟨rfl, hb⟩; refine ⟨_, rfl, ?_⟩; have n0_ := Aside0.mk (Kd.R_below (by (with_reducible repeat (first | apply Kd.R_alloc | apply Kd.R_drewN | apply Kd.R_drew)); exact (Kd.R_mono (Kd.R_far (p := ⟨gb480, 2, none⟩) (Kd.R_far (p := ⟨gb480, 1, none⟩) (Kd.R_far (p := ⟨gb480, 0, none⟩) (Kd.R_types HO460.out BK480.out (by decide)) (fun _ hk => hk.2) (.int .i64 t474)) (fun _ hk => hk.2) (.int .i64 t475)) (fun _ hk => hk.2) (.slice Ao37 t476.length co37)) (fun _ h_ => h_.1))) hb); have n1_ := Aside0.mk (Kd.R_below (by (with_reducible repeat (first | apply Kd.R_alloc | apply Kd.R_drewN | apply Kd.R_drew)); exact (Kd.R_mono (Kd.R_far (p := ⟨gb480, 2, none⟩) (Kd.R_far (p := ⟨gb480, 1, none⟩) (Kd.R_far (p := ⟨gb480, 0, none⟩) (Kd.R_types HO465.out BK480.out (by decide)) (fun _ hk => hk.2) (.int .i64 t474)) (fun _ hk => hk.2) (.int .i64 t475)) (fun _ hk => hk.2) (.slice Ao37 t476.length co37)) (fun _ h_ => h_.1))) hb); have n2_ := Aside0.mk (Kd.R_below (by (with_reducible repeat (first | apply Kd.R_alloc | apply Kd.R_drewN | apply Kd.R_drew)); exact (Kd.R_mono (Kd.R_far (p := ⟨gb480, 2, none⟩) (Kd.R_far (p := ⟨gb480, 1, none⟩) (Kd.R_far (p := ⟨gb480, 0, none⟩) (Kd.R_types HO472.out BK480.out (by decide)) (fun _ hk => hk.2) (.int .i64 t474)) (fun _ hk => hk.2) (.int .i64 t475)) (fun _ hk => hk.2) (.slice Ao37 t476.length co37)) (fun _ h_ => h_.1))) hb); have n3_ := Aside0.mk (Kd.R_below (by (with_reducible repeat (first | apply Kd.R_alloc | apply Kd.R_drewN | apply Kd.R_drew)); exact (Kd.R_mono (Kd.R_far (p := ⟨gb480, 2, none⟩) (Kd.R_far (p := ⟨gb480, 1, none⟩) (Kd.R_far (p := ⟨gb480, 0, none⟩) (Kd.R_types HO478.out BK480.out (by decide)) (fun _ hk => hk.2) (.int .i64 t474)) (fun _ hk => hk.2) (.int .i64 t475)) (fun _ hk => hk.2) (.slice Ao37 t476.length co37)) (fun _ h_ => h_.1))) hb); have n4_ := Aside0.mk (blk_below (g := gb454) (o := .cells #[.int .i64 a0_0, .int .i64 a0_1, .slice A0_2 l0_2.length c0_2] 24 (0, 0)) (by (with_reducible repeat (first | refine blk_drewN ?_ _ | refine blk_drew ?_ | refine blk_alloc ?_ _)); refine blk_far ?_ NB454_480.out _; (with_reducible repeat (first | refine blk_drewN ?_ _ | refine blk_drew ?_ | refine blk_alloc ?_ _)); refine blk_far ?_ NB454_480.out _; (with_reducible repeat (first | refine blk_drewN ?_ _ | refine blk_drew ?_ | refine blk_alloc ?_ _)); refine blk_far ?_ NB454_480.out _; (with_reducible repeat (first | refine blk_drewN ?_ _ | refine blk_drew ?_ | refine blk_alloc ?_ _)); exact BK454.out) hb); have n5_ := Aside0.mk (blk_below (g := gb467) (o := .cells #[.int .i64 t461, .int .i64 t462, .slice Ao23 t463.length co23] 29 (0, 0)) (by (with_reducible repeat (first | refine blk_drewN ?_ _ | refine blk_drew ?_ | refine blk_alloc ?_ _)); refine blk_far ?_ NB467_480.out _; (with_reducible repeat (first | refine blk_drewN ?_ _ | refine blk_drew ?_ | refine blk_alloc ?_ _)); refine blk_far ?_ NB467_480.out _; (with_reducible repeat (first | refine blk_drewN ?_ _ | refine blk_drew ?_ | refine blk_alloc ?_ _)); refine blk_far ?_ NB467_480.out _; (with_reducible repeat (first | refine blk_drewN ?_ _ | refine blk_drew ?_ | refine blk_alloc ?_ _)); exact BK467.out) hb); have n6_ := Aside0.mk (blk_below (g := gb473) (o := .cells #[.int .i64 t468, .int .i64 t469, .slice Ao30 t470.length co30] 29 (0, 0)) (by (with_reducible repeat (first | refine blk_drewN ?_ _ | refine blk_drew ?_ | refine blk_alloc ?_ _)); refine blk_far ?_ NB473_480.out _; (with_reducible repeat (first | refine blk_drewN ?_ _ | refine blk_drew ?_ | refine blk_alloc ?_ _)); refine blk_far ?_ NB473_480.out _; (with_reducible repeat (first | refine blk_drewN ?_ _ | refine blk_drew ?_ | refine blk_alloc ?_ _)); refine blk_far ?_ NB473_480.out _; (with_reducible repeat (first | refine blk_drewN ?_ _ | refine blk_drew ?_ | refine blk_alloc ?_ _)); exact BK473.out) hb); have n7_ := Aside0.mk (blk_below (g := gb480) (o := .cells #[.int .i64 t474, .int .i64 t475, .slice Ao37 t476.length co37] 29 (0, 0)) (by (with_reducible repeat (first | refine blk_drewN ?_ _ | refine blk_drew ?_ | refine blk_alloc ?_ _)); refine blk_put (cs := #[.int .i64 t474, .int .i64 t475, .slice none 0 0]) ?_ 2 _ rfl; (with_reducible repeat (first | refine blk_drewN ?_ _ | refine blk_drew ?_ | refine blk_alloc ?_ _)); refine blk_put (cs := #[.int .i64 t474, .int .i64 0, .slice none 0 0]) ?_ 1 _ rfl; (with_reducible repeat (first | refine blk_drewN ?_ _ | refine blk_drew ?_ | refine blk_alloc ?_ _)); refine blk_put (cs := #[.int .i64 0, .int .i64 0, .slice none 0 0]) ?_ 0 _ rfl; (with_reducible repeat (first | refine blk_drewN ?_ _ | refine blk_drew ?_ | refine blk_alloc ?_ _)); exact BK480.out) hb); have n8_ := Aside0.mk (below_step (by repeat (first | (with_reducible first | exact HB.out | apply below_alloc | apply pw_below_drewN | apply below_drew1 | refine below_set ?_ GE454.out | refine below_set ?_ GE467.out | refine below_set ?_ GE473.out | refine below_set ?_ GE480.out) | exact HB.out)) hb); clear HO460; clear HO465; clear HO472; clear HO478; clear BK454; clear BK467; clear BK473; clear BK480; clear HB; have HO460 := n0_; have HO465 := n1_; have HO472 := n2_; have HO478 := n3_; have BK454 := n4_; have BK467 := n5_; have BK473 := n6_; have BK480 := n7_; have HB := n8_; clear n0_ n1_ n2_ n3_ n4_ n5_ n6_ n7_ n8_; (try clear hb); (try clear hb2); (try clear hk); (try clear hi)))
        go_meet
        case rel => exact ⟨_, (true), (by first | rfl | (simp; done) | (simp [*]; done)), H', ⟨by first | omega | exact Nat.le_refl _⟩, ⟨by (with_reducible repeat (first | apply Kd.R_alloc | apply Kd.R_drewN | apply Kd.R_drew)); exact Kd.R_mono HO465.out (fun _ hk => ⟨hk.1.2, hk.2⟩)⟩, ⟨by (with_reducible repeat (first | apply Kd.R_alloc | apply Kd.R_drewN | apply Kd.R_drew)); exact Kd.R_mono HO472.out (fun _ hk => ⟨hk.1.2, hk.2⟩)⟩, ⟨by (with_reducible repeat (first | apply Kd.R_alloc | apply Kd.R_drewN | apply Kd.R_drew)); exact Kd.R_mono HO478.out (fun _ hk => ⟨hk.1.2, hk.2⟩)⟩, ⟨by (with_reducible repeat (first | refine blk_drewN ?_ _ | refine blk_drew ?_ | refine blk_alloc ?_ _)); exact BK454.out⟩, ⟨by (with_reducible repeat (first | refine blk_drewN ?_ _ | refine blk_drew ?_ | refine blk_alloc ?_ _)); exact BK467.out⟩, ⟨by (with_reducible repeat (first | refine blk_drewN ?_ _ | refine blk_drew ?_ | refine blk_alloc ?_ _)); exact BK473.out⟩, ⟨by (with_reducible repeat (first | refine blk_drewN ?_ _ | refine blk_drew ?_ | refine blk_alloc ?_ _)); exact BK480.out⟩, ⟨by repeat (first | (with_reducible first | exact HB.out | apply below_alloc | apply pw_below_drewN | apply below_drew1 | refine below_set ?_ GE454.out | refine below_set ?_ GE467.out | refine below_set ?_ GE473.out | refine below_set ?_ GE480.out) | exact HB.out)⟩⟩
    case rest =>
      clear HC12
      try clear c1
      try clear c2
      try clear p2
      try clear c3
      try clear c4
      try clear c4b0
      try clear c5
      try clear c9
      try clear c13
      try clear c15
      try clear c17
      try clear c21
      try clear c27
      try clear c28
      try clear c32
      try clear c33
      try clear c34
      try clear c35
      try clear c39
      try clear c40
      try clear c41
      try clear c42
      try clear c44
      try clear c45
      try clear c48
      try clear c49
      try clear c50
      try clear c52
      try clear c53
      try clear hcz14_0
      try clear hcz14_1
      try clear hcz14_2
      try clear hcz16_0
      try clear hcz16_1
      try clear hcz16_2
      try clear hcz22_0
      try clear hcz22_1
      try clear hcz22_2
      try clear hcz24_0
      try clear hcz24_1
      try clear hcz24_2
      try clear hcz29_0
      try clear hcz29_1
      try clear hcz29_2
      try clear hcz36_0
      try clear hcz36_1
      try clear hcz36_2
      try clear hcz43_0
      try clear hcz43_1
      try clear hcz43_2
      try clear hcz46_0
      try clear hcz46_1
      try clear hcz46_2
      try clear hcz51_0
      try clear hcz51_1
      try clear hcz51_2
      try clear hcz54_0
      try clear hcz54_1
      try clear hcz54_2
      try clear hcz6_0
      try clear hcz6_1
      try clear hcz6_2
      try clear hfz14_0
      try clear hfz14_1
      try clear hfz14_2
      try clear hfz16_0
      try clear hfz16_1
      try clear hfz16_2
      try clear hfz22_0
      try clear hfz22_1
      try clear hfz22_2
      try clear hfz24_0
      try clear hfz24_1
      try clear hfz24_2
      try clear hfz29_0
      try clear hfz29_1
      try clear hfz29_2
      try clear hfz36_0
      try clear hfz36_1
      try clear hfz36_2
      try clear hfz43_0
      try clear hfz43_1
      try clear hfz43_2
      try clear hfz46_0
      try clear hfz46_1
      try clear hfz46_2
      try clear hfz51_0
      try clear hfz51_1
      try clear hfz51_2
      try clear hfz54_0
      try clear hfz54_1
      try clear hfz54_2
      try clear hfz6_0
      try clear hfz6_1
      try clear hfz6_2
      obtain ⟨kq, x44_11, rfl, HA, HJ11, HO_468002, HO_474002, HO_481002, BK454, BK467, BK473, BK480, HB⟩ := hcut
      cases kq with
      | zero => exact absurd HA.out (by simp [laws_FnExactCompactTo.j0])
      | succ kj11 =>
        have H := HA.out
        clear HA
        simp only [laws_FnExactCompactTo.j0] at H
        by_cases c56 : x44_11 = true
        · subst c56
          have H1 : (none) = some r := by rw [if_pos rfl] at H; exact H
          clear H
          have H := H1
          clear H1
          exact absurd H (by simp)
        · replace c56 := Bool.eq_false_iff.mpr c56
          subst c56
          have H1 : ((laws_toRLog.f kj11 a0_0 a0_1 l0_2).bind fun bt482 => ((laws_eqRLog.f kj11 t468 t469 t470 bt482.1 bt482.2.1 bt482.2.2).bind fun t487 => (if t487 = true then ((laws_markRLog.f kj11 t468 t469 t470 1).bind fun bt488 => (if bt488.1 < 0 then (laws_FnExactCompactTo.j1 kj11 a1 t466 true a0_0 a0_1 l0_2 t461 t462 t463 t474 t475 t476) else ((laws_eqRLog.f kj11 t474 t475 t476 t461 t462 t463).bind fun t490 => (if t490 = true then (laws_FnExactCompactTo.j1 kj11 a1 t466 (t479 != t466) a0_0 a0_1 l0_2 t461 t462 t463 t474 t475 t476) else (laws_FnExactCompactTo.j1 kj11 a1 t466 true a0_0 a0_1 l0_2 t461 t462 t463 t474 t475 t476))))) else (none)))) = some r := by rw [if_neg (show ¬ (false = true) by decide)] at H; exact H
          clear H
          have H := H1
          clear H1
          replace H := Option.bind_eq_some_iff.mp H
          obtain ⟨⟨t482, t483, t484⟩, A570, H⟩ := H
          replace H : ((laws_eqRLog.f kj11 t468 t469 t470 t482 t483 t484).bind fun t487 => (if t487 = true then ((laws_markRLog.f kj11 t468 t469 t470 1).bind fun bt488 => (if bt488.1 < 0 then (laws_FnExactCompactTo.j1 kj11 a1 t466 true a0_0 a0_1 l0_2 t461 t462 t463 t474 t475 t476) else ((laws_eqRLog.f kj11 t474 t475 t476 t461 t462 t463).bind fun t490 => (if t490 = true then (laws_FnExactCompactTo.j1 kj11 a1 t466 (t479 != t466) a0_0 a0_1 l0_2 t461 t462 t463 t474 t475 t476) else (laws_FnExactCompactTo.j1 kj11 a1 t466 true a0_0 a0_1 l0_2 t461 t462 t463 t474 t475 t476))))) else (none))) = some r := H
          have A57 := Aside0.mk A570
          clear A570
          replace H := Option.bind_eq_some_iff.mp H
          obtain ⟨t487, A580, H⟩ := H
          replace H : (if t487 = true then ((laws_markRLog.f kj11 t468 t469 t470 1).bind fun bt488 => (if bt488.1 < 0 then (laws_FnExactCompactTo.j1 kj11 a1 t466 true a0_0 a0_1 l0_2 t461 t462 t463 t474 t475 t476) else ((laws_eqRLog.f kj11 t474 t475 t476 t461 t462 t463).bind fun t490 => (if t490 = true then (laws_FnExactCompactTo.j1 kj11 a1 t466 (t479 != t466) a0_0 a0_1 l0_2 t461 t462 t463 t474 t475 t476) else (laws_FnExactCompactTo.j1 kj11 a1 t466 true a0_0 a0_1 l0_2 t461 t462 t463 t474 t475 t476))))) else (none)) = some r := H
          have A58 := Aside0.mk A580
          clear A580
          by_cases c59 : t487 = true
          · subst c59
            have H1 : ((laws_markRLog.f kj11 t468 t469 t470 1).bind fun bt488 => (if bt488.1 < 0 then (laws_FnExactCompactTo.j1 kj11 a1 t466 true a0_0 a0_1 l0_2 t461 t462 t463 t474 t475 t476) else ((laws_eqRLog.f kj11 t474 t475 t476 t461 t462 t463).bind fun t490 => (if t490 = true then (laws_FnExactCompactTo.j1 kj11 a1 t466 (t479 != t466) a0_0 a0_1 l0_2 t461 t462 t463 t474 t475 t476) else (laws_FnExactCompactTo.j1 kj11 a1 t466 true a0_0 a0_1 l0_2 t461 t462 t463 t474 t475 t476))))) = some r := by rw [if_pos rfl] at H; exact H
            clear H
            have H := H1
            clear H1
            replace H := Option.bind_eq_some_iff.mp H
            obtain ⟨⟨t488, t489⟩, A600, H⟩ := H
            replace H : (if t488 < 0 then (laws_FnExactCompactTo.j1 kj11 a1 t466 true a0_0 a0_1 l0_2 t461 t462 t463 t474 t475 t476) else ((laws_eqRLog.f kj11 t474 t475 t476 t461 t462 t463).bind fun t490 => (if t490 = true then (laws_FnExactCompactTo.j1 kj11 a1 t466 (t479 != t466) a0_0 a0_1 l0_2 t461 t462 t463 t474 t475 t476) else (laws_FnExactCompactTo.j1 kj11 a1 t466 true a0_0 a0_1 l0_2 t461 t462 t463 t474 t475 t476)))) = some r := H
            have A60 := Aside0.mk A600
            clear A600
            have HC61 := Aside0.mk H
            clear H
            try go_wp2
            have n0_ := Aside0.mk (Kd.R_drew HO_468002.out)
            have n1_ := Aside0.mk (Kd.R_drew HO_474002.out)
            have n2_ := Aside0.mk (Kd.R_drew HO_481002.out)
            have n3_ := Aside0.mk (blk_drew BK454.out)
            have n4_ := Aside0.mk (blk_drew BK467.out)
            have n5_ := Aside0.mk (blk_drew BK473.out)
            have n6_ := Aside0.mk (blk_drew BK480.out)
            have n7_ := Aside0.mk (below_drew1 HB.out)
            clear HO_468002
            clear HO_474002
            clear HO_481002
            clear BK454
            clear BK467
            clear BK473
            clear BK480
            clear HB
            have HO_468002 := n0_
            have HO_474002 := n1_
            have HO_481002 := n2_
            have BK454 := n3_
            have BK467 := n4_
            have BK473 := n5_
            have BK480 := n6_
            have HB := n7_
            clear n0_ n1_ n2_ n3_ n4_ n5_ n6_ n7_
            refine start_ (n := 5) (S := fun w' => w'.cell? ⟨gb473, 0, none⟩ = some (.int .i64 t468) ∧ w'.cell? ⟨gb473, 1, none⟩ = some (.int .i64 t469) ∧ w'.cell? ⟨gb473, 2, none⟩ = some (.slice Ao30 t470.length co30) ∧ w'.cell? ⟨gb454, 0, none⟩ = some (.int .i64 a0_0) ∧ w'.cell? ⟨gb454, 1, none⟩ = some (.int .i64 a0_1) ∧ w'.cell? ⟨gb454, 2, none⟩ = some (.slice A0_2 l0_2.length c0_2)) (ds := []) #[false, false, false, false, false] (by kernel_rfl) rfl rfl ⟨(blk_cell BK473.out 0).trans rfl, (blk_cell BK473.out 1).trans rfl, (blk_cell BK473.out 2).trans rfl, (blk_cell BK454.out 0).trans rfl, (blk_cell BK454.out 1).trans rfl, (blk_cell BK454.out 2).trans rfl⟩ (fun hHeld => ?_)
            generalize wc.drew = w62 at HO_468002 HO_474002 HO_481002 BK454 BK467 BK473 BK480 HB hHeld ⊢
            refine take_ (i := 0) (N := some 45) (v := ?_) (a' := ?_) #[true, false, false, false, false] rfl rfl (by kernel_rfl) (fun _ _ _ h => h) (Or.inl ⟨by rfl, ?_⟩) hHeld ?_ ?_
            rotate_left
            · rintro w' ⟨s0, s1, s2, s3, s4, s5⟩
              go_simp
              with_reducible rfl
            rotate_left
            · simp only [Act.put, List.setIfInBounds_toArray, List.set_cons_zero, List.set_cons_succ, i64_w, i32_w]
              rfl
            refine take_ (i := 1) (N := some 46) (v := ?_) (a' := ?_) #[true, true, false, false, false] rfl rfl (by kernel_rfl) (fun _ _ _ h => h) (Or.inl ⟨by rfl, ?_⟩) hHeld ?_ ?_
            rotate_left
            · rintro w' ⟨s0, s1, s2, s3, s4, s5⟩
              go_simp
              with_reducible rfl
            rotate_left
            · simp only [Act.put, List.setIfInBounds_toArray, List.set_cons_zero, List.set_cons_succ, i64_w, i32_w]
              rfl
            refine one_ (i := 2) (N := some 47) #[true, true, true, false, false] rfl rfl (by kernel_rfl) (by decide) (fun K hK => ?_)
            refine goes_ Try.func15 (by kernel_rfl) rfl #[.agg #[.int .i64 a0_0, .int .i64 a0_1, .slice A0_2 l0_2.length c0_2]] (by rfl) rfl rfl (by (try simp only [List.map_toArray, List.map_cons, List.map_nil]); first | done | rfl | (simp only [List.length_drop, List.length_take]; rfl)) ?_
            with_reducible refine (laws_toRLog.calls kj11 a0_0 a0_1 _ _ l0_2 t482 t483 t484 _ ?side1 ?side2 A57.out).mono ?_
            (case side1 => repeat (first | exact (Kd.C_below HR0_2.out HB.out) | (with_reducible refine Kd.C_alloc ?_ _) | (with_reducible refine Kd.C_drewN ?_ _) | (with_reducible refine Kd.C_drew ?_)))
            (case side2 => exact HC0_2.out)
            rintro e w63 ⟨v485, rfl, ho0, hb⟩
            refine ⟨_, rfl, ?_⟩
            have n0_ := Aside0.mk (Kd.R_elder' (by (with_reducible repeat (first | apply Kd.R_alloc | apply Kd.R_drewN | apply Kd.R_drew)); exact HO_468002.out) (Kd.R_base ho0) hb)
            have n1_ := Aside0.mk (Kd.R_elder' (by (with_reducible repeat (first | apply Kd.R_alloc | apply Kd.R_drewN | apply Kd.R_drew)); exact HO_474002.out) (Kd.R_base ho0) hb)
            have n2_ := Aside0.mk (Kd.R_elder' (by (with_reducible repeat (first | apply Kd.R_alloc | apply Kd.R_drewN | apply Kd.R_drew)); exact HO_481002.out) (Kd.R_base ho0) hb)
            have n3_ := Aside0.mk (Kd.R_lower (Kd.R_new' (Kd.R_new' (Kd.R_new' ho0 (Kd.R_lt (by (with_reducible repeat (first | apply Kd.R_alloc | apply Kd.R_drewN | apply Kd.R_drew)); exact HO_468002.out))) (Kd.R_lt (by (with_reducible repeat (first | apply Kd.R_alloc | apply Kd.R_drewN | apply Kd.R_drew)); exact HO_474002.out))) (Kd.R_lt (by (with_reducible repeat (first | apply Kd.R_alloc | apply Kd.R_drewN | apply Kd.R_drew)); exact HO_481002.out))) (below_size (by repeat (first | (with_reducible first | exact HB.out | apply below_alloc | apply pw_below_drewN | apply below_drew1 | refine below_set ?_ GE454.out | refine below_set ?_ GE467.out | refine below_set ?_ GE473.out | refine below_set ?_ GE480.out) | exact HB.out))))
            have n4_ := Aside0.mk (blk_below (g := gb454) (o := .cells #[.int .i64 a0_0, .int .i64 a0_1, .slice A0_2 l0_2.length c0_2] 24 (0, 0)) (by (with_reducible repeat (first | refine blk_drewN ?_ _ | refine blk_drew ?_ | refine blk_alloc ?_ _)); exact BK454.out) hb)
            have n5_ := Aside0.mk (blk_below (g := gb467) (o := .cells #[.int .i64 t461, .int .i64 t462, .slice Ao23 t463.length co23] 29 (0, 0)) (by (with_reducible repeat (first | refine blk_drewN ?_ _ | refine blk_drew ?_ | refine blk_alloc ?_ _)); exact BK467.out) hb)
            have n6_ := Aside0.mk (blk_below (g := gb473) (o := .cells #[.int .i64 t468, .int .i64 t469, .slice Ao30 t470.length co30] 29 (0, 0)) (by (with_reducible repeat (first | refine blk_drewN ?_ _ | refine blk_drew ?_ | refine blk_alloc ?_ _)); exact BK473.out) hb)
            have n7_ := Aside0.mk (blk_below (g := gb480) (o := .cells #[.int .i64 t474, .int .i64 t475, .slice Ao37 t476.length co37] 29 (0, 0)) (by (with_reducible repeat (first | refine blk_drewN ?_ _ | refine blk_drew ?_ | refine blk_alloc ?_ _)); exact BK480.out) hb)
            have n8_ := Aside0.mk (below_step (by repeat (first | (with_reducible first | exact HB.out | apply below_alloc | apply pw_below_drewN | apply below_drew1 | refine below_set ?_ GE454.out | refine below_set ?_ GE467.out | refine below_set ?_ GE473.out | refine below_set ?_ GE480.out) | exact HB.out)) hb)
            clear HO_468002
            clear HO_474002
            clear HO_481002
            clear BK454
            clear BK467
            clear BK473
            clear BK480
            clear HB
            have HO_468002 := n0_
            have HO_474002 := n1_
            have HO_481002 := n2_
            have HO486 := n3_
            have BK454 := n4_
            have BK467 := n5_
            have BK473 := n6_
            have BK480 := n7_
            have HB := n8_
            clear n0_ n1_ n2_ n3_ n4_ n5_ n6_ n7_ n8_
            (try clear hb)
            (try clear hb2)
            (try clear hk)
            (try clear hi)
            (try clear ho0)
            obtain ⟨Ao64, co64, eo64⟩ := Kd.R_slice HO486.out
            (first | subst eo64 | (injection eo64 with f1_ f2_ f3_; have f4_ := f1_.symm; have f5_ := f3_.symm; clear f1_ f2_ f3_; subst f4_; subst f5_))
            refine hK.out _ _ ⟨(blk_cell BK473.out 0).trans rfl, (blk_cell BK473.out 1).trans rfl, (blk_cell BK473.out 2).trans rfl, (blk_cell BK454.out 0).trans rfl, (blk_cell BK454.out 1).trans rfl, (blk_cell BK454.out 2).trans rfl⟩ (fun hHeld => ?_)
            clear hK K
            refine norm_ (a' := ?_) ?_ ?_
            rotate_left
            · show Act.put _ (some 47) _ = _
              simp only [Act.put, List.setIfInBounds_toArray, List.set_cons_zero, List.set_cons_succ, i64_w, i32_w]
              rfl
            refine one_ (i := 3) (N := some 48) #[true, true, true, true, false] rfl rfl (by kernel_rfl) (by decide) (fun K hK => ?_)
            refine goes_ Try.func17 (by kernel_rfl) rfl #[.agg #[.int .i64 t468, .int .i64 t469, .slice Ao30 t470.length co30], .agg #[.int .i64 t482, .int .i64 t483, .slice Ao64 t484.length co64]] (by rfl) rfl rfl (by (try simp only [List.map_toArray, List.map_cons, List.map_nil]); first | done | rfl | (simp only [List.length_drop, List.length_take]; rfl)) ?_
            with_reducible refine (laws_eqRLog.calls kj11 t468 t469 _ _ t470 t482 t483 _ _ t484 true _ ?side1 ?side2 ?side3 ?side4 A58.out).mono ?_
            (case side1 => repeat (first | exact (Kd.R_reads' HO_474002.out).2.2 | (with_reducible refine Kd.C_alloc ?_ _) | (with_reducible refine Kd.C_drewN ?_ _) | (with_reducible refine Kd.C_drew ?_)))
            (case side2 => exact (Kd.R_reads' HO_474002.out).2.1)
            (case side3 => repeat (first | exact (Kd.R_reads' HO486.out).2.2 | (with_reducible refine Kd.C_alloc ?_ _) | (with_reducible refine Kd.C_drewN ?_ _) | (with_reducible refine Kd.C_drew ?_)))
            (case side4 => exact (Kd.R_reads' HO486.out).2.1)
            rintro e w65 ⟨rfl, hb⟩
            refine ⟨_, rfl, ?_⟩
            have n0_ := Aside0.mk (Kd.R_below (by (with_reducible repeat (first | apply Kd.R_alloc | apply Kd.R_drewN | apply Kd.R_drew)); exact HO_468002.out) hb)
            have n1_ := Aside0.mk (Kd.R_below (by (with_reducible repeat (first | apply Kd.R_alloc | apply Kd.R_drewN | apply Kd.R_drew)); exact HO_474002.out) hb)
            have n2_ := Aside0.mk (Kd.R_below (by (with_reducible repeat (first | apply Kd.R_alloc | apply Kd.R_drewN | apply Kd.R_drew)); exact HO_481002.out) hb)
            have n3_ := Aside0.mk (Kd.R_below (by (with_reducible repeat (first | apply Kd.R_alloc | apply Kd.R_drewN | apply Kd.R_drew)); exact HO486.out) hb)
            have n4_ := Aside0.mk (blk_below (g := gb454) (o := .cells #[.int .i64 a0_0, .int .i64 a0_1, .slice A0_2 l0_2.length c0_2] 24 (0, 0)) (by (with_reducible repeat (first | refine blk_drewN ?_ _ | refine blk_drew ?_ | refine blk_alloc ?_ _)); exact BK454.out) hb)
            have n5_ := Aside0.mk (blk_below (g := gb467) (o := .cells #[.int .i64 t461, .int .i64 t462, .slice Ao23 t463.length co23] 29 (0, 0)) (by (with_reducible repeat (first | refine blk_drewN ?_ _ | refine blk_drew ?_ | refine blk_alloc ?_ _)); exact BK467.out) hb)
            have n6_ := Aside0.mk (blk_below (g := gb473) (o := .cells #[.int .i64 t468, .int .i64 t469, .slice Ao30 t470.length co30] 29 (0, 0)) (by (with_reducible repeat (first | refine blk_drewN ?_ _ | refine blk_drew ?_ | refine blk_alloc ?_ _)); exact BK473.out) hb)
            have n7_ := Aside0.mk (blk_below (g := gb480) (o := .cells #[.int .i64 t474, .int .i64 t475, .slice Ao37 t476.length co37] 29 (0, 0)) (by (with_reducible repeat (first | refine blk_drewN ?_ _ | refine blk_drew ?_ | refine blk_alloc ?_ _)); exact BK480.out) hb)
            have n8_ := Aside0.mk (below_step (by repeat (first | (with_reducible first | exact HB.out | apply below_alloc | apply pw_below_drewN | apply below_drew1 | refine below_set ?_ GE454.out | refine below_set ?_ GE467.out | refine below_set ?_ GE473.out | refine below_set ?_ GE480.out) | exact HB.out)) hb)
            clear HO_468002
            clear HO_474002
            clear HO_481002
            clear HO486
            clear BK454
            clear BK467
            clear BK473
            clear BK480
            clear HB
            have HO_468002 := n0_
            have HO_474002 := n1_
            have HO_481002 := n2_
            have HO486 := n3_
            have BK454 := n4_
            have BK467 := n5_
            have BK473 := n6_
            have BK480 := n7_
            have HB := n8_
            clear n0_ n1_ n2_ n3_ n4_ n5_ n6_ n7_ n8_
            (try clear hb)
            (try clear hb2)
            (try clear hk)
            (try clear hi)
            refine hK.out _ _ ⟨(blk_cell BK473.out 0).trans rfl, (blk_cell BK473.out 1).trans rfl, (blk_cell BK473.out 2).trans rfl, (blk_cell BK454.out 0).trans rfl, (blk_cell BK454.out 1).trans rfl, (blk_cell BK454.out 2).trans rfl⟩ (fun hHeld => ?_)
            clear hK K
            refine norm_ (a' := ?_) ?_ ?_
            rotate_left
            · show Act.put _ (some 48) _ = _
              simp only [Act.put, List.setIfInBounds_toArray, List.set_cons_zero, List.set_cons_succ, i64_w, i32_w]
              rfl
            refine pure_ (i := 4) (N := some 49) (v := ?_) (a' := ?_) #[true, true, true, true, true] rfl rfl (by kernel_rfl) (fun _ _ _ h => h) (Or.inl ⟨by rfl, ?_⟩) ?_ ?_
            rotate_left
            · intro w'
              go_simp
              with_reducible rfl
            rotate_left
            · simp only [Act.put, List.setIfInBounds_toArray, List.set_cons_zero, List.set_cons_succ, i64_w, i32_w]
              rfl
            refine done_ (by kernel_rfl) ?_
            have hnb66 := NB473_454.out
            have hnc66 := NB454_473.out
            have hnb67 := NB473_467.out
            have hnc67 := NB467_473.out
            have hnb68 := NB473_480.out
            have hnc68 := NB480_473.out
            have hcz69_0 : w65.cell? ⟨gb473, 0, none⟩ = some (.int .i64 t468) := (blk_cell BK473.out 0).trans rfl
            have hcz69_1 : w65.cell? ⟨gb473, 1, none⟩ = some (.int .i64 t469) := (blk_cell BK473.out 1).trans rfl
            have hcz69_2 : w65.cell? ⟨gb473, 2, none⟩ = some (.slice Ao30 t470.length co30) := (blk_cell BK473.out 2).trans rfl
            have hfz69_0 := blk_frozen BK473.out 0
            have hfz69_1 := blk_frozen BK473.out 1
            have hfz69_2 := blk_frozen BK473.out 2
            go_upto_region 14 with (first | ((with_reducible refine gate_callee (f := 29) rfl ?_); refine goesL_ (some 52) rfl rfl Try.func29 (by kernel_rfl) rfl #[.agg #[.int .i64 t468, .int .i64 t469, .slice Ao30 t470.length co30], .int .i64 1] rfl (by (try simp only [List.map_toArray, List.map_cons, List.map_nil]); first | done | rfl | (simp only [List.length_drop, List.length_take]; rfl)) ?_; (with_reducible refine (laws_markRLog.calls kj11 t468 t469 (fun k_ => some k_ = (.slice Ao30 t470.length co30 : Value).ownBlock) (.slice Ao30 t470.length co30) t470 1 t488 t489 w _ ?side1 ?side2 A60.out).mono ?_); (case side1 => repeat (first | (with_reducible first | exact HB.out | apply below_alloc | apply pw_below_drewN | apply below_drew1 | refine below_set ?_ GE454.out | refine below_set ?_ GE467.out | refine below_set ?_ GE473.out | refine below_set ?_ GE480.out) | exact HB.out)); (case side2 => exact Kd.R_tight rfl HO_474002.out); rintro e w70 ⟨rfl, hy0, hb, hkp⟩; refine ⟨_, rfl, ?_⟩; have n0_ := Aside0.mk (Kd.R_mono (ok' := fun k_ => some k_ ≠ (.slice Ao30 t470.length co30 : Value).ownBlock ∧ some k_ ≠ (.slice Ao37 t476.length co37 : Value).ownBlock ∧ some k_ ≠ (.slice Ao64 t484.length co64 : Value).ownBlock) (Kd.R_keptB (HO_468002.out) hkp (fun k_ hk_ hs_ => (hk_.1.1) hs_)) (fun k_ hk_ => ⟨hk_.1.1.1, hk_.1.1.2, hk_.1.2⟩)); have n1_ := Aside0.mk (Kd.R_reok rfl hy0 (fun k_ e_ => HO_474002.out.1 k_ e_)); have n2_ := Aside0.mk (Kd.R_mono (ok' := fun k_ => some k_ ≠ (.slice Ao23 t463.length co23 : Value).ownBlock ∧ some k_ ≠ (.slice Ao30 t470.length co30 : Value).ownBlock ∧ some k_ ≠ (.slice Ao64 t484.length co64 : Value).ownBlock) (Kd.R_keptB (HO_481002.out) hkp (fun k_ hk_ hs_ => (hk_.1.2) hs_)) (fun k_ hk_ => ⟨hk_.1.1.1, hk_.1.1.2, hk_.1.2⟩)); have n3_ := Aside0.mk (blk_kept (by (with_reducible repeat (first | refine blk_drewN ?_ _ | refine blk_drew ?_ | refine blk_alloc ?_ _)); exact BK454.out) hkp (fun hs_ => (fun e_ => (Kd.R_ne HO_474002.out BK454.out (by decide)) e_) hs_)); have n4_ := Aside0.mk (blk_kept (by (with_reducible repeat (first | refine blk_drewN ?_ _ | refine blk_drew ?_ | refine blk_alloc ?_ _)); exact BK467.out) hkp (fun hs_ => (fun e_ => (Kd.R_ne HO_474002.out BK467.out (by decide)) e_) hs_)); have n5_ := Aside0.mk (blk_kept (by (with_reducible repeat (first | refine blk_drewN ?_ _ | refine blk_drew ?_ | refine blk_alloc ?_ _)); exact BK473.out) hkp (fun hs_ => (fun e_ => (Kd.R_ne HO_474002.out BK473.out (by decide)) e_) hs_)); have n6_ := Aside0.mk (blk_kept (by (with_reducible repeat (first | refine blk_drewN ?_ _ | refine blk_drew ?_ | refine blk_alloc ?_ _)); exact BK480.out) hkp (fun hs_ => (fun e_ => (Kd.R_ne HO_474002.out BK480.out (by decide)) e_) hs_)); have n7_ := Aside0.mk (Kd.R_mono (ok' := fun k_ => some k_ ≠ (.slice Ao23 t463.length co23 : Value).ownBlock ∧ some k_ ≠ (.slice Ao30 t470.length co30 : Value).ownBlock ∧ some k_ ≠ (.slice Ao37 t476.length co37 : Value).ownBlock) (Kd.R_keptB (HO486.out) hkp (fun k_ hk_ hs_ => (hk_.1.2) hs_)) (fun k_ hk_ => ⟨hk_.1.1.1.2, hk_.1.1.2, hk_.1.2⟩)); have n8_ := Aside0.mk (hb); clear HO_468002; clear HO_474002; clear HO_481002; clear BK454; clear BK467; clear BK473; clear BK480; clear HO486; clear HB; have HO_468002 := n0_; have HO_474002 := n1_; have HO_481002 := n2_; have BK454 := n3_; have BK467 := n4_; have BK473 := n5_; have BK480 := n6_; have HO486 := n7_; have HB := n8_; clear n0_ n1_ n2_ n3_ n4_ n5_ n6_ n7_ n8_; (try clear hb); (try clear hkp); (try clear hy0)))
            (try simp only [Act.put, List.setIfInBounds_toArray, List.set_cons_zero, List.set_cons_succ])
            go_cut [65] (fun v65 wc => ∃ (kq : Nat) (x65_60 : Bool), v65 = .bool x65_60 ∧ Aside0 (laws_FnExactCompactTo.j1 kq a1 t466 x65_60 a0_0 a0_1 l0_2 t461 t462 t463 t474 t475 t476 = some r) ∧ Aside0 (kq ≤ kj11) ∧ Aside0 (Kd.R k54 54 wc w.heap.size (fun k_ => some k_ ≠ ((.slice Ao30 t470.length co30) : Value).ownBlock ∧ some k_ ≠ ((.slice Ao37 t476.length co37) : Value).ownBlock) (.slice Ao23 t463.length co23) t463) ∧ Aside0 (Kd.R k54 54 wc w.heap.size (fun k_ => some k_ ≠ ((.slice Ao23 t463.length co23) : Value).ownBlock ∧ some k_ ≠ ((.slice Ao37 t476.length co37) : Value).ownBlock) (.slice Ao30 t470.length co30) t489) ∧ Aside0 (Kd.R k54 54 wc w.heap.size (fun k_ => some k_ ≠ ((.slice Ao23 t463.length co23) : Value).ownBlock ∧ some k_ ≠ ((.slice Ao30 t470.length co30) : Value).ownBlock) (.slice Ao37 t476.length co37) t476) ∧ Aside0 (wc.heap[gb454]? = some (.cells #[.int .i64 a0_0, .int .i64 a0_1, (.slice A0_2 l0_2.length c0_2)] 24 (0, 0))) ∧ Aside0 (wc.heap[gb467]? = some (.cells #[.int .i64 t461, .int .i64 t462, (.slice Ao23 t463.length co23)] 29 (0, 0))) ∧ Aside0 (wc.heap[gb473]? = some (.cells #[.int .i64 t468, .int .i64 t469, (.slice Ao30 t470.length co30)] 29 (0, 0))) ∧ Aside0 (wc.heap[gb480]? = some (.cells #[.int .i64 t474, .int .i64 t475, (.slice Ao37 t476.length co37)] 29 (0, 0))) ∧ Aside0 (Below w.heap.size w wc))
            case first =>
              have H := HC61.out
              clear HC61
              by_cases c71 : t488 < 0
              · rw [if_pos c71] at H
                have c71b0 : decide (t488 < 0) = true := decide_eq_true c71
                clear c71
                (first | rw [c71b0] | (simp only [i64_w, i32_w]; rw [c71b0]) | skip)
                have H' := Aside0.mk H
                clear H
                go_wp2
                go_meet
                case rel => exact ⟨_, (true), (by first | rfl | (simp; done) | (simp [*]; done)), H', ⟨by have := HJ11.out; first | omega | exact Nat.le_refl _⟩, ⟨by (with_reducible repeat (first | apply Kd.R_alloc | apply Kd.R_drewN | apply Kd.R_drew)); exact Kd.R_mono HO_468002.out (fun _ hk => ⟨hk.1, hk.2.1⟩)⟩, ⟨by (with_reducible repeat (first | apply Kd.R_alloc | apply Kd.R_drewN | apply Kd.R_drew)); exact Kd.R_mono HO_474002.out (fun _ hk => ⟨hk.1.1, hk.1.2⟩)⟩, ⟨by (with_reducible repeat (first | apply Kd.R_alloc | apply Kd.R_drewN | apply Kd.R_drew)); exact Kd.R_mono HO_481002.out (fun _ hk => ⟨hk.1, hk.2.1⟩)⟩, ⟨by (with_reducible repeat (first | refine blk_drewN ?_ _ | refine blk_drew ?_ | refine blk_alloc ?_ _)); exact BK454.out⟩, ⟨by (with_reducible repeat (first | refine blk_drewN ?_ _ | refine blk_drew ?_ | refine blk_alloc ?_ _)); exact BK467.out⟩, ⟨by (with_reducible repeat (first | refine blk_drewN ?_ _ | refine blk_drew ?_ | refine blk_alloc ?_ _)); exact BK473.out⟩, ⟨by (with_reducible repeat (first | refine blk_drewN ?_ _ | refine blk_drew ?_ | refine blk_alloc ?_ _)); exact BK480.out⟩, ⟨by repeat (first | (with_reducible first | exact HB.out | apply below_alloc | apply pw_below_drewN | apply below_drew1 | refine below_set ?_ GE454.out | refine below_set ?_ GE467.out | refine below_set ?_ GE473.out | refine below_set ?_ GE480.out) | exact HB.out)⟩⟩
              · rw [if_neg c71] at H
                have c71b0 : decide (t488 < 0) = false := decide_eq_false c71
                clear c71
                (first | rw [c71b0] | (simp only [i64_w, i32_w]; rw [c71b0]) | skip)
                replace H := Option.bind_eq_some_iff.mp H
                obtain ⟨t490, A720, H⟩ := H
                replace H : (if t490 = true then (laws_FnExactCompactTo.j1 kj11 a1 t466 (t479 != t466) a0_0 a0_1 l0_2 t461 t462 t463 t474 t475 t476) else (laws_FnExactCompactTo.j1 kj11 a1 t466 true a0_0 a0_1 l0_2 t461 t462 t463 t474 t475 t476)) = some r := H
                have A72 := Aside0.mk A720
                clear A720
                by_cases c73 : t490 = true
                · subst c73
                  have H1 : (laws_FnExactCompactTo.j1 kj11 a1 t466 (t479 != t466) a0_0 a0_1 l0_2 t461 t462 t463 t474 t475 t476) = some r := by rw [if_pos rfl] at H; exact H
                  clear H
                  have H := H1
                  clear H1
                  have H' := Aside0.mk H
                  clear H
                  have hnb74 := NB480_454.out
                  have hnc74 := NB454_480.out
                  have hnb75 := NB480_467.out
                  have hnc75 := NB467_480.out
                  have hnb76 := NB480_473.out
                  have hnc76 := NB473_480.out
                  have hcz77_0 : w70.cell? ⟨gb480, 0, none⟩ = some (.int .i64 t474) := (blk_cell BK480.out 0).trans rfl
                  have hcz77_1 : w70.cell? ⟨gb480, 1, none⟩ = some (.int .i64 t475) := (blk_cell BK480.out 1).trans rfl
                  have hcz77_2 : w70.cell? ⟨gb480, 2, none⟩ = some (.slice Ao37 t476.length co37) := (blk_cell BK480.out 2).trans rfl
                  have hfz77_0 := blk_frozen BK480.out 0
                  have hfz77_1 := blk_frozen BK480.out 1
                  have hfz77_2 := blk_frozen BK480.out 2
                  have hnb78 := NB467_454.out
                  have hnc78 := NB454_467.out
                  have hnb79 := NB467_473.out
                  have hnc79 := NB473_467.out
                  have hcz80_0 : w70.cell? ⟨gb467, 0, none⟩ = some (.int .i64 t461) := (blk_cell BK467.out 0).trans rfl
                  have hcz80_1 : w70.cell? ⟨gb467, 1, none⟩ = some (.int .i64 t462) := (blk_cell BK467.out 1).trans rfl
                  have hcz80_2 : w70.cell? ⟨gb467, 2, none⟩ = some (.slice Ao23 t463.length co23) := (blk_cell BK467.out 2).trans rfl
                  have hfz80_0 := blk_frozen BK467.out 0
                  have hfz80_1 := blk_frozen BK467.out 1
                  have hfz80_2 := blk_frozen BK467.out 2
                  go_wp2_with (first | (go_at_call 17; (with_reducible refine (laws_eqRLog.calls kj11 t474 t475 _ _ t476 t461 t462 _ _ t463 true _ ?side1 ?side2 ?side3 ?side4 A72.out).mono ?_); (case side1 => repeat (first | exact (Kd.R_reads' HO_481002.out).2.2 | (with_reducible refine Kd.C_alloc ?_ _) | (with_reducible refine Kd.C_drewN ?_ _) | (with_reducible refine Kd.C_drew ?_))); (case side2 => exact (Kd.R_reads' HO_481002.out).2.1); (case side3 => repeat (first | exact (Kd.R_reads' HO_468002.out).2.2 | (with_reducible refine Kd.C_alloc ?_ _) | (with_reducible refine Kd.C_drewN ?_ _) | (with_reducible refine Kd.C_drew ?_))); (case side4 => exact (Kd.R_reads' HO_468002.out).2.1); rintro e w81 ⟨rfl, hb⟩; have n0_ := Aside0.mk (Kd.R_below (by (with_reducible repeat (first | apply Kd.R_alloc | apply Kd.R_drewN | apply Kd.R_drew)); exact HO_468002.out) hb); have n1_ := Aside0.mk (Kd.R_below (by (with_reducible repeat (first | apply Kd.R_alloc | apply Kd.R_drewN | apply Kd.R_drew)); exact HO_474002.out) hb); have n2_ := Aside0.mk (Kd.R_below (by (with_reducible repeat (first | apply Kd.R_alloc | apply Kd.R_drewN | apply Kd.R_drew)); exact HO_481002.out) hb); have n3_ := Aside0.mk (Kd.R_below (by (with_reducible repeat (first | apply Kd.R_alloc | apply Kd.R_drewN | apply Kd.R_drew)); exact HO486.out) hb); have n4_ := Aside0.mk (blk_below (g := gb454) (o := .cells #[.int .i64 a0_0, .int .i64 a0_1, .slice A0_2 l0_2.length c0_2] 24 (0, 0)) (by (with_reducible repeat (first | refine blk_drewN ?_ _ | refine blk_drew ?_ | refine blk_alloc ?_ _)); exact BK454.out) hb); have n5_ := Aside0.mk (blk_below (g := gb467) (o := .cells #[.int .i64 t461, .int .i64 t462, .slice Ao23 t463.length co23] 29 (0, 0)) (by (with_reducible repeat (first | refine blk_drewN ?_ _ | refine blk_drew ?_ | refine blk_alloc ?_ _)); exact BK467.out) hb); have n6_ := Aside0.mk (blk_below (g := gb473) (o := .cells #[.int .i64 t468, .int .i64 t469, .slice Ao30 t470.length co30] 29 (0, 0)) (by (with_reducible repeat (first | refine blk_drewN ?_ _ | refine blk_drew ?_ | refine blk_alloc ?_ _)); exact BK473.out) hb); have n7_ := Aside0.mk (blk_below (g := gb480) (o := .cells #[.int .i64 t474, .int .i64 t475, .slice Ao37 t476.length co37] 29 (0, 0)) (by (with_reducible repeat (first | refine blk_drewN ?_ _ | refine blk_drew ?_ | refine blk_alloc ?_ _)); exact BK480.out) hb); have n8_ := Aside0.mk (below_step (by repeat (first | (with_reducible first | exact HB.out | apply below_alloc | apply pw_below_drewN | apply below_drew1 | refine below_set ?_ GE454.out | refine below_set ?_ GE467.out | refine below_set ?_ GE473.out | refine below_set ?_ GE480.out) | exact HB.out)) hb); clear HO_468002; clear HO_474002; clear HO_481002; clear HO486; clear BK454; clear BK467; clear BK473; clear BK480; clear HB; have HO_468002 := n0_; have HO_474002 := n1_; have HO_481002 := n2_; have HO486 := n3_; have BK454 := n4_; have BK467 := n5_; have BK473 := n6_; have BK480 := n7_; have HB := n8_; clear n0_ n1_ n2_ n3_ n4_ n5_ n6_ n7_ n8_; (try clear hb); (try clear hb2); (try clear hk); (try clear hi)))
                  go_meet
                  case rel => exact ⟨_, ((t479 != t466)), (by first | rfl | (simp; done) | (simp [*]; done)), H', ⟨by have := HJ11.out; first | omega | exact Nat.le_refl _⟩, ⟨by (with_reducible repeat (first | apply Kd.R_alloc | apply Kd.R_drewN | apply Kd.R_drew)); exact Kd.R_mono HO_468002.out (fun _ hk => ⟨hk.1, hk.2.1⟩)⟩, ⟨by (with_reducible repeat (first | apply Kd.R_alloc | apply Kd.R_drewN | apply Kd.R_drew)); exact Kd.R_mono HO_474002.out (fun _ hk => ⟨hk.1.1, hk.1.2⟩)⟩, ⟨by (with_reducible repeat (first | apply Kd.R_alloc | apply Kd.R_drewN | apply Kd.R_drew)); exact Kd.R_mono HO_481002.out (fun _ hk => ⟨hk.1, hk.2.1⟩)⟩, ⟨by (with_reducible repeat (first | refine blk_drewN ?_ _ | refine blk_drew ?_ | refine blk_alloc ?_ _)); exact BK454.out⟩, ⟨by (with_reducible repeat (first | refine blk_drewN ?_ _ | refine blk_drew ?_ | refine blk_alloc ?_ _)); exact BK467.out⟩, ⟨by (with_reducible repeat (first | refine blk_drewN ?_ _ | refine blk_drew ?_ | refine blk_alloc ?_ _)); exact BK473.out⟩, ⟨by (with_reducible repeat (first | refine blk_drewN ?_ _ | refine blk_drew ?_ | refine blk_alloc ?_ _)); exact BK480.out⟩, ⟨by repeat (first | (with_reducible first | exact HB.out | apply below_alloc | apply pw_below_drewN | apply below_drew1 | refine below_set ?_ GE454.out | refine below_set ?_ GE467.out | refine below_set ?_ GE473.out | refine below_set ?_ GE480.out) | exact HB.out)⟩⟩
                · replace c73 := Bool.eq_false_iff.mpr c73
                  subst c73
                  have H1 : (laws_FnExactCompactTo.j1 kj11 a1 t466 true a0_0 a0_1 l0_2 t461 t462 t463 t474 t475 t476) = some r := by rw [if_neg (show ¬ (false = true) by decide)] at H; exact H
                  clear H
                  have H := H1
                  clear H1
                  have H' := Aside0.mk H
                  clear H
                  have hnb82 := NB480_454.out
                  have hnc82 := NB454_480.out
                  have hnb83 := NB480_467.out
                  have hnc83 := NB467_480.out
                  have hnb84 := NB480_473.out
                  have hnc84 := NB473_480.out
                  have hcz85_0 : w70.cell? ⟨gb480, 0, none⟩ = some (.int .i64 t474) := (blk_cell BK480.out 0).trans rfl
                  have hcz85_1 : w70.cell? ⟨gb480, 1, none⟩ = some (.int .i64 t475) := (blk_cell BK480.out 1).trans rfl
                  have hcz85_2 : w70.cell? ⟨gb480, 2, none⟩ = some (.slice Ao37 t476.length co37) := (blk_cell BK480.out 2).trans rfl
                  have hfz85_0 := blk_frozen BK480.out 0
                  have hfz85_1 := blk_frozen BK480.out 1
                  have hfz85_2 := blk_frozen BK480.out 2
                  have hnb86 := NB467_454.out
                  have hnc86 := NB454_467.out
                  have hnb87 := NB467_473.out
                  have hnc87 := NB473_467.out
                  have hcz88_0 : w70.cell? ⟨gb467, 0, none⟩ = some (.int .i64 t461) := (blk_cell BK467.out 0).trans rfl
                  have hcz88_1 : w70.cell? ⟨gb467, 1, none⟩ = some (.int .i64 t462) := (blk_cell BK467.out 1).trans rfl
                  have hcz88_2 : w70.cell? ⟨gb467, 2, none⟩ = some (.slice Ao23 t463.length co23) := (blk_cell BK467.out 2).trans rfl
                  have hfz88_0 := blk_frozen BK467.out 0
                  have hfz88_1 := blk_frozen BK467.out 1
                  have hfz88_2 := blk_frozen BK467.out 2
                  go_wp2_with (first | (go_at_call 17; (with_reducible refine (laws_eqRLog.calls kj11 t474 t475 _ _ t476 t461 t462 _ _ t463 false _ ?side1 ?side2 ?side3 ?side4 A72.out).mono ?_); (case side1 => repeat (first | exact (Kd.R_reads' HO_481002.out).2.2 | (with_reducible refine Kd.C_alloc ?_ _) | (with_reducible refine Kd.C_drewN ?_ _) | (with_reducible refine Kd.C_drew ?_))); (case side2 => exact (Kd.R_reads' HO_481002.out).2.1); (case side3 => repeat (first | exact (Kd.R_reads' HO_468002.out).2.2 | (with_reducible refine Kd.C_alloc ?_ _) | (with_reducible refine Kd.C_drewN ?_ _) | (with_reducible refine Kd.C_drew ?_))); (case side4 => exact (Kd.R_reads' HO_468002.out).2.1); rintro e w89 ⟨rfl, hb⟩; have n0_ := Aside0.mk (Kd.R_below (by (with_reducible repeat (first | apply Kd.R_alloc | apply Kd.R_drewN | apply Kd.R_drew)); exact HO_468002.out) hb); have n1_ := Aside0.mk (Kd.R_below (by (with_reducible repeat (first | apply Kd.R_alloc | apply Kd.R_drewN | apply Kd.R_drew)); exact HO_474002.out) hb); have n2_ := Aside0.mk (Kd.R_below (by (with_reducible repeat (first | apply Kd.R_alloc | apply Kd.R_drewN | apply Kd.R_drew)); exact HO_481002.out) hb); have n3_ := Aside0.mk (Kd.R_below (by (with_reducible repeat (first | apply Kd.R_alloc | apply Kd.R_drewN | apply Kd.R_drew)); exact HO486.out) hb); have n4_ := Aside0.mk (blk_below (g := gb454) (o := .cells #[.int .i64 a0_0, .int .i64 a0_1, .slice A0_2 l0_2.length c0_2] 24 (0, 0)) (by (with_reducible repeat (first | refine blk_drewN ?_ _ | refine blk_drew ?_ | refine blk_alloc ?_ _)); exact BK454.out) hb); have n5_ := Aside0.mk (blk_below (g := gb467) (o := .cells #[.int .i64 t461, .int .i64 t462, .slice Ao23 t463.length co23] 29 (0, 0)) (by (with_reducible repeat (first | refine blk_drewN ?_ _ | refine blk_drew ?_ | refine blk_alloc ?_ _)); exact BK467.out) hb); have n6_ := Aside0.mk (blk_below (g := gb473) (o := .cells #[.int .i64 t468, .int .i64 t469, .slice Ao30 t470.length co30] 29 (0, 0)) (by (with_reducible repeat (first | refine blk_drewN ?_ _ | refine blk_drew ?_ | refine blk_alloc ?_ _)); exact BK473.out) hb); have n7_ := Aside0.mk (blk_below (g := gb480) (o := .cells #[.int .i64 t474, .int .i64 t475, .slice Ao37 t476.length co37] 29 (0, 0)) (by (with_reducible repeat (first | refine blk_drewN ?_ _ | refine blk_drew ?_ | refine blk_alloc ?_ _)); exact BK480.out) hb); have n8_ := Aside0.mk (below_step (by repeat (first | (with_reducible first | exact HB.out | apply below_alloc | apply pw_below_drewN | apply below_drew1 | refine below_set ?_ GE454.out | refine below_set ?_ GE467.out | refine below_set ?_ GE473.out | refine below_set ?_ GE480.out) | exact HB.out)) hb); clear HO_468002; clear HO_474002; clear HO_481002; clear HO486; clear BK454; clear BK467; clear BK473; clear BK480; clear HB; have HO_468002 := n0_; have HO_474002 := n1_; have HO_481002 := n2_; have HO486 := n3_; have BK454 := n4_; have BK467 := n5_; have BK473 := n6_; have BK480 := n7_; have HB := n8_; clear n0_ n1_ n2_ n3_ n4_ n5_ n6_ n7_ n8_; (try clear hb); (try clear hb2); (try clear hk); (try clear hi)))
                  go_meet
                  case rel => exact ⟨_, (true), (by first | rfl | (simp; done) | (simp [*]; done)), H', ⟨by have := HJ11.out; first | omega | exact Nat.le_refl _⟩, ⟨by (with_reducible repeat (first | apply Kd.R_alloc | apply Kd.R_drewN | apply Kd.R_drew)); exact Kd.R_mono HO_468002.out (fun _ hk => ⟨hk.1, hk.2.1⟩)⟩, ⟨by (with_reducible repeat (first | apply Kd.R_alloc | apply Kd.R_drewN | apply Kd.R_drew)); exact Kd.R_mono HO_474002.out (fun _ hk => ⟨hk.1.1, hk.1.2⟩)⟩, ⟨by (with_reducible repeat (first | apply Kd.R_alloc | apply Kd.R_drewN | apply Kd.R_drew)); exact Kd.R_mono HO_481002.out (fun _ hk => ⟨hk.1, hk.2.1⟩)⟩, ⟨by (with_reducible repeat (first | refine blk_drewN ?_ _ | refine blk_drew ?_ | refine blk_alloc ?_ _)); exact BK454.out⟩, ⟨by (with_reducible repeat (first | refine blk_drewN ?_ _ | refine blk_drew ?_ | refine blk_alloc ?_ _)); exact BK467.out⟩, ⟨by (with_reducible repeat (first | refine blk_drewN ?_ _ | refine blk_drew ?_ | refine blk_alloc ?_ _)); exact BK473.out⟩, ⟨by (with_reducible repeat (first | refine blk_drewN ?_ _ | refine blk_drew ?_ | refine blk_alloc ?_ _)); exact BK480.out⟩, ⟨by repeat (first | (with_reducible first | exact HB.out | apply below_alloc | apply pw_below_drewN | apply below_drew1 | refine below_set ?_ GE454.out | refine below_set ?_ GE467.out | refine below_set ?_ GE473.out | refine below_set ?_ GE480.out) | exact HB.out)⟩⟩
            case rest =>
              clear HC61
              try clear c1
              try clear c2
              try clear p2
              try clear c3
              try clear c4
              try clear c4b0
              try clear c5
              try clear c6
              try clear c7
              try clear c8
              try clear c9
              try clear c13
              try clear c15
              try clear c17
              try clear c21
              try clear c27
              try clear c28
              try clear c29
              try clear c32
              try clear c33
              try clear c34
              try clear c35
              try clear c39
              try clear c40
              try clear c41
              try clear c42
              try clear c44
              try clear c45
              try clear c48
              try clear c49
              try clear c50
              try clear c52
              try clear c53
              try clear c56
              try clear c59
              try clear c66
              try clear c67
              try clear c68
              try clear c71
              try clear c71b0
              try clear c73
              try clear c74
              try clear c75
              try clear c76
              try clear c78
              try clear c79
              try clear c82
              try clear c83
              try clear c84
              try clear c86
              try clear c87
              try clear hcz14_0
              try clear hcz14_1
              try clear hcz14_2
              try clear hcz16_0
              try clear hcz16_1
              try clear hcz16_2
              try clear hcz22_0
              try clear hcz22_1
              try clear hcz22_2
              try clear hcz24_0
              try clear hcz24_1
              try clear hcz24_2
              try clear hcz29_0
              try clear hcz29_1
              try clear hcz29_2
              try clear hcz36_0
              try clear hcz36_1
              try clear hcz36_2
              try clear hcz43_0
              try clear hcz43_1
              try clear hcz43_2
              try clear hcz46_0
              try clear hcz46_1
              try clear hcz46_2
              try clear hcz51_0
              try clear hcz51_1
              try clear hcz51_2
              try clear hcz54_0
              try clear hcz54_1
              try clear hcz54_2
              try clear hcz69_0
              try clear hcz69_1
              try clear hcz69_2
              try clear hcz6_0
              try clear hcz6_1
              try clear hcz6_2
              try clear hcz77_0
              try clear hcz77_1
              try clear hcz77_2
              try clear hcz80_0
              try clear hcz80_1
              try clear hcz80_2
              try clear hcz85_0
              try clear hcz85_1
              try clear hcz85_2
              try clear hcz88_0
              try clear hcz88_1
              try clear hcz88_2
              try clear hfz14_0
              try clear hfz14_1
              try clear hfz14_2
              try clear hfz16_0
              try clear hfz16_1
              try clear hfz16_2
              try clear hfz22_0
              try clear hfz22_1
              try clear hfz22_2
              try clear hfz24_0
              try clear hfz24_1
              try clear hfz24_2
              try clear hfz29_0
              try clear hfz29_1
              try clear hfz29_2
              try clear hfz36_0
              try clear hfz36_1
              try clear hfz36_2
              try clear hfz43_0
              try clear hfz43_1
              try clear hfz43_2
              try clear hfz46_0
              try clear hfz46_1
              try clear hfz46_2
              try clear hfz51_0
              try clear hfz51_1
              try clear hfz51_2
              try clear hfz54_0
              try clear hfz54_1
              try clear hfz54_2
              try clear hfz69_0
              try clear hfz69_1
              try clear hfz69_2
              try clear hfz6_0
              try clear hfz6_1
              try clear hfz6_2
              try clear hfz77_0
              try clear hfz77_1
              try clear hfz77_2
              try clear hfz80_0
              try clear hfz80_1
              try clear hfz80_2
              try clear hfz85_0
              try clear hfz85_1
              try clear hfz85_2
              try clear hfz88_0
              try clear hfz88_1
              try clear hfz88_2
              try clear p2
              obtain ⟨kq, x65_60, rfl, HA, HJ60, HO_468002, HO_474002, HO_481002, BK454, BK467, BK473, BK480, HB⟩ := hcut
              have hl474002_60 := (Kd.R_reads' HO_474002.out).1
              rw [hl474002_60] at HO_474002
              (try simp only [hl474002_60])
              (try simp only [hl474002_60] at BK454)
              (try simp only [hl474002_60] at BK467)
              (try simp only [hl474002_60] at BK473)
              (try simp only [hl474002_60] at BK480)
              (try simp only [hl474002_60] at HO_468002)
              (try simp only [hl474002_60] at HO_481002)
              cases kq with
              | zero => exact absurd HA.out (by simp [laws_FnExactCompactTo.j1])
              | succ kj60 =>
                have H := HA.out
                clear HA
                simp only [laws_FnExactCompactTo.j1] at H
                by_cases c90 : x65_60 = true
                · subst c90
                  have H1 : (none) = some r := by rw [if_pos rfl] at H; exact H
                  clear H
                  have H := H1
                  clear H1
                  exact absurd H (by simp)
                · replace c90 := Bool.eq_false_iff.mpr c90
                  subst c90
                  have H1 : ((laws_markRLog.f kj60 t474 t475 t476 1).bind fun bt491 => ((laws_heldRLog.f kj60 t474 t475 bt491.2 1).bind fun t493 => (if t493 < 0 then (none) else (if t493 = bt491.1 then ((laws_toRLog.f kj60 a0_0 a0_1 l0_2).bind fun bt494 => ((impl_CompactTo.f kj60 bt494.1 bt494.2.1 bt494.2.2 a1).bind fun bt499 => ((laws_eqRLog.f kj60 bt499.1 bt499.2.1 bt499.2.2.1 t461 t462 t463).bind fun t506 => (if t506 = true then (laws_FnExactCompactTo.j2 kj60 bt491.1 (bt499.2.2.2 != t466) t474 t475 bt491.2) else (laws_FnExactCompactTo.j2 kj60 bt491.1 true t474 t475 bt491.2))))) else (none))))) = some r := by rw [if_neg (show ¬ (false = true) by decide)] at H; exact H
                  clear H
                  have H := H1
                  clear H1
                  replace H := Option.bind_eq_some_iff.mp H
                  obtain ⟨⟨t491, t492⟩, A910, H⟩ := H
                  replace H : ((laws_heldRLog.f kj60 t474 t475 t492 1).bind fun t493 => (if t493 < 0 then (none) else (if t493 = t491 then ((laws_toRLog.f kj60 a0_0 a0_1 l0_2).bind fun bt494 => ((impl_CompactTo.f kj60 bt494.1 bt494.2.1 bt494.2.2 a1).bind fun bt499 => ((laws_eqRLog.f kj60 bt499.1 bt499.2.1 bt499.2.2.1 t461 t462 t463).bind fun t506 => (if t506 = true then (laws_FnExactCompactTo.j2 kj60 t491 (bt499.2.2.2 != t466) t474 t475 t492) else (laws_FnExactCompactTo.j2 kj60 t491 true t474 t475 t492))))) else (none)))) = some r := H
                  have A91 := Aside0.mk A910
                  clear A910
                  replace H := Option.bind_eq_some_iff.mp H
                  obtain ⟨t493, A920, H⟩ := H
                  replace H : (if t493 < 0 then (none) else (if t493 = t491 then ((laws_toRLog.f kj60 a0_0 a0_1 l0_2).bind fun bt494 => ((impl_CompactTo.f kj60 bt494.1 bt494.2.1 bt494.2.2 a1).bind fun bt499 => ((laws_eqRLog.f kj60 bt499.1 bt499.2.1 bt499.2.2.1 t461 t462 t463).bind fun t506 => (if t506 = true then (laws_FnExactCompactTo.j2 kj60 t491 (bt499.2.2.2 != t466) t474 t475 t492) else (laws_FnExactCompactTo.j2 kj60 t491 true t474 t475 t492))))) else (none))) = some r := H
                  have A92 := Aside0.mk A920
                  clear A920
                  by_cases c93 : t493 < 0
                  · rw [if_pos c93] at H
                    exact absurd H (by simp)
                  · rw [if_neg c93] at H
                    have c93b0 : decide (t493 < 0) = false := decide_eq_false c93
                    clear c93
                    by_cases c94 : t493 = t491
                    · rw [if_pos c94] at H
                      have c94b0 : (t493 == t491) = true := beq_iff_eq.mpr c94
                      have c94b1 : (t493 != t491) = false := bne_eq_false_iff_eq.mpr c94
                      clear c94
                      replace H := Option.bind_eq_some_iff.mp H
                      obtain ⟨⟨t494, t495, t496⟩, A950, H⟩ := H
                      replace H : ((impl_CompactTo.f kj60 t494 t495 t496 a1).bind fun bt499 => ((laws_eqRLog.f kj60 bt499.1 bt499.2.1 bt499.2.2.1 t461 t462 t463).bind fun t506 => (if t506 = true then (laws_FnExactCompactTo.j2 kj60 t491 (bt499.2.2.2 != t466) t474 t475 t492) else (laws_FnExactCompactTo.j2 kj60 t491 true t474 t475 t492)))) = some r := H
                      have A95 := Aside0.mk A950
                      clear A950
                      replace H := Option.bind_eq_some_iff.mp H
                      obtain ⟨⟨t499, t500, t501, t504⟩, A960, H⟩ := H
                      replace H : ((laws_eqRLog.f kj60 t499 t500 t501 t461 t462 t463).bind fun t506 => (if t506 = true then (laws_FnExactCompactTo.j2 kj60 t491 (t504 != t466) t474 t475 t492) else (laws_FnExactCompactTo.j2 kj60 t491 true t474 t475 t492))) = some r := H
                      have A96 := Aside0.mk A960
                      clear A960
                      have HC97 := Aside0.mk H
                      clear H
                      have hnb98 := NB480_454.out
                      have hnc98 := NB454_480.out
                      have hnb99 := NB480_467.out
                      have hnc99 := NB467_480.out
                      have hnb100 := NB480_473.out
                      have hnc100 := NB473_480.out
                      have hcz101_0 : wc.cell? ⟨gb480, 0, none⟩ = some (.int .i64 t474) := (blk_cell BK480.out 0).trans rfl
                      have hcz101_1 : wc.cell? ⟨gb480, 1, none⟩ = some (.int .i64 t475) := (blk_cell BK480.out 1).trans rfl
                      have hcz101_2 : wc.cell? ⟨gb480, 2, none⟩ = some (.slice Ao37 t476.length co37) := (blk_cell BK480.out 2).trans rfl
                      have hfz101_0 := blk_frozen BK480.out 0
                      have hfz101_1 := blk_frozen BK480.out 1
                      have hfz101_2 := blk_frozen BK480.out 2
                      go_upto_region 25 with (first | ((with_reducible refine gate_callee (f := 29) rfl ?_); refine goesL_ (some 68) rfl rfl Try.func29 (by kernel_rfl) rfl #[.agg #[.int .i64 t474, .int .i64 t475, .slice Ao37 t476.length co37], .int .i64 1] rfl (by (try simp only [List.map_toArray, List.map_cons, List.map_nil]); first | done | rfl | (simp only [List.length_drop, List.length_take]; rfl)) ?_; (with_reducible refine (laws_markRLog.calls kj60 t474 t475 (fun k_ => some k_ = (.slice Ao37 t476.length co37 : Value).ownBlock) (.slice Ao37 t476.length co37) t476 1 t491 t492 w _ ?side1 ?side2 A91.out).mono ?_); (case side1 => repeat (first | (with_reducible first | exact HB.out | apply below_alloc | apply pw_below_drewN | apply below_drew1 | refine below_set ?_ GE454.out | refine below_set ?_ GE467.out | refine below_set ?_ GE473.out | refine below_set ?_ GE480.out) | exact HB.out)); (case side2 => exact Kd.R_tight rfl HO_481002.out); rintro e w102 ⟨rfl, hy0, hb, hkp⟩; refine ⟨_, rfl, ?_⟩; have n0_ := Aside0.mk (Kd.R_mono (ok' := fun k_ => some k_ ≠ (.slice Ao30 t489.length co30 : Value).ownBlock ∧ some k_ ≠ (.slice Ao37 t476.length co37 : Value).ownBlock) (Kd.R_keptB (HO_468002.out) hkp (fun k_ hk_ hs_ => (hk_.2) hs_)) (fun k_ hk_ => ⟨hk_.1.1, hk_.1.2⟩)); have n1_ := Aside0.mk (Kd.R_mono (ok' := fun k_ => some k_ ≠ (.slice Ao23 t463.length co23 : Value).ownBlock ∧ some k_ ≠ (.slice Ao37 t476.length co37 : Value).ownBlock) (Kd.R_keptB (HO_474002.out) hkp (fun k_ hk_ hs_ => (hk_.2) hs_)) (fun k_ hk_ => ⟨hk_.1.1, hk_.1.2⟩)); have n2_ := Aside0.mk (Kd.R_reok rfl hy0 (fun k_ e_ => HO_481002.out.1 k_ e_)); have n3_ := Aside0.mk (blk_kept (by (with_reducible repeat (first | refine blk_drewN ?_ _ | refine blk_drew ?_ | refine blk_alloc ?_ _)); exact BK454.out) hkp (fun hs_ => (fun e_ => (Kd.R_ne HO_481002.out BK454.out (by decide)) e_) hs_)); have n4_ := Aside0.mk (blk_kept (by (with_reducible repeat (first | refine blk_drewN ?_ _ | refine blk_drew ?_ | refine blk_alloc ?_ _)); exact BK467.out) hkp (fun hs_ => (fun e_ => (Kd.R_ne HO_481002.out BK467.out (by decide)) e_) hs_)); have n5_ := Aside0.mk (blk_kept (by (with_reducible repeat (first | refine blk_drewN ?_ _ | refine blk_drew ?_ | refine blk_alloc ?_ _)); exact BK473.out) hkp (fun hs_ => (fun e_ => (Kd.R_ne HO_481002.out BK473.out (by decide)) e_) hs_)); have n6_ := Aside0.mk (blk_kept (by (with_reducible repeat (first | refine blk_drewN ?_ _ | refine blk_drew ?_ | refine blk_alloc ?_ _)); exact BK480.out) hkp (fun hs_ => (fun e_ => (Kd.R_ne HO_481002.out BK480.out (by decide)) e_) hs_)); have n7_ := Aside0.mk (hb); clear HO_468002; clear HO_474002; clear HO_481002; clear BK454; clear BK467; clear BK473; clear BK480; clear HB; have HO_468002 := n0_; have HO_474002 := n1_; have HO_481002 := n2_; have BK454 := n3_; have BK467 := n4_; have BK473 := n5_; have BK480 := n6_; have HB := n7_; clear n0_ n1_ n2_ n3_ n4_ n5_ n6_ n7_; (try clear hb); (try clear hkp); (try clear hy0); have hcz103_0 : w102.cell? ⟨gb480, 0, none⟩ = some (.int .i64 t474) := (blk_cell BK480.out 0).trans rfl; have hcz103_1 : w102.cell? ⟨gb480, 1, none⟩ = some (.int .i64 t475) := (blk_cell BK480.out 1).trans rfl; have hcz103_2 : w102.cell? ⟨gb480, 2, none⟩ = some (.slice Ao37 t476.length co37) := (blk_cell BK480.out 2).trans rfl; have hfz103_0 := blk_frozen BK480.out 0; have hfz103_1 := blk_frozen BK480.out 1; have hfz103_2 := blk_frozen BK480.out 2) | ((with_reducible refine gate_callee (f := 34) rfl ?_); refine goesL_ (some 71) rfl rfl Try.func34 (by kernel_rfl) rfl #[.agg #[.int .i64 t474, .int .i64 t475, .slice Ao37 t492.length co37], .int .i64 1] rfl (by (try simp only [List.map_toArray, List.map_cons, List.map_nil]); first | done | (rw [show t492.length = t476.length from (Kd.R_reads' HO_481002.out).1.symm] <;> rfl) | rfl | (simp only [List.length_drop, List.length_take]; rfl)) ?_; (with_reducible refine (laws_heldRLog.calls kj60 t474 t475 _ _ t492 1 t493 _ ?side1 ?side2 A92.out).mono ?_); (case side1 => repeat (first | exact (Kd.R_reads' HO_481002.out).2.2 | (with_reducible refine Kd.C_alloc ?_ _) | (with_reducible refine Kd.C_drewN ?_ _) | (with_reducible refine Kd.C_drew ?_))); (case side2 => rw [show t492.length = t476.length from (Kd.R_reads' HO_481002.out).1.symm]; exact (Kd.R_reads' HO_481002.out).2.1); rintro e w104 ⟨rfl, hb⟩; refine ⟨_, rfl, ?_⟩; have n0_ := Aside0.mk (Kd.R_below (by (with_reducible repeat (first | apply Kd.R_alloc | apply Kd.R_drewN | apply Kd.R_drew)); exact HO_468002.out) hb); have n1_ := Aside0.mk (Kd.R_below (by (with_reducible repeat (first | apply Kd.R_alloc | apply Kd.R_drewN | apply Kd.R_drew)); exact HO_474002.out) hb); have n2_ := Aside0.mk (Kd.R_below (by (with_reducible repeat (first | apply Kd.R_alloc | apply Kd.R_drewN | apply Kd.R_drew)); exact HO_481002.out) hb); have n3_ := Aside0.mk (blk_below (g := gb454) (o := .cells #[.int .i64 a0_0, .int .i64 a0_1, .slice A0_2 l0_2.length c0_2] 24 (0, 0)) (by (with_reducible repeat (first | refine blk_drewN ?_ _ | refine blk_drew ?_ | refine blk_alloc ?_ _)); exact BK454.out) hb); have n4_ := Aside0.mk (blk_below (g := gb467) (o := .cells #[.int .i64 t461, .int .i64 t462, .slice Ao23 t463.length co23] 29 (0, 0)) (by (with_reducible repeat (first | refine blk_drewN ?_ _ | refine blk_drew ?_ | refine blk_alloc ?_ _)); exact BK467.out) hb); have n5_ := Aside0.mk (blk_below (g := gb473) (o := .cells #[.int .i64 t468, .int .i64 t469, .slice Ao30 t489.length co30] 29 (0, 0)) (by (with_reducible repeat (first | refine blk_drewN ?_ _ | refine blk_drew ?_ | refine blk_alloc ?_ _)); exact BK473.out) hb); have n6_ := Aside0.mk (blk_below (g := gb480) (o := .cells #[.int .i64 t474, .int .i64 t475, .slice Ao37 t476.length co37] 29 (0, 0)) (by (with_reducible repeat (first | refine blk_drewN ?_ _ | refine blk_drew ?_ | refine blk_alloc ?_ _)); exact BK480.out) hb); have n7_ := Aside0.mk (below_step (by repeat (first | (with_reducible first | exact HB.out | apply below_alloc | apply pw_below_drewN | apply below_drew1 | refine below_set ?_ GE454.out | refine below_set ?_ GE467.out | refine below_set ?_ GE473.out | refine below_set ?_ GE480.out) | exact HB.out)) hb); clear HO_468002; clear HO_474002; clear HO_481002; clear BK454; clear BK467; clear BK473; clear BK480; clear HB; have HO_468002 := n0_; have HO_474002 := n1_; have HO_481002 := n2_; have BK454 := n3_; have BK467 := n4_; have BK473 := n5_; have BK480 := n6_; have HB := n7_; clear n0_ n1_ n2_ n3_ n4_ n5_ n6_ n7_; (try clear hb); (try clear hb2); (try clear hk); (try clear hi); have hnb105 := NB454_467.out; have hnc105 := NB467_454.out; have hnb106 := NB454_473.out; have hnc106 := NB473_454.out; have hcz107_0 : w104.cell? ⟨gb454, 0, none⟩ = some (.int .i64 a0_0) := (blk_cell BK454.out 0).trans rfl; have hcz107_1 : w104.cell? ⟨gb454, 1, none⟩ = some (.int .i64 a0_1) := (blk_cell BK454.out 1).trans rfl; have hcz107_2 : w104.cell? ⟨gb454, 2, none⟩ = some (.slice A0_2 l0_2.length c0_2) := (blk_cell BK454.out 2).trans rfl; have hfz107_0 := blk_frozen BK454.out 0; have hfz107_1 := blk_frozen BK454.out 1; have hfz107_2 := blk_frozen BK454.out 2) | ((with_reducible refine gate_callee (f := 15) rfl ?_); refine goesL_ (some 79) rfl rfl Try.func15 (by kernel_rfl) rfl #[.agg #[.int .i64 a0_0, .int .i64 a0_1, .slice A0_2 l0_2.length c0_2]] rfl (by (try simp only [List.map_toArray, List.map_cons, List.map_nil]); first | done | rfl | (simp only [List.length_drop, List.length_take]; rfl)) ?_; (with_reducible refine (laws_toRLog.calls kj60 a0_0 a0_1 _ _ l0_2 t494 t495 t496 _ ?side1 ?side2 A95.out).mono ?_); (case side1 => repeat (first | exact (Kd.C_below HR0_2.out HB.out) | (with_reducible refine Kd.C_alloc ?_ _) | (with_reducible refine Kd.C_drewN ?_ _) | (with_reducible refine Kd.C_drew ?_))); (case side2 => exact HC0_2.out); rintro e w108 ⟨v497, rfl, ho0, hb⟩; refine ⟨_, rfl, ?_⟩; have n0_ := Aside0.mk (Kd.R_elder' (by (with_reducible repeat (first | apply Kd.R_alloc | apply Kd.R_drewN | apply Kd.R_drew)); exact HO_468002.out) (Kd.R_base ho0) hb); have n1_ := Aside0.mk (Kd.R_elder' (by (with_reducible repeat (first | apply Kd.R_alloc | apply Kd.R_drewN | apply Kd.R_drew)); exact HO_474002.out) (Kd.R_base ho0) hb); have n2_ := Aside0.mk (Kd.R_elder' (by (with_reducible repeat (first | apply Kd.R_alloc | apply Kd.R_drewN | apply Kd.R_drew)); exact HO_481002.out) (Kd.R_base ho0) hb); have n3_ := Aside0.mk (Kd.R_lower (Kd.R_new' (Kd.R_new' (Kd.R_new' ho0 (Kd.R_lt (by (with_reducible repeat (first | apply Kd.R_alloc | apply Kd.R_drewN | apply Kd.R_drew)); exact HO_468002.out))) (Kd.R_lt (by (with_reducible repeat (first | apply Kd.R_alloc | apply Kd.R_drewN | apply Kd.R_drew)); exact HO_474002.out))) (Kd.R_lt (by (with_reducible repeat (first | apply Kd.R_alloc | apply Kd.R_drewN | apply Kd.R_drew)); exact HO_481002.out))) (below_size (by repeat (first | (with_reducible first | exact HB.out | apply below_alloc | apply pw_below_drewN | apply below_drew1 | refine below_set ?_ GE454.out | refine below_set ?_ GE467.out | refine below_set ?_ GE473.out | refine below_set ?_ GE480.out) | exact HB.out)))); have n4_ := Aside0.mk (blk_below (g := gb454) (o := .cells #[.int .i64 a0_0, .int .i64 a0_1, .slice A0_2 l0_2.length c0_2] 24 (0, 0)) (by (with_reducible repeat (first | refine blk_drewN ?_ _ | refine blk_drew ?_ | refine blk_alloc ?_ _)); exact BK454.out) hb); have n5_ := Aside0.mk (blk_below (g := gb467) (o := .cells #[.int .i64 t461, .int .i64 t462, .slice Ao23 t463.length co23] 29 (0, 0)) (by (with_reducible repeat (first | refine blk_drewN ?_ _ | refine blk_drew ?_ | refine blk_alloc ?_ _)); exact BK467.out) hb); have n6_ := Aside0.mk (blk_below (g := gb473) (o := .cells #[.int .i64 t468, .int .i64 t469, .slice Ao30 t489.length co30] 29 (0, 0)) (by (with_reducible repeat (first | refine blk_drewN ?_ _ | refine blk_drew ?_ | refine blk_alloc ?_ _)); exact BK473.out) hb); have n7_ := Aside0.mk (blk_below (g := gb480) (o := .cells #[.int .i64 t474, .int .i64 t475, .slice Ao37 t476.length co37] 29 (0, 0)) (by (with_reducible repeat (first | refine blk_drewN ?_ _ | refine blk_drew ?_ | refine blk_alloc ?_ _)); exact BK480.out) hb); have n8_ := Aside0.mk (below_step (by repeat (first | (with_reducible first | exact HB.out | apply below_alloc | apply pw_below_drewN | apply below_drew1 | refine below_set ?_ GE454.out | refine below_set ?_ GE467.out | refine below_set ?_ GE473.out | refine below_set ?_ GE480.out) | exact HB.out)) hb); clear HO_468002; clear HO_474002; clear HO_481002; clear BK454; clear BK467; clear BK473; clear BK480; clear HB; have HO_468002 := n0_; have HO_474002 := n1_; have HO_481002 := n2_; have HO498 := n3_; have BK454 := n4_; have BK467 := n5_; have BK473 := n6_; have BK480 := n7_; have HB := n8_; clear n0_ n1_ n2_ n3_ n4_ n5_ n6_ n7_ n8_; (try clear hb); (try clear hb2); (try clear hk); (try clear hi); (try clear ho0); obtain ⟨Ao109, co109, eo109⟩ := Kd.R_slice HO498.out; subst eo109) | ((with_reducible refine gate_callee (f := 33) rfl ?_); refine goesL_ (some 81) rfl rfl Try.func33 (by kernel_rfl) rfl #[.agg #[.int .i64 t494, .int .i64 t495, .slice Ao109 t496.length co109], .int .i64 a1] rfl (by (try simp only [List.map_toArray, List.map_cons, List.map_nil]); first | done | rfl | (simp only [List.length_drop, List.length_take]; rfl)) ?_; (with_reducible refine (impl_CompactTo.calls kj60 t494 t495 _ _ t496 a1 t499 t500 t501 t504 _ ?side1 ?side2 A96.out).mono ?_); (case side1 => repeat (first | exact (Kd.R_reads' HO498.out).2.2 | (with_reducible refine Kd.C_alloc ?_ _) | (with_reducible refine Kd.C_drewN ?_ _) | (with_reducible refine Kd.C_drew ?_))); (case side2 => exact (Kd.R_reads' HO498.out).2.1); rintro e w110 ⟨v502, rfl, ho0, hb⟩; refine ⟨_, rfl, ?_⟩; have n0_ := Aside0.mk (Kd.R_elder' (by (with_reducible repeat (first | apply Kd.R_alloc | apply Kd.R_drewN | apply Kd.R_drew)); exact HO_468002.out) (Kd.R_base ho0) hb); have n1_ := Aside0.mk (Kd.R_elder' (by (with_reducible repeat (first | apply Kd.R_alloc | apply Kd.R_drewN | apply Kd.R_drew)); exact HO_474002.out) (Kd.R_base ho0) hb); have n2_ := Aside0.mk (Kd.R_elder' (by (with_reducible repeat (first | apply Kd.R_alloc | apply Kd.R_drewN | apply Kd.R_drew)); exact HO_481002.out) (Kd.R_base ho0) hb); have n3_ := Aside0.mk (Kd.R_elder' (by (with_reducible repeat (first | apply Kd.R_alloc | apply Kd.R_drewN | apply Kd.R_drew)); exact HO498.out) (Kd.R_base ho0) hb); have n4_ := Aside0.mk (Kd.R_lower (Kd.R_new' (Kd.R_new' (Kd.R_new' (Kd.R_new' ho0 (Kd.R_lt (by (with_reducible repeat (first | apply Kd.R_alloc | apply Kd.R_drewN | apply Kd.R_drew)); exact HO_468002.out))) (Kd.R_lt (by (with_reducible repeat (first | apply Kd.R_alloc | apply Kd.R_drewN | apply Kd.R_drew)); exact HO_474002.out))) (Kd.R_lt (by (with_reducible repeat (first | apply Kd.R_alloc | apply Kd.R_drewN | apply Kd.R_drew)); exact HO_481002.out))) (Kd.R_lt (by (with_reducible repeat (first | apply Kd.R_alloc | apply Kd.R_drewN | apply Kd.R_drew)); exact HO498.out))) (below_size (by repeat (first | (with_reducible first | exact HB.out | apply below_alloc | apply pw_below_drewN | apply below_drew1 | refine below_set ?_ GE454.out | refine below_set ?_ GE467.out | refine below_set ?_ GE473.out | refine below_set ?_ GE480.out) | exact HB.out)))); have n5_ := Aside0.mk (blk_below (g := gb454) (o := .cells #[.int .i64 a0_0, .int .i64 a0_1, .slice A0_2 l0_2.length c0_2] 24 (0, 0)) (by (with_reducible repeat (first | refine blk_drewN ?_ _ | refine blk_drew ?_ | refine blk_alloc ?_ _)); exact BK454.out) hb); have n6_ := Aside0.mk (blk_below (g := gb467) (o := .cells #[.int .i64 t461, .int .i64 t462, .slice Ao23 t463.length co23] 29 (0, 0)) (by (with_reducible repeat (first | refine blk_drewN ?_ _ | refine blk_drew ?_ | refine blk_alloc ?_ _)); exact BK467.out) hb); have n7_ := Aside0.mk (blk_below (g := gb473) (o := .cells #[.int .i64 t468, .int .i64 t469, .slice Ao30 t489.length co30] 29 (0, 0)) (by (with_reducible repeat (first | refine blk_drewN ?_ _ | refine blk_drew ?_ | refine blk_alloc ?_ _)); exact BK473.out) hb); have n8_ := Aside0.mk (blk_below (g := gb480) (o := .cells #[.int .i64 t474, .int .i64 t475, .slice Ao37 t476.length co37] 29 (0, 0)) (by (with_reducible repeat (first | refine blk_drewN ?_ _ | refine blk_drew ?_ | refine blk_alloc ?_ _)); exact BK480.out) hb); have n9_ := Aside0.mk (below_step (by repeat (first | (with_reducible first | exact HB.out | apply below_alloc | apply pw_below_drewN | apply below_drew1 | refine below_set ?_ GE454.out | refine below_set ?_ GE467.out | refine below_set ?_ GE473.out | refine below_set ?_ GE480.out) | exact HB.out)) hb); clear HO_468002; clear HO_474002; clear HO_481002; clear HO498; clear BK454; clear BK467; clear BK473; clear BK480; clear HB; have HO_468002 := n0_; have HO_474002 := n1_; have HO_481002 := n2_; have HO498 := n3_; have HO503 := n4_; have BK454 := n5_; have BK467 := n6_; have BK473 := n7_; have BK480 := n8_; have HB := n9_; clear n0_ n1_ n2_ n3_ n4_ n5_ n6_ n7_ n8_ n9_; (try clear hb); (try clear hb2); (try clear hk); (try clear hi); (try clear ho0)) | ((with_reducible refine gate_dst (N := 14) rfl ?_); refine box_event ?hg (N := 14) ?hd (cs := #[.int .i64 0, .int .i64 0, .slice none 0 0]) (t := 29) ?hr ?_; (case hd => rfl); (case hg => rfl); (case hr => first | (go_simp; done) | (go_simp; rfl)); intro gb505 hg w111 hbox hb; have n0_ := Aside0.mk (Kd.R_below (by (with_reducible repeat (first | apply Kd.R_alloc | apply Kd.R_drewN | apply Kd.R_drew)); exact HO_468002.out) hb); have n1_ := Aside0.mk (Kd.R_below (by (with_reducible repeat (first | apply Kd.R_alloc | apply Kd.R_drewN | apply Kd.R_drew)); exact HO_474002.out) hb); have n2_ := Aside0.mk (Kd.R_below (by (with_reducible repeat (first | apply Kd.R_alloc | apply Kd.R_drewN | apply Kd.R_drew)); exact HO_481002.out) hb); have n3_ := Aside0.mk (Kd.R_below (by (with_reducible repeat (first | apply Kd.R_alloc | apply Kd.R_drewN | apply Kd.R_drew)); exact HO498.out) hb); have n4_ := Aside0.mk (Kd.R_below (by (with_reducible repeat (first | apply Kd.R_alloc | apply Kd.R_drewN | apply Kd.R_drew)); exact HO503.out) hb); have n5_ := Aside0.mk (blk_below (g := gb454) (o := .cells #[.int .i64 a0_0, .int .i64 a0_1, .slice A0_2 l0_2.length c0_2] 24 (0, 0)) (by (with_reducible repeat (first | refine blk_drewN ?_ _ | refine blk_drew ?_ | refine blk_alloc ?_ _)); exact BK454.out) hb); have n6_ := Aside0.mk (blk_below (g := gb467) (o := .cells #[.int .i64 t461, .int .i64 t462, .slice Ao23 t463.length co23] 29 (0, 0)) (by (with_reducible repeat (first | refine blk_drewN ?_ _ | refine blk_drew ?_ | refine blk_alloc ?_ _)); exact BK467.out) hb); have n7_ := Aside0.mk (blk_below (g := gb473) (o := .cells #[.int .i64 t468, .int .i64 t469, .slice Ao30 t489.length co30] 29 (0, 0)) (by (with_reducible repeat (first | refine blk_drewN ?_ _ | refine blk_drew ?_ | refine blk_alloc ?_ _)); exact BK473.out) hb); have n8_ := Aside0.mk (blk_below (g := gb480) (o := .cells #[.int .i64 t474, .int .i64 t475, .slice Ao37 t476.length co37] 29 (0, 0)) (by (with_reducible repeat (first | refine blk_drewN ?_ _ | refine blk_drew ?_ | refine blk_alloc ?_ _)); exact BK480.out) hb); have n9_ := Aside0.mk (below_step (by repeat (first | (with_reducible first | exact HB.out | apply below_alloc | apply pw_below_drewN | apply below_drew1 | refine below_set ?_ GE454.out | refine below_set ?_ GE467.out | refine below_set ?_ GE473.out | refine below_set ?_ GE480.out) | exact HB.out)) hb); have n10_ := Aside0.mk (hbox); have n11_ := Aside0.mk ((by rw [hg]; exact (below_size (by repeat (first | (with_reducible first | exact HB.out | apply below_alloc | apply pw_below_drewN | apply below_drew1 | refine below_set ?_ GE454.out | refine below_set ?_ GE467.out | refine below_set ?_ GE473.out | refine below_set ?_ GE480.out) | exact HB.out))) : w.heap.size ≤ gb505)); have n12_ := Aside0.mk ((by rw [hg]; exact (below_size (by repeat (first | (with_reducible first | exact HB.out | apply below_alloc | apply pw_below_drewN | apply below_drew1 | refine below_set ?_ GE454.out | refine below_set ?_ GE467.out | refine below_set ?_ GE473.out | refine below_set ?_ GE480.out) | exact HB.out))) : w.heap.size ≤ gb505)); have n13_ := Aside0.mk ((by rw [hg]; exact Nat.ne_of_lt (blk_lt (g := gb454) (o := .cells #[.int .i64 a0_0, .int .i64 a0_1, .slice A0_2 l0_2.length c0_2] 24 (0, 0)) (by (with_reducible repeat (first | refine blk_drewN ?_ _ | refine blk_drew ?_ | refine blk_alloc ?_ _)); exact BK454.out)) : gb454 ≠ gb505)); have n14_ := Aside0.mk ((by rw [hg]; exact Nat.ne_of_gt (blk_lt (g := gb454) (o := .cells #[.int .i64 a0_0, .int .i64 a0_1, .slice A0_2 l0_2.length c0_2] 24 (0, 0)) (by (with_reducible repeat (first | refine blk_drewN ?_ _ | refine blk_drew ?_ | refine blk_alloc ?_ _)); exact BK454.out)) : gb505 ≠ gb454)); have n15_ := Aside0.mk ((by rw [hg]; exact Nat.ne_of_lt (blk_lt (g := gb467) (o := .cells #[.int .i64 t461, .int .i64 t462, .slice Ao23 t463.length co23] 29 (0, 0)) (by (with_reducible repeat (first | refine blk_drewN ?_ _ | refine blk_drew ?_ | refine blk_alloc ?_ _)); exact BK467.out)) : gb467 ≠ gb505)); have n16_ := Aside0.mk ((by rw [hg]; exact Nat.ne_of_gt (blk_lt (g := gb467) (o := .cells #[.int .i64 t461, .int .i64 t462, .slice Ao23 t463.length co23] 29 (0, 0)) (by (with_reducible repeat (first | refine blk_drewN ?_ _ | refine blk_drew ?_ | refine blk_alloc ?_ _)); exact BK467.out)) : gb505 ≠ gb467)); have n17_ := Aside0.mk ((by rw [hg]; exact Nat.ne_of_lt (blk_lt (g := gb473) (o := .cells #[.int .i64 t468, .int .i64 t469, .slice Ao30 t489.length co30] 29 (0, 0)) (by (with_reducible repeat (first | refine blk_drewN ?_ _ | refine blk_drew ?_ | refine blk_alloc ?_ _)); exact BK473.out)) : gb473 ≠ gb505)); have n18_ := Aside0.mk ((by rw [hg]; exact Nat.ne_of_gt (blk_lt (g := gb473) (o := .cells #[.int .i64 t468, .int .i64 t469, .slice Ao30 t489.length co30] 29 (0, 0)) (by (with_reducible repeat (first | refine blk_drewN ?_ _ | refine blk_drew ?_ | refine blk_alloc ?_ _)); exact BK473.out)) : gb505 ≠ gb473)); have n19_ := Aside0.mk ((by rw [hg]; exact Nat.ne_of_lt (blk_lt (g := gb480) (o := .cells #[.int .i64 t474, .int .i64 t475, .slice Ao37 t476.length co37] 29 (0, 0)) (by (with_reducible repeat (first | refine blk_drewN ?_ _ | refine blk_drew ?_ | refine blk_alloc ?_ _)); exact BK480.out)) : gb480 ≠ gb505)); have n20_ := Aside0.mk ((by rw [hg]; exact Nat.ne_of_gt (blk_lt (g := gb480) (o := .cells #[.int .i64 t474, .int .i64 t475, .slice Ao37 t476.length co37] 29 (0, 0)) (by (with_reducible repeat (first | refine blk_drewN ?_ _ | refine blk_drew ?_ | refine blk_alloc ?_ _)); exact BK480.out)) : gb505 ≠ gb480)); clear HO_468002; clear HO_474002; clear HO_481002; clear HO498; clear HO503; clear BK454; clear BK467; clear BK473; clear BK480; clear HB; have HO_468002 := n0_; have HO_474002 := n1_; have HO_481002 := n2_; have HO498 := n3_; have HO503 := n4_; have BK454 := n5_; have BK467 := n6_; have BK473 := n7_; have BK480 := n8_; have HB := n9_; have BK505 := n10_; have GW505 := n11_; have GE505 := n12_; have NB454_505 := n13_; have NB505_454 := n14_; have NB467_505 := n15_; have NB505_467 := n16_; have NB473_505 := n17_; have NB505_473 := n18_; have NB480_505 := n19_; have NB505_480 := n20_; clear n0_ n1_ n2_ n3_ n4_ n5_ n6_ n7_ n8_ n9_ n10_ n11_ n12_ n13_ n14_ n15_ n16_ n17_ n18_ n19_ n20_; clear hb hbox hg; have hnb112 := NB505_454.out; have hnc112 := NB454_505.out; have hnb113 := NB505_467.out; have hnc113 := NB467_505.out; have hnb114 := NB505_473.out; have hnc114 := NB473_505.out; have hnb115 := NB505_480.out; have hnc115 := NB480_505.out; have hcz116_0 : w111.cell? ⟨gb505, 0, none⟩ = some (.int .i64 0) := (blk_cell BK505.out 0).trans rfl; have hcz116_1 : w111.cell? ⟨gb505, 1, none⟩ = some (.int .i64 0) := (blk_cell BK505.out 1).trans rfl; have hcz116_2 : w111.cell? ⟨gb505, 2, none⟩ = some (.slice none 0 0) := (blk_cell BK505.out 2).trans rfl; have hfz116_0 := blk_frozen BK505.out 0; have hfz116_1 := blk_frozen BK505.out 1; have hfz116_2 := blk_frozen BK505.out 2; obtain ⟨Ao117, co117, eo117⟩ := Kd.R_slice HO503.out; subst eo117))
                      (try simp only [Act.put, List.setIfInBounds_toArray, List.set_cons_zero, List.set_cons_succ])
                      go_cut [92] (fun v92 wc => ∃ (kq : Nat) (x92_96 : Bool), v92 = .bool x92_96 ∧ Aside0 (laws_FnExactCompactTo.j2 kq t491 x92_96 t474 t475 t492 = some r) ∧ Aside0 (kq ≤ kj60) ∧ Aside0 (Kd.R k54 54 wc w.heap.size (fun k_ => some k_ ≠ ((.slice Ao30 t489.length co30) : Value).ownBlock ∧ some k_ ≠ ((.slice Ao37 t476.length co37) : Value).ownBlock ∧ some k_ ≠ ((.slice Ao117 t501.length co117) : Value).ownBlock) (.slice Ao23 t463.length co23) t463) ∧ Aside0 (Kd.R k54 54 wc w.heap.size (fun k_ => some k_ ≠ ((.slice Ao23 t463.length co23) : Value).ownBlock ∧ some k_ ≠ ((.slice Ao37 t476.length co37) : Value).ownBlock ∧ some k_ ≠ ((.slice Ao117 t501.length co117) : Value).ownBlock) (.slice Ao30 t489.length co30) t489) ∧ Aside0 (Kd.R k54 54 wc w.heap.size (fun k_ => some k_ ≠ ((.slice Ao23 t463.length co23) : Value).ownBlock ∧ some k_ ≠ ((.slice Ao30 t489.length co30) : Value).ownBlock ∧ some k_ ≠ ((.slice Ao117 t501.length co117) : Value).ownBlock) (.slice Ao37 t476.length co37) t492) ∧ Aside0 (Kd.R k54 54 wc w.heap.size (fun k_ => some k_ ≠ ((.slice Ao23 t463.length co23) : Value).ownBlock ∧ some k_ ≠ ((.slice Ao30 t489.length co30) : Value).ownBlock ∧ some k_ ≠ ((.slice Ao37 t476.length co37) : Value).ownBlock) (.slice Ao117 t501.length co117) t501) ∧ Aside0 (wc.heap[gb454]? = some (.cells #[.int .i64 a0_0, .int .i64 a0_1, (.slice A0_2 l0_2.length c0_2)] 24 (0, 0))) ∧ Aside0 (wc.heap[gb467]? = some (.cells #[.int .i64 t461, .int .i64 t462, (.slice Ao23 t463.length co23)] 29 (0, 0))) ∧ Aside0 (wc.heap[gb473]? = some (.cells #[.int .i64 t468, .int .i64 t469, (.slice Ao30 t489.length co30)] 29 (0, 0))) ∧ Aside0 (wc.heap[gb480]? = some (.cells #[.int .i64 t474, .int .i64 t475, (.slice Ao37 t476.length co37)] 29 (0, 0))) ∧ Aside0 (wc.heap[gb505]? = some (.cells #[.int .i64 t499, .int .i64 t500, (.slice Ao117 t501.length co117)] 29 (0, 0))) ∧ Aside0 (Below w.heap.size w wc))
                      case first =>
                        have H := HC97.out
                        clear HC97
                        replace H := Option.bind_eq_some_iff.mp H
                        obtain ⟨t506, A1180, H⟩ := H
                        replace H : (if t506 = true then (laws_FnExactCompactTo.j2 kj60 t491 (t504 != t466) t474 t475 t492) else (laws_FnExactCompactTo.j2 kj60 t491 true t474 t475 t492)) = some r := H
                        have A118 := Aside0.mk A1180
                        clear A1180
                        by_cases c119 : t506 = true
                        · subst c119
                          have H1 : (laws_FnExactCompactTo.j2 kj60 t491 (t504 != t466) t474 t475 t492) = some r := by rw [if_pos rfl] at H; exact H
                          clear H
                          have H := H1
                          clear H1
                          have H' := Aside0.mk H
                          clear H
                          have hnb120 := NB505_454.out
                          have hnc120 := NB454_505.out
                          have hnb121 := NB505_467.out
                          have hnc121 := NB467_505.out
                          have hnb122 := NB505_473.out
                          have hnc122 := NB473_505.out
                          have hnb123 := NB505_480.out
                          have hnc123 := NB480_505.out
                          have hcz124_0 : w111.cell? ⟨gb505, 0, none⟩ = some (.int .i64 0) := (blk_cell BK505.out 0).trans rfl
                          have hcz124_1 : w111.cell? ⟨gb505, 1, none⟩ = some (.int .i64 0) := (blk_cell BK505.out 1).trans rfl
                          have hcz124_2 : w111.cell? ⟨gb505, 2, none⟩ = some (.slice none 0 0) := (blk_cell BK505.out 2).trans rfl
                          have hfz124_0 := blk_frozen BK505.out 0
                          have hfz124_1 := blk_frozen BK505.out 1
                          have hfz124_2 := blk_frozen BK505.out 2
                          have hnb125 := NB467_454.out
                          have hnc125 := NB454_467.out
                          have hnb126 := NB467_473.out
                          have hnc126 := NB473_467.out
                          have hnb127 := NB467_480.out
                          have hnc127 := NB480_467.out
                          have hcz128_0 : w111.cell? ⟨gb467, 0, none⟩ = some (.int .i64 t461) := (blk_cell BK467.out 0).trans rfl
                          have hcz128_1 : w111.cell? ⟨gb467, 1, none⟩ = some (.int .i64 t462) := (blk_cell BK467.out 1).trans rfl
                          have hcz128_2 : w111.cell? ⟨gb467, 2, none⟩ = some (.slice Ao23 t463.length co23) := (blk_cell BK467.out 2).trans rfl
                          have hfz128_0 := blk_frozen BK467.out 0
                          have hfz128_1 := blk_frozen BK467.out 1
                          have hfz128_2 := blk_frozen BK467.out 2
                          go_wp2_with (first | ((with_reducible refine gate_callee (f := 17) rfl ?_); refine goesL_ (some 86) rfl rfl Try.func17 (by kernel_rfl) rfl #[.agg #[.int .i64 t499, .int .i64 t500, .slice Ao117 t501.length co117], .agg #[.int .i64 t461, .int .i64 t462, .slice Ao23 t463.length co23]] rfl (by (try simp only [List.map_toArray, List.map_cons, List.map_nil]); first | done | rfl | (simp only [List.length_drop, List.length_take]; rfl)) ?_; (with_reducible refine (laws_eqRLog.calls kj60 t499 t500 _ _ t501 t461 t462 _ _ t463 true _ ?side1 ?side2 ?side3 ?side4 A118.out).mono ?_); (case side1 => refine (Kd.R_reads' (e := 54) (base := w.heap.size) (ok := fun k_ => ((((True ∧ some k_ ≠ (.slice Ao23 t463.length co23 : Value).ownBlock) ∧ some k_ ≠ (.slice Ao30 t489.length co30 : Value).ownBlock) ∧ some k_ ≠ (.slice Ao37 t476.length co37 : Value).ownBlock) ∧ some k_ ≠ (.slice Ao109 t496.length co109 : Value).ownBlock)) (n := t501.length) (c := co117) ?_).2.2; exact (by (with_reducible repeat (first | apply Kd.R_alloc | apply Kd.R_drewN | apply Kd.R_drew)); exact (Kd.R_mono (Kd.R_far (p := ⟨gb505, 2, none⟩) (Kd.R_far (p := ⟨gb505, 1, none⟩) (Kd.R_far (p := ⟨gb505, 0, none⟩) (Kd.R_types HO503.out BK505.out (by decide)) (fun _ hk => hk.2) (.int .i64 t499)) (fun _ hk => hk.2) (.int .i64 t500)) (fun _ hk => hk.2) (.slice Ao117 t501.length co117)) (fun _ h_ => h_.1)))); (case side2 => exact (Kd.R_reads' HO503.out).2.1); (case side3 => refine (Kd.R_reads' (e := 54) (base := w.heap.size) (ok := fun k_ => (((some k_ ≠ (.slice Ao30 t489.length co30 : Value).ownBlock ∧ some k_ ≠ (.slice Ao37 t476.length co37 : Value).ownBlock) ∧ some k_ ≠ (.slice Ao109 t496.length co109 : Value).ownBlock) ∧ some k_ ≠ (.slice Ao117 t501.length co117 : Value).ownBlock)) (n := t463.length) (c := co23) ?_).2.2; exact (by (with_reducible repeat (first | apply Kd.R_alloc | apply Kd.R_drewN | apply Kd.R_drew)); exact (Kd.R_mono (Kd.R_far (p := ⟨gb505, 2, none⟩) (Kd.R_far (p := ⟨gb505, 1, none⟩) (Kd.R_far (p := ⟨gb505, 0, none⟩) (Kd.R_types HO_468002.out BK505.out (by decide)) (fun _ hk => hk.2) (.int .i64 t499)) (fun _ hk => hk.2) (.int .i64 t500)) (fun _ hk => hk.2) (.slice Ao117 t501.length co117)) (fun _ h_ => h_.1)))); (case side4 => exact (Kd.R_reads' HO_468002.out).2.1); rintro e w129 ⟨rfl, hb⟩; refine ⟨_, rfl, ?_⟩; have n0_ := Aside0.mk (Kd.R_below (by (with_reducible repeat (first | apply Kd.R_alloc | apply Kd.R_drewN | apply Kd.R_drew)); exact (Kd.R_mono (Kd.R_far (p := ⟨gb505, 2, none⟩) (Kd.R_far (p := ⟨gb505, 1, none⟩) (Kd.R_far (p := ⟨gb505, 0, none⟩) (Kd.R_types HO_468002.out BK505.out (by decide)) (fun _ hk => hk.2) (.int .i64 t499)) (fun _ hk => hk.2) (.int .i64 t500)) (fun _ hk => hk.2) (.slice Ao117 t501.length co117)) (fun _ h_ => h_.1))) hb); have n1_ := Aside0.mk (Kd.R_below (by (with_reducible repeat (first | apply Kd.R_alloc | apply Kd.R_drewN | apply Kd.R_drew)); exact (Kd.R_mono (Kd.R_far (p := ⟨gb505, 2, none⟩) (Kd.R_far (p := ⟨gb505, 1, none⟩) (Kd.R_far (p := ⟨gb505, 0, none⟩) (Kd.R_types HO_474002.out BK505.out (by decide)) (fun _ hk => hk.2) (.int .i64 t499)) (fun _ hk => hk.2) (.int .i64 t500)) (fun _ hk => hk.2) (.slice Ao117 t501.length co117)) (fun _ h_ => h_.1))) hb); have n2_ := Aside0.mk (Kd.R_below (by (with_reducible repeat (first | apply Kd.R_alloc | apply Kd.R_drewN | apply Kd.R_drew)); exact (Kd.R_mono (Kd.R_far (p := ⟨gb505, 2, none⟩) (Kd.R_far (p := ⟨gb505, 1, none⟩) (Kd.R_far (p := ⟨gb505, 0, none⟩) (Kd.R_types HO_481002.out BK505.out (by decide)) (fun _ hk => hk.2) (.int .i64 t499)) (fun _ hk => hk.2) (.int .i64 t500)) (fun _ hk => hk.2) (.slice Ao117 t501.length co117)) (fun _ h_ => h_.1))) hb); have n3_ := Aside0.mk (Kd.R_below (by (with_reducible repeat (first | apply Kd.R_alloc | apply Kd.R_drewN | apply Kd.R_drew)); exact (Kd.R_mono (Kd.R_far (p := ⟨gb505, 2, none⟩) (Kd.R_far (p := ⟨gb505, 1, none⟩) (Kd.R_far (p := ⟨gb505, 0, none⟩) (Kd.R_types HO498.out BK505.out (by decide)) (fun _ hk => hk.2) (.int .i64 t499)) (fun _ hk => hk.2) (.int .i64 t500)) (fun _ hk => hk.2) (.slice Ao117 t501.length co117)) (fun _ h_ => h_.1))) hb); have n4_ := Aside0.mk (Kd.R_below (by (with_reducible repeat (first | apply Kd.R_alloc | apply Kd.R_drewN | apply Kd.R_drew)); exact (Kd.R_mono (Kd.R_far (p := ⟨gb505, 2, none⟩) (Kd.R_far (p := ⟨gb505, 1, none⟩) (Kd.R_far (p := ⟨gb505, 0, none⟩) (Kd.R_types HO503.out BK505.out (by decide)) (fun _ hk => hk.2) (.int .i64 t499)) (fun _ hk => hk.2) (.int .i64 t500)) (fun _ hk => hk.2) (.slice Ao117 t501.length co117)) (fun _ h_ => h_.1))) hb); have n5_ := Aside0.mk (blk_below (g := gb454) (o := .cells #[.int .i64 a0_0, .int .i64 a0_1, .slice A0_2 l0_2.length c0_2] 24 (0, 0)) (by (with_reducible repeat (first | refine blk_drewN ?_ _ | refine blk_drew ?_ | refine blk_alloc ?_ _)); refine blk_far ?_ NB454_505.out _; (with_reducible repeat (first | refine blk_drewN ?_ _ | refine blk_drew ?_ | refine blk_alloc ?_ _)); refine blk_far ?_ NB454_505.out _; (with_reducible repeat (first | refine blk_drewN ?_ _ | refine blk_drew ?_ | refine blk_alloc ?_ _)); refine blk_far ?_ NB454_505.out _; (with_reducible repeat (first | refine blk_drewN ?_ _ | refine blk_drew ?_ | refine blk_alloc ?_ _)); exact BK454.out) hb); have n6_ := Aside0.mk (blk_below (g := gb467) (o := .cells #[.int .i64 t461, .int .i64 t462, .slice Ao23 t463.length co23] 29 (0, 0)) (by (with_reducible repeat (first | refine blk_drewN ?_ _ | refine blk_drew ?_ | refine blk_alloc ?_ _)); refine blk_far ?_ NB467_505.out _; (with_reducible repeat (first | refine blk_drewN ?_ _ | refine blk_drew ?_ | refine blk_alloc ?_ _)); refine blk_far ?_ NB467_505.out _; (with_reducible repeat (first | refine blk_drewN ?_ _ | refine blk_drew ?_ | refine blk_alloc ?_ _)); refine blk_far ?_ NB467_505.out _; (with_reducible repeat (first | refine blk_drewN ?_ _ | refine blk_drew ?_ | refine blk_alloc ?_ _)); exact BK467.out) hb); have n7_ := Aside0.mk (blk_below (g := gb473) (o := .cells #[.int .i64 t468, .int .i64 t469, .slice Ao30 t489.length co30] 29 (0, 0)) (by (with_reducible repeat (first | refine blk_drewN ?_ _ | refine blk_drew ?_ | refine blk_alloc ?_ _)); refine blk_far ?_ NB473_505.out _; (with_reducible repeat (first | refine blk_drewN ?_ _ | refine blk_drew ?_ | refine blk_alloc ?_ _)); refine blk_far ?_ NB473_505.out _; (with_reducible repeat (first | refine blk_drewN ?_ _ | refine blk_drew ?_ | refine blk_alloc ?_ _)); refine blk_far ?_ NB473_505.out _; (with_reducible repeat (first | refine blk_drewN ?_ _ | refine blk_drew ?_ | refine blk_alloc ?_ _)); exact BK473.out) hb); have n8_ := Aside0.mk (blk_below (g := gb480) (o := .cells #[.int .i64 t474, .int .i64 t475, .slice Ao37 t476.length co37] 29 (0, 0)) (by (with_reducible repeat (first | refine blk_drewN ?_ _ | refine blk_drew ?_ | refine blk_alloc ?_ _)); refine blk_far ?_ NB480_505.out _; (with_reducible repeat (first | refine blk_drewN ?_ _ | refine blk_drew ?_ | refine blk_alloc ?_ _)); refine blk_far ?_ NB480_505.out _; (with_reducible repeat (first | refine blk_drewN ?_ _ | refine blk_drew ?_ | refine blk_alloc ?_ _)); refine blk_far ?_ NB480_505.out _; (with_reducible repeat (first | refine blk_drewN ?_ _ | refine blk_drew ?_ | refine blk_alloc ?_ _)); exact BK480.out) hb); have n9_ := Aside0.mk (blk_below (g := gb505) (o := .cells #[.int .i64 t499, .int .i64 t500, .slice Ao117 t501.length co117] 29 (0, 0)) (by (with_reducible repeat (first | refine blk_drewN ?_ _ | refine blk_drew ?_ | refine blk_alloc ?_ _)); refine blk_put (cs := #[.int .i64 t499, .int .i64 t500, .slice none 0 0]) ?_ 2 _ rfl; (with_reducible repeat (first | refine blk_drewN ?_ _ | refine blk_drew ?_ | refine blk_alloc ?_ _)); refine blk_put (cs := #[.int .i64 t499, .int .i64 0, .slice none 0 0]) ?_ 1 _ rfl; (with_reducible repeat (first | refine blk_drewN ?_ _ | refine blk_drew ?_ | refine blk_alloc ?_ _)); refine blk_put (cs := #[.int .i64 0, .int .i64 0, .slice none 0 0]) ?_ 0 _ rfl; (with_reducible repeat (first | refine blk_drewN ?_ _ | refine blk_drew ?_ | refine blk_alloc ?_ _)); exact BK505.out) hb); have n10_ := Aside0.mk (below_step (by repeat (first | (with_reducible first | exact HB.out | apply below_alloc | apply pw_below_drewN | apply below_drew1 | refine below_set ?_ GE454.out | refine below_set ?_ GE467.out | refine below_set ?_ GE473.out | refine below_set ?_ GE480.out | refine below_set ?_ GE505.out) | exact HB.out)) hb); clear HO_468002; clear HO_474002; clear HO_481002; clear HO498; clear HO503; clear BK454; clear BK467; clear BK473; clear BK480; clear BK505; clear HB; have HO_468002 := n0_; have HO_474002 := n1_; have HO_481002 := n2_; have HO498 := n3_; have HO503 := n4_; have BK454 := n5_; have BK467 := n6_; have BK473 := n7_; have BK480 := n8_; have BK505 := n9_; have HB := n10_; clear n0_ n1_ n2_ n3_ n4_ n5_ n6_ n7_ n8_ n9_ n10_; (try clear hb); (try clear hb2); (try clear hk); (try clear hi)))
                          go_meet
                          case rel => exact ⟨_, ((t504 != t466)), (by first | rfl | (simp; done) | (simp [*]; done)), H', ⟨by have := HJ11.out; have := HJ60.out; first | omega | exact Nat.le_refl _⟩, ⟨by (try simp only [hl474002_60]); (with_reducible repeat (first | apply Kd.R_alloc | apply Kd.R_drewN | apply Kd.R_drew)); exact Kd.R_mono HO_468002.out (fun _ hk => ⟨hk.1.1.1, ⟨hk.1.1.2, hk.2⟩⟩)⟩, ⟨by (try simp only [hl474002_60]); (with_reducible repeat (first | apply Kd.R_alloc | apply Kd.R_drewN | apply Kd.R_drew)); exact Kd.R_mono HO_474002.out (fun _ hk => ⟨hk.1.1.1, ⟨hk.1.1.2, hk.2⟩⟩)⟩, ⟨by (try simp only [hl474002_60]); (with_reducible repeat (first | apply Kd.R_alloc | apply Kd.R_drewN | apply Kd.R_drew)); exact Kd.R_mono HO_481002.out (fun _ hk => ⟨hk.1.1.1, ⟨hk.1.1.2, hk.2⟩⟩)⟩, ⟨by (try simp only [hl474002_60]); (with_reducible repeat (first | apply Kd.R_alloc | apply Kd.R_drewN | apply Kd.R_drew)); exact Kd.R_mono HO503.out (fun _ hk => ⟨hk.1.1.1.2, ⟨hk.1.1.2, hk.1.2⟩⟩)⟩, ⟨by (try simp only [hl474002_60]); (with_reducible repeat (first | refine blk_drewN ?_ _ | refine blk_drew ?_ | refine blk_alloc ?_ _)); exact BK454.out⟩, ⟨by (try simp only [hl474002_60]); (with_reducible repeat (first | refine blk_drewN ?_ _ | refine blk_drew ?_ | refine blk_alloc ?_ _)); exact BK467.out⟩, ⟨by (try simp only [hl474002_60]); (with_reducible repeat (first | refine blk_drewN ?_ _ | refine blk_drew ?_ | refine blk_alloc ?_ _)); exact BK473.out⟩, ⟨by (try simp only [hl474002_60]); (with_reducible repeat (first | refine blk_drewN ?_ _ | refine blk_drew ?_ | refine blk_alloc ?_ _)); exact BK480.out⟩, ⟨by (try simp only [hl474002_60]); (with_reducible repeat (first | refine blk_drewN ?_ _ | refine blk_drew ?_ | refine blk_alloc ?_ _)); exact BK505.out⟩, ⟨by repeat (first | (with_reducible first | exact HB.out | apply below_alloc | apply pw_below_drewN | apply below_drew1 | refine below_set ?_ GE454.out | refine below_set ?_ GE467.out | refine below_set ?_ GE473.out | refine below_set ?_ GE480.out | refine below_set ?_ GE505.out) | exact HB.out)⟩⟩
                        · replace c119 := Bool.eq_false_iff.mpr c119
                          subst c119
                          have H1 : (laws_FnExactCompactTo.j2 kj60 t491 true t474 t475 t492) = some r := by rw [if_neg (show ¬ (false = true) by decide)] at H; exact H
                          clear H
                          have H := H1
                          clear H1
                          have H' := Aside0.mk H
                          clear H
                          have hnb130 := NB505_454.out
                          have hnc130 := NB454_505.out
                          have hnb131 := NB505_467.out
                          have hnc131 := NB467_505.out
                          have hnb132 := NB505_473.out
                          have hnc132 := NB473_505.out
                          have hnb133 := NB505_480.out
                          have hnc133 := NB480_505.out
                          have hcz134_0 : w111.cell? ⟨gb505, 0, none⟩ = some (.int .i64 0) := (blk_cell BK505.out 0).trans rfl
                          have hcz134_1 : w111.cell? ⟨gb505, 1, none⟩ = some (.int .i64 0) := (blk_cell BK505.out 1).trans rfl
                          have hcz134_2 : w111.cell? ⟨gb505, 2, none⟩ = some (.slice none 0 0) := (blk_cell BK505.out 2).trans rfl
                          have hfz134_0 := blk_frozen BK505.out 0
                          have hfz134_1 := blk_frozen BK505.out 1
                          have hfz134_2 := blk_frozen BK505.out 2
                          have hnb135 := NB467_454.out
                          have hnc135 := NB454_467.out
                          have hnb136 := NB467_473.out
                          have hnc136 := NB473_467.out
                          have hnb137 := NB467_480.out
                          have hnc137 := NB480_467.out
                          have hcz138_0 : w111.cell? ⟨gb467, 0, none⟩ = some (.int .i64 t461) := (blk_cell BK467.out 0).trans rfl
                          have hcz138_1 : w111.cell? ⟨gb467, 1, none⟩ = some (.int .i64 t462) := (blk_cell BK467.out 1).trans rfl
                          have hcz138_2 : w111.cell? ⟨gb467, 2, none⟩ = some (.slice Ao23 t463.length co23) := (blk_cell BK467.out 2).trans rfl
                          have hfz138_0 := blk_frozen BK467.out 0
                          have hfz138_1 := blk_frozen BK467.out 1
                          have hfz138_2 := blk_frozen BK467.out 2
                          go_wp2_with (first | ((with_reducible refine gate_callee (f := 17) rfl ?_); refine goesL_ (some 86) rfl rfl Try.func17 (by kernel_rfl) rfl #[.agg #[.int .i64 t499, .int .i64 t500, .slice Ao117 t501.length co117], .agg #[.int .i64 t461, .int .i64 t462, .slice Ao23 t463.length co23]] rfl (by (try simp only [List.map_toArray, List.map_cons, List.map_nil]); first | done | rfl | (simp only [List.length_drop, List.length_take]; rfl)) ?_; (with_reducible refine (laws_eqRLog.calls kj60 t499 t500 _ _ t501 t461 t462 _ _ t463 false _ ?side1 ?side2 ?side3 ?side4 A118.out).mono ?_); (case side1 => refine (Kd.R_reads' (e := 54) (base := w.heap.size) (ok := fun k_ => ((((True ∧ some k_ ≠ (.slice Ao23 t463.length co23 : Value).ownBlock) ∧ some k_ ≠ (.slice Ao30 t489.length co30 : Value).ownBlock) ∧ some k_ ≠ (.slice Ao37 t476.length co37 : Value).ownBlock) ∧ some k_ ≠ (.slice Ao109 t496.length co109 : Value).ownBlock)) (n := t501.length) (c := co117) ?_).2.2; exact (by (with_reducible repeat (first | apply Kd.R_alloc | apply Kd.R_drewN | apply Kd.R_drew)); exact (Kd.R_mono (Kd.R_far (p := ⟨gb505, 2, none⟩) (Kd.R_far (p := ⟨gb505, 1, none⟩) (Kd.R_far (p := ⟨gb505, 0, none⟩) (Kd.R_types HO503.out BK505.out (by decide)) (fun _ hk => hk.2) (.int .i64 t499)) (fun _ hk => hk.2) (.int .i64 t500)) (fun _ hk => hk.2) (.slice Ao117 t501.length co117)) (fun _ h_ => h_.1)))); (case side2 => exact (Kd.R_reads' HO503.out).2.1); (case side3 => refine (Kd.R_reads' (e := 54) (base := w.heap.size) (ok := fun k_ => (((some k_ ≠ (.slice Ao30 t489.length co30 : Value).ownBlock ∧ some k_ ≠ (.slice Ao37 t476.length co37 : Value).ownBlock) ∧ some k_ ≠ (.slice Ao109 t496.length co109 : Value).ownBlock) ∧ some k_ ≠ (.slice Ao117 t501.length co117 : Value).ownBlock)) (n := t463.length) (c := co23) ?_).2.2; exact (by (with_reducible repeat (first | apply Kd.R_alloc | apply Kd.R_drewN | apply Kd.R_drew)); exact (Kd.R_mono (Kd.R_far (p := ⟨gb505, 2, none⟩) (Kd.R_far (p := ⟨gb505, 1, none⟩) (Kd.R_far (p := ⟨gb505, 0, none⟩) (Kd.R_types HO_468002.out BK505.out (by decide)) (fun _ hk => hk.2) (.int .i64 t499)) (fun _ hk => hk.2) (.int .i64 t500)) (fun _ hk => hk.2) (.slice Ao117 t501.length co117)) (fun _ h_ => h_.1)))); (case side4 => exact (Kd.R_reads' HO_468002.out).2.1); rintro e w139 ⟨rfl, hb⟩; refine ⟨_, rfl, ?_⟩; have n0_ := Aside0.mk (Kd.R_below (by (with_reducible repeat (first | apply Kd.R_alloc | apply Kd.R_drewN | apply Kd.R_drew)); exact (Kd.R_mono (Kd.R_far (p := ⟨gb505, 2, none⟩) (Kd.R_far (p := ⟨gb505, 1, none⟩) (Kd.R_far (p := ⟨gb505, 0, none⟩) (Kd.R_types HO_468002.out BK505.out (by decide)) (fun _ hk => hk.2) (.int .i64 t499)) (fun _ hk => hk.2) (.int .i64 t500)) (fun _ hk => hk.2) (.slice Ao117 t501.length co117)) (fun _ h_ => h_.1))) hb); have n1_ := Aside0.mk (Kd.R_below (by (with_reducible repeat (first | apply Kd.R_alloc | apply Kd.R_drewN | apply Kd.R_drew)); exact (Kd.R_mono (Kd.R_far (p := ⟨gb505, 2, none⟩) (Kd.R_far (p := ⟨gb505, 1, none⟩) (Kd.R_far (p := ⟨gb505, 0, none⟩) (Kd.R_types HO_474002.out BK505.out (by decide)) (fun _ hk => hk.2) (.int .i64 t499)) (fun _ hk => hk.2) (.int .i64 t500)) (fun _ hk => hk.2) (.slice Ao117 t501.length co117)) (fun _ h_ => h_.1))) hb); have n2_ := Aside0.mk (Kd.R_below (by (with_reducible repeat (first | apply Kd.R_alloc | apply Kd.R_drewN | apply Kd.R_drew)); exact (Kd.R_mono (Kd.R_far (p := ⟨gb505, 2, none⟩) (Kd.R_far (p := ⟨gb505, 1, none⟩) (Kd.R_far (p := ⟨gb505, 0, none⟩) (Kd.R_types HO_481002.out BK505.out (by decide)) (fun _ hk => hk.2) (.int .i64 t499)) (fun _ hk => hk.2) (.int .i64 t500)) (fun _ hk => hk.2) (.slice Ao117 t501.length co117)) (fun _ h_ => h_.1))) hb); have n3_ := Aside0.mk (Kd.R_below (by (with_reducible repeat (first | apply Kd.R_alloc | apply Kd.R_drewN | apply Kd.R_drew)); exact (Kd.R_mono (Kd.R_far (p := ⟨gb505, 2, none⟩) (Kd.R_far (p := ⟨gb505, 1, none⟩) (Kd.R_far (p := ⟨gb505, 0, none⟩) (Kd.R_types HO498.out BK505.out (by decide)) (fun _ hk => hk.2) (.int .i64 t499)) (fun _ hk => hk.2) (.int .i64 t500)) (fun _ hk => hk.2) (.slice Ao117 t501.length co117)) (fun _ h_ => h_.1))) hb); have n4_ := Aside0.mk (Kd.R_below (by (with_reducible repeat (first | apply Kd.R_alloc | apply Kd.R_drewN | apply Kd.R_drew)); exact (Kd.R_mono (Kd.R_far (p := ⟨gb505, 2, none⟩) (Kd.R_far (p := ⟨gb505, 1, none⟩) (Kd.R_far (p := ⟨gb505, 0, none⟩) (Kd.R_types HO503.out BK505.out (by decide)) (fun _ hk => hk.2) (.int .i64 t499)) (fun _ hk => hk.2) (.int .i64 t500)) (fun _ hk => hk.2) (.slice Ao117 t501.length co117)) (fun _ h_ => h_.1))) hb); have n5_ := Aside0.mk (blk_below (g := gb454) (o := .cells #[.int .i64 a0_0, .int .i64 a0_1, .slice A0_2 l0_2.length c0_2] 24 (0, 0)) (by (with_reducible repeat (first | refine blk_drewN ?_ _ | refine blk_drew ?_ | refine blk_alloc ?_ _)); refine blk_far ?_ NB454_505.out _; (with_reducible repeat (first | refine blk_drewN ?_ _ | refine blk_drew ?_ | refine blk_alloc ?_ _)); refine blk_far ?_ NB454_505.out _; (with_reducible repeat (first | refine blk_drewN ?_ _ | refine blk_drew ?_ | refine blk_alloc ?_ _)); refine blk_far ?_ NB454_505.out _; (with_reducible repeat (first | refine blk_drewN ?_ _ | refine blk_drew ?_ | refine blk_alloc ?_ _)); exact BK454.out) hb); have n6_ := Aside0.mk (blk_below (g := gb467) (o := .cells #[.int .i64 t461, .int .i64 t462, .slice Ao23 t463.length co23] 29 (0, 0)) (by (with_reducible repeat (first | refine blk_drewN ?_ _ | refine blk_drew ?_ | refine blk_alloc ?_ _)); refine blk_far ?_ NB467_505.out _; (with_reducible repeat (first | refine blk_drewN ?_ _ | refine blk_drew ?_ | refine blk_alloc ?_ _)); refine blk_far ?_ NB467_505.out _; (with_reducible repeat (first | refine blk_drewN ?_ _ | refine blk_drew ?_ | refine blk_alloc ?_ _)); refine blk_far ?_ NB467_505.out _; (with_reducible repeat (first | refine blk_drewN ?_ _ | refine blk_drew ?_ | refine blk_alloc ?_ _)); exact BK467.out) hb); have n7_ := Aside0.mk (blk_below (g := gb473) (o := .cells #[.int .i64 t468, .int .i64 t469, .slice Ao30 t489.length co30] 29 (0, 0)) (by (with_reducible repeat (first | refine blk_drewN ?_ _ | refine blk_drew ?_ | refine blk_alloc ?_ _)); refine blk_far ?_ NB473_505.out _; (with_reducible repeat (first | refine blk_drewN ?_ _ | refine blk_drew ?_ | refine blk_alloc ?_ _)); refine blk_far ?_ NB473_505.out _; (with_reducible repeat (first | refine blk_drewN ?_ _ | refine blk_drew ?_ | refine blk_alloc ?_ _)); refine blk_far ?_ NB473_505.out _; (with_reducible repeat (first | refine blk_drewN ?_ _ | refine blk_drew ?_ | refine blk_alloc ?_ _)); exact BK473.out) hb); have n8_ := Aside0.mk (blk_below (g := gb480) (o := .cells #[.int .i64 t474, .int .i64 t475, .slice Ao37 t476.length co37] 29 (0, 0)) (by (with_reducible repeat (first | refine blk_drewN ?_ _ | refine blk_drew ?_ | refine blk_alloc ?_ _)); refine blk_far ?_ NB480_505.out _; (with_reducible repeat (first | refine blk_drewN ?_ _ | refine blk_drew ?_ | refine blk_alloc ?_ _)); refine blk_far ?_ NB480_505.out _; (with_reducible repeat (first | refine blk_drewN ?_ _ | refine blk_drew ?_ | refine blk_alloc ?_ _)); refine blk_far ?_ NB480_505.out _; (with_reducible repeat (first | refine blk_drewN ?_ _ | refine blk_drew ?_ | refine blk_alloc ?_ _)); exact BK480.out) hb); have n9_ := Aside0.mk (blk_below (g := gb505) (o := .cells #[.int .i64 t499, .int .i64 t500, .slice Ao117 t501.length co117] 29 (0, 0)) (by (with_reducible repeat (first | refine blk_drewN ?_ _ | refine blk_drew ?_ | refine blk_alloc ?_ _)); refine blk_put (cs := #[.int .i64 t499, .int .i64 t500, .slice none 0 0]) ?_ 2 _ rfl; (with_reducible repeat (first | refine blk_drewN ?_ _ | refine blk_drew ?_ | refine blk_alloc ?_ _)); refine blk_put (cs := #[.int .i64 t499, .int .i64 0, .slice none 0 0]) ?_ 1 _ rfl; (with_reducible repeat (first | refine blk_drewN ?_ _ | refine blk_drew ?_ | refine blk_alloc ?_ _)); refine blk_put (cs := #[.int .i64 0, .int .i64 0, .slice none 0 0]) ?_ 0 _ rfl; (with_reducible repeat (first | refine blk_drewN ?_ _ | refine blk_drew ?_ | refine blk_alloc ?_ _)); exact BK505.out) hb); have n10_ := Aside0.mk (below_step (by repeat (first | (with_reducible first | exact HB.out | apply below_alloc | apply pw_below_drewN | apply below_drew1 | refine below_set ?_ GE454.out | refine below_set ?_ GE467.out | refine below_set ?_ GE473.out | refine below_set ?_ GE480.out | refine below_set ?_ GE505.out) | exact HB.out)) hb); clear HO_468002; clear HO_474002; clear HO_481002; clear HO498; clear HO503; clear BK454; clear BK467; clear BK473; clear BK480; clear BK505; clear HB; have HO_468002 := n0_; have HO_474002 := n1_; have HO_481002 := n2_; have HO498 := n3_; have HO503 := n4_; have BK454 := n5_; have BK467 := n6_; have BK473 := n7_; have BK480 := n8_; have BK505 := n9_; have HB := n10_; clear n0_ n1_ n2_ n3_ n4_ n5_ n6_ n7_ n8_ n9_ n10_; (try clear hb); (try clear hb2); (try clear hk); (try clear hi)))
                          go_meet
                          case rel => exact ⟨_, (true), (by first | rfl | (simp; done) | (simp [*]; done)), H', ⟨by have := HJ11.out; have := HJ60.out; first | omega | exact Nat.le_refl _⟩, ⟨by (try simp only [hl474002_60]); (with_reducible repeat (first | apply Kd.R_alloc | apply Kd.R_drewN | apply Kd.R_drew)); exact Kd.R_mono HO_468002.out (fun _ hk => ⟨hk.1.1.1, ⟨hk.1.1.2, hk.2⟩⟩)⟩, ⟨by (try simp only [hl474002_60]); (with_reducible repeat (first | apply Kd.R_alloc | apply Kd.R_drewN | apply Kd.R_drew)); exact Kd.R_mono HO_474002.out (fun _ hk => ⟨hk.1.1.1, ⟨hk.1.1.2, hk.2⟩⟩)⟩, ⟨by (try simp only [hl474002_60]); (with_reducible repeat (first | apply Kd.R_alloc | apply Kd.R_drewN | apply Kd.R_drew)); exact Kd.R_mono HO_481002.out (fun _ hk => ⟨hk.1.1.1, ⟨hk.1.1.2, hk.2⟩⟩)⟩, ⟨by (try simp only [hl474002_60]); (with_reducible repeat (first | apply Kd.R_alloc | apply Kd.R_drewN | apply Kd.R_drew)); exact Kd.R_mono HO503.out (fun _ hk => ⟨hk.1.1.1.2, ⟨hk.1.1.2, hk.1.2⟩⟩)⟩, ⟨by (try simp only [hl474002_60]); (with_reducible repeat (first | refine blk_drewN ?_ _ | refine blk_drew ?_ | refine blk_alloc ?_ _)); exact BK454.out⟩, ⟨by (try simp only [hl474002_60]); (with_reducible repeat (first | refine blk_drewN ?_ _ | refine blk_drew ?_ | refine blk_alloc ?_ _)); exact BK467.out⟩, ⟨by (try simp only [hl474002_60]); (with_reducible repeat (first | refine blk_drewN ?_ _ | refine blk_drew ?_ | refine blk_alloc ?_ _)); exact BK473.out⟩, ⟨by (try simp only [hl474002_60]); (with_reducible repeat (first | refine blk_drewN ?_ _ | refine blk_drew ?_ | refine blk_alloc ?_ _)); exact BK480.out⟩, ⟨by (try simp only [hl474002_60]); (with_reducible repeat (first | refine blk_drewN ?_ _ | refine blk_drew ?_ | refine blk_alloc ?_ _)); exact BK505.out⟩, ⟨by repeat (first | (with_reducible first | exact HB.out | apply below_alloc | apply pw_below_drewN | apply below_drew1 | refine below_set ?_ GE454.out | refine below_set ?_ GE467.out | refine below_set ?_ GE473.out | refine below_set ?_ GE480.out | refine below_set ?_ GE505.out) | exact HB.out)⟩⟩
                      case rest =>
                        clear HC97
                        try clear c1
                        try clear c2
                        try clear p2
                        try clear c3
                        try clear c4
                        try clear c4b0
                        try clear c5
                        try clear c6
                        try clear c7
                        try clear c8
                        try clear c9
                        try clear c10
                        try clear c11
                        try clear c12
                        try clear c13
                        try clear c15
                        try clear c17
                        try clear c21
                        try clear c27
                        try clear c28
                        try clear c29
                        try clear c32
                        try clear c33
                        try clear c34
                        try clear c35
                        try clear c39
                        try clear c40
                        try clear c41
                        try clear c42
                        try clear c44
                        try clear c45
                        try clear c48
                        try clear c49
                        try clear c50
                        try clear c52
                        try clear c53
                        try clear c56
                        try clear c59
                        try clear c66
                        try clear c67
                        try clear c68
                        try clear c71
                        try clear c71b0
                        try clear c73
                        try clear c74
                        try clear c75
                        try clear c76
                        try clear c78
                        try clear c79
                        try clear c82
                        try clear c83
                        try clear c84
                        try clear c86
                        try clear c87
                        try clear c90
                        try clear c93
                        try clear c93b0
                        try clear c94
                        try clear c94b0
                        try clear c94b1
                        try clear c98
                        try clear c99
                        try clear c100
                        try clear c105
                        try clear c106
                        try clear c112
                        try clear c113
                        try clear c114
                        try clear c115
                        try clear c119
                        try clear c120
                        try clear c121
                        try clear c122
                        try clear c123
                        try clear c125
                        try clear c126
                        try clear c127
                        try clear c130
                        try clear c131
                        try clear c132
                        try clear c133
                        try clear c135
                        try clear c136
                        try clear c137
                        try clear hcz101_0
                        try clear hcz101_1
                        try clear hcz101_2
                        try clear hcz103_0
                        try clear hcz103_1
                        try clear hcz103_2
                        try clear hcz107_0
                        try clear hcz107_1
                        try clear hcz107_2
                        try clear hcz116_0
                        try clear hcz116_1
                        try clear hcz116_2
                        try clear hcz124_0
                        try clear hcz124_1
                        try clear hcz124_2
                        try clear hcz128_0
                        try clear hcz128_1
                        try clear hcz128_2
                        try clear hcz134_0
                        try clear hcz134_1
                        try clear hcz134_2
                        try clear hcz138_0
                        try clear hcz138_1
                        try clear hcz138_2
                        try clear hcz14_0
                        try clear hcz14_1
                        try clear hcz14_2
                        try clear hcz16_0
                        try clear hcz16_1
                        try clear hcz16_2
                        try clear hcz22_0
                        try clear hcz22_1
                        try clear hcz22_2
                        try clear hcz24_0
                        try clear hcz24_1
                        try clear hcz24_2
                        try clear hcz29_0
                        try clear hcz29_1
                        try clear hcz29_2
                        try clear hcz36_0
                        try clear hcz36_1
                        try clear hcz36_2
                        try clear hcz43_0
                        try clear hcz43_1
                        try clear hcz43_2
                        try clear hcz46_0
                        try clear hcz46_1
                        try clear hcz46_2
                        try clear hcz51_0
                        try clear hcz51_1
                        try clear hcz51_2
                        try clear hcz54_0
                        try clear hcz54_1
                        try clear hcz54_2
                        try clear hcz69_0
                        try clear hcz69_1
                        try clear hcz69_2
                        try clear hcz6_0
                        try clear hcz6_1
                        try clear hcz6_2
                        try clear hcz77_0
                        try clear hcz77_1
                        try clear hcz77_2
                        try clear hcz80_0
                        try clear hcz80_1
                        try clear hcz80_2
                        try clear hcz85_0
                        try clear hcz85_1
                        try clear hcz85_2
                        try clear hcz88_0
                        try clear hcz88_1
                        try clear hcz88_2
                        try clear hfz101_0
                        try clear hfz101_1
                        try clear hfz101_2
                        try clear hfz103_0
                        try clear hfz103_1
                        try clear hfz103_2
                        try clear hfz107_0
                        try clear hfz107_1
                        try clear hfz107_2
                        try clear hfz116_0
                        try clear hfz116_1
                        try clear hfz116_2
                        try clear hfz124_0
                        try clear hfz124_1
                        try clear hfz124_2
                        try clear hfz128_0
                        try clear hfz128_1
                        try clear hfz128_2
                        try clear hfz134_0
                        try clear hfz134_1
                        try clear hfz134_2
                        try clear hfz138_0
                        try clear hfz138_1
                        try clear hfz138_2
                        try clear hfz14_0
                        try clear hfz14_1
                        try clear hfz14_2
                        try clear hfz16_0
                        try clear hfz16_1
                        try clear hfz16_2
                        try clear hfz22_0
                        try clear hfz22_1
                        try clear hfz22_2
                        try clear hfz24_0
                        try clear hfz24_1
                        try clear hfz24_2
                        try clear hfz29_0
                        try clear hfz29_1
                        try clear hfz29_2
                        try clear hfz36_0
                        try clear hfz36_1
                        try clear hfz36_2
                        try clear hfz43_0
                        try clear hfz43_1
                        try clear hfz43_2
                        try clear hfz46_0
                        try clear hfz46_1
                        try clear hfz46_2
                        try clear hfz51_0
                        try clear hfz51_1
                        try clear hfz51_2
                        try clear hfz54_0
                        try clear hfz54_1
                        try clear hfz54_2
                        try clear hfz69_0
                        try clear hfz69_1
                        try clear hfz69_2
                        try clear hfz6_0
                        try clear hfz6_1
                        try clear hfz6_2
                        try clear hfz77_0
                        try clear hfz77_1
                        try clear hfz77_2
                        try clear hfz80_0
                        try clear hfz80_1
                        try clear hfz80_2
                        try clear hfz85_0
                        try clear hfz85_1
                        try clear hfz85_2
                        try clear hfz88_0
                        try clear hfz88_1
                        try clear hfz88_2
                        try clear p2
                        obtain ⟨kq, x92_96, rfl, HA, HJ96, HO_468002, HO_474002, HO_481002, HO_506002, BK454, BK467, BK473, BK480, BK505, HB⟩ := hcut
                        have hl481002_96 := (Kd.R_reads' HO_481002.out).1
                        rw [hl481002_96] at HO_481002
                        (try simp only [hl481002_96])
                        (try simp only [hl481002_96] at BK454)
                        (try simp only [hl481002_96] at BK467)
                        (try simp only [hl481002_96] at BK473)
                        (try simp only [hl481002_96] at BK480)
                        (try simp only [hl481002_96] at BK505)
                        (try simp only [hl481002_96] at HO_468002)
                        (try simp only [hl481002_96] at HO_474002)
                        (try simp only [hl481002_96] at HO_506002)
                        cases kq with
                        | zero => exact absurd HA.out (by simp [laws_FnExactCompactTo.j2])
                        | succ kj96 =>
                          have H := HA.out
                          clear HA
                          simp only [laws_FnExactCompactTo.j2] at H
                          by_cases c140 : x92_96 = true
                          · subst c140
                            have H1 : (none) = some r := by rw [if_pos rfl] at H; exact H
                            clear H
                            have H := H1
                            clear H1
                            exact absurd H (by simp)
                          · replace c140 := Bool.eq_false_iff.mpr c140
                            subst c140
                            have H1 : ((laws_heldRLog.f kj96 t474 t475 t492 1).bind fun t507 => (if t507 < 0 then (none) else (if t507 = t491 then (some true) else (none)))) = some r := by rw [if_neg (show ¬ (false = true) by decide)] at H; exact H
                            clear H
                            have H := H1
                            clear H1
                            replace H := Option.bind_eq_some_iff.mp H
                            obtain ⟨t507, A1410, H⟩ := H
                            replace H : (if t507 < 0 then (none) else (if t507 = t491 then (some true) else (none))) = some r := H
                            have A141 := Aside0.mk A1410
                            clear A1410
                            by_cases c142 : t507 < 0
                            · rw [if_pos c142] at H
                              exact absurd H (by simp)
                            · rw [if_neg c142] at H
                              have c142b0 : decide (t507 < 0) = false := decide_eq_false c142
                              clear c142
                              by_cases c143 : t507 = t491
                              · rw [if_pos c143] at H
                                have c143b0 : (t507 == t491) = true := beq_iff_eq.mpr c143
                                have c143b1 : (t507 != t491) = false := bne_eq_false_iff_eq.mpr c143
                                clear c143
                                obtain rfl := Option.some.inj H
                                have hnb144 := NB480_454.out
                                have hnc144 := NB454_480.out
                                have hnb145 := NB480_467.out
                                have hnc145 := NB467_480.out
                                have hnb146 := NB480_473.out
                                have hnc146 := NB473_480.out
                                have hnb147 := NB480_505.out
                                have hnc147 := NB505_480.out
                                have hcz148_0 : wc.cell? ⟨gb480, 0, none⟩ = some (.int .i64 t474) := (blk_cell BK480.out 0).trans rfl
                                have hcz148_1 : wc.cell? ⟨gb480, 1, none⟩ = some (.int .i64 t475) := (blk_cell BK480.out 1).trans rfl
                                have hcz148_2 : wc.cell? ⟨gb480, 2, none⟩ = some (.slice Ao37 t492.length co37) := (blk_cell BK480.out 2).trans rfl
                                have hfz148_0 := blk_frozen BK480.out 0
                                have hfz148_1 := blk_frozen BK480.out 1
                                have hfz148_2 := blk_frozen BK480.out 2
                                go_wp2_with (first | ((with_reducible refine gate_callee (f := 34) rfl ?_); refine goesL_ (some 95) rfl rfl Try.func34 (by kernel_rfl) rfl #[.agg #[.int .i64 t474, .int .i64 t475, .slice Ao37 t492.length co37], .int .i64 1] rfl (by (try simp only [List.map_toArray, List.map_cons, List.map_nil]); first | done | rfl | (simp only [List.length_drop, List.length_take]; rfl)) ?_; (with_reducible refine (laws_heldRLog.calls kj96 t474 t475 _ _ t492 1 t507 _ ?side1 ?side2 A141.out).mono ?_); (case side1 => repeat (first | exact (Kd.R_reads' HO_481002.out).2.2 | (with_reducible refine Kd.C_alloc ?_ _) | (with_reducible refine Kd.C_drewN ?_ _) | (with_reducible refine Kd.C_drew ?_))); (case side2 => exact (Kd.R_reads' HO_481002.out).2.1); rintro e w149 ⟨rfl, hb⟩; refine ⟨_, rfl, ?_⟩; have n0_ := Aside0.mk (Kd.R_below (by (with_reducible repeat (first | apply Kd.R_alloc | apply Kd.R_drewN | apply Kd.R_drew)); exact HO_468002.out) hb); have n1_ := Aside0.mk (Kd.R_below (by (with_reducible repeat (first | apply Kd.R_alloc | apply Kd.R_drewN | apply Kd.R_drew)); exact HO_474002.out) hb); have n2_ := Aside0.mk (Kd.R_below (by (with_reducible repeat (first | apply Kd.R_alloc | apply Kd.R_drewN | apply Kd.R_drew)); exact HO_481002.out) hb); have n3_ := Aside0.mk (Kd.R_below (by (with_reducible repeat (first | apply Kd.R_alloc | apply Kd.R_drewN | apply Kd.R_drew)); exact HO_506002.out) hb); have n4_ := Aside0.mk (blk_below (g := gb454) (o := .cells #[.int .i64 a0_0, .int .i64 a0_1, .slice A0_2 l0_2.length c0_2] 24 (0, 0)) (by (with_reducible repeat (first | refine blk_drewN ?_ _ | refine blk_drew ?_ | refine blk_alloc ?_ _)); exact BK454.out) hb); have n5_ := Aside0.mk (blk_below (g := gb467) (o := .cells #[.int .i64 t461, .int .i64 t462, .slice Ao23 t463.length co23] 29 (0, 0)) (by (with_reducible repeat (first | refine blk_drewN ?_ _ | refine blk_drew ?_ | refine blk_alloc ?_ _)); exact BK467.out) hb); have n6_ := Aside0.mk (blk_below (g := gb473) (o := .cells #[.int .i64 t468, .int .i64 t469, .slice Ao30 t489.length co30] 29 (0, 0)) (by (with_reducible repeat (first | refine blk_drewN ?_ _ | refine blk_drew ?_ | refine blk_alloc ?_ _)); exact BK473.out) hb); have n7_ := Aside0.mk (blk_below (g := gb480) (o := .cells #[.int .i64 t474, .int .i64 t475, .slice Ao37 t492.length co37] 29 (0, 0)) (by (with_reducible repeat (first | refine blk_drewN ?_ _ | refine blk_drew ?_ | refine blk_alloc ?_ _)); exact BK480.out) hb); have n8_ := Aside0.mk (blk_below (g := gb505) (o := .cells #[.int .i64 t499, .int .i64 t500, .slice Ao117 t501.length co117] 29 (0, 0)) (by (with_reducible repeat (first | refine blk_drewN ?_ _ | refine blk_drew ?_ | refine blk_alloc ?_ _)); exact BK505.out) hb); have n9_ := Aside0.mk (below_step (by repeat (first | (with_reducible first | exact HB.out | apply below_alloc | apply pw_below_drewN | apply below_drew1 | refine below_set ?_ GE454.out | refine below_set ?_ GE467.out | refine below_set ?_ GE473.out | refine below_set ?_ GE480.out | refine below_set ?_ GE505.out) | exact HB.out)) hb); clear HO_468002; clear HO_474002; clear HO_481002; clear HO_506002; clear BK454; clear BK467; clear BK473; clear BK480; clear BK505; clear HB; have HO_468002 := n0_; have HO_474002 := n1_; have HO_481002 := n2_; have HO_506002 := n3_; have BK454 := n4_; have BK467 := n5_; have BK473 := n6_; have BK480 := n7_; have BK505 := n8_; have HB := n9_; clear n0_ n1_ n2_ n3_ n4_ n5_ n6_ n7_ n8_ n9_; (try clear hb); (try clear hb2); (try clear hk); (try clear hi)))
                                go_ret
                                exact ⟨by first | rfl | (simp [errW_none, errW_some] <;> rfl) | (simp [*, errW_none, errW_some] <;> rfl), by repeat (first | (with_reducible first | exact HB.out | apply below_alloc | apply pw_below_drewN | apply below_drew1 | refine below_set ?_ GE454.out | refine below_set ?_ GE467.out | refine below_set ?_ GE473.out | refine below_set ?_ GE480.out | refine below_set ?_ GE505.out) | exact HB.out)⟩
                              · rw [if_neg c143] at H
                                exact absurd H (by simp)
                    · rw [if_neg c94] at H
                      exact absurd H (by simp)
          · replace c59 := Bool.eq_false_iff.mpr c59
            subst c59
            have H1 : (none) = some r := by rw [if_neg (show ¬ (false = true) by decide)] at H; exact H
            clear H
            have H := H1
            clear H1
            exact absurd H (by simp)

end Go.Proofs.Ytalbkbmnjpameaa.F

namespace Go.Proofs.Ytalbkbmnjpameaa.PK
open Go.RowKit Go.Proofs.YtalbkbmnjpameaaW.PrintWords
theorem EvS {α : Type} {g : Nat → Option α} {r : α} (h : Ev (fun k => g (k + 1)) r) : Ev g r := by
  obtain ⟨K, h⟩ := h
  refine ⟨K + 1, fun k hk => ?_⟩
  obtain ⟨m, rfl⟩ : ∃ m, k = m + 1 := ⟨k - 1, by omega⟩
  exact h m (by omega)
theorem EvP {α : Type} {g : Nat → Option α} {r : α} (h : Ev g r) : Ev (fun k => g (k + 1)) r := by
  obtain ⟨K, h⟩ := h
  exact ⟨K, fun k hk => h (k + 1) (by omega)⟩
theorem EvB {α β : Type} {g : Nat → Option α} {f : Nat → α → Option β} {a : α} {r : β} (h : Ev g a) : Ev (fun k => (g k).bind (f k)) r ↔ Ev (fun k => f k a) r := by
  obtain ⟨K, h⟩ := h
  constructor
  · rintro ⟨K', h'⟩
    refine ⟨max K K', fun k hk => ?_⟩
    have h2 : (g k).bind (f k) = some r := h' k (by omega)
    rw [h k (by omega)] at h2
    exact h2
  · rintro ⟨K', h'⟩
    refine ⟨max K K', fun k hk => ?_⟩
    show (g k).bind (f k) = some r
    rw [h k (by omega)]
    exact h' k (by omega)
theorem EvN {α : Type} {r : α} : Ev (fun _ => some r) r := ⟨0, fun _ _ => rfl⟩
theorem EvE {α : Type} {g : Nat → Option α} {r : α} (h : Ev g r) : ∃ k, g k = some r := h.rounds
/-- Two answers of one function are one. -/
theorem EvU {α : Type} {g : Nat → Option α} {r s : α} (h : Ev g r) (h' : Ev g s) : r = s := by
  obtain ⟨K, h⟩ := h
  obtain ⟨K', h'⟩ := h'
  have := (h (max K K') (by omega)).symm.trans (h' (max K K') (by omega))
  exact Option.some.inj this
theorem w64 {x : Int} (h : -9223372036854775808 ≤ x) (h' : x ≤ 9223372036854775807) : wrap64 x = x := by
  unfold wrap64
  omega
theorem wf64 {x : Int} (h : (Lit.int .i64 x).wf = true) : -9223372036854775808 ≤ x ∧ x ≤ 9223372036854775807 := by
  simp only [Lit.wf, Bool.and_eq_true, decide_eq_true_eq] at h
  have h1 : IntKind.i64.min = -9223372036854775808 := by decide
  have h2 : IntKind.i64.max = 9223372036854775807 := by decide
  omega
/-- From the end down. -/
theorem up {P : Int → Prop} (n : Nat) (base : P n) (step : ∀ i : Nat, i < n → P ((i + 1 : Nat) : Int) → P (i : Int)) : ∀ i : Nat, i ≤ n → P (i : Int) := by
  intro i hi
  obtain ⟨d, hd⟩ : ∃ d, d + i = n := ⟨n - i, by omega⟩
  induction d generalizing i with
  | zero => have : i = n := by omega
            subst this
            exact base
  | succ d ih => exact step i (by omega) (ih (i + 1) (by omega) (by omega))
theorem getD_nat {α : Type} (l : List α) (z : α) (i : Nat) (h : i < l.length) : l.getD ((i : Int).toNat) z = l[i] := by
  simp [List.getD_eq_getElem?_getD, List.getElem?_eq_getElem h]
theorem drop_at {α : Type} (l : List α) (i : Nat) (h : i < l.length) : l.drop i = l[i] :: l.drop (i + 1) := List.drop_eq_getElem_cons h
/-- Marks put into the elements of a list, one behind the other, and found there. -/
theorem marks {α : Type} (L : Nat → List α → Int → Int → Option (Int × List α)) (H : Nat → List α → Int → Int → Option Int) (B : Int) (hB : 0 ≤ B) (n : Nat) (N : Int)
    (endL : ∀ l a, l.length = n → Ev (fun k => L k l a n) (a, l)) (endH : ∀ l a, l.length = n → Ev (fun k => H k l a n) a)
    (step : ∀ (i : Nat) (l : List α) (a : Int), i < n → l.length = n → 0 ≤ a → a + B ≤ N → ∃ (e : α) (a1 : Int), a ≤ a1 ∧ a1 ≤ a + B ∧
      (∀ r, Ev (fun k => L k (l.set i e) a1 ((i + 1 : Nat) : Int)) r → Ev (fun k => L k l a i) r) ∧
      (∀ (l' : List α) r, l'.length = n → l'[i]? = some e → Ev (fun k => H k l' a1 ((i + 1 : Nat) : Int)) r → Ev (fun k => H k l' a i) r)) :
    ∀ (i : Nat), i ≤ n → ∀ (l : List α) (a : Int), l.length = n → 0 ≤ a → a + (n - i) * B ≤ N →
      ∃ (a' : Int) (l' : List α), Ev (fun k => L k l a i) (a', l') ∧ a ≤ a' ∧ a' ≤ a + (n - i) * B ∧ l'.length = n ∧ (∀ j, j < i → l'[j]? = l[j]?) ∧ Ev (fun k => H k l' a i) a' := by
  intro i hi
  obtain ⟨d, hd⟩ : ∃ d, d + i = n := ⟨n - i, by omega⟩
  induction d generalizing i with
  | zero =>
    intro l a hl h0 hN
    have : i = n := by omega
    subst this
    exact ⟨a, l, endL l a hl, Int.le_refl _, by rw [Int.sub_self, Int.zero_mul]; omega, hl, fun _ _ => rfl, endH l a hl⟩
  | succ d ih =>
    intro l a hl h0 hN
    have hni : ((n : Int) - i) * B = B + ((n : Int) - ((i + 1 : Nat) : Int)) * B := by
      rw [show (n : Int) - i = 1 + ((n : Int) - ((i + 1 : Nat) : Int)) by omega, Int.add_mul, Int.one_mul]
    have hnn : 0 ≤ ((n : Int) - ((i + 1 : Nat) : Int)) * B := Int.mul_nonneg (by omega) hB
    obtain ⟨e, a1, h1, h2, hL, hH⟩ := step i l a (by omega) hl h0 (by omega)
    obtain ⟨a', l', hev, h3, h4, h5, h6, h7⟩ := ih (i + 1) (by omega) (by omega) (l.set i e) a1 (by simpa using hl) (by omega) (by omega)
    refine ⟨a', l', hL _ hev, by omega, by omega, h5, fun j hj => ?_, hH l' a' h5 ?_ h7⟩
    · rw [h6 j (by omega), List.getElem?_set_ne (by omega)]
    · rw [h6 i (by omega), List.getElem?_set_self (by omega)]
end Go.Proofs.Ytalbkbmnjpameaa.PK

namespace Go.Proofs.Ytalbkbmnjpameaa.F
open Go.RowKit Go.Proofs.YtalbkbmnjpameaaW.PrintWords Go.Proofs.YtalbkbmnjpameaaW.PrintLast Go.Proofs.YtalbkbmnjpameaaW.PrintMore
attribute [local go_sem] max2_int min2_int max_two min_two max_three min_three max_four min_four   -- for this text's walks alone
set_option linter.unusedVariables false
set_option linter.unusedSimpArgs false

/-! ### impl_RLogOk: function 16 -/
def impl_RLogOk.f (k : Nat) (a0_0 : Int) (a0_1 : Int) (l0_2 : List (S54)) : Option (Bool) := (impl_isRLog.f k a0_0 a0_1 l0_2).bind fun t137 => (some t137)
theorem impl_RLogOk.mono : ∀ a0 a1 a2 k, LeO (impl_RLogOk.f k a0 a1 a2) (impl_RLogOk.f (k + 1) a0 a1 a2) := by
  intro a0 a1 a2 k
  unfold impl_RLogOk.f
  repeat' first
      | (with_reducible exact impl_isRLog.mono _ _ _ _)
      | (with_reducible exact LeO.refl _)
      | (with_reducible exact LeO.none _)
      | (with_reducible refine LeO.ite ?_ ?_)
      | (with_reducible refine LeO.bind ?_ (fun _ => ?_))
      | exact impl_isRLog.mono _ _ _ _
      | exact LeO.none _
      | refine LeO.ite ?_ ?_
      | refine LeO.bind ?_ (fun _ => ?_)
set_option maxHeartbeats 8000000 in
set_option maxRecDepth 100000 in
theorem impl_RLogOk.calls (k : Nat) (a0_0 : Int) (a0_1 : Int) (A0_2 : Option Addr) (c0_2 : Nat) (l0_2 : List (S54)) (r : Bool) (w : World) (hr0_2 : Kd.C k54 w A0_2 l0_2.length l0_2) (hc0_2 : l0_2.length ≤ c0_2) (h : impl_RLogOk.f k a0_0 a0_1 l0_2 = some r) :
    Calls Try.prog 16 #[.agg #[.int .i64 a0_0, .int .i64 a0_1, .slice A0_2 l0_2.length c0_2]] w fun e w' => e = .returned (.bool r) ∧ Below w.heap.size w w' := by
  have hu29 := Try.underlying29
  have HR0_2 := Aside0.mk hr0_2
  have HC0_2 := Aside0.mk hc0_2
  clear hr0_2 hc0_2
  have HB := Aside0.mk (Below.refl w.heap.size w)
  have H : ((impl_isRLog.f k a0_0 a0_1 l0_2).bind fun t137 => (some t137)) = some r := h
  clear h
  replace H := Option.bind_eq_some_iff.mp H
  obtain ⟨t137, A20, H⟩ := H
  replace H : (some t137) = some r := H
  have A2 := Aside0.mk A20
  clear A20
  obtain rfl := Option.some.inj H
  go_enter Try.func16, Try.ntmps16
  go_wp2_with (first | ((with_reducible refine gate_dst (N := 1) rfl ?_); refine box_event ?hg (N := 1) ?hd (cs := #[.int .i64 a0_0, .int .i64 a0_1, .slice A0_2 l0_2.length c0_2]) (t := 29) ?hr ?_; (case hd => rfl); (case hg => rfl); (case hr => first | (go_simp; done) | (go_simp; rfl)); intro gb136 hg w3 hbox hb; have n0_ := Aside0.mk (below_step (by repeat (first | (with_reducible first | exact HB.out | apply below_alloc | apply pw_below_drewN | apply below_drew1) | exact HB.out)) hb); have n1_ := Aside0.mk (hbox); have n2_ := Aside0.mk ((by rw [hg]; exact (below_size (by repeat (first | (with_reducible first | exact HB.out | apply below_alloc | apply pw_below_drewN | apply below_drew1) | exact HB.out))) : w.heap.size ≤ gb136)); have n3_ := Aside0.mk ((by rw [hg]; exact (below_size (by repeat (first | (with_reducible first | exact HB.out | apply below_alloc | apply pw_below_drewN | apply below_drew1) | exact HB.out))) : w.heap.size ≤ gb136)); clear HB; have HB := n0_; have BK136 := n1_; have GW136 := n2_; have GE136 := n3_; clear n0_ n1_ n2_ n3_; clear hb hbox hg; have hcz4_0 : w3.cell? ⟨gb136, 0, none⟩ = some (.int .i64 a0_0) := (blk_cell BK136.out 0).trans rfl; have hcz4_1 : w3.cell? ⟨gb136, 1, none⟩ = some (.int .i64 a0_1) := (blk_cell BK136.out 1).trans rfl; have hcz4_2 : w3.cell? ⟨gb136, 2, none⟩ = some (.slice A0_2 l0_2.length c0_2) := (blk_cell BK136.out 2).trans rfl; have hfz4_0 := blk_frozen BK136.out 0; have hfz4_1 := blk_frozen BK136.out 1; have hfz4_2 := blk_frozen BK136.out 2) | ((with_reducible refine gate_callee (f := 45) rfl ?_); refine goesL_ (some 4) rfl rfl Try.func45 (by kernel_rfl) rfl #[.agg #[.int .i64 a0_0, .int .i64 a0_1, .slice A0_2 l0_2.length c0_2]] rfl (by (try simp only [List.map_toArray, List.map_cons, List.map_nil]); first | done | rfl | (simp only [List.length_drop, List.length_take]; rfl)) ?_; (with_reducible refine (impl_isRLog.calls k a0_0 a0_1 _ _ l0_2 t137 _ ?side1 ?side2 A2.out).mono ?_); (case side1 => repeat (first | exact (Kd.C_below HR0_2.out HB.out) | (with_reducible refine Kd.C_alloc ?_ _) | (with_reducible refine Kd.C_drewN ?_ _) | (with_reducible refine Kd.C_drew ?_))); (case side2 => exact HC0_2.out); rintro e w5 ⟨rfl, hb⟩; refine ⟨_, rfl, ?_⟩; have n0_ := Aside0.mk (blk_below (g := gb136) (o := .cells #[.int .i64 a0_0, .int .i64 a0_1, .slice A0_2 l0_2.length c0_2] 29 (0, 0)) (by (with_reducible repeat (first | refine blk_drewN ?_ _ | refine blk_drew ?_ | refine blk_alloc ?_ _)); exact BK136.out) hb); have n1_ := Aside0.mk (below_step (by repeat (first | (with_reducible first | exact HB.out | apply below_alloc | apply pw_below_drewN | apply below_drew1 | refine below_set ?_ GE136.out) | exact HB.out)) hb); clear BK136; clear HB; have BK136 := n0_; have HB := n1_; clear n0_ n1_; (try clear hb); (try clear hb2); (try clear hk); (try clear hi)))
  go_ret
  exact ⟨by first | rfl | (simp [errW_none, errW_some] <;> rfl) | (simp [*, errW_none, errW_some] <;> rfl), by repeat (first | (with_reducible first | exact HB.out | apply below_alloc | apply pw_below_drewN | apply below_drew1 | refine below_set ?_ GE136.out) | exact HB.out)⟩

end Go.Proofs.Ytalbkbmnjpameaa.F

namespace Go.Proofs.Ytalbkbmnjpameaa.RL
set_option linter.unusedVariables false
set_option linter.unusedSimpArgs false
open Go.RowKit Go.Proofs.Ytalbkbmnjpameaa.F Go.Proofs.Ytalbkbmnjpameaa.PK Go.Proofs.YtalbkbmnjpameaaW.PrintWords Go.Proofs.YtalbkbmnjpameaaW.PrintLast
theorem rd64 (l : List S64) (i : Nat) (h : i < l.length) : rd_T64 l (i : Int) = l[i] := getD_nat l _ i h
theorem rd54 (l : List S54) (i : Nat) (h : i < l.length) : rd_T54 l (i : Int) = l[i] := getD_nat l _ i h
theorem nxt (i n : Nat) (h : i < n) (hn : n ≤ 9223372036854775807) : wrap64 ((i : Int) + 1) = ((i + 1 : Nat) : Int) := by rw [w64 (by omega) (by omega)]; omega
/-- The size's count: where it isn't below 0 the list is short. -/
theorem szEntry (a : Int) (s : ByteArray) (x : Int) (hs : s.size ≤ 9223372036854775807) (h0 : 0 ≤ x) (h1 : x ≤ 1048576) : ∃ t, laws_szEntry.f a s x = some t ∧ t ≤ 1048576 ∧ -1 ≤ t := by
  unfold laws_szEntry.f
  rw [w64 (by omega) (by omega)]
  split
  · exact ⟨_, rfl, by omega, by omega⟩
  · exact ⟨_, rfl, by omega, by omega⟩
theorem szEntryS (l : List S64) (c : Int) (hc0 : 0 ≤ c) (hc : c ≤ 1048576) (hl : l.length ≤ 9223372036854775807) (hs : ∀ y ∈ l, y.f1.size ≤ 9223372036854775807) : ∃ t, Ev (fun k => laws_szEntryS.f k l c) t ∧ -1 ≤ t ∧ t ≤ 1048576 ∧ (0 ≤ t → l.length ≤ 1048576) := by
  by_cases h : (c - (l.length : Int)) < 0
  · refine ⟨-1, ?_, by omega, by omega, by omega⟩
    unfold laws_szEntryS.f
    rw [w64 (by omega) (by omega)]
    simp only [if_pos h]
    exact EvN
  · have key := up (P := fun i => ∀ x, 0 ≤ x → x ≤ 1048576 → ∃ t, Ev (fun k => laws_szEntryS.l0 k l x i) t ∧ -1 ≤ t ∧ t ≤ 1048576) l.length
      (fun x h0 h1 => ⟨x, EvS (by simp only [laws_szEntryS.l0, Int.lt_irrefl, if_false]; exact EvN), by omega, h1⟩)
      (fun i hi ih x h0 h1 => by
        obtain ⟨t, ht, ht1, ht2⟩ := szEntry (l[i].f0) (l[i].f1) x (hs _ (List.getElem_mem hi)) h0 h1
        by_cases h2 : t < 0
        · refine ⟨-1, EvS ?_, by omega, by omega⟩
          simp only [laws_szEntryS.l0, rd64 l i hi, ht, Option.bind_some, if_pos h2, if_pos (show (i : Int) < (l.length : Int) by omega), if_pos (show 0 ≤ (i : Int) by omega)]
          exact EvN
        · obtain ⟨t', h3, h4⟩ := ih t (by omega) (by omega)
          refine ⟨t', EvS ?_, h4⟩
          simp only [laws_szEntryS.l0, rd64 l i hi, ht, Option.bind_some, if_neg h2, if_pos (show (i : Int) < (l.length : Int) by omega), if_pos (show 0 ≤ (i : Int) by omega), nxt i _ hi hl]
          exact h3)
    obtain ⟨t, h1, h2, h3⟩ := key 0 (Nat.zero_le _) (c - (l.length : Int)) (by omega) (by omega)
    refine ⟨t, ?_, h2, h3, fun _ => by omega⟩
    unfold laws_szEntryS.f
    rw [w64 (by omega) (by omega)]
    simp only [if_neg h]
    exact h1
theorem szRLog (a b : Int) (l : List S64) (c : Int) (hc0 : 0 ≤ c) (hc : c ≤ 1048576) (hl : l.length ≤ 9223372036854775807 ∧ ∀ y_ ∈ l, (((Lit.int .i64 y_.f0).wf = true) ∧ (y_.f1.size ≤ 9223372036854775807))) :
    ∃ t, Ev (fun k => laws_szRLog.f k a b l c) t ∧ t ≤ 1048576 ∧ (0 ≤ t → l.length ≤ 1048576) := by
  obtain ⟨t, h, h1, h4, h2⟩ := szEntryS l c hc0 hc hl.1 (fun y hy => (hl.2 y hy).2)
  by_cases h3 : t < 0
  · refine ⟨-1, ?_, by omega, by omega⟩
    unfold laws_szRLog.f
    simp only [EvB h, if_pos h3]
    exact EvN
  · refine ⟨t, ?_, h4, h2⟩
    unfold laws_szRLog.f
    simp only [EvB h, if_neg h3]
    exact EvN
/-- The entries, of the program's own type. -/
def conv (l : List S64) : List S54 := l.map fun e => ⟨e.f0, e.f1⟩
theorem conv_length (l : List S64) : (conv l).length = l.length := List.length_map _
theorem toEntryS (l : List S64) (hl : l.length ≤ 1048576) : Ev (fun k => laws_toEntryS.f k l) (conv l) := by
  have key := up (P := fun i => ∀ x : List S54, x.length = l.length → (∀ j : Nat, (j : Int) < i → x[j]? = (conv l)[j]?) → Ev (fun k => laws_toEntryS.l0 k l x i) (conv l)) l.length
      (fun x h0 h1 => by
        have : x = conv l := List.ext_getElem? fun j => by
          by_cases hj : j < l.length
          · exact h1 j (by omega)
          · rw [List.getElem?_eq_none (by omega), List.getElem?_eq_none (by rw [conv_length]; omega)]
        subst this
        exact EvS (by simp only [laws_toEntryS.l0, Int.lt_irrefl, if_false]; exact EvN))
      (fun i hi ih x h0 h1 => by
        refine EvS ?_
        simp only [laws_toEntryS.l0, laws_toEntry.f, rd64 l i hi, Option.bind_some, h0, Int.toNat_natCast, if_pos (show (i : Int) < (l.length : Int) by omega), if_pos (show 0 ≤ (i : Int) by omega), nxt i _ hi (by omega)]
        refine ih _ (by simpa using h0) fun j hj => ?_
        by_cases hji : j = i
        · subst hji
          rw [List.getElem?_set_self (by omega)]
          simp [conv, List.getElem?_eq_getElem hi]
        · rw [List.getElem?_set_ne (by omega)]
          exact h1 j (by omega))
  have := key 0 (Nat.zero_le _) (List.replicate l.length z54) (by simp) (fun j hj => absurd hj (by omega))
  unfold laws_toEntryS.f
  simp only [Int.toNat_natCast, if_pos (show 0 ≤ (l.length : Int) by omega), if_pos (show l.length ≤ 11728124029610 by omega)]
  exact this
theorem toRLog (a b : Int) (l : List S64) (hl : l.length ≤ 1048576) : Ev (fun k => laws_toRLog.f k a b l) (a, b, conv l) := by
  unfold laws_toRLog.f
  rw [EvB (toEntryS l hl)]
  exact EvN
/-- Equal logs are told equal. -/
theorem eqEntryS (x : List S54) (hx : x.length ≤ 9223372036854775807) : Ev (fun k => laws_eqEntryS.f k x x) true := by
  have key := up (P := fun i => Ev (fun k => laws_eqEntryS.l0 k x x i) true) x.length
    (EvS (by simp only [laws_eqEntryS.l0, Int.lt_irrefl, if_false]; exact EvN))
    (fun i hi ih => EvS (by simp only [laws_eqEntryS.l0, laws_eqEntry.f, if_true, Option.bind_some, if_pos (show (i : Int) < (x.length : Int) by omega), if_pos (show 0 ≤ (i : Int) by omega), nxt i _ hi hx]; exact ih))
  have := key 0 (Nat.zero_le _)
  unfold laws_eqEntryS.f
  simp only [if_true]
  exact this
theorem eqRLog (a b : Int) (x : List S54) (hx : x.length ≤ 9223372036854775807) : Ev (fun k => laws_eqRLog.f k a b x a b x) true := by
  unfold laws_eqRLog.f
  simp only [if_true]
  rw [EvB (eqEntryS x hx)]
  simp only [if_true]
  exact EvN
theorem strOf1 (x : Int) : (strOfNums [x]).size = 1 := rfl
theorem markText (x : Int) (h : x ≤ 9223372036854775807) : ∃ s, Ev (fun k => laws_markText.f k x) s := by
  have key : ∀ (d : Nat) (x : Int) (s : ByteArray), x < 10 ^ d → s.size + d ≤ 30 → ∃ r, Ev (fun k => laws_markText.l0 k x s) r := by
    intro d
    induction d with
    | zero =>
      intro x s hx hs
      have hS : (1 + s.size ≤ 9223372036854775807) = True := eq_true (by omega)
      refine ⟨(⟨#[109]⟩ : ByteArray) ++ s, EvS ?_⟩
      simp only [laws_markText.l0, if_neg (show ¬ x > 0 by simp at hx; omega), hS, if_true]
      exact EvN
    | succ d ih =>
      intro x s hx hs
      have hS : (1 + s.size ≤ 9223372036854775807) = True := eq_true (by omega)
      by_cases h0 : x > 0
      · have h10 : (10 : Int) ^ (d + 1) = 10 * 10 ^ d := by rw [Int.pow_succ, Int.mul_comm]
        have hq : Int.tdiv x 10 = x / 10 := Int.tdiv_eq_ediv_of_nonneg (by omega)
        obtain ⟨r, hr⟩ := ih (wrap64 (x / 10)) (strOfNums [(wrap64 (48 + (Int.tmod x 10))) % 256] ++ s) (by unfold wrap64; omega) (by rw [ByteArray.size_append, strOf1]; omega)
        refine ⟨r, EvS ?_⟩
        simp only [laws_markText.l0, if_pos h0, Option.bind_some, strOf1, hS, if_true, hq]
        exact hr
      · refine ⟨(⟨#[109]⟩ : ByteArray) ++ s, EvS ?_⟩
        simp only [laws_markText.l0, if_neg h0, hS, if_true]
        exact EvN
  by_cases h0 : x ≤ 0
  · exact ⟨⟨#[109, 48]⟩, by unfold laws_markText.f; simp only [if_pos h0]; exact EvN⟩
  · have h19 : (10 : Int) ^ 19 = 10000000000000000000 := by decide
    obtain ⟨r, hr⟩ := key 19 x ⟨#[]⟩ (by omega) (show 0 + 19 ≤ 30 by omega)
    exact ⟨r, by unfold laws_markText.f; simp only [if_neg h0]; exact hr⟩
/-- What is marked is held. -/
theorem markRLog (a b : Int) (l : List S54) (hl : l.length ≤ 2000000) : ∃ (m : Int) (l' : List S54), Ev (fun k => laws_markRLog.f k a b l 1) (m, l') ∧ 1 ≤ m ∧ Ev (fun k => laws_heldRLog.f k a b l' 1) m := by
  obtain ⟨m, l', h1, h2, _, _, _, h3⟩ := marks laws_markEntryS.l0 laws_heldEntryS.l0 2 (by omega) l.length 9223372036854775000
    (fun l a hl => EvS (by simp only [laws_markEntryS.l0, hl, Int.lt_irrefl, if_false]; exact EvN))
    (fun l a hl => EvS (by simp only [laws_heldEntryS.l0, hl, Int.lt_irrefl, if_false]; exact EvN))
    (fun i l1 a hi hl1 h0 hN => by
      obtain ⟨s, hs⟩ := markText (a + 1) (by omega)
      have hw1 : wrap64 (a + 1) = a + 1 := w64 (by omega) (by omega)
      have hw2 : wrap64 (a + 1 + 1) = a + 2 := by rw [w64 (by omega) (by omega)]; omega
      refine ⟨⟨a, s⟩, a + 2, by omega, by omega, fun r hr => EvS ?_, fun l' r hl' he hr => EvS ?_⟩
      · simp only [laws_markEntryS.l0, if_pos (show (i : Int) < (l1.length : Int) by omega), if_pos (show 0 ≤ (i : Int) by omega), Option.bind_some, hw1, Int.toNat_natCast]
        rw [EvB hs]
        simp only [hw2, nxt i l.length hi (by omega), List.set_set]
        rw [rd54 _ i (by simp; omega)]
        simp only [List.getElem_set_self]
        exact hr
      · have hli : i < l'.length := by omega
        rw [List.getElem?_eq_getElem hli] at he
        have he := Option.some.inj he
        simp only [laws_heldEntryS.l0, if_pos (show (i : Int) < (l'.length : Int) by omega), if_pos (show 0 ≤ (i : Int) by omega), rd54 l' i hli, he, if_true, hw1]
        rw [EvB hs]
        simp only [if_true, hw2, nxt i l.length hi (by omega)]
        exact hr)
    0 (Nat.zero_le _) l 1 rfl (by omega) (by omega)
  refine ⟨m, l', ?_, h2, ?_⟩
  · replace h1 : Ev (fun k => laws_markEntryS.l0 k l 1 0) (m, l') := h1
    unfold laws_markRLog.f laws_markEntryS.f
    rw [EvB h1]
    exact EvN
  · replace h3 : Ev (fun k => laws_heldEntryS.l0 k l' 1 0) m := h3
    unfold laws_heldRLog.f laws_heldEntryS.f
    rw [EvB h3]
    simp only [if_neg (show ¬ m < 0 by omega)]
    exact EvN
end Go.Proofs.Ytalbkbmnjpameaa.RL

namespace Go.Proofs.Ytalbkbmnjpameaa.RL
set_option linter.unusedVariables false
set_option linter.unusedSimpArgs false
open Go.RowKit Go.Proofs.Ytalbkbmnjpameaa.F Go.Proofs.Ytalbkbmnjpameaa.PK Go.Proofs.YtalbkbmnjpameaaW.PrintWords Go.Proofs.YtalbkbmnjpameaaW.PrintLast
/-- An entry is as it should be. -/
def okE (e : S54) : Bool := decide (1 ≤ e.f0 ∧ e.f0 ≤ 1000000 ∧ (e.f1.size : Int) ≤ 40)
def okL : Int → List S54 → Bool
  | _, [] => true
  | b, e :: r => okE e && decide (b ≤ e.f0) && okL e.f0 r
def okHead (a b : Int) (n : Nat) : Bool := decide (0 ≤ a ∧ a ≤ 1000000 ∧ 0 ≤ b ∧ b ≤ 1000000 ∧ (a = 0 ↔ b = 0) ∧ n ≤ 60)
def okR (a b : Int) (l : List S54) : Bool := okHead a b l.length && okL b l
theorem specEntry (e : S54) : spec_l05Entry.f e.f0 e.f1 = some (okE e) := by
  unfold spec_l05Entry.f spec_l01In.f okE
  by_cases h1 : 1 ≤ e.f0
  · by_cases h2 : e.f0 ≤ 1000000
    · simp [h1, h2]
    · simp [h1, h2]
  · simp [h1]
theorem implEntry (e : S54) : impl_isEntry.f e.f0 e.f1 = some (okE e) := by
  unfold impl_isEntry.f okE
  by_cases h1 : 1 ≤ e.f0
  · by_cases h2 : e.f0 ≤ 1000000
    · simp [h2, show e.f0 > 0 by omega, h1]
    · simp [h2, show e.f0 > 0 by omega, h1]
  · simp [show ¬ e.f0 > 0 by omega, h1]
theorem specLoop (a b' : Int) (l : List S54) (hl : l.length ≤ 9223372036854775807) : ∀ i : Nat, i ≤ l.length → ∀ b, Ev (fun k => spec_RLogOk.l0 k b i a b' l) (okL b (l.drop i)) :=
  up (P := fun i => ∀ b, Ev (fun k => spec_RLogOk.l0 k b i a b' l) (okL b (l.drop i.toNat))) l.length
    (fun b => EvS (by simp only [spec_RLogOk.l0, Int.lt_irrefl, if_false, Int.toNat_natCast, List.drop_length, okL]; exact EvN))
    (fun i hi ih b => EvS (by
      simp only [spec_RLogOk.l0, if_pos (show (i : Int) < (l.length : Int) by omega), if_pos (show 0 ≤ (i : Int) by omega), rd54 l i hi, specEntry, Option.bind_some, nxt i _ hi hl, Int.toNat_natCast, drop_at l i hi, okL]
      cases h : okE l[i] with
      | false => simp only [Bool.false_eq_true, if_false, Bool.false_and]; exact EvN
      | true =>
        by_cases h2 : l[i].f0 < b
        · simp only [if_true, if_pos h2, decide_eq_false (show ¬ b ≤ l[i].f0 by omega), Bool.and_false, Bool.false_and]; exact EvN
        · simp only [if_true, if_neg h2, decide_eq_true (show b ≤ l[i].f0 by omega), Bool.and_self, Bool.true_and]; exact ih _))
theorem implLoop (l : List S54) (hl : l.length ≤ 9223372036854775807) : ∀ i : Nat, i ≤ l.length → ∀ b, Ev (fun k => impl_isRLog.l0 k b l (l.length : Int) i) (okL b (l.drop i)) :=
  up (P := fun i => ∀ b, Ev (fun k => impl_isRLog.l0 k b l (l.length : Int) i) (okL b (l.drop i.toNat))) l.length
    (fun b => EvS (by simp only [impl_isRLog.l0, Int.lt_irrefl, if_false, Int.toNat_natCast, List.drop_length, okL]; exact EvN))
    (fun i hi ih b => EvS (by
      simp only [impl_isRLog.l0, if_pos (show (i : Int) < (l.length : Int) by omega), if_pos (show 0 ≤ (i : Int) by omega), rd54 l i hi, implEntry, Option.bind_some, nxt i _ hi hl, Int.toNat_natCast, drop_at l i hi, okL]
      cases h : okE l[i] with
      | false => simp only [Bool.false_eq_true, if_false, Bool.false_and]; exact EvN
      | true =>
        by_cases h2 : l[i].f0 < b
        · simp only [if_true, if_pos h2, decide_eq_false (show ¬ b ≤ l[i].f0 by omega), Bool.and_false, Bool.false_and]; exact EvN
        · simp only [if_true, if_neg h2, decide_eq_true (show b ≤ l[i].f0 by omega), Bool.and_self, Bool.true_and]; exact ih _))
theorem specOkJ (a b : Int) (l : List S54) (hl : l.length ≤ 9223372036854775807) (x : Bool) : Ev (fun k => spec_RLogOk.j0 k x a b l) (!x && okL b l) := by
  refine EvS ?_
  cases x with
  | true => simp only [spec_RLogOk.j0, if_true, Bool.not_true, Bool.false_and]; exact EvN
  | false => simp only [spec_RLogOk.j0, Bool.false_eq_true, if_false, Bool.not_false, Bool.true_and]; exact specLoop a b l hl 0 (Nat.zero_le _) b
theorem implOkJ (a b : Int) (l : List S54) (hl : l.length ≤ 9223372036854775807) (x : Bool) : Ev (fun k => impl_isRLog.j0 k x a b l) (!x && okL b l) := by
  refine EvS ?_
  cases x with
  | true => simp only [impl_isRLog.j0, if_true, Bool.not_true, Bool.false_and]; exact EvN
  | false => simp only [impl_isRLog.j0, Bool.false_eq_true, if_false, Bool.not_false, Bool.true_and]; exact implLoop l hl 0 (Nat.zero_le _) b
theorem EvQ {α : Type} {g : Nat → Option α} {r s : α} (h : Ev g r) (e : r = s) : Ev g s := e ▸ h
theorem specIn (x lo hi : Int) : spec_l01In.f x lo hi = some (decide (lo ≤ x ∧ x ≤ hi)) := by
  unfold spec_l01In.f
  by_cases h : lo ≤ x <;> simp [h]
theorem spec_ok (a b : Int) (l : List S54) (hl : l.length ≤ 9223372036854775807) : Ev (fun k => spec_RLogOk.f k a b l) (okR a b l) := by
  unfold spec_RLogOk.f
  simp only [specIn, Option.bind_some, decide_eq_true_eq]
  have J := specOkJ a b l hl
  unfold okR okHead
  by_cases h1 : 0 ≤ a ∧ a ≤ 1000000
  · by_cases h2 : 0 ≤ b ∧ b ≤ 1000000
    · simp only [if_pos h1, if_pos h2]
      cases hx : ((a == 0) != (b == 0)) with
      | true =>
        simp only [if_true]
        refine EvQ (J _) ?_
        have : ¬ (a = 0 ↔ b = 0) := fun e => by rw [bne_iff_ne] at hx; exact hx (Bool.eq_iff_iff.2 (by simpa using e))
        simp [this]
      | false =>
        simp only [Bool.false_eq_true, if_false]
        refine EvQ (J _) ?_
        have : (a = 0 ↔ b = 0) := by rw [bne_eq_false_iff_eq] at hx; simpa using Bool.eq_iff_iff.1 hx
        by_cases h5 : l.length ≤ 60
        · simp [this, h1, h2, h5, show ¬ (60 < (l.length : Int)) by omega]
        · simp [this, h1, h2, h5, show (60 < (l.length : Int)) by omega]
    · simp only [if_pos h1, if_neg h2]
      exact EvQ (J _) (by simp; omega)
  · simp only [if_neg h1]
    exact EvQ (J _) (by simp; omega)
theorem impl_ok (a b : Int) (l : List S54) (hl : l.length ≤ 9223372036854775807) : Ev (fun k => impl_isRLog.f k a b l) (okR a b l) := by
  unfold impl_isRLog.f
  have J := implOkJ a b l hl
  unfold okR okHead
  by_cases h1 : a < 0
  · simp only [if_pos h1]; exact EvQ (J _) (by simp; omega)
  by_cases h2 : a > 1000000
  · simp only [if_neg h1, if_pos h2]; exact EvQ (J _) (by simp; omega)
  by_cases h3 : b < 0
  · simp only [if_neg h1, if_neg h2, if_pos h3]; exact EvQ (J _) (by simp; omega)
  by_cases h4 : b > 1000000
  · simp only [if_neg h1, if_neg h2, if_neg h3, if_pos h4]; exact EvQ (J _) (by simp; omega)
  simp only [if_neg h1, if_neg h2, if_neg h3, if_neg h4]
  cases hx : ((b == 0) != (a == 0)) with
  | true =>
    simp only [if_true]
    refine EvQ (J _) ?_
    have : ¬ (a = 0 ↔ b = 0) := fun e => by rw [bne_iff_ne] at hx; exact hx (Bool.eq_iff_iff.2 (by simpa using e.symm))
    simp [this]
  | false =>
    simp only [Bool.false_eq_true, if_false]
    refine EvQ (J _) ?_
    have : (a = 0 ↔ b = 0) := by rw [bne_eq_false_iff_eq] at hx; simpa using (Bool.eq_iff_iff.1 hx).symm
    have e1 : 0 ≤ a := by omega
    have e2 : a ≤ 1000000 := by omega
    have e3 : 0 ≤ b := by omega
    have e4 : b ≤ 1000000 := by omega
    by_cases h5 : l.length ≤ 60
    · simp [this, e1, e2, e3, e4, h5, show ¬ (60 < (l.length : Int)) by omega]
    · simp [this, e1, e2, e3, e4, h5, show (60 < (l.length : Int)) by omega]
end Go.Proofs.Ytalbkbmnjpameaa.RL

namespace Go.Proofs.Ytalbkbmnjpameaa.F
open Go.RowKit Go.Proofs.YtalbkbmnjpameaaW.PrintWords Go.Proofs.YtalbkbmnjpameaaW.PrintLast Go.Proofs.YtalbkbmnjpameaaW.PrintMore
attribute [local go_sem] max2_int min2_int max_two min_two max_three min_three max_four min_four   -- for this text's walks alone
set_option linter.unusedVariables false
set_option linter.unusedSimpArgs false

/-! ### impl_LastIndex: function 19 -/
def impl_LastIndex.f (k : Nat) (a0_0 : Int) (a0_1 : Int) (l0_2 : List (S54)) : Option (Int) := (impl_isRLog.f k a0_0 a0_1 l0_2).bind fun t171 => (if t171 = true then ((impl_RLog_last.f a0_0 a0_1 l0_2).bind fun t172 => (some t172)) else (some (-1)))
theorem impl_LastIndex.mono : ∀ a0 a1 a2 k, LeO (impl_LastIndex.f k a0 a1 a2) (impl_LastIndex.f (k + 1) a0 a1 a2) := by
  intro a0 a1 a2 k
  unfold impl_LastIndex.f
  repeat' first
      | (with_reducible exact impl_isRLog.mono _ _ _ _)
      | (with_reducible exact LeO.refl _)
      | (with_reducible exact LeO.none _)
      | (with_reducible refine LeO.ite ?_ ?_)
      | (with_reducible refine LeO.bind ?_ (fun _ => ?_))
      | exact impl_isRLog.mono _ _ _ _
      | exact LeO.none _
      | refine LeO.ite ?_ ?_
      | refine LeO.bind ?_ (fun _ => ?_)
set_option maxHeartbeats 8000000 in
set_option maxRecDepth 100000 in
theorem impl_LastIndex.calls (k : Nat) (a0_0 : Int) (a0_1 : Int) (A0_2 : Option Addr) (c0_2 : Nat) (l0_2 : List (S54)) (r : Int) (w : World) (hr0_2 : Kd.C k54 w A0_2 l0_2.length l0_2) (hc0_2 : l0_2.length ≤ c0_2) (h : impl_LastIndex.f k a0_0 a0_1 l0_2 = some r) :
    Calls Try.prog 19 #[.agg #[.int .i64 a0_0, .int .i64 a0_1, .slice A0_2 l0_2.length c0_2]] w fun e w' => e = .returned (.int .i64 r) ∧ Below w.heap.size w w' := by
  have hu29 := Try.underlying29
  have HR0_2 := Aside0.mk hr0_2
  have HC0_2 := Aside0.mk hc0_2
  clear hr0_2 hc0_2
  have HB := Aside0.mk (Below.refl w.heap.size w)
  have H : ((impl_isRLog.f k a0_0 a0_1 l0_2).bind fun t171 => (if t171 = true then ((impl_RLog_last.f a0_0 a0_1 l0_2).bind fun t172 => (some t172)) else (some (-1)))) = some r := h
  clear h
  replace H := Option.bind_eq_some_iff.mp H
  obtain ⟨t171, A20, H⟩ := H
  replace H : (if t171 = true then ((impl_RLog_last.f a0_0 a0_1 l0_2).bind fun t172 => (some t172)) else (some (-1))) = some r := H
  have A2 := Aside0.mk A20
  clear A20
  by_cases c3 : t171 = true
  · subst c3
    have H1 : ((impl_RLog_last.f a0_0 a0_1 l0_2).bind fun t172 => (some t172)) = some r := by rw [if_pos rfl] at H; exact H
    clear H
    have H := H1
    clear H1
    replace H := Option.bind_eq_some_iff.mp H
    obtain ⟨t172, A40, H⟩ := H
    replace H : (some t172) = some r := H
    have A4 := Aside0.mk A40
    clear A40
    obtain rfl := Option.some.inj H
    go_enter Try.func19, Try.ntmps19
    go_wp2_with (first | ((with_reducible refine gate_dst (N := 1) rfl ?_); refine box_event ?hg (N := 1) ?hd (cs := #[.int .i64 a0_0, .int .i64 a0_1, .slice A0_2 l0_2.length c0_2]) (t := 29) ?hr ?_; (case hd => rfl); (case hg => rfl); (case hr => first | (go_simp; done) | (go_simp; rfl)); intro gb170 hg w5 hbox hb; have n0_ := Aside0.mk (below_step (by repeat (first | (with_reducible first | exact HB.out | apply below_alloc | apply pw_below_drewN | apply below_drew1) | exact HB.out)) hb); have n1_ := Aside0.mk (hbox); have n2_ := Aside0.mk ((by rw [hg]; exact (below_size (by repeat (first | (with_reducible first | exact HB.out | apply below_alloc | apply pw_below_drewN | apply below_drew1) | exact HB.out))) : w.heap.size ≤ gb170)); have n3_ := Aside0.mk ((by rw [hg]; exact (below_size (by repeat (first | (with_reducible first | exact HB.out | apply below_alloc | apply pw_below_drewN | apply below_drew1) | exact HB.out))) : w.heap.size ≤ gb170)); clear HB; have HB := n0_; have BK170 := n1_; have GW170 := n2_; have GE170 := n3_; clear n0_ n1_ n2_ n3_; clear hb hbox hg; have hcz6_0 : w5.cell? ⟨gb170, 0, none⟩ = some (.int .i64 a0_0) := (blk_cell BK170.out 0).trans rfl; have hcz6_1 : w5.cell? ⟨gb170, 1, none⟩ = some (.int .i64 a0_1) := (blk_cell BK170.out 1).trans rfl; have hcz6_2 : w5.cell? ⟨gb170, 2, none⟩ = some (.slice A0_2 l0_2.length c0_2) := (blk_cell BK170.out 2).trans rfl; have hfz6_0 := blk_frozen BK170.out 0; have hfz6_1 := blk_frozen BK170.out 1; have hfz6_2 := blk_frozen BK170.out 2) | ((with_reducible refine gate_callee (f := 45) rfl ?_); refine goesL_ (some 4) rfl rfl Try.func45 (by kernel_rfl) rfl #[.agg #[.int .i64 a0_0, .int .i64 a0_1, .slice A0_2 l0_2.length c0_2]] rfl (by (try simp only [List.map_toArray, List.map_cons, List.map_nil]); first | done | rfl | (simp only [List.length_drop, List.length_take]; rfl)) ?_; (with_reducible refine (impl_isRLog.calls k a0_0 a0_1 _ _ l0_2 true _ ?side1 ?side2 A2.out).mono ?_); (case side1 => repeat (first | exact (Kd.C_below HR0_2.out HB.out) | (with_reducible refine Kd.C_alloc ?_ _) | (with_reducible refine Kd.C_drewN ?_ _) | (with_reducible refine Kd.C_drew ?_))); (case side2 => exact HC0_2.out); rintro e w7 ⟨rfl, hb⟩; refine ⟨_, rfl, ?_⟩; have n0_ := Aside0.mk (blk_below (g := gb170) (o := .cells #[.int .i64 a0_0, .int .i64 a0_1, .slice A0_2 l0_2.length c0_2] 29 (0, 0)) (by (with_reducible repeat (first | refine blk_drewN ?_ _ | refine blk_drew ?_ | refine blk_alloc ?_ _)); exact BK170.out) hb); have n1_ := Aside0.mk (below_step (by repeat (first | (with_reducible first | exact HB.out | apply below_alloc | apply pw_below_drewN | apply below_drew1 | refine below_set ?_ GE170.out) | exact HB.out)) hb); clear BK170; clear HB; have BK170 := n0_; have HB := n1_; clear n0_ n1_; (try clear hb); (try clear hb2); (try clear hk); (try clear hi); have hcz8_0 : w7.cell? ⟨gb170, 0, none⟩ = some (.int .i64 a0_0) := (blk_cell BK170.out 0).trans rfl; have hcz8_1 : w7.cell? ⟨gb170, 1, none⟩ = some (.int .i64 a0_1) := (blk_cell BK170.out 1).trans rfl; have hcz8_2 : w7.cell? ⟨gb170, 2, none⟩ = some (.slice A0_2 l0_2.length c0_2) := (blk_cell BK170.out 2).trans rfl; have hfz8_0 := blk_frozen BK170.out 0; have hfz8_1 := blk_frozen BK170.out 1; have hfz8_2 := blk_frozen BK170.out 2) | ((with_reducible refine gate_callee (f := 46) rfl ?_); refine goesL_ (some 7) rfl rfl Try.func46 (by kernel_rfl) rfl #[.agg #[.int .i64 a0_0, .int .i64 a0_1, .slice A0_2 l0_2.length c0_2]] rfl (by (try simp only [List.map_toArray, List.map_cons, List.map_nil]); first | done | rfl | (simp only [List.length_drop, List.length_take]; rfl)) ?_; (with_reducible refine (impl_RLog_last.calls a0_0 a0_1 _ _ l0_2 t172 _ ?side1 ?side2 A4.out).mono ?_); (case side1 => repeat (first | exact (Kd.C_below HR0_2.out HB.out) | (with_reducible refine Kd.C_alloc ?_ _) | (with_reducible refine Kd.C_drewN ?_ _) | (with_reducible refine Kd.C_drew ?_))); (case side2 => exact HC0_2.out); rintro e w9 ⟨rfl, hb⟩; refine ⟨_, rfl, ?_⟩; have n0_ := Aside0.mk (blk_below (g := gb170) (o := .cells #[.int .i64 a0_0, .int .i64 a0_1, .slice A0_2 l0_2.length c0_2] 29 (0, 0)) (by (with_reducible repeat (first | refine blk_drewN ?_ _ | refine blk_drew ?_ | refine blk_alloc ?_ _)); exact BK170.out) hb); have n1_ := Aside0.mk (below_step (by repeat (first | (with_reducible first | exact HB.out | apply below_alloc | apply pw_below_drewN | apply below_drew1 | refine below_set ?_ GE170.out) | exact HB.out)) hb); clear BK170; clear HB; have BK170 := n0_; have HB := n1_; clear n0_ n1_; (try clear hb); (try clear hb2); (try clear hk); (try clear hi)))
    go_ret
    exact ⟨by first | rfl | (simp [errW_none, errW_some] <;> rfl) | (simp [*, errW_none, errW_some] <;> rfl), by repeat (first | (with_reducible first | exact HB.out | apply below_alloc | apply pw_below_drewN | apply below_drew1 | refine below_set ?_ GE170.out) | exact HB.out)⟩
  · replace c3 := Bool.eq_false_iff.mpr c3
    subst c3
    have H1 : (some (-1)) = some r := by rw [if_neg (show ¬ (false = true) by decide)] at H; exact H
    clear H
    have H := H1
    clear H1
    obtain rfl := Option.some.inj H
    go_enter Try.func19, Try.ntmps19
    go_wp2_with (first | ((with_reducible refine gate_dst (N := 1) rfl ?_); refine box_event ?hg (N := 1) ?hd (cs := #[.int .i64 a0_0, .int .i64 a0_1, .slice A0_2 l0_2.length c0_2]) (t := 29) ?hr ?_; (case hd => rfl); (case hg => rfl); (case hr => first | (go_simp; done) | (go_simp; rfl)); intro gb170 hg w10 hbox hb; have n0_ := Aside0.mk (below_step (by repeat (first | (with_reducible first | exact HB.out | apply below_alloc | apply pw_below_drewN | apply below_drew1) | exact HB.out)) hb); have n1_ := Aside0.mk (hbox); have n2_ := Aside0.mk ((by rw [hg]; exact (below_size (by repeat (first | (with_reducible first | exact HB.out | apply below_alloc | apply pw_below_drewN | apply below_drew1) | exact HB.out))) : w.heap.size ≤ gb170)); have n3_ := Aside0.mk ((by rw [hg]; exact (below_size (by repeat (first | (with_reducible first | exact HB.out | apply below_alloc | apply pw_below_drewN | apply below_drew1) | exact HB.out))) : w.heap.size ≤ gb170)); clear HB; have HB := n0_; have BK170 := n1_; have GW170 := n2_; have GE170 := n3_; clear n0_ n1_ n2_ n3_; clear hb hbox hg; have hcz11_0 : w10.cell? ⟨gb170, 0, none⟩ = some (.int .i64 a0_0) := (blk_cell BK170.out 0).trans rfl; have hcz11_1 : w10.cell? ⟨gb170, 1, none⟩ = some (.int .i64 a0_1) := (blk_cell BK170.out 1).trans rfl; have hcz11_2 : w10.cell? ⟨gb170, 2, none⟩ = some (.slice A0_2 l0_2.length c0_2) := (blk_cell BK170.out 2).trans rfl; have hfz11_0 := blk_frozen BK170.out 0; have hfz11_1 := blk_frozen BK170.out 1; have hfz11_2 := blk_frozen BK170.out 2) | ((with_reducible refine gate_callee (f := 45) rfl ?_); refine goesL_ (some 4) rfl rfl Try.func45 (by kernel_rfl) rfl #[.agg #[.int .i64 a0_0, .int .i64 a0_1, .slice A0_2 l0_2.length c0_2]] rfl (by (try simp only [List.map_toArray, List.map_cons, List.map_nil]); first | done | rfl | (simp only [List.length_drop, List.length_take]; rfl)) ?_; (with_reducible refine (impl_isRLog.calls k a0_0 a0_1 _ _ l0_2 false _ ?side1 ?side2 A2.out).mono ?_); (case side1 => repeat (first | exact (Kd.C_below HR0_2.out HB.out) | (with_reducible refine Kd.C_alloc ?_ _) | (with_reducible refine Kd.C_drewN ?_ _) | (with_reducible refine Kd.C_drew ?_))); (case side2 => exact HC0_2.out); rintro e w12 ⟨rfl, hb⟩; refine ⟨_, rfl, ?_⟩; have n0_ := Aside0.mk (blk_below (g := gb170) (o := .cells #[.int .i64 a0_0, .int .i64 a0_1, .slice A0_2 l0_2.length c0_2] 29 (0, 0)) (by (with_reducible repeat (first | refine blk_drewN ?_ _ | refine blk_drew ?_ | refine blk_alloc ?_ _)); exact BK170.out) hb); have n1_ := Aside0.mk (below_step (by repeat (first | (with_reducible first | exact HB.out | apply below_alloc | apply pw_below_drewN | apply below_drew1 | refine below_set ?_ GE170.out) | exact HB.out)) hb); clear BK170; clear HB; have BK170 := n0_; have HB := n1_; clear n0_ n1_; (try clear hb); (try clear hb2); (try clear hk); (try clear hi)))
    go_ret
    exact ⟨by first | rfl | (simp [errW_none, errW_some] <;> rfl) | (simp [*, errW_none, errW_some] <;> rfl), by repeat (first | (with_reducible first | exact HB.out | apply below_alloc | apply pw_below_drewN | apply below_drew1 | refine below_set ?_ GE170.out) | exact HB.out)⟩

end Go.Proofs.Ytalbkbmnjpameaa.F

namespace Go.Proofs.Ytalbkbmnjpameaa.F
open Go.RowKit Go.Proofs.YtalbkbmnjpameaaW.PrintWords Go.Proofs.YtalbkbmnjpameaaW.PrintLast Go.Proofs.YtalbkbmnjpameaaW.PrintMore
attribute [local go_sem] max2_int min2_int max_two min_two max_three min_three max_four min_four   -- for this text's walks alone
set_option linter.unusedVariables false
set_option linter.unusedSimpArgs false

/-! ### impl_TermAt: function 21 -/
def impl_TermAt.f (k : Nat) (a0_0 : Int) (a0_1 : Int) (l0_2 : List (S54)) (a1 : Int) : Option (Int) := (impl_isRLog.f k a0_0 a0_1 l0_2).bind fun t201 => (if t201 = true then (if a1 < a0_0 then (some (-1)) else ((impl_RLog_last.f a0_0 a0_1 l0_2).bind fun t202 => (if a1 > t202 then (some (-1)) else ((impl_RLog_term.f a0_0 a0_1 l0_2 a1).bind fun t203 => (some t203))))) else (some (-1)))
theorem impl_TermAt.mono : ∀ a0 a1 a2 a3 k, LeO (impl_TermAt.f k a0 a1 a2 a3) (impl_TermAt.f (k + 1) a0 a1 a2 a3) := by
  intro a0 a1 a2 a3 k
  unfold impl_TermAt.f
  repeat' first
      | (with_reducible exact impl_isRLog.mono _ _ _ _)
      | (with_reducible exact LeO.refl _)
      | (with_reducible exact LeO.none _)
      | (with_reducible refine LeO.ite ?_ ?_)
      | (with_reducible refine LeO.bind ?_ (fun _ => ?_))
      | exact impl_isRLog.mono _ _ _ _
      | exact LeO.none _
      | refine LeO.ite ?_ ?_
      | refine LeO.bind ?_ (fun _ => ?_)
set_option maxHeartbeats 8000000 in
set_option maxRecDepth 100000 in
theorem impl_TermAt.calls (k : Nat) (a0_0 : Int) (a0_1 : Int) (A0_2 : Option Addr) (c0_2 : Nat) (l0_2 : List (S54)) (a1 : Int) (r : Int) (w : World) (hr0_2 : Kd.C k54 w A0_2 l0_2.length l0_2) (hc0_2 : l0_2.length ≤ c0_2) (h : impl_TermAt.f k a0_0 a0_1 l0_2 a1 = some r) :
    Calls Try.prog 21 #[.agg #[.int .i64 a0_0, .int .i64 a0_1, .slice A0_2 l0_2.length c0_2], .int .i64 a1] w fun e w' => e = .returned (.int .i64 r) ∧ Below w.heap.size w w' := by
  have hu29 := Try.underlying29
  have HR0_2 := Aside0.mk hr0_2
  have HC0_2 := Aside0.mk hc0_2
  clear hr0_2 hc0_2
  have HB := Aside0.mk (Below.refl w.heap.size w)
  have H : ((impl_isRLog.f k a0_0 a0_1 l0_2).bind fun t201 => (if t201 = true then (if a1 < a0_0 then (some (-1)) else ((impl_RLog_last.f a0_0 a0_1 l0_2).bind fun t202 => (if a1 > t202 then (some (-1)) else ((impl_RLog_term.f a0_0 a0_1 l0_2 a1).bind fun t203 => (some t203))))) else (some (-1)))) = some r := h
  clear h
  replace H := Option.bind_eq_some_iff.mp H
  obtain ⟨t201, A30, H⟩ := H
  replace H : (if t201 = true then (if a1 < a0_0 then (some (-1)) else ((impl_RLog_last.f a0_0 a0_1 l0_2).bind fun t202 => (if a1 > t202 then (some (-1)) else ((impl_RLog_term.f a0_0 a0_1 l0_2 a1).bind fun t203 => (some t203))))) else (some (-1))) = some r := H
  have A3 := Aside0.mk A30
  clear A30
  by_cases c4 : t201 = true
  · subst c4
    have H1 : (if a1 < a0_0 then (some (-1)) else ((impl_RLog_last.f a0_0 a0_1 l0_2).bind fun t202 => (if a1 > t202 then (some (-1)) else ((impl_RLog_term.f a0_0 a0_1 l0_2 a1).bind fun t203 => (some t203))))) = some r := by rw [if_pos rfl] at H; exact H
    clear H
    have H := H1
    clear H1
    by_cases c5 : a1 < a0_0
    · rw [if_pos c5] at H
      have c5b0 : decide (a1 < a0_0) = true := decide_eq_true c5
      clear c5
      obtain rfl := Option.some.inj H
      go_enter Try.func21, Try.ntmps21
      go_wp2_with (first | ((with_reducible refine gate_dst (N := 2) rfl ?_); refine box_event ?hg (N := 2) ?hd (cs := #[.int .i64 a0_0, .int .i64 a0_1, .slice A0_2 l0_2.length c0_2]) (t := 29) ?hr ?_; (case hd => rfl); (case hg => rfl); (case hr => first | (go_simp; done) | (go_simp; rfl)); intro gb200 hg w6 hbox hb; have n0_ := Aside0.mk (below_step (by repeat (first | (with_reducible first | exact HB.out | apply below_alloc | apply pw_below_drewN | apply below_drew1) | exact HB.out)) hb); have n1_ := Aside0.mk (hbox); have n2_ := Aside0.mk ((by rw [hg]; exact (below_size (by repeat (first | (with_reducible first | exact HB.out | apply below_alloc | apply pw_below_drewN | apply below_drew1) | exact HB.out))) : w.heap.size ≤ gb200)); have n3_ := Aside0.mk ((by rw [hg]; exact (below_size (by repeat (first | (with_reducible first | exact HB.out | apply below_alloc | apply pw_below_drewN | apply below_drew1) | exact HB.out))) : w.heap.size ≤ gb200)); clear HB; have HB := n0_; have BK200 := n1_; have GW200 := n2_; have GE200 := n3_; clear n0_ n1_ n2_ n3_; clear hb hbox hg; have hcz7_0 : w6.cell? ⟨gb200, 0, none⟩ = some (.int .i64 a0_0) := (blk_cell BK200.out 0).trans rfl; have hcz7_1 : w6.cell? ⟨gb200, 1, none⟩ = some (.int .i64 a0_1) := (blk_cell BK200.out 1).trans rfl; have hcz7_2 : w6.cell? ⟨gb200, 2, none⟩ = some (.slice A0_2 l0_2.length c0_2) := (blk_cell BK200.out 2).trans rfl; have hfz7_0 := blk_frozen BK200.out 0; have hfz7_1 := blk_frozen BK200.out 1; have hfz7_2 := blk_frozen BK200.out 2) | ((with_reducible refine gate_callee (f := 45) rfl ?_); refine goesL_ (some 6) rfl rfl Try.func45 (by kernel_rfl) rfl #[.agg #[.int .i64 a0_0, .int .i64 a0_1, .slice A0_2 l0_2.length c0_2]] rfl (by (try simp only [List.map_toArray, List.map_cons, List.map_nil]); first | done | rfl | (simp only [List.length_drop, List.length_take]; rfl)) ?_; (with_reducible refine (impl_isRLog.calls k a0_0 a0_1 _ _ l0_2 true _ ?side1 ?side2 A3.out).mono ?_); (case side1 => repeat (first | exact (Kd.C_below HR0_2.out HB.out) | (with_reducible refine Kd.C_alloc ?_ _) | (with_reducible refine Kd.C_drewN ?_ _) | (with_reducible refine Kd.C_drew ?_))); (case side2 => exact HC0_2.out); rintro e w8 ⟨rfl, hb⟩; refine ⟨_, rfl, ?_⟩; have n0_ := Aside0.mk (blk_below (g := gb200) (o := .cells #[.int .i64 a0_0, .int .i64 a0_1, .slice A0_2 l0_2.length c0_2] 29 (0, 0)) (by (with_reducible repeat (first | refine blk_drewN ?_ _ | refine blk_drew ?_ | refine blk_alloc ?_ _)); exact BK200.out) hb); have n1_ := Aside0.mk (below_step (by repeat (first | (with_reducible first | exact HB.out | apply below_alloc | apply pw_below_drewN | apply below_drew1 | refine below_set ?_ GE200.out) | exact HB.out)) hb); clear BK200; clear HB; have BK200 := n0_; have HB := n1_; clear n0_ n1_; (try clear hb); (try clear hb2); (try clear hk); (try clear hi); have hcz9_0 : w8.cell? ⟨gb200, 0, none⟩ = some (.int .i64 a0_0) := (blk_cell BK200.out 0).trans rfl; have hcz9_1 : w8.cell? ⟨gb200, 1, none⟩ = some (.int .i64 a0_1) := (blk_cell BK200.out 1).trans rfl; have hcz9_2 : w8.cell? ⟨gb200, 2, none⟩ = some (.slice A0_2 l0_2.length c0_2) := (blk_cell BK200.out 2).trans rfl; have hfz9_0 := blk_frozen BK200.out 0; have hfz9_1 := blk_frozen BK200.out 1; have hfz9_2 := blk_frozen BK200.out 2))
      go_ret
      exact ⟨by first | rfl | (simp [errW_none, errW_some] <;> rfl) | (simp [*, errW_none, errW_some] <;> rfl), by repeat (first | (with_reducible first | exact HB.out | apply below_alloc | apply pw_below_drewN | apply below_drew1 | refine below_set ?_ GE200.out) | exact HB.out)⟩
    · rw [if_neg c5] at H
      have c5b0 : decide (a1 < a0_0) = false := decide_eq_false c5
      clear c5
      replace H := Option.bind_eq_some_iff.mp H
      obtain ⟨t202, A100, H⟩ := H
      replace H : (if a1 > t202 then (some (-1)) else ((impl_RLog_term.f a0_0 a0_1 l0_2 a1).bind fun t203 => (some t203))) = some r := H
      have A10 := Aside0.mk A100
      clear A100
      by_cases c11 : a1 > t202
      · rw [if_pos c11] at H
        have c11b0 : decide (t202 < a1) = true := decide_eq_true c11
        clear c11
        obtain rfl := Option.some.inj H
        go_enter Try.func21, Try.ntmps21
        go_wp2_with (first | ((with_reducible refine gate_dst (N := 2) rfl ?_); refine box_event ?hg (N := 2) ?hd (cs := #[.int .i64 a0_0, .int .i64 a0_1, .slice A0_2 l0_2.length c0_2]) (t := 29) ?hr ?_; (case hd => rfl); (case hg => rfl); (case hr => first | (go_simp; done) | (go_simp; rfl)); intro gb200 hg w12 hbox hb; have n0_ := Aside0.mk (below_step (by repeat (first | (with_reducible first | exact HB.out | apply below_alloc | apply pw_below_drewN | apply below_drew1) | exact HB.out)) hb); have n1_ := Aside0.mk (hbox); have n2_ := Aside0.mk ((by rw [hg]; exact (below_size (by repeat (first | (with_reducible first | exact HB.out | apply below_alloc | apply pw_below_drewN | apply below_drew1) | exact HB.out))) : w.heap.size ≤ gb200)); have n3_ := Aside0.mk ((by rw [hg]; exact (below_size (by repeat (first | (with_reducible first | exact HB.out | apply below_alloc | apply pw_below_drewN | apply below_drew1) | exact HB.out))) : w.heap.size ≤ gb200)); clear HB; have HB := n0_; have BK200 := n1_; have GW200 := n2_; have GE200 := n3_; clear n0_ n1_ n2_ n3_; clear hb hbox hg; have hcz13_0 : w12.cell? ⟨gb200, 0, none⟩ = some (.int .i64 a0_0) := (blk_cell BK200.out 0).trans rfl; have hcz13_1 : w12.cell? ⟨gb200, 1, none⟩ = some (.int .i64 a0_1) := (blk_cell BK200.out 1).trans rfl; have hcz13_2 : w12.cell? ⟨gb200, 2, none⟩ = some (.slice A0_2 l0_2.length c0_2) := (blk_cell BK200.out 2).trans rfl; have hfz13_0 := blk_frozen BK200.out 0; have hfz13_1 := blk_frozen BK200.out 1; have hfz13_2 := blk_frozen BK200.out 2) | ((with_reducible refine gate_callee (f := 45) rfl ?_); refine goesL_ (some 6) rfl rfl Try.func45 (by kernel_rfl) rfl #[.agg #[.int .i64 a0_0, .int .i64 a0_1, .slice A0_2 l0_2.length c0_2]] rfl (by (try simp only [List.map_toArray, List.map_cons, List.map_nil]); first | done | rfl | (simp only [List.length_drop, List.length_take]; rfl)) ?_; (with_reducible refine (impl_isRLog.calls k a0_0 a0_1 _ _ l0_2 true _ ?side1 ?side2 A3.out).mono ?_); (case side1 => repeat (first | exact (Kd.C_below HR0_2.out HB.out) | (with_reducible refine Kd.C_alloc ?_ _) | (with_reducible refine Kd.C_drewN ?_ _) | (with_reducible refine Kd.C_drew ?_))); (case side2 => exact HC0_2.out); rintro e w14 ⟨rfl, hb⟩; refine ⟨_, rfl, ?_⟩; have n0_ := Aside0.mk (blk_below (g := gb200) (o := .cells #[.int .i64 a0_0, .int .i64 a0_1, .slice A0_2 l0_2.length c0_2] 29 (0, 0)) (by (with_reducible repeat (first | refine blk_drewN ?_ _ | refine blk_drew ?_ | refine blk_alloc ?_ _)); exact BK200.out) hb); have n1_ := Aside0.mk (below_step (by repeat (first | (with_reducible first | exact HB.out | apply below_alloc | apply pw_below_drewN | apply below_drew1 | refine below_set ?_ GE200.out) | exact HB.out)) hb); clear BK200; clear HB; have BK200 := n0_; have HB := n1_; clear n0_ n1_; (try clear hb); (try clear hb2); (try clear hk); (try clear hi); have hcz15_0 : w14.cell? ⟨gb200, 0, none⟩ = some (.int .i64 a0_0) := (blk_cell BK200.out 0).trans rfl; have hcz15_1 : w14.cell? ⟨gb200, 1, none⟩ = some (.int .i64 a0_1) := (blk_cell BK200.out 1).trans rfl; have hcz15_2 : w14.cell? ⟨gb200, 2, none⟩ = some (.slice A0_2 l0_2.length c0_2) := (blk_cell BK200.out 2).trans rfl; have hfz15_0 := blk_frozen BK200.out 0; have hfz15_1 := blk_frozen BK200.out 1; have hfz15_2 := blk_frozen BK200.out 2) | (go_at_call 46; (with_reducible refine (impl_RLog_last.calls a0_0 a0_1 _ _ l0_2 t202 _ ?side1 ?side2 A10.out).mono ?_); (case side1 => repeat (first | exact (Kd.C_below HR0_2.out HB.out) | (with_reducible refine Kd.C_alloc ?_ _) | (with_reducible refine Kd.C_drewN ?_ _) | (with_reducible refine Kd.C_drew ?_))); (case side2 => exact HC0_2.out); rintro e w16 ⟨rfl, hb⟩; have n0_ := Aside0.mk (blk_below (g := gb200) (o := .cells #[.int .i64 a0_0, .int .i64 a0_1, .slice A0_2 l0_2.length c0_2] 29 (0, 0)) (by (with_reducible repeat (first | refine blk_drewN ?_ _ | refine blk_drew ?_ | refine blk_alloc ?_ _)); exact BK200.out) hb); have n1_ := Aside0.mk (below_step (by repeat (first | (with_reducible first | exact HB.out | apply below_alloc | apply pw_below_drewN | apply below_drew1 | refine below_set ?_ GE200.out) | exact HB.out)) hb); clear BK200; clear HB; have BK200 := n0_; have HB := n1_; clear n0_ n1_; (try clear hb); (try clear hb2); (try clear hk); (try clear hi)))
        go_ret
        exact ⟨by first | rfl | (simp [errW_none, errW_some] <;> rfl) | (simp [*, errW_none, errW_some] <;> rfl), by repeat (first | (with_reducible first | exact HB.out | apply below_alloc | apply pw_below_drewN | apply below_drew1 | refine below_set ?_ GE200.out) | exact HB.out)⟩
      · rw [if_neg c11] at H
        have c11b0 : decide (t202 < a1) = false := decide_eq_false c11
        clear c11
        replace H := Option.bind_eq_some_iff.mp H
        obtain ⟨t203, A170, H⟩ := H
        replace H : (some t203) = some r := H
        have A17 := Aside0.mk A170
        clear A170
        obtain rfl := Option.some.inj H
        go_enter Try.func21, Try.ntmps21
        go_wp2_with (first | ((with_reducible refine gate_dst (N := 2) rfl ?_); refine box_event ?hg (N := 2) ?hd (cs := #[.int .i64 a0_0, .int .i64 a0_1, .slice A0_2 l0_2.length c0_2]) (t := 29) ?hr ?_; (case hd => rfl); (case hg => rfl); (case hr => first | (go_simp; done) | (go_simp; rfl)); intro gb200 hg w18 hbox hb; have n0_ := Aside0.mk (below_step (by repeat (first | (with_reducible first | exact HB.out | apply below_alloc | apply pw_below_drewN | apply below_drew1) | exact HB.out)) hb); have n1_ := Aside0.mk (hbox); have n2_ := Aside0.mk ((by rw [hg]; exact (below_size (by repeat (first | (with_reducible first | exact HB.out | apply below_alloc | apply pw_below_drewN | apply below_drew1) | exact HB.out))) : w.heap.size ≤ gb200)); have n3_ := Aside0.mk ((by rw [hg]; exact (below_size (by repeat (first | (with_reducible first | exact HB.out | apply below_alloc | apply pw_below_drewN | apply below_drew1) | exact HB.out))) : w.heap.size ≤ gb200)); clear HB; have HB := n0_; have BK200 := n1_; have GW200 := n2_; have GE200 := n3_; clear n0_ n1_ n2_ n3_; clear hb hbox hg; have hcz19_0 : w18.cell? ⟨gb200, 0, none⟩ = some (.int .i64 a0_0) := (blk_cell BK200.out 0).trans rfl; have hcz19_1 : w18.cell? ⟨gb200, 1, none⟩ = some (.int .i64 a0_1) := (blk_cell BK200.out 1).trans rfl; have hcz19_2 : w18.cell? ⟨gb200, 2, none⟩ = some (.slice A0_2 l0_2.length c0_2) := (blk_cell BK200.out 2).trans rfl; have hfz19_0 := blk_frozen BK200.out 0; have hfz19_1 := blk_frozen BK200.out 1; have hfz19_2 := blk_frozen BK200.out 2) | ((with_reducible refine gate_callee (f := 45) rfl ?_); refine goesL_ (some 6) rfl rfl Try.func45 (by kernel_rfl) rfl #[.agg #[.int .i64 a0_0, .int .i64 a0_1, .slice A0_2 l0_2.length c0_2]] rfl (by (try simp only [List.map_toArray, List.map_cons, List.map_nil]); first | done | rfl | (simp only [List.length_drop, List.length_take]; rfl)) ?_; (with_reducible refine (impl_isRLog.calls k a0_0 a0_1 _ _ l0_2 true _ ?side1 ?side2 A3.out).mono ?_); (case side1 => repeat (first | exact (Kd.C_below HR0_2.out HB.out) | (with_reducible refine Kd.C_alloc ?_ _) | (with_reducible refine Kd.C_drewN ?_ _) | (with_reducible refine Kd.C_drew ?_))); (case side2 => exact HC0_2.out); rintro e w20 ⟨rfl, hb⟩; refine ⟨_, rfl, ?_⟩; have n0_ := Aside0.mk (blk_below (g := gb200) (o := .cells #[.int .i64 a0_0, .int .i64 a0_1, .slice A0_2 l0_2.length c0_2] 29 (0, 0)) (by (with_reducible repeat (first | refine blk_drewN ?_ _ | refine blk_drew ?_ | refine blk_alloc ?_ _)); exact BK200.out) hb); have n1_ := Aside0.mk (below_step (by repeat (first | (with_reducible first | exact HB.out | apply below_alloc | apply pw_below_drewN | apply below_drew1 | refine below_set ?_ GE200.out) | exact HB.out)) hb); clear BK200; clear HB; have BK200 := n0_; have HB := n1_; clear n0_ n1_; (try clear hb); (try clear hb2); (try clear hk); (try clear hi); have hcz21_0 : w20.cell? ⟨gb200, 0, none⟩ = some (.int .i64 a0_0) := (blk_cell BK200.out 0).trans rfl; have hcz21_1 : w20.cell? ⟨gb200, 1, none⟩ = some (.int .i64 a0_1) := (blk_cell BK200.out 1).trans rfl; have hcz21_2 : w20.cell? ⟨gb200, 2, none⟩ = some (.slice A0_2 l0_2.length c0_2) := (blk_cell BK200.out 2).trans rfl; have hfz21_0 := blk_frozen BK200.out 0; have hfz21_1 := blk_frozen BK200.out 1; have hfz21_2 := blk_frozen BK200.out 2) | (go_at_call 46; (with_reducible refine (impl_RLog_last.calls a0_0 a0_1 _ _ l0_2 t202 _ ?side1 ?side2 A10.out).mono ?_); (case side1 => repeat (first | exact (Kd.C_below HR0_2.out HB.out) | (with_reducible refine Kd.C_alloc ?_ _) | (with_reducible refine Kd.C_drewN ?_ _) | (with_reducible refine Kd.C_drew ?_))); (case side2 => exact HC0_2.out); rintro e w22 ⟨rfl, hb⟩; have n0_ := Aside0.mk (blk_below (g := gb200) (o := .cells #[.int .i64 a0_0, .int .i64 a0_1, .slice A0_2 l0_2.length c0_2] 29 (0, 0)) (by (with_reducible repeat (first | refine blk_drewN ?_ _ | refine blk_drew ?_ | refine blk_alloc ?_ _)); exact BK200.out) hb); have n1_ := Aside0.mk (below_step (by repeat (first | (with_reducible first | exact HB.out | apply below_alloc | apply pw_below_drewN | apply below_drew1 | refine below_set ?_ GE200.out) | exact HB.out)) hb); clear BK200; clear HB; have BK200 := n0_; have HB := n1_; clear n0_ n1_; (try clear hb); (try clear hb2); (try clear hk); (try clear hi); have hcz23_0 : w22.cell? ⟨gb200, 0, none⟩ = some (.int .i64 a0_0) := (blk_cell BK200.out 0).trans rfl; have hcz23_1 : w22.cell? ⟨gb200, 1, none⟩ = some (.int .i64 a0_1) := (blk_cell BK200.out 1).trans rfl; have hcz23_2 : w22.cell? ⟨gb200, 2, none⟩ = some (.slice A0_2 l0_2.length c0_2) := (blk_cell BK200.out 2).trans rfl; have hfz23_0 := blk_frozen BK200.out 0; have hfz23_1 := blk_frozen BK200.out 1; have hfz23_2 := blk_frozen BK200.out 2) | ((with_reducible refine gate_callee (f := 47) rfl ?_); refine goesL_ (some 22) rfl rfl Try.func47 (by kernel_rfl) rfl #[.agg #[.int .i64 a0_0, .int .i64 a0_1, .slice A0_2 l0_2.length c0_2], .int .i64 a1] rfl (by (try simp only [List.map_toArray, List.map_cons, List.map_nil]); first | done | rfl | (simp only [List.length_drop, List.length_take]; rfl)) ?_; (with_reducible refine (impl_RLog_term.calls a0_0 a0_1 _ _ l0_2 a1 t203 _ ?side1 ?side2 A17.out).mono ?_); (case side1 => repeat (first | exact (Kd.C_below HR0_2.out HB.out) | (with_reducible refine Kd.C_alloc ?_ _) | (with_reducible refine Kd.C_drewN ?_ _) | (with_reducible refine Kd.C_drew ?_))); (case side2 => exact HC0_2.out); rintro e w24 ⟨rfl, hb⟩; refine ⟨_, rfl, ?_⟩; have n0_ := Aside0.mk (blk_below (g := gb200) (o := .cells #[.int .i64 a0_0, .int .i64 a0_1, .slice A0_2 l0_2.length c0_2] 29 (0, 0)) (by (with_reducible repeat (first | refine blk_drewN ?_ _ | refine blk_drew ?_ | refine blk_alloc ?_ _)); exact BK200.out) hb); have n1_ := Aside0.mk (below_step (by repeat (first | (with_reducible first | exact HB.out | apply below_alloc | apply pw_below_drewN | apply below_drew1 | refine below_set ?_ GE200.out) | exact HB.out)) hb); clear BK200; clear HB; have BK200 := n0_; have HB := n1_; clear n0_ n1_; (try clear hb); (try clear hb2); (try clear hk); (try clear hi)))
        go_ret
        exact ⟨by first | rfl | (simp [errW_none, errW_some] <;> rfl) | (simp [*, errW_none, errW_some] <;> rfl), by repeat (first | (with_reducible first | exact HB.out | apply below_alloc | apply pw_below_drewN | apply below_drew1 | refine below_set ?_ GE200.out) | exact HB.out)⟩
  · replace c4 := Bool.eq_false_iff.mpr c4
    subst c4
    have H1 : (some (-1)) = some r := by rw [if_neg (show ¬ (false = true) by decide)] at H; exact H
    clear H
    have H := H1
    clear H1
    obtain rfl := Option.some.inj H
    go_enter Try.func21, Try.ntmps21
    go_wp2_with (first | ((with_reducible refine gate_dst (N := 2) rfl ?_); refine box_event ?hg (N := 2) ?hd (cs := #[.int .i64 a0_0, .int .i64 a0_1, .slice A0_2 l0_2.length c0_2]) (t := 29) ?hr ?_; (case hd => rfl); (case hg => rfl); (case hr => first | (go_simp; done) | (go_simp; rfl)); intro gb200 hg w25 hbox hb; have n0_ := Aside0.mk (below_step (by repeat (first | (with_reducible first | exact HB.out | apply below_alloc | apply pw_below_drewN | apply below_drew1) | exact HB.out)) hb); have n1_ := Aside0.mk (hbox); have n2_ := Aside0.mk ((by rw [hg]; exact (below_size (by repeat (first | (with_reducible first | exact HB.out | apply below_alloc | apply pw_below_drewN | apply below_drew1) | exact HB.out))) : w.heap.size ≤ gb200)); have n3_ := Aside0.mk ((by rw [hg]; exact (below_size (by repeat (first | (with_reducible first | exact HB.out | apply below_alloc | apply pw_below_drewN | apply below_drew1) | exact HB.out))) : w.heap.size ≤ gb200)); clear HB; have HB := n0_; have BK200 := n1_; have GW200 := n2_; have GE200 := n3_; clear n0_ n1_ n2_ n3_; clear hb hbox hg; have hcz26_0 : w25.cell? ⟨gb200, 0, none⟩ = some (.int .i64 a0_0) := (blk_cell BK200.out 0).trans rfl; have hcz26_1 : w25.cell? ⟨gb200, 1, none⟩ = some (.int .i64 a0_1) := (blk_cell BK200.out 1).trans rfl; have hcz26_2 : w25.cell? ⟨gb200, 2, none⟩ = some (.slice A0_2 l0_2.length c0_2) := (blk_cell BK200.out 2).trans rfl; have hfz26_0 := blk_frozen BK200.out 0; have hfz26_1 := blk_frozen BK200.out 1; have hfz26_2 := blk_frozen BK200.out 2) | ((with_reducible refine gate_callee (f := 45) rfl ?_); refine goesL_ (some 6) rfl rfl Try.func45 (by kernel_rfl) rfl #[.agg #[.int .i64 a0_0, .int .i64 a0_1, .slice A0_2 l0_2.length c0_2]] rfl (by (try simp only [List.map_toArray, List.map_cons, List.map_nil]); first | done | rfl | (simp only [List.length_drop, List.length_take]; rfl)) ?_; (with_reducible refine (impl_isRLog.calls k a0_0 a0_1 _ _ l0_2 false _ ?side1 ?side2 A3.out).mono ?_); (case side1 => repeat (first | exact (Kd.C_below HR0_2.out HB.out) | (with_reducible refine Kd.C_alloc ?_ _) | (with_reducible refine Kd.C_drewN ?_ _) | (with_reducible refine Kd.C_drew ?_))); (case side2 => exact HC0_2.out); rintro e w27 ⟨rfl, hb⟩; refine ⟨_, rfl, ?_⟩; have n0_ := Aside0.mk (blk_below (g := gb200) (o := .cells #[.int .i64 a0_0, .int .i64 a0_1, .slice A0_2 l0_2.length c0_2] 29 (0, 0)) (by (with_reducible repeat (first | refine blk_drewN ?_ _ | refine blk_drew ?_ | refine blk_alloc ?_ _)); exact BK200.out) hb); have n1_ := Aside0.mk (below_step (by repeat (first | (with_reducible first | exact HB.out | apply below_alloc | apply pw_below_drewN | apply below_drew1 | refine below_set ?_ GE200.out) | exact HB.out)) hb); clear BK200; clear HB; have BK200 := n0_; have HB := n1_; clear n0_ n1_; (try clear hb); (try clear hb2); (try clear hk); (try clear hi)))
    go_ret
    exact ⟨by first | rfl | (simp [errW_none, errW_some] <;> rfl) | (simp [*, errW_none, errW_some] <;> rfl), by repeat (first | (with_reducible first | exact HB.out | apply below_alloc | apply pw_below_drewN | apply below_drew1 | refine below_set ?_ GE200.out) | exact HB.out)⟩

end Go.Proofs.Ytalbkbmnjpameaa.F

namespace Go.Proofs.Ytalbkbmnjpameaa.RL
set_option linter.unusedVariables false
set_option linter.unusedSimpArgs false
open Go.RowKit Go.Proofs.Ytalbkbmnjpameaa.F Go.Proofs.Ytalbkbmnjpameaa.PK Go.Proofs.YtalbkbmnjpameaaW.PrintWords Go.Proofs.YtalbkbmnjpameaaW.PrintLast
theorem okR_bd {a b : Int} {l : List S54} (h : okR a b l = true) : 0 ≤ a ∧ a ≤ 1000000 ∧ 0 ≤ b ∧ b ≤ 1000000 ∧ l.length ≤ 60 := by
  simp only [okR, okHead, Bool.and_eq_true, decide_eq_true_eq] at h
  omega
def lastM (a : Int) (l : List S54) : Int := a + (l.length : Int)
def termM (a b : Int) (l : List S54) (i : Int) : Int := if i = a then b else (rd_T54 l (i - a - 1)).f0
theorem last_eq {a b : Int} {l : List S54} (h : okR a b l = true) : wrap64 (a + (l.length : Int)) = lastM a l := by
  have := okR_bd h
  exact w64 (by omega) (by omega)
theorem spec_last (a b : Int) (l : List S54) (hl : l.length ≤ 9223372036854775807) : Ev (fun k => spec_LastIndex.f k a b l) (if okR a b l = true then lastM a l else -1) := by
  unfold spec_LastIndex.f
  simp only [EvB (spec_ok a b l hl)]
  by_cases h : okR a b l = true
  · simp only [if_pos h, last_eq h]; exact EvN
  · simp only [if_neg h]; exact EvN
theorem impl_last (a b : Int) (l : List S54) (hl : l.length ≤ 9223372036854775807) : Ev (fun k => impl_LastIndex.f k a b l) (if okR a b l = true then lastM a l else -1) := by
  unfold impl_LastIndex.f impl_RLog_last.f
  simp only [EvB (impl_ok a b l hl), Option.bind_some]
  by_cases h : okR a b l = true
  · simp only [if_pos h, last_eq h]; exact EvN
  · simp only [if_neg h]; exact EvN
/-- The term at an index that the log has. -/
def inL (a : Int) (l : List S54) (i : Int) : Prop := a ≤ i ∧ i ≤ lastM a l
instance (a : Int) (l : List S54) (i : Int) : Decidable (inL a l i) := by unfold inL; infer_instance
theorem idx_eq {a b i : Int} {l : List S54} (h : okR a b l = true) (hi : inL a l i) (hn : ¬ i = a) : wrap64 (wrap64 (i - a) - 1) = i - a - 1 ∧ 0 ≤ i - a - 1 ∧ i - a - 1 < (l.length : Int) := by
  have := okR_bd h
  unfold inL lastM at hi
  rw [w64 (x := i - a) (by omega) (by omega), w64 (by omega) (by omega)]
  omega
theorem impl_term {a b i : Int} {l : List S54} (h : okR a b l = true) (hi : inL a l i) : impl_RLog_term.f a b l i = some (termM a b l i) := by
  unfold impl_RLog_term.f termM
  by_cases hn : i = a
  · simp only [if_pos hn]
  · obtain ⟨e, h0, h1⟩ := idx_eq h hi hn
    simp only [if_neg hn, e, if_pos h0, if_pos h1]
def termR (a b : Int) (l : List S54) (i : Int) : Int := if okR a b l = true ∧ inL a l i then termM a b l i else -1
theorem spec_term (a b : Int) (l : List S54) (i : Int) (hl : l.length ≤ 9223372036854775807) : Ev (fun k => spec_TermAt.f k a b l i) (termR a b l i) := by
  unfold spec_TermAt.f termR
  simp only [EvB (spec_ok a b l hl)]
  by_cases h : okR a b l = true
  · simp only [if_pos h, specIn, Option.bind_some, last_eq h]
    refine EvS ?_
    by_cases hi : inL a l i
    · simp only [spec_TermAt.j0, h, hi, and_self, if_true, decide_eq_true (show a ≤ i ∧ i ≤ lastM a l from hi), Bool.not_true, Bool.false_eq_true, if_false]
      unfold termM
      by_cases hn : i = a
      · simp only [if_pos hn]; exact EvN
      · obtain ⟨e, h0, h1⟩ := idx_eq h hi hn
        simp only [if_neg hn, e, if_pos h0, if_pos h1]; exact EvN
    · simp only [spec_TermAt.j0, hi, and_false, if_false, decide_eq_false (show ¬ (a ≤ i ∧ i ≤ lastM a l) from hi), Bool.not_false, if_true]
      exact EvN
  · simp only [if_neg h, h, false_and, if_false]
    refine EvS ?_
    simp only [spec_TermAt.j0, if_true]
    exact EvN
theorem impl_termAt (a b : Int) (l : List S54) (i : Int) (hl : l.length ≤ 9223372036854775807) : Ev (fun k => impl_TermAt.f k a b l i) (termR a b l i) := by
  unfold impl_TermAt.f termR impl_RLog_last.f
  simp only [EvB (impl_ok a b l hl), Option.bind_some]
  by_cases h : okR a b l = true
  · simp only [if_pos h, last_eq h]
    by_cases h1 : i < a
    · have hi : ¬ inL a l i := fun hi => by unfold inL at hi; omega
      simp only [if_pos h1, hi, and_false, if_false]; exact EvN
    · by_cases h2 : i > lastM a l
      · have hi : ¬ inL a l i := fun hi => by unfold inL at hi; omega
        simp only [if_neg h1, if_pos h2, hi, and_false, if_false]; exact EvN
      · have hi : inL a l i := by unfold inL; omega
        simp only [if_neg h1, if_neg h2, impl_term h hi, Option.bind_some, h, hi, and_self, if_true]; exact EvN
  · simp only [if_neg h, h, false_and, if_false]; exact EvN
theorem in_last {a b : Int} {l : List S54} (h : okR a b l = true) : inL a l (lastM a l) := by
  unfold inL lastM
  omega
theorem okL_mem : ∀ (l : List S54) (b : Int), okL b l = true → ∀ e ∈ l, okE e = true := by
  intro l
  induction l with
  | nil => intro b _ e he; cases he
  | cons x r ih =>
    intro b h e he
    simp only [okL, Bool.and_eq_true] at h
    cases he with
    | head => exact h.1.1
    | tail _ he => exact ih _ h.2 e he
theorem okR_mem {a b : Int} {l : List S54} (h : okR a b l = true) : ∀ e ∈ l, 1 ≤ e.f0 ∧ e.f0 ≤ 1000000 ∧ (e.f1.size : Int) ≤ 40 := by
  intro e he
  simp only [okR, Bool.and_eq_true] at h
  simpa [okE] using okL_mem l b h.2 e he
theorem term_bd {a b i : Int} {l : List S54} (h : okR a b l = true) (hi : inL a l i) : 0 ≤ termM a b l i ∧ termM a b l i ≤ 1000000 := by
  have hb := okR_bd h
  unfold termM
  by_cases hn : i = a
  · simp only [if_pos hn]; omega
  · obtain ⟨_, h0, h1⟩ := idx_eq h hi hn
    simp only [if_neg hn]
    have hj : (i - a - 1).toNat < l.length := by omega
    have e := rd54 l (i - a - 1).toNat hj
    rw [Int.toNat_of_nonneg h0] at e
    rw [e]
    have := okR_mem h _ (List.getElem_mem hj)
    omega
end Go.Proofs.Ytalbkbmnjpameaa.RL

namespace Go.Proofs.Ytalbkbmnjpameaa.RL
set_option linter.unusedVariables false
set_option linter.unusedSimpArgs false
open Go.RowKit Go.Proofs.Ytalbkbmnjpameaa.F Go.Proofs.Ytalbkbmnjpameaa.PK Go.Proofs.YtalbkbmnjpameaaW.PrintWords Go.Proofs.YtalbkbmnjpameaaW.PrintLast
theorem spec_copy (a b : Int) (l : List S54) (hl : l.length ≤ 1000000000) : Ev (fun k => spec_l05Copy.f k a b l) (a, b, l) := by
  have key := up (P := fun i => ∀ x : List S54, (x.length : Int) = i → x = l.take i.toNat → Ev (fun k => spec_l05Copy.l0 k i a b l a b x) (a, b, l)) l.length
    (fun x hx he => EvS (by
      rw [Int.toNat_natCast, List.take_length] at he
      simp only [spec_l05Copy.l0, Int.lt_irrefl, if_false, he]; exact EvN))
    (fun i hi ih x hx he => EvS (by
      have hS : (x.length < 5864062014805) = True := eq_true (by omega)
      simp only [spec_l05Copy.l0, if_pos (show (i : Int) < (l.length : Int) by omega), if_pos (show 0 ≤ (i : Int) by omega), hS, if_true, rd54 l i hi, nxt i _ hi (show l.length ≤ 9223372036854775807 by omega)]
      refine ih _ (by simp; omega) ?_
      rw [Int.toNat_natCast] at he
      rw [Int.toNat_natCast, he, List.take_add_one, List.getElem?_eq_getElem hi]
      rfl))
  unfold spec_l05Copy.f
  exact key 0 (Nat.zero_le _) [] rfl (by simp)
theorem impl_copy (a b : Int) (l : List S54) (hl : l.length ≤ 1000000000) : impl_copyRLog.f a b l = some (a, b, l) := by
  have hS : (([] : List S54).length + l.length < 5864062014805) = True := eq_true (by simp only [List.length_nil]; omega)
  simp only [impl_copyRLog.f, Option.bind_some, hS, if_true, List.nil_append]
def cmpR (a b : Int) (l : List S54) (i : Int) : Int × Int × List S54 × Bool := if okR a b l = true ∧ inL a l i then (i, termM a b l i, l.drop (i - a).toNat, true) else (a, b, l, false)
theorem cmp_len (a b : Int) (l : List S54) (i : Int) : (cmpR a b l i).2.2.1.length ≤ l.length := by
  unfold cmpR
  split
  · simp only [List.length_drop]; omega
  · exact Nat.le_refl _
theorem cut_eq {a b i : Int} {l : List S54} (h : okR a b l = true) (hi : inL a l i) : wrap64 (i - a) = i - a ∧ 0 ≤ i - a ∧ i - a ≤ (l.length : Int) := by
  have := okR_bd h
  unfold inL lastM at hi
  rw [w64 (x := i - a) (by omega) (by omega)]
  omega
theorem specCmpJ {a b i : Int} {l : List S54} (hl : l.length ≤ 1000000000) (x : Bool) (hx : x = !decide (okR a b l = true ∧ inL a l i)) : Ev (fun k => spec_CompactTo.j0 k i x a b l) (cmpR a b l i) := by
  refine EvS ?_
  unfold cmpR
  by_cases h : okR a b l = true ∧ inL a l i
  · obtain ⟨e, h0, h1⟩ := cut_eq h.1 h.2
    have hT := spec_term a b l i (by omega)
    simp only [termR, h, and_self, if_true] at hT
    simp only [hx, decide_eq_true h, Bool.not_true, spec_CompactTo.j0, Bool.false_eq_true, if_false, EvB hT, e, if_pos h0, if_pos h1, if_pos h, EvB (spec_copy i (termM a b l i) (l.drop (i - a).toNat) (by rw [List.length_drop]; omega))]
    exact EvN
  · simp only [hx, decide_eq_false h, Bool.not_false, spec_CompactTo.j0, if_true, EvB (spec_copy a b l hl), if_neg h]
    exact EvN
theorem spec_cmp (a b : Int) (l : List S54) (i : Int) (hl : l.length ≤ 1000000000) : Ev (fun k => spec_CompactTo.f k a b l i) (cmpR a b l i) := by
  unfold spec_CompactTo.f
  simp only [EvB (spec_ok a b l (by omega))]
  by_cases h : okR a b l = true
  · have hL := spec_last a b l (by omega)
    simp only [h, if_true] at hL
    simp only [h, if_true, EvB hL, specIn, Option.bind_some]
    exact specCmpJ hl _ (by simp only [h, true_and]; rfl)
  · simp only [Bool.eq_false_iff.2 h, Bool.false_eq_true, if_false]
    exact specCmpJ hl _ (by simp only [h, false_and, decide_false]; rfl)
theorem implCmpJ {a b i : Int} {l : List S54} (hl : l.length ≤ 1000000000) (x : Bool) (hx : x = !decide (okR a b l = true ∧ inL a l i)) : Ev (fun k => impl_CompactTo.j0 k i x a b l) (cmpR a b l i) := by
  refine EvS ?_
  unfold cmpR
  by_cases h : okR a b l = true ∧ inL a l i
  · obtain ⟨e, h0, h1⟩ := cut_eq h.1 h.2
    have hS : (([] : List S54).length + (l.drop (i - a).toNat).length < 5864062014805) = True := eq_true (by simp only [List.length_nil, List.length_drop]; omega)
    simp only [hx, decide_eq_true h, Bool.not_true, impl_CompactTo.j0, Bool.false_eq_true, if_false, impl_term h.1 h.2, Option.bind_some, e, if_pos h0, if_pos h1, if_pos h, hS, if_true, List.nil_append]
    exact EvN
  · simp only [hx, decide_eq_false h, Bool.not_false, impl_CompactTo.j0, if_true, impl_copy a b l hl, Option.bind_some, if_neg h]
    exact EvN
theorem impl_cmp (a b : Int) (l : List S54) (i : Int) (hl : l.length ≤ 1000000000) : Ev (fun k => impl_CompactTo.f k a b l i) (cmpR a b l i) := by
  unfold impl_CompactTo.f impl_RLog_last.f
  simp only [EvB (impl_ok a b l (by omega)), Option.bind_some]
  by_cases h : okR a b l = true
  · simp only [h, if_true, last_eq h]
    by_cases h1 : i < a
    · simp only [if_pos h1]
      exact implCmpJ hl _ (by have hi : ¬ inL a l i := fun hi => by unfold inL at hi; omega
                              simp only [hi, and_false, decide_false]; rfl)
    · simp only [if_neg h1]
      exact implCmpJ hl _ (by
        by_cases h2 : i > lastM a l
        · have hi : ¬ inL a l i := fun hi => by unfold inL at hi; omega
          simp only [hi, and_false, decide_false, h2, decide_true]; rfl
        · have hi : inL a l i := by unfold inL; omega
          simp only [h, hi, and_self, decide_true, h2, decide_false]; rfl)
  · simp only [Bool.eq_false_iff.2 h, Bool.false_eq_true, if_false]
    exact implCmpJ hl _ (by simp only [h, false_and, decide_false]; rfl)
end Go.Proofs.Ytalbkbmnjpameaa.RL

namespace Go.Proofs.Ytalbkbmnjpameaa.Pure
set_option linter.unusedVariables false
set_option linter.unusedSimpArgs false
open Go.RowKit Go.Proofs.Ytalbkbmnjpameaa.F Go.Proofs.Ytalbkbmnjpameaa.PK Go.Proofs.Ytalbkbmnjpameaa.RL Go.Proofs.YtalbkbmnjpameaaW.PrintWords Go.Proofs.YtalbkbmnjpameaaW.PrintLast
theorem FnExactCompactTo : ∀ (a0_0 : Int) (a0_1 : Int) (l0_2 : List (S64)) (a1 : Int), ((Lit.int .i64 a0_0).wf = true) → ((Lit.int .i64 a0_1).wf = true) → (l0_2.length ≤ 9223372036854775807 ∧ ∀ y_ ∈ l0_2, (((Lit.int .i64 y_.f0).wf = true) ∧ (y_.f1.size ≤ 9223372036854775807))) → ((Lit.int .i64 a1).wf = true) → ∃ k, laws_FnExactCompactTo.f k a0_0 a0_1 l0_2 a1 = some true := by
  intro a b l i ha hb hl hi
  obtain ⟨t, ht, _, hlen⟩ := szRLog a b l 1048576 (by omega) (by omega) hl
  refine EvE ?_
  unfold laws_FnExactCompactTo.f
  by_cases h : t < 0
  · simp only [EvB ht, if_pos h]; exact EvN
  · have hc := conv_length l
    have hL := hlen (by omega)
    have hT := cmp_len a b (conv l) i
    have hS := spec_cmp a b (conv l) i (by omega)
    have hI := impl_cmp a b (conv l) i (by omega)
    generalize hr : cmpR a b (conv l) i = r at hT hS hI
    obtain ⟨c, d, x, q⟩ := r
    simp only at hT
    obtain ⟨m, l', h1, h2, h3⟩ := markRLog a b (conv l) (by omega)
    obtain ⟨m', r', g1, g2, g3⟩ := markRLog c d x (by omega)
    simp only [EvB ht, if_neg h, EvB (toRLog a b l hL), EvB hS, EvB hI, EvB (eqRLog c d x (by omega)), if_true, bne_self_eq_false]
    refine EvS ?_
    simp only [laws_FnExactCompactTo.j0, Bool.false_eq_true, if_false, EvB (toRLog a b l hL), EvB (eqRLog a b (conv l) (by omega)), if_true, EvB h1, if_neg (show ¬ m < 0 by omega), EvB (eqRLog c d x (by omega)), bne_self_eq_false]
    refine EvS ?_
    simp only [laws_FnExactCompactTo.j1, Bool.false_eq_true, if_false, EvB g1, EvB g3, if_neg (show ¬ m' < 0 by omega), if_true, EvB (toRLog a b l hL), EvB hI, EvB (eqRLog c d x (by omega)), bne_self_eq_false]
    refine EvS ?_
    simp only [laws_FnExactCompactTo.j2, Bool.false_eq_true, if_false, EvB g3, if_neg (show ¬ m' < 0 by omega), if_true]
    exact EvN
end Go.Proofs.Ytalbkbmnjpameaa.Pure

namespace Go.Proofs.Ytalbkbmnjpameaa.Opens
open Go.RowKit Go.Proofs.YtalbkbmnjpameaaW.PrintWords
/-- What reads at type t is of kind d, and meets ok. -/
def Opens (P : Program) (t : TypeId) {α : Type} (d : Kd α) (ok : α → Prop) : Prop :=
  P.cellsOf t = d.sz ∧ ∀ (H : Type) (enc : TypeId × Value → H) (w : World) (spare : Nat → Bool) (fuel : Nat) (cs : List Value) (x : DataW H × List MemPlace), DataW.trod enc P w 0 spare true fuel t cs = some x → ∃ a : α, d.K w a cs ∧ ok a
variable {P : Program}
theorem opens_int {t : TypeId} {k : IntKind} (ht : P.underlying t = some (.int k)) (hc : P.cellsOf t = 1) : Opens P t (Kd.int k) (fun a => (Lit.int k a).wf = true) :=
  ⟨hc, fun _ _ _ _ _ _ _ h => by
    obtain ⟨n, rfl, _, hw⟩ := DataW.trod_int ht h
    exact ⟨n, rfl, hw⟩⟩
theorem opens_bool {t : TypeId} (ht : P.underlying t = some .bool) (hc : P.cellsOf t = 1) : Opens P t Kd.bool (fun _ => True) :=
  ⟨hc, fun _ _ _ _ _ _ _ h => by
    obtain ⟨n, rfl, _⟩ := DataW.trod_bool ht h
    exact ⟨n, rfl, trivial⟩⟩
theorem opens_string {t : TypeId} (ht : P.underlying t = some .string) (hc : P.cellsOf t = 1) : Opens P t Kd.string (fun a => a.size ≤ 9223372036854775807) :=
  ⟨hc, fun _ _ _ _ _ _ _ h => by
    obtain ⟨n, rfl, _, hw⟩ := DataW.trod_string ht h
    exact ⟨n, rfl, hw⟩⟩
theorem add_add (a : Addr) (i j : Nat) : (a.add i).add j = a.add (i + j) := by
  unfold Addr.add
  by_cases hi : i = 0 <;> by_cases hj : j = 0 <;> simp [hi, hj, Nat.add_assoc]
theorem opens_slice {t e : TypeId} {α : Type} {d : Kd α} {ok : α → Prop} (ht : P.underlying t = some (.slice e)) (hc : P.cellsOf t = 1) (hd : Opens P e d ok) :
    Opens P t (Kd.slice e d) (fun l => l.length ≤ 9223372036854775807 ∧ ∀ a ∈ l, ok a) :=
  ⟨hc, fun H enc w spare fuel cs x h => by
    rcases Deep.open_slice ht h with ⟨rfl, _⟩ | ⟨a, len, cap, m, n, D, Pl, rfl, _, hl, hm, hmm, hxx, hx⟩
    · exact ⟨[], ⟨none, 0, rfl, Nat.le_refl _, rfl, Nat.zero_le _, fun h => absurd h (Nat.lt_irrefl _)⟩, Nat.zero_le _, fun _ h => nomatch h⟩
    · have hlm : len ≤ m := by rw [hmm]; split <;> omega
      have hex : ∀ i, i < len → ∃ b : α, ∃ cs', w.cells? 0 (a.add (i * P.cellsOf e)) (P.cellsOf e) = some cs' ∧ d.K w b cs' ∧ ok b := fun i hi => by
        obtain ⟨cs', h1, h2⟩ := hx i (Nat.lt_of_lt_of_le hi hlm)
        obtain ⟨b, hb⟩ := hd.2 H enc w spare n cs' _ h2
        exact ⟨b, cs', h1, hb.1, hb.2⟩
      have hml : len ≤ 9223372036854775807 := by unfold maxLen at hm; omega
      obtain ⟨l, hll, hat⟩ : ∃ l : List α, l.length = len ∧ ∀ i p, l[i]? = some p → ∃ cs', w.cells? 0 (a.add (i * P.cellsOf e)) (P.cellsOf e) = some cs' ∧ d.K w p cs' ∧ ok p := by
        clear hx hlm hmm hl hm hml hxx h
        induction len with
        | zero => exact ⟨[], rfl, fun i p h => by simp at h⟩
        | succ len ih =>
          obtain ⟨l, hll, hat⟩ := ih (fun i hi => hex i (Nat.lt_succ_of_lt hi))
          obtain ⟨b, hb⟩ := hex len (Nat.lt_succ_self _)
          refine ⟨l ++ [b], by simp [hll], fun i p h => ?_⟩
          rcases Nat.lt_or_ge i l.length with hi | hi
          · rw [List.getElem?_append_left hi] at h
            exact hat i p h
          · rw [List.getElem?_append_right hi] at h
            have hi0 : i - l.length = 0 := by
              rcases Nat.eq_zero_or_pos (i - l.length) with h0 | h0
              · exact h0
              · rw [List.getElem?_eq_none (by simp; omega)] at h
                cases h
            rw [hi0] at h
            have : b = p := by simpa using h
            subst this
            have : i = len := by omega
            subst this
            exact hb
      subst hll
      refine ⟨l, ⟨some a, cap, rfl, hl, rfl, hml, fun _ => ⟨a, rfl, fun j p hj => ?_⟩⟩, hml, fun b hb => ?_⟩
      · obtain ⟨cs', h1, hk, _⟩ := hat j p hj
        obtain ⟨_, hlen, hcell⟩ := World.cells?_some h1
        refine ⟨cs', hlen.trans hd.1, hk, fun i u hu => ?_⟩
        have hi : i < P.cellsOf e := by
          have := (List.getElem?_eq_some_iff.1 hu).1
          omega
        have := hcell i hi
        rw [hu, add_add, hd.1] at this
        exact this
      · obtain ⟨i, hi⟩ := List.getElem?_of_mem hb
        obtain ⟨_, _, _, hok⟩ := hat i b hi
        exact hok⟩
/-- The fields of a struct from an offset on. -/
def OpensF (P : Program) (fs : List Field) (off : Nat) {α : Type} (d : Kd α) (ok : α → Prop) : Prop :=
  ∀ (H : Type) (enc : TypeId × Value → H) (w : World) (spare : Nat → Bool) (n : Nat) (cs : List Value), (∀ f, f ∈ fs → ∃ y, DataW.trod enc P w 0 spare true n f.type ((cs.drop f.offset).take (P.cellsOf f.type)) = some y) → cs.length = off + d.sz → ∃ a : α, d.K w a (cs.drop off) ∧ ok a
theorem opens_last {f : Field} {off : Nat} {α : Type} {d : Kd α} {ok : α → Prop} (ho : f.offset = off) (hd : Opens P f.type d ok) : OpensF P [f] off d ok := fun H enc w spare n cs hf hl => by
  obtain ⟨y, hy⟩ := hf f (List.mem_singleton.2 rfl)
  rw [ho, List.take_of_length_le (by rw [List.length_drop, hl, hd.1]; omega)] at hy
  exact hd.2 H enc w spare n _ y hy
theorem opens_field {f : Field} {fs : List Field} {off : Nat} {α β : Type} {d : Kd α} {d' : Kd β} {ok : α → Prop} {ok' : β → Prop} (ho : f.offset = off) (hd : Opens P f.type d ok) (hr : OpensF P fs (off + d.sz) d' ok') :
    OpensF P (f :: fs) off (Kd.pair d d') (fun p => ok p.1 ∧ ok' p.2) := fun H enc w spare n cs hf hl => by
  obtain ⟨y, hy⟩ := hf f (List.mem_cons_self ..)
  have hz : (Kd.pair d d').sz = d.sz + d'.sz := rfl
  rw [ho, hd.1] at hy
  obtain ⟨a, ha, hoa⟩ := hd.2 H enc w spare n _ y hy
  obtain ⟨b, hb, hob⟩ := hr H enc w spare n cs (fun g hg => hf g (List.mem_cons_of_mem _ hg)) (by omega)
  refine ⟨(a, b), ⟨(cs.drop off).take d.sz, cs.drop (off + d.sz), ?_, ha, hb⟩, hoa, hob⟩
  rw [← List.drop_drop, List.take_append_drop]
theorem opens_struct {t : TypeId} {fs : Array Field} {α : Type} {d : Kd α} {ok : α → Prop} (ht : P.underlying t = some (.struct fs)) (hc : P.cellsOf t = d.sz) (hf : OpensF P fs.toList 0 d ok) : Opens P t d ok :=
  ⟨hc, fun H enc w spare fuel cs x h => by
    obtain ⟨xs, n, _, _, hlen, hxs, hi⟩ := DataW.trod_struct ht h
    have := hf H enc w spare n cs (fun f hm => by
      obtain ⟨i, hi'⟩ := List.getElem?_of_mem hm
      have hq := hi i f (by simpa using hi')
      have hlt : i < xs.length := by
        have := (List.getElem?_eq_some_iff.1 hi').1
        rw [hxs]
        simpa using this
      rw [List.getElem?_eq_getElem hlt] at hq
      exact ⟨_, hq⟩) (by omega)
    simpa using this⟩
/-- The same over another type of values. -/
theorem opens_iso {t : TypeId} {α β : Type} {d : Kd α} {ok : α → Prop} (f : β → α) (g : α → β) (hfg : ∀ a, f (g a) = a) (h : Opens P t d ok) : Opens P t (Kd.iso d f) (fun b => ok (f b)) :=
  ⟨h.1, fun H enc w spare fuel cs x hx => by
    obtain ⟨a, ha, hok⟩ := h.2 H enc w spare fuel cs x hx
    exact ⟨g a, by show d.K w (f (g a)) cs; rw [hfg]; exact ha, by show ok (f (g a)); rw [hfg]; exact hok⟩⟩
theorem opens_imp {t : TypeId} {α : Type} {d : Kd α} {ok ok' : α → Prop} (h : Opens P t d ok) (hi : ∀ a, ok a → ok' a) : Opens P t d ok' :=
  ⟨h.1, fun H enc w spare fuel cs x hx => by
    obtain ⟨a, ha, hok⟩ := h.2 H enc w spare fuel cs x hx
    exact ⟨a, ha, hi a hok⟩⟩
end Go.Proofs.Ytalbkbmnjpameaa.Opens

namespace Go.Proofs.Ytalbkbmnjpameaa.fnExactCompactTo
open Go.ChangeShapes Go.WideShapes Go.ChangeAt Go.RowKit
open Go.ChangeMaps (open_string shut_string)
open Go.Proofs.Ytalbkbmnjpameaa.Opens Go.Proofs.Ytalbkbmnjpameaa.F Go.Proofs.YtalbkbmnjpameaaW.PrintWords
set_option linter.unusedVariables false
theorem own : ownKnob Try.prog.godebug = none := by kernel_rfl
theorem laidOut : laidOutB Try.prog = true := by kernel_rfl
set_option maxHeartbeats 1000000 in
set_option maxRecDepth 100000 in
theorem lifted (os : Os) (started : os.Started) (H : Type) (enc : TypeId × Value → H) :
    ReturnsInHanded {} Try.checked os 9 .any (Rows.fnExactCompactToSpec.pre6 enc Try.prog Try.f9 Rows.fnExactCompactToRow.domain false) (Rows.fnExactCompactToSpec.post enc Try.prog Try.f9 false true false false) := by
  refine returnsInHanded_of_change_sized (C := Try.checked) own started (by kernel_rfl) Try.func9
    (ChangeSpec.witness6 (enc := enc) (C := Try.checked) false ⟨#[], #[.agg #[.int .i64 0, .int .i64 0, .slice none 0 0], .int .i64 0], []⟩ 8 (by kernel_rfl) (by kernel_rfl) (by kernel_rfl) (by kernel_rfl)) ?_
  intro W base args ds gs before hval0 hW hcnd hsz0 _
  have hval : ∀ (j : Nat) t v, Try.f9.params[j]? = some t → args[j]? = some v → Value.okWide Try.prog W .any base t v := hval0
  have hW' := hW
  obtain ⟨p, q, hA0, hV, rfl, hfz, hnd⟩ := hW
  have hA : DataW.TrodAll enc Try.prog W 0 (fun _ => true) true Try.f9.params.toList args.toList ds p := hA0
  rw [Try.params9] at hA hval
  obtain ⟨v0, vs0, d0, ds0, p0, q0, hargs, rfl, rfl, h0, r0⟩ := trodAll_cons hA
  obtain ⟨v1, vs1, d1, ds1, p1, q1, rfl, rfl, rfl, h1, r1⟩ := trodAll_cons r0
  obtain ⟨rfl, rfl, rfl⟩ := trodAll_nil r1
  obtain rfl : args = #[v0, v1] := by cases args; simp_all
  obtain ⟨rfl, rfl⟩ := trodVars_none hV
  obtain ⟨cs0, rfl, hsz0⟩ := okWide_struct Try.underlying24 (hval 0 24 v0 rfl rfl)
  have k0 := h0
  have lt0 : ∀ x ∈ p0, x.block < W.heap.size := by obtain ⟨m, hm⟩ := k0; exact DataW.trod_lt m _ _ _ hm
  obtain ⟨fu0, hf0⟩ := h0
  obtain ⟨⟨a0_0, a0_1, l0_2⟩, ⟨_, _, hcs0, rfl, _, _, rfl, rfl, ⟨A0_2, c0_2, rfl, hc0_2, hr0_2⟩⟩, hw0_0, hw0_1, hw0_2⟩ := (opens_struct Try.underlying24 (by kernel_rfl) (opens_field rfl (opens_int Try.underlying3 (by kernel_rfl)) (opens_field rfl (opens_int Try.underlying3 (by kernel_rfl)) (opens_last rfl (opens_slice Try.underlying22 (by kernel_rfl) (show Opens _ 64 k64 _ from opens_iso (fun x : S64 => (x.f0, x.f1)) (fun p => ⟨p.1, p.2⟩) (fun _ => rfl) (opens_struct Try.underlying64 (by kernel_rfl) (opens_field rfl (opens_int Try.underlying3 (by kernel_rfl)) (opens_last rfl (opens_string Try.underlying9 (by kernel_rfl))))))))))).2 _ _ _ _ _ _ _ hf0
  obtain rfl : cs0 = #[.int .i64 a0_0, .int .i64 a0_1, .slice A0_2 l0_2.length c0_2] := by
    cases cs0
    simpa [Value.cells] using hcs0
  obtain ⟨a1, rfl, rfl, rfl, hw1⟩ := open_int Try.underlying3 (hval 1 3 v1 rfl rfl) h1
  clear hA0 hval0 hsz0
  obtain ⟨k, h⟩ := (Pure.FnExactCompactTo : _) a0_0 a0_1 l0_2 a1 hw0_0 hw0_1 hw0_2 hw1
  refine (laws_FnExactCompactTo.calls k a0_0 a0_1 _ _ l0_2 a1 true W hr0_2 hc0_2 h).mono fun e W' ⟨he, bel⟩ => ?_
  subst he
  exact ⟨_, rfl, _, _, _, [], _, [], hW', trodAll_mk1 (shut_bool Try.underlying4 _), (trodAll_cons_mk (Below.trod laidOut (by kernel_rfl) (of_decide_eq_true (by kernel_rfl)) k0 bel lt0) (trodAll_cons_mk (shut_int Try.underlying3 hw1) trodAll_mk0)), rfl, bel.frame _, fun h => by cases h⟩
theorem over : Rows.fnExactCompactToRow.holds Try.pinned (OpenSpec.ofChange Rows.fnExactCompactToSpec) :=
  OpenClaim.holds_of_wide 9 Try.f9 rfl rfl rfl rfl rfl rfl rfl ⟨rfl, rfl, rfl, rfl, rfl⟩ rfl rfl rfl rfl rfl (by kernel_rfl) Try.func9 (by kernel_rfl)
    (of_decide_eq_true (by kernel_rfl)) (by unfold Func.isWrapper; first | (rw [if_pos (by decide +kernel)]; kernel_rfl) | (rw [if_neg (by decide +kernel)]; exact ⟨rfl, rfl⟩))
    (fun os started H enc _ => lifted os started H enc)
theorem proved : Rows.FnExactCompactToSaid := over
#print axioms proved
end Go.Proofs.Ytalbkbmnjpameaa.fnExactCompactTo
namespace Go.Proofs.Ytalbkbmnjpameaa
/-- The row, under a short name, for the claim. -/
theorem fnExactCompactTo_holds : Rows.FnExactCompactToSaid := fnExactCompactTo.proved
end Go.Proofs.Ytalbkbmnjpameaa
