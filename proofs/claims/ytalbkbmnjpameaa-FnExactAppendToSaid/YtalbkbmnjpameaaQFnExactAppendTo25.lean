/- Merged texts below the law FnExactAppendTo: Go functions as Lean functions, their contracts, and plain lemmas. -/
import Derived.Test.YtalbkbmnjpameaaQFnExactAppendTo22
import Derived.Test.YtalbkbmnjpameaaQFnExactAppendTo23
import Derived.Test.YtalbkbmnjpameaaQFnExactAppendTo24
import Derived.Test.YtalbkbmnjpameaaVFnExactAppendToMore
namespace Go.Proofs.Ytalbkbmnjpameaa.F
open Go.RowKit Go.Proofs.YtalbkbmnjpameaaW.PrintWords Go.Proofs.YtalbkbmnjpameaaW.PrintLast Go.Proofs.YtalbkbmnjpameaaW.PrintMore
attribute [local go_sem] max2_int min2_int max_two min_two max_three min_three max_four min_four   -- for this text's walks alone
set_option linter.unusedVariables false
set_option linter.unusedSimpArgs false
mutual
def laws_FnExactAppendTo.j0 : Nat → Int → Int → List (S64) → Bool → List (S54) → Bool → Bool → Int → Int → List (S64) → Int → Int → List (S54) → Int → Int → List (S54) → Int → Int → List (S54) → Option (Bool)
  | 0, _, _, _, _, _, _, _, _, _, _, _, _, _, _, _, _, _, _, _ => none
  | k + 1, x1, x2, x3, x11, x13, x15, x61, x589000, x589001, x589002, x606000, x606001, x606002, x612000, x612001, x612002, x622000, x622001, x622002 => if x61 = true then (none) else ((laws_toRLog.f k x589000 x589001 x589002).bind fun bt623 => ((laws_eqRLog.f k x612000 x612001 x612002 bt623.1 bt623.2.1 bt623.2.2).bind fun t628 => (if t628 = true then ((laws_toEntryS.f k x3).bind fun t629 => ((laws_eqEntryS.f k x13 t629).bind fun t632 => (if t632 = true then ((laws_markRLog.f k x612000 x612001 x612002 1).bind fun bt633 => ((laws_markEntryS.f k x13 bt633.1).bind fun bt635 => (if bt635.1 < 0 then (laws_FnExactAppendTo.j1 k x1 x2 x3 x11 true x589000 x589001 x589002 x606000 x606001 x606002 x622000 x622001 x622002) else ((laws_eqRLog.f k x622000 x622001 x622002 x606000 x606001 x606002).bind fun t637 => (if t637 = true then (laws_FnExactAppendTo.j1 k x1 x2 x3 x11 (x15 != x11) x589000 x589001 x589002 x606000 x606001 x606002 x622000 x622001 x622002) else (laws_FnExactAppendTo.j1 k x1 x2 x3 x11 true x589000 x589001 x589002 x606000 x606001 x606002 x622000 x622001 x622002)))))) else (none)))) else (none))))
def laws_FnExactAppendTo.j1 : Nat → Int → Int → List (S64) → Bool → Bool → Int → Int → List (S64) → Int → Int → List (S54) → Int → Int → List (S54) → Option (Bool)
  | 0, _, _, _, _, _, _, _, _, _, _, _, _, _, _ => none
  | k + 1, x1, x2, x3, x11, x90, x589000, x589001, x589002, x606000, x606001, x606002, x622000, x622001, x622002 => if x90 = true then (none) else ((laws_markRLog.f k x622000 x622001 x622002 1).bind fun bt638 => ((laws_heldRLog.f k x622000 x622001 bt638.2 1).bind fun t640 => (if t640 < 0 then (none) else (if t640 = bt638.1 then ((laws_toRLog.f k x589000 x589001 x589002).bind fun bt641 => ((laws_toEntryS.f k x3).bind fun t646 => ((impl_AppendTo.f k bt641.1 bt641.2.1 bt641.2.2 x1 x2 t646).bind fun bt649 => ((laws_eqRLog.f k bt649.1 bt649.2.1 bt649.2.2.1 x606000 x606001 x606002).bind fun t656 => (if t656 = true then (laws_FnExactAppendTo.j2 k bt638.1 (bt649.2.2.2 != x11) x622000 x622001 bt638.2) else (laws_FnExactAppendTo.j2 k bt638.1 true x622000 x622001 bt638.2)))))) else (none)))))
def laws_FnExactAppendTo.j2 : Nat → Int → Bool → Int → Int → List (S54) → Option (Bool)
  | 0, _, _, _, _, _ => none
  | k + 1, x17, x120, x622000, x622001, x622002 => if x120 = true then (none) else ((laws_heldRLog.f k x622000 x622001 x622002 1).bind fun t657 => (if t657 < 0 then (none) else (if t657 = x17 then (some true) else (none))))
end
def laws_FnExactAppendTo.f (k : Nat) (a0_0 : Int) (a0_1 : Int) (l0_2 : List (S64)) (a1 : Int) (a2 : Int) (l3 : List (S64)) : Option (Bool) := (laws_szRLog.f k a0_0 a0_1 l0_2 1048576).bind fun t589 => (if t589 < 0 then (some true) else ((laws_szEntryS.f k l3 t589).bind fun t590 => (if t590 < 0 then (some true) else ((laws_toRLog.f k a0_0 a0_1 l0_2).bind fun bt591 => ((laws_toEntryS.f k l3).bind fun t596 => ((spec_AppendTo.f k bt591.1 bt591.2.1 bt591.2.2 a1 a2 t596).bind fun bt599 => ((laws_toRLog.f k a0_0 a0_1 l0_2).bind fun bt606 => ((laws_toEntryS.f k l3).bind fun t612 => ((impl_AppendTo.f k bt606.1 bt606.2.1 bt606.2.2 a1 a2 t612).bind fun bt615 => ((laws_eqRLog.f k bt615.1 bt615.2.1 bt615.2.2.1 bt599.1 bt599.2.1 bt599.2.2.1).bind fun t622 => (if t622 = true then (laws_FnExactAppendTo.j0 k a1 a2 l3 bt599.2.2.2 t612 bt615.2.2.2 (bt615.2.2.2 != bt599.2.2.2) a0_0 a0_1 l0_2 bt599.1 bt599.2.1 bt599.2.2.1 bt606.1 bt606.2.1 bt606.2.2 bt615.1 bt615.2.1 bt615.2.2.1) else (laws_FnExactAppendTo.j0 k a1 a2 l3 bt599.2.2.2 t612 bt615.2.2.2 true a0_0 a0_1 l0_2 bt599.1 bt599.2.1 bt599.2.2.1 bt606.1 bt606.2.1 bt606.2.2 bt615.1 bt615.2.1 bt615.2.2.1))))))))))))
set_option maxHeartbeats 8000000 in
set_option maxRecDepth 100000 in
theorem laws_FnExactAppendTo.calls (k : Nat) (a0_0 : Int) (a0_1 : Int) (A0_2 : Option Addr) (c0_2 : Nat) (l0_2 : List (S64)) (a1 : Int) (a2 : Int) (A3 : Option Addr) (c3 : Nat) (l3 : List (S64)) (r : Bool) (w : World) (hr0_2 : Kd.C k64 w A0_2 l0_2.length l0_2) (hc0_2 : l0_2.length ≤ c0_2) (hr3 : Kd.C k64 w A3 l3.length l3) (hc3 : l3.length ≤ c3) (h : laws_FnExactAppendTo.f k a0_0 a0_1 l0_2 a1 a2 l3 = some r) :
    Calls Try.prog 10 #[.agg #[.int .i64 a0_0, .int .i64 a0_1, .slice A0_2 l0_2.length c0_2], .int .i64 a1, .int .i64 a2, .slice A3 l3.length c3] w fun e w' => e = .returned (.bool r) ∧ Below w.heap.size w w' := by
  have hu24 := Try.underlying24
  have hu29 := Try.underlying29
  have HR0_2 := Aside0.mk hr0_2
  have HC0_2 := Aside0.mk hc0_2
  clear hr0_2 hc0_2
  have HR3 := Aside0.mk hr3
  have HC3 := Aside0.mk hc3
  clear hr3 hc3
  have HB := Aside0.mk (Below.refl w.heap.size w)
  have H : ((laws_szRLog.f k a0_0 a0_1 l0_2 1048576).bind fun t589 => (if t589 < 0 then (some true) else ((laws_szEntryS.f k l3 t589).bind fun t590 => (if t590 < 0 then (some true) else ((laws_toRLog.f k a0_0 a0_1 l0_2).bind fun bt591 => ((laws_toEntryS.f k l3).bind fun t596 => ((spec_AppendTo.f k bt591.1 bt591.2.1 bt591.2.2 a1 a2 t596).bind fun bt599 => ((laws_toRLog.f k a0_0 a0_1 l0_2).bind fun bt606 => ((laws_toEntryS.f k l3).bind fun t612 => ((impl_AppendTo.f k bt606.1 bt606.2.1 bt606.2.2 a1 a2 t612).bind fun bt615 => ((laws_eqRLog.f k bt615.1 bt615.2.1 bt615.2.2.1 bt599.1 bt599.2.1 bt599.2.2.1).bind fun t622 => (if t622 = true then (laws_FnExactAppendTo.j0 k a1 a2 l3 bt599.2.2.2 t612 bt615.2.2.2 (bt615.2.2.2 != bt599.2.2.2) a0_0 a0_1 l0_2 bt599.1 bt599.2.1 bt599.2.2.1 bt606.1 bt606.2.1 bt606.2.2 bt615.1 bt615.2.1 bt615.2.2.1) else (laws_FnExactAppendTo.j0 k a1 a2 l3 bt599.2.2.2 t612 bt615.2.2.2 true a0_0 a0_1 l0_2 bt599.1 bt599.2.1 bt599.2.2.1 bt606.1 bt606.2.1 bt606.2.2 bt615.1 bt615.2.1 bt615.2.2.1))))))))))))) = some r := h
  clear h
  replace H := Option.bind_eq_some_iff.mp H
  obtain ⟨t589, A50, H⟩ := H
  replace H : (if t589 < 0 then (some true) else ((laws_szEntryS.f k l3 t589).bind fun t590 => (if t590 < 0 then (some true) else ((laws_toRLog.f k a0_0 a0_1 l0_2).bind fun bt591 => ((laws_toEntryS.f k l3).bind fun t596 => ((spec_AppendTo.f k bt591.1 bt591.2.1 bt591.2.2 a1 a2 t596).bind fun bt599 => ((laws_toRLog.f k a0_0 a0_1 l0_2).bind fun bt606 => ((laws_toEntryS.f k l3).bind fun t612 => ((impl_AppendTo.f k bt606.1 bt606.2.1 bt606.2.2 a1 a2 t612).bind fun bt615 => ((laws_eqRLog.f k bt615.1 bt615.2.1 bt615.2.2.1 bt599.1 bt599.2.1 bt599.2.2.1).bind fun t622 => (if t622 = true then (laws_FnExactAppendTo.j0 k a1 a2 l3 bt599.2.2.2 t612 bt615.2.2.2 (bt615.2.2.2 != bt599.2.2.2) a0_0 a0_1 l0_2 bt599.1 bt599.2.1 bt599.2.2.1 bt606.1 bt606.2.1 bt606.2.2 bt615.1 bt615.2.1 bt615.2.2.1) else (laws_FnExactAppendTo.j0 k a1 a2 l3 bt599.2.2.2 t612 bt615.2.2.2 true a0_0 a0_1 l0_2 bt599.1 bt599.2.1 bt599.2.2.1 bt606.1 bt606.2.1 bt606.2.2 bt615.1 bt615.2.1 bt615.2.2.1)))))))))))) = some r := H
  have A5 := Aside0.mk A50
  clear A50
  by_cases c6 : t589 < 0
  · rw [if_pos c6] at H
    have c6b0 : decide (t589 < 0) = true := decide_eq_true c6
    clear c6
    obtain rfl := Option.some.inj H
    go_enter Try.func10, Try.ntmps10
    go_wp2_with (first | ((with_reducible refine gate_dst (N := 4) rfl ?_); refine box_event ?hg (N := 4) ?hd (cs := #[.int .i64 a0_0, .int .i64 a0_1, .slice A0_2 l0_2.length c0_2]) (t := 24) ?hr ?_; (case hd => rfl); (case hg => rfl); (case hr => first | (go_simp; done) | (go_simp; rfl)); intro gb588 hg w7 hbox hb; have n0_ := Aside0.mk (below_step (by repeat (first | (with_reducible first | exact HB.out | apply below_alloc | apply pw_below_drewN | apply below_drew1) | exact HB.out)) hb); have n1_ := Aside0.mk (hbox); have n2_ := Aside0.mk ((by rw [hg]; exact (below_size (by repeat (first | (with_reducible first | exact HB.out | apply below_alloc | apply pw_below_drewN | apply below_drew1) | exact HB.out))) : w.heap.size ≤ gb588)); have n3_ := Aside0.mk ((by rw [hg]; exact (below_size (by repeat (first | (with_reducible first | exact HB.out | apply below_alloc | apply pw_below_drewN | apply below_drew1) | exact HB.out))) : w.heap.size ≤ gb588)); clear HB; have HB := n0_; have BK588 := n1_; have GW588 := n2_; have GE588 := n3_; clear n0_ n1_ n2_ n3_; clear hb hbox hg; have hcz8_0 : w7.cell? ⟨gb588, 0, none⟩ = some (.int .i64 a0_0) := (blk_cell BK588.out 0).trans rfl; have hcz8_1 : w7.cell? ⟨gb588, 1, none⟩ = some (.int .i64 a0_1) := (blk_cell BK588.out 1).trans rfl; have hcz8_2 : w7.cell? ⟨gb588, 2, none⟩ = some (.slice A0_2 l0_2.length c0_2) := (blk_cell BK588.out 2).trans rfl; have hfz8_0 := blk_frozen BK588.out 0; have hfz8_1 := blk_frozen BK588.out 1; have hfz8_2 := blk_frozen BK588.out 2) | ((with_reducible refine gate_callee (f := 13) rfl ?_); refine goesL_ (some 23) rfl rfl Try.func13 (by kernel_rfl) rfl #[.agg #[.int .i64 a0_0, .int .i64 a0_1, .slice A0_2 l0_2.length c0_2], .int .i64 1048576] rfl (by (try simp only [List.map_toArray, List.map_cons, List.map_nil]); first | done | rfl | (simp only [List.length_drop, List.length_take]; rfl)) ?_; (with_reducible refine (laws_szRLog.calls k a0_0 a0_1 _ _ l0_2 1048576 t589 _ ?side1 ?side2 A5.out).mono ?_); (case side1 => repeat (first | exact (Kd.C_below HR0_2.out HB.out) | (with_reducible refine Kd.C_alloc ?_ _) | (with_reducible refine Kd.C_drewN ?_ _) | (with_reducible refine Kd.C_drew ?_))); (case side2 => exact HC0_2.out); rintro e w9 ⟨rfl, hb⟩; refine ⟨_, rfl, ?_⟩; have n0_ := Aside0.mk (blk_below (g := gb588) (o := .cells #[.int .i64 a0_0, .int .i64 a0_1, .slice A0_2 l0_2.length c0_2] 24 (0, 0)) (by (with_reducible repeat (first | refine blk_drewN ?_ _ | refine blk_drew ?_ | refine blk_alloc ?_ _)); exact BK588.out) hb); have n1_ := Aside0.mk (below_step (by repeat (first | (with_reducible first | exact HB.out | apply below_alloc | apply pw_below_drewN | apply below_drew1 | refine below_set ?_ GE588.out) | exact HB.out)) hb); clear BK588; clear HB; have BK588 := n0_; have HB := n1_; clear n0_ n1_; (try clear hb); (try clear hb2); (try clear hk); (try clear hi)))
    go_ret
    exact ⟨by first | rfl | (simp [errW_none, errW_some] <;> rfl) | (simp [*, errW_none, errW_some] <;> rfl), by repeat (first | (with_reducible first | exact HB.out | apply below_alloc | apply pw_below_drewN | apply below_drew1 | refine below_set ?_ GE588.out) | exact HB.out)⟩
  · rw [if_neg c6] at H
    have c6b0 : decide (t589 < 0) = false := decide_eq_false c6
    clear c6
    replace H := Option.bind_eq_some_iff.mp H
    obtain ⟨t590, A100, H⟩ := H
    replace H : (if t590 < 0 then (some true) else ((laws_toRLog.f k a0_0 a0_1 l0_2).bind fun bt591 => ((laws_toEntryS.f k l3).bind fun t596 => ((spec_AppendTo.f k bt591.1 bt591.2.1 bt591.2.2 a1 a2 t596).bind fun bt599 => ((laws_toRLog.f k a0_0 a0_1 l0_2).bind fun bt606 => ((laws_toEntryS.f k l3).bind fun t612 => ((impl_AppendTo.f k bt606.1 bt606.2.1 bt606.2.2 a1 a2 t612).bind fun bt615 => ((laws_eqRLog.f k bt615.1 bt615.2.1 bt615.2.2.1 bt599.1 bt599.2.1 bt599.2.2.1).bind fun t622 => (if t622 = true then (laws_FnExactAppendTo.j0 k a1 a2 l3 bt599.2.2.2 t612 bt615.2.2.2 (bt615.2.2.2 != bt599.2.2.2) a0_0 a0_1 l0_2 bt599.1 bt599.2.1 bt599.2.2.1 bt606.1 bt606.2.1 bt606.2.2 bt615.1 bt615.2.1 bt615.2.2.1) else (laws_FnExactAppendTo.j0 k a1 a2 l3 bt599.2.2.2 t612 bt615.2.2.2 true a0_0 a0_1 l0_2 bt599.1 bt599.2.1 bt599.2.2.1 bt606.1 bt606.2.1 bt606.2.2 bt615.1 bt615.2.1 bt615.2.2.1)))))))))) = some r := H
    have A10 := Aside0.mk A100
    clear A100
    by_cases c11 : t590 < 0
    · rw [if_pos c11] at H
      have c11b0 : decide (t590 < 0) = true := decide_eq_true c11
      clear c11
      obtain rfl := Option.some.inj H
      go_enter Try.func10, Try.ntmps10
      go_wp2_with (first | ((with_reducible refine gate_dst (N := 4) rfl ?_); refine box_event ?hg (N := 4) ?hd (cs := #[.int .i64 a0_0, .int .i64 a0_1, .slice A0_2 l0_2.length c0_2]) (t := 24) ?hr ?_; (case hd => rfl); (case hg => rfl); (case hr => first | (go_simp; done) | (go_simp; rfl)); intro gb588 hg w12 hbox hb; have n0_ := Aside0.mk (below_step (by repeat (first | (with_reducible first | exact HB.out | apply below_alloc | apply pw_below_drewN | apply below_drew1) | exact HB.out)) hb); have n1_ := Aside0.mk (hbox); have n2_ := Aside0.mk ((by rw [hg]; exact (below_size (by repeat (first | (with_reducible first | exact HB.out | apply below_alloc | apply pw_below_drewN | apply below_drew1) | exact HB.out))) : w.heap.size ≤ gb588)); have n3_ := Aside0.mk ((by rw [hg]; exact (below_size (by repeat (first | (with_reducible first | exact HB.out | apply below_alloc | apply pw_below_drewN | apply below_drew1) | exact HB.out))) : w.heap.size ≤ gb588)); clear HB; have HB := n0_; have BK588 := n1_; have GW588 := n2_; have GE588 := n3_; clear n0_ n1_ n2_ n3_; clear hb hbox hg; have hcz13_0 : w12.cell? ⟨gb588, 0, none⟩ = some (.int .i64 a0_0) := (blk_cell BK588.out 0).trans rfl; have hcz13_1 : w12.cell? ⟨gb588, 1, none⟩ = some (.int .i64 a0_1) := (blk_cell BK588.out 1).trans rfl; have hcz13_2 : w12.cell? ⟨gb588, 2, none⟩ = some (.slice A0_2 l0_2.length c0_2) := (blk_cell BK588.out 2).trans rfl; have hfz13_0 := blk_frozen BK588.out 0; have hfz13_1 := blk_frozen BK588.out 1; have hfz13_2 := blk_frozen BK588.out 2) | ((with_reducible refine gate_callee (f := 13) rfl ?_); refine goesL_ (some 23) rfl rfl Try.func13 (by kernel_rfl) rfl #[.agg #[.int .i64 a0_0, .int .i64 a0_1, .slice A0_2 l0_2.length c0_2], .int .i64 1048576] rfl (by (try simp only [List.map_toArray, List.map_cons, List.map_nil]); first | done | rfl | (simp only [List.length_drop, List.length_take]; rfl)) ?_; (with_reducible refine (laws_szRLog.calls k a0_0 a0_1 _ _ l0_2 1048576 t589 _ ?side1 ?side2 A5.out).mono ?_); (case side1 => repeat (first | exact (Kd.C_below HR0_2.out HB.out) | (with_reducible refine Kd.C_alloc ?_ _) | (with_reducible refine Kd.C_drewN ?_ _) | (with_reducible refine Kd.C_drew ?_))); (case side2 => exact HC0_2.out); rintro e w14 ⟨rfl, hb⟩; refine ⟨_, rfl, ?_⟩; have n0_ := Aside0.mk (blk_below (g := gb588) (o := .cells #[.int .i64 a0_0, .int .i64 a0_1, .slice A0_2 l0_2.length c0_2] 24 (0, 0)) (by (with_reducible repeat (first | refine blk_drewN ?_ _ | refine blk_drew ?_ | refine blk_alloc ?_ _)); exact BK588.out) hb); have n1_ := Aside0.mk (below_step (by repeat (first | (with_reducible first | exact HB.out | apply below_alloc | apply pw_below_drewN | apply below_drew1 | refine below_set ?_ GE588.out) | exact HB.out)) hb); clear BK588; clear HB; have BK588 := n0_; have HB := n1_; clear n0_ n1_; (try clear hb); (try clear hb2); (try clear hk); (try clear hi)) | ((with_reducible refine gate_callee (f := 35) rfl ?_); refine goesL_ (some 28) rfl rfl Try.func35 (by kernel_rfl) rfl #[.slice A3 l3.length c3, .int .i64 t589] rfl (by (try simp only [List.map_toArray, List.map_cons, List.map_nil]); first | done | rfl | (simp only [List.length_drop, List.length_take]; rfl)) ?_; (with_reducible refine (laws_szEntryS.calls k _ _ l3 t589 t590 _ ?side1 ?side2 A10.out).mono ?_); (case side1 => repeat (first | exact (Kd.C_below HR3.out HB.out) | (with_reducible refine Kd.C_alloc ?_ _) | (with_reducible refine Kd.C_drewN ?_ _) | (with_reducible refine Kd.C_drew ?_))); (case side2 => exact HC3.out); rintro e w15 ⟨rfl, hb⟩; refine ⟨_, rfl, ?_⟩; have n0_ := Aside0.mk (blk_below (g := gb588) (o := .cells #[.int .i64 a0_0, .int .i64 a0_1, .slice A0_2 l0_2.length c0_2] 24 (0, 0)) (by (with_reducible repeat (first | refine blk_drewN ?_ _ | refine blk_drew ?_ | refine blk_alloc ?_ _)); exact BK588.out) hb); have n1_ := Aside0.mk (below_step (by repeat (first | (with_reducible first | exact HB.out | apply below_alloc | apply pw_below_drewN | apply below_drew1 | refine below_set ?_ GE588.out) | exact HB.out)) hb); clear BK588; clear HB; have BK588 := n0_; have HB := n1_; clear n0_ n1_; (try clear hb); (try clear hb2); (try clear hk); (try clear hi)))
      go_ret
      exact ⟨by first | rfl | (simp [errW_none, errW_some] <;> rfl) | (simp [*, errW_none, errW_some] <;> rfl), by repeat (first | (with_reducible first | exact HB.out | apply below_alloc | apply pw_below_drewN | apply below_drew1 | refine below_set ?_ GE588.out) | exact HB.out)⟩
    · rw [if_neg c11] at H
      have c11b0 : decide (t590 < 0) = false := decide_eq_false c11
      clear c11
      replace H := Option.bind_eq_some_iff.mp H
      obtain ⟨⟨t591, t592, t593⟩, A160, H⟩ := H
      replace H : ((laws_toEntryS.f k l3).bind fun t596 => ((spec_AppendTo.f k t591 t592 t593 a1 a2 t596).bind fun bt599 => ((laws_toRLog.f k a0_0 a0_1 l0_2).bind fun bt606 => ((laws_toEntryS.f k l3).bind fun t612 => ((impl_AppendTo.f k bt606.1 bt606.2.1 bt606.2.2 a1 a2 t612).bind fun bt615 => ((laws_eqRLog.f k bt615.1 bt615.2.1 bt615.2.2.1 bt599.1 bt599.2.1 bt599.2.2.1).bind fun t622 => (if t622 = true then (laws_FnExactAppendTo.j0 k a1 a2 l3 bt599.2.2.2 t612 bt615.2.2.2 (bt615.2.2.2 != bt599.2.2.2) a0_0 a0_1 l0_2 bt599.1 bt599.2.1 bt599.2.2.1 bt606.1 bt606.2.1 bt606.2.2 bt615.1 bt615.2.1 bt615.2.2.1) else (laws_FnExactAppendTo.j0 k a1 a2 l3 bt599.2.2.2 t612 bt615.2.2.2 true a0_0 a0_1 l0_2 bt599.1 bt599.2.1 bt599.2.2.1 bt606.1 bt606.2.1 bt606.2.2 bt615.1 bt615.2.1 bt615.2.2.1)))))))) = some r := H
      have A16 := Aside0.mk A160
      clear A160
      replace H := Option.bind_eq_some_iff.mp H
      obtain ⟨t596, A170, H⟩ := H
      replace H : ((spec_AppendTo.f k t591 t592 t593 a1 a2 t596).bind fun bt599 => ((laws_toRLog.f k a0_0 a0_1 l0_2).bind fun bt606 => ((laws_toEntryS.f k l3).bind fun t612 => ((impl_AppendTo.f k bt606.1 bt606.2.1 bt606.2.2 a1 a2 t612).bind fun bt615 => ((laws_eqRLog.f k bt615.1 bt615.2.1 bt615.2.2.1 bt599.1 bt599.2.1 bt599.2.2.1).bind fun t622 => (if t622 = true then (laws_FnExactAppendTo.j0 k a1 a2 l3 bt599.2.2.2 t612 bt615.2.2.2 (bt615.2.2.2 != bt599.2.2.2) a0_0 a0_1 l0_2 bt599.1 bt599.2.1 bt599.2.2.1 bt606.1 bt606.2.1 bt606.2.2 bt615.1 bt615.2.1 bt615.2.2.1) else (laws_FnExactAppendTo.j0 k a1 a2 l3 bt599.2.2.2 t612 bt615.2.2.2 true a0_0 a0_1 l0_2 bt599.1 bt599.2.1 bt599.2.2.1 bt606.1 bt606.2.1 bt606.2.2 bt615.1 bt615.2.1 bt615.2.2.1))))))) = some r := H
      have A17 := Aside0.mk A170
      clear A170
      replace H := Option.bind_eq_some_iff.mp H
      obtain ⟨⟨t599, t600, t601, t604⟩, A180, H⟩ := H
      replace H : ((laws_toRLog.f k a0_0 a0_1 l0_2).bind fun bt606 => ((laws_toEntryS.f k l3).bind fun t612 => ((impl_AppendTo.f k bt606.1 bt606.2.1 bt606.2.2 a1 a2 t612).bind fun bt615 => ((laws_eqRLog.f k bt615.1 bt615.2.1 bt615.2.2.1 t599 t600 t601).bind fun t622 => (if t622 = true then (laws_FnExactAppendTo.j0 k a1 a2 l3 t604 t612 bt615.2.2.2 (bt615.2.2.2 != t604) a0_0 a0_1 l0_2 t599 t600 t601 bt606.1 bt606.2.1 bt606.2.2 bt615.1 bt615.2.1 bt615.2.2.1) else (laws_FnExactAppendTo.j0 k a1 a2 l3 t604 t612 bt615.2.2.2 true a0_0 a0_1 l0_2 t599 t600 t601 bt606.1 bt606.2.1 bt606.2.2 bt615.1 bt615.2.1 bt615.2.2.1)))))) = some r := H
      have A18 := Aside0.mk A180
      clear A180
      replace H := Option.bind_eq_some_iff.mp H
      obtain ⟨⟨t606, t607, t608⟩, A190, H⟩ := H
      replace H : ((laws_toEntryS.f k l3).bind fun t612 => ((impl_AppendTo.f k t606 t607 t608 a1 a2 t612).bind fun bt615 => ((laws_eqRLog.f k bt615.1 bt615.2.1 bt615.2.2.1 t599 t600 t601).bind fun t622 => (if t622 = true then (laws_FnExactAppendTo.j0 k a1 a2 l3 t604 t612 bt615.2.2.2 (bt615.2.2.2 != t604) a0_0 a0_1 l0_2 t599 t600 t601 t606 t607 t608 bt615.1 bt615.2.1 bt615.2.2.1) else (laws_FnExactAppendTo.j0 k a1 a2 l3 t604 t612 bt615.2.2.2 true a0_0 a0_1 l0_2 t599 t600 t601 t606 t607 t608 bt615.1 bt615.2.1 bt615.2.2.1))))) = some r := H
      have A19 := Aside0.mk A190
      clear A190
      replace H := Option.bind_eq_some_iff.mp H
      obtain ⟨t612, A200, H⟩ := H
      replace H : ((impl_AppendTo.f k t606 t607 t608 a1 a2 t612).bind fun bt615 => ((laws_eqRLog.f k bt615.1 bt615.2.1 bt615.2.2.1 t599 t600 t601).bind fun t622 => (if t622 = true then (laws_FnExactAppendTo.j0 k a1 a2 l3 t604 t612 bt615.2.2.2 (bt615.2.2.2 != t604) a0_0 a0_1 l0_2 t599 t600 t601 t606 t607 t608 bt615.1 bt615.2.1 bt615.2.2.1) else (laws_FnExactAppendTo.j0 k a1 a2 l3 t604 t612 bt615.2.2.2 true a0_0 a0_1 l0_2 t599 t600 t601 t606 t607 t608 bt615.1 bt615.2.1 bt615.2.2.1)))) = some r := H
      have A20 := Aside0.mk A200
      clear A200
      replace H := Option.bind_eq_some_iff.mp H
      obtain ⟨⟨t615, t616, t617, t620⟩, A210, H⟩ := H
      replace H : ((laws_eqRLog.f k t615 t616 t617 t599 t600 t601).bind fun t622 => (if t622 = true then (laws_FnExactAppendTo.j0 k a1 a2 l3 t604 t612 t620 (t620 != t604) a0_0 a0_1 l0_2 t599 t600 t601 t606 t607 t608 t615 t616 t617) else (laws_FnExactAppendTo.j0 k a1 a2 l3 t604 t612 t620 true a0_0 a0_1 l0_2 t599 t600 t601 t606 t607 t608 t615 t616 t617))) = some r := H
      have A21 := Aside0.mk A210
      clear A210
      have HC22 := Aside0.mk H
      clear H
      go_enter Try.func10, Try.ntmps10
      go_upto_region 12 with (first | ((with_reducible refine gate_dst (N := 4) rfl ?_); refine box_event ?hg (N := 4) ?hd (cs := #[.int .i64 a0_0, .int .i64 a0_1, .slice A0_2 l0_2.length c0_2]) (t := 24) ?hr ?_; (case hd => rfl); (case hg => rfl); (case hr => first | (go_simp; done) | (go_simp; rfl)); intro gb588 hg w23 hbox hb; have n0_ := Aside0.mk (below_step (by repeat (first | (with_reducible first | exact HB.out | apply below_alloc | apply pw_below_drewN | apply below_drew1) | exact HB.out)) hb); have n1_ := Aside0.mk (hbox); have n2_ := Aside0.mk ((by rw [hg]; exact (below_size (by repeat (first | (with_reducible first | exact HB.out | apply below_alloc | apply pw_below_drewN | apply below_drew1) | exact HB.out))) : w.heap.size ≤ gb588)); have n3_ := Aside0.mk ((by rw [hg]; exact (below_size (by repeat (first | (with_reducible first | exact HB.out | apply below_alloc | apply pw_below_drewN | apply below_drew1) | exact HB.out))) : w.heap.size ≤ gb588)); clear HB; have HB := n0_; have BK588 := n1_; have GW588 := n2_; have GE588 := n3_; clear n0_ n1_ n2_ n3_; clear hb hbox hg; have hcz24_0 : w23.cell? ⟨gb588, 0, none⟩ = some (.int .i64 a0_0) := (blk_cell BK588.out 0).trans rfl; have hcz24_1 : w23.cell? ⟨gb588, 1, none⟩ = some (.int .i64 a0_1) := (blk_cell BK588.out 1).trans rfl; have hcz24_2 : w23.cell? ⟨gb588, 2, none⟩ = some (.slice A0_2 l0_2.length c0_2) := (blk_cell BK588.out 2).trans rfl; have hfz24_0 := blk_frozen BK588.out 0; have hfz24_1 := blk_frozen BK588.out 1; have hfz24_2 := blk_frozen BK588.out 2) | ((with_reducible refine gate_callee (f := 13) rfl ?_); refine goesL_ (some 23) rfl rfl Try.func13 (by kernel_rfl) rfl #[.agg #[.int .i64 a0_0, .int .i64 a0_1, .slice A0_2 l0_2.length c0_2], .int .i64 1048576] rfl (by (try simp only [List.map_toArray, List.map_cons, List.map_nil]); first | done | rfl | (simp only [List.length_drop, List.length_take]; rfl)) ?_; (with_reducible refine (laws_szRLog.calls k a0_0 a0_1 _ _ l0_2 1048576 t589 _ ?side1 ?side2 A5.out).mono ?_); (case side1 => repeat (first | exact (Kd.C_below HR0_2.out HB.out) | (with_reducible refine Kd.C_alloc ?_ _) | (with_reducible refine Kd.C_drewN ?_ _) | (with_reducible refine Kd.C_drew ?_))); (case side2 => exact HC0_2.out); rintro e w25 ⟨rfl, hb⟩; refine ⟨_, rfl, ?_⟩; have n0_ := Aside0.mk (blk_below (g := gb588) (o := .cells #[.int .i64 a0_0, .int .i64 a0_1, .slice A0_2 l0_2.length c0_2] 24 (0, 0)) (by (with_reducible repeat (first | refine blk_drewN ?_ _ | refine blk_drew ?_ | refine blk_alloc ?_ _)); exact BK588.out) hb); have n1_ := Aside0.mk (below_step (by repeat (first | (with_reducible first | exact HB.out | apply below_alloc | apply pw_below_drewN | apply below_drew1 | refine below_set ?_ GE588.out) | exact HB.out)) hb); clear BK588; clear HB; have BK588 := n0_; have HB := n1_; clear n0_ n1_; (try clear hb); (try clear hb2); (try clear hk); (try clear hi)) | ((with_reducible refine gate_callee (f := 35) rfl ?_); refine goesL_ (some 28) rfl rfl Try.func35 (by kernel_rfl) rfl #[.slice A3 l3.length c3, .int .i64 t589] rfl (by (try simp only [List.map_toArray, List.map_cons, List.map_nil]); first | done | rfl | (simp only [List.length_drop, List.length_take]; rfl)) ?_; (with_reducible refine (laws_szEntryS.calls k _ _ l3 t589 t590 _ ?side1 ?side2 A10.out).mono ?_); (case side1 => repeat (first | exact (Kd.C_below HR3.out HB.out) | (with_reducible refine Kd.C_alloc ?_ _) | (with_reducible refine Kd.C_drewN ?_ _) | (with_reducible refine Kd.C_drew ?_))); (case side2 => exact HC3.out); rintro e w26 ⟨rfl, hb⟩; refine ⟨_, rfl, ?_⟩; have n0_ := Aside0.mk (blk_below (g := gb588) (o := .cells #[.int .i64 a0_0, .int .i64 a0_1, .slice A0_2 l0_2.length c0_2] 24 (0, 0)) (by (with_reducible repeat (first | refine blk_drewN ?_ _ | refine blk_drew ?_ | refine blk_alloc ?_ _)); exact BK588.out) hb); have n1_ := Aside0.mk (below_step (by repeat (first | (with_reducible first | exact HB.out | apply below_alloc | apply pw_below_drewN | apply below_drew1 | refine below_set ?_ GE588.out) | exact HB.out)) hb); clear BK588; clear HB; have BK588 := n0_; have HB := n1_; clear n0_ n1_; (try clear hb); (try clear hb2); (try clear hk); (try clear hi); have hcz27_0 : w26.cell? ⟨gb588, 0, none⟩ = some (.int .i64 a0_0) := (blk_cell BK588.out 0).trans rfl; have hcz27_1 : w26.cell? ⟨gb588, 1, none⟩ = some (.int .i64 a0_1) := (blk_cell BK588.out 1).trans rfl; have hcz27_2 : w26.cell? ⟨gb588, 2, none⟩ = some (.slice A0_2 l0_2.length c0_2) := (blk_cell BK588.out 2).trans rfl; have hfz27_0 := blk_frozen BK588.out 0; have hfz27_1 := blk_frozen BK588.out 1; have hfz27_2 := blk_frozen BK588.out 2) | ((with_reducible refine gate_callee (f := 15) rfl ?_); refine goesL_ (some 33) rfl rfl Try.func15 (by kernel_rfl) rfl #[.agg #[.int .i64 a0_0, .int .i64 a0_1, .slice A0_2 l0_2.length c0_2]] rfl (by (try simp only [List.map_toArray, List.map_cons, List.map_nil]); first | done | rfl | (simp only [List.length_drop, List.length_take]; rfl)) ?_; (with_reducible refine (laws_toRLog.calls k a0_0 a0_1 _ _ l0_2 t591 t592 t593 _ ?side1 ?side2 A16.out).mono ?_); (case side1 => repeat (first | exact (Kd.C_below HR0_2.out HB.out) | (with_reducible refine Kd.C_alloc ?_ _) | (with_reducible refine Kd.C_drewN ?_ _) | (with_reducible refine Kd.C_drew ?_))); (case side2 => exact HC0_2.out); rintro e w28 ⟨v594, rfl, ho0, hb⟩; refine ⟨_, rfl, ?_⟩; have n0_ := Aside0.mk (Kd.R_lower ho0 (below_size (by repeat (first | (with_reducible first | exact HB.out | apply below_alloc | apply pw_below_drewN | apply below_drew1 | refine below_set ?_ GE588.out) | exact HB.out)))); have n1_ := Aside0.mk (blk_below (g := gb588) (o := .cells #[.int .i64 a0_0, .int .i64 a0_1, .slice A0_2 l0_2.length c0_2] 24 (0, 0)) (by (with_reducible repeat (first | refine blk_drewN ?_ _ | refine blk_drew ?_ | refine blk_alloc ?_ _)); exact BK588.out) hb); have n2_ := Aside0.mk (below_step (by repeat (first | (with_reducible first | exact HB.out | apply below_alloc | apply pw_below_drewN | apply below_drew1 | refine below_set ?_ GE588.out) | exact HB.out)) hb); clear BK588; clear HB; have HO595 := n0_; have BK588 := n1_; have HB := n2_; clear n0_ n1_ n2_; (try clear hb); (try clear hb2); (try clear hk); (try clear hi); (try clear ho0)) | ((with_reducible refine gate_callee (f := 37) rfl ?_); refine goesL_ (some 37) rfl rfl Try.func37 (by kernel_rfl) rfl #[.slice A3 l3.length c3] rfl (by (try simp only [List.map_toArray, List.map_cons, List.map_nil]); first | done | rfl | (simp only [List.length_drop, List.length_take]; rfl)) ?_; (with_reducible refine (laws_toEntryS.calls k _ _ l3 t596 _ ?side1 ?side2 A17.out).mono ?_); (case side1 => repeat (first | exact (Kd.C_below HR3.out HB.out) | (with_reducible refine Kd.C_alloc ?_ _) | (with_reducible refine Kd.C_drewN ?_ _) | (with_reducible refine Kd.C_drew ?_))); (case side2 => exact HC3.out); rintro e w29 ⟨v597, rfl, ho0, hb⟩; refine ⟨_, rfl, ?_⟩; have n0_ := Aside0.mk (Kd.R_elder' (by (with_reducible repeat (first | apply Kd.R_alloc | apply Kd.R_drewN | apply Kd.R_drew)); exact HO595.out) (Kd.R_base ho0) hb); have n1_ := Aside0.mk (Kd.R_lower (Kd.R_new' ho0 (Kd.R_lt (by (with_reducible repeat (first | apply Kd.R_alloc | apply Kd.R_drewN | apply Kd.R_drew)); exact HO595.out))) (below_size (by repeat (first | (with_reducible first | exact HB.out | apply below_alloc | apply pw_below_drewN | apply below_drew1 | refine below_set ?_ GE588.out) | exact HB.out)))); have n2_ := Aside0.mk (blk_below (g := gb588) (o := .cells #[.int .i64 a0_0, .int .i64 a0_1, .slice A0_2 l0_2.length c0_2] 24 (0, 0)) (by (with_reducible repeat (first | refine blk_drewN ?_ _ | refine blk_drew ?_ | refine blk_alloc ?_ _)); exact BK588.out) hb); have n3_ := Aside0.mk (below_step (by repeat (first | (with_reducible first | exact HB.out | apply below_alloc | apply pw_below_drewN | apply below_drew1 | refine below_set ?_ GE588.out) | exact HB.out)) hb); clear HO595; clear BK588; clear HB; have HO595 := n0_; have HO598 := n1_; have BK588 := n2_; have HB := n3_; clear n0_ n1_ n2_ n3_; (try clear hb); (try clear hb2); (try clear hk); (try clear hi); (try clear ho0); obtain ⟨Ao30, co30, eo30⟩ := Kd.R_slice HO595.out; subst eo30; obtain ⟨Ao31, co31, eo31⟩ := Kd.R_slice HO598.out; subst eo31) | ((with_reducible refine gate_callee (f := 36) rfl ?_); refine goesL_ (some 38) rfl rfl Try.func36 (by kernel_rfl) rfl #[.agg #[.int .i64 t591, .int .i64 t592, .slice Ao30 t593.length co30], .int .i64 a1, .int .i64 a2, .slice Ao31 t596.length co31] rfl (by (try simp only [List.map_toArray, List.map_cons, List.map_nil]); first | done | rfl | (simp only [List.length_drop, List.length_take]; rfl)) ?_; (with_reducible refine (spec_AppendTo.calls k t591 t592 _ _ t593 a1 a2 _ _ t596 t599 t600 t601 t604 _ ?side1 ?side2 ?side3 ?side4 A18.out).mono ?_); (case side1 => repeat (first | exact (Kd.R_reads' HO595.out).2.2 | (with_reducible refine Kd.C_alloc ?_ _) | (with_reducible refine Kd.C_drewN ?_ _) | (with_reducible refine Kd.C_drew ?_))); (case side2 => exact (Kd.R_reads' HO595.out).2.1); (case side3 => repeat (first | exact (Kd.R_reads' HO598.out).2.2 | (with_reducible refine Kd.C_alloc ?_ _) | (with_reducible refine Kd.C_drewN ?_ _) | (with_reducible refine Kd.C_drew ?_))); (case side4 => exact (Kd.R_reads' HO598.out).2.1); rintro e w32 ⟨v602, rfl, ho0, hb⟩; refine ⟨_, rfl, ?_⟩; have n0_ := Aside0.mk (Kd.R_elder' (by (with_reducible repeat (first | apply Kd.R_alloc | apply Kd.R_drewN | apply Kd.R_drew)); exact HO595.out) (Kd.R_base ho0) hb); have n1_ := Aside0.mk (Kd.R_elder' (by (with_reducible repeat (first | apply Kd.R_alloc | apply Kd.R_drewN | apply Kd.R_drew)); exact HO598.out) (Kd.R_base ho0) hb); have n2_ := Aside0.mk (Kd.R_lower (Kd.R_new' (Kd.R_new' ho0 (Kd.R_lt (by (with_reducible repeat (first | apply Kd.R_alloc | apply Kd.R_drewN | apply Kd.R_drew)); exact HO595.out))) (Kd.R_lt (by (with_reducible repeat (first | apply Kd.R_alloc | apply Kd.R_drewN | apply Kd.R_drew)); exact HO598.out))) (below_size (by repeat (first | (with_reducible first | exact HB.out | apply below_alloc | apply pw_below_drewN | apply below_drew1 | refine below_set ?_ GE588.out) | exact HB.out)))); have n3_ := Aside0.mk (blk_below (g := gb588) (o := .cells #[.int .i64 a0_0, .int .i64 a0_1, .slice A0_2 l0_2.length c0_2] 24 (0, 0)) (by (with_reducible repeat (first | refine blk_drewN ?_ _ | refine blk_drew ?_ | refine blk_alloc ?_ _)); exact BK588.out) hb); have n4_ := Aside0.mk (below_step (by repeat (first | (with_reducible first | exact HB.out | apply below_alloc | apply pw_below_drewN | apply below_drew1 | refine below_set ?_ GE588.out) | exact HB.out)) hb); clear HO595; clear HO598; clear BK588; clear HB; have HO595 := n0_; have HO598 := n1_; have HO603 := n2_; have BK588 := n3_; have HB := n4_; clear n0_ n1_ n2_ n3_ n4_; (try clear hb); (try clear hb2); (try clear hk); (try clear hi); (try clear ho0)) | ((with_reducible refine gate_dst (N := 10) rfl ?_); refine box_event ?hg (N := 10) ?hd (cs := #[.int .i64 0, .int .i64 0, .slice none 0 0]) (t := 29) ?hr ?_; (case hd => rfl); (case hg => rfl); (case hr => first | (go_simp; done) | (go_simp; rfl)); intro gb605 hg w33 hbox hb; have n0_ := Aside0.mk (Kd.R_below (by (with_reducible repeat (first | apply Kd.R_alloc | apply Kd.R_drewN | apply Kd.R_drew)); exact HO595.out) hb); have n1_ := Aside0.mk (Kd.R_below (by (with_reducible repeat (first | apply Kd.R_alloc | apply Kd.R_drewN | apply Kd.R_drew)); exact HO598.out) hb); have n2_ := Aside0.mk (Kd.R_below (by (with_reducible repeat (first | apply Kd.R_alloc | apply Kd.R_drewN | apply Kd.R_drew)); exact HO603.out) hb); have n3_ := Aside0.mk (blk_below (g := gb588) (o := .cells #[.int .i64 a0_0, .int .i64 a0_1, .slice A0_2 l0_2.length c0_2] 24 (0, 0)) (by (with_reducible repeat (first | refine blk_drewN ?_ _ | refine blk_drew ?_ | refine blk_alloc ?_ _)); exact BK588.out) hb); have n4_ := Aside0.mk (below_step (by repeat (first | (with_reducible first | exact HB.out | apply below_alloc | apply pw_below_drewN | apply below_drew1 | refine below_set ?_ GE588.out) | exact HB.out)) hb); have n5_ := Aside0.mk (hbox); have n6_ := Aside0.mk ((by rw [hg]; exact (below_size (by repeat (first | (with_reducible first | exact HB.out | apply below_alloc | apply pw_below_drewN | apply below_drew1 | refine below_set ?_ GE588.out) | exact HB.out))) : w.heap.size ≤ gb605)); have n7_ := Aside0.mk ((by rw [hg]; exact (below_size (by repeat (first | (with_reducible first | exact HB.out | apply below_alloc | apply pw_below_drewN | apply below_drew1 | refine below_set ?_ GE588.out) | exact HB.out))) : w.heap.size ≤ gb605)); have n8_ := Aside0.mk ((by rw [hg]; exact Nat.ne_of_lt (blk_lt (g := gb588) (o := .cells #[.int .i64 a0_0, .int .i64 a0_1, .slice A0_2 l0_2.length c0_2] 24 (0, 0)) (by (with_reducible repeat (first | refine blk_drewN ?_ _ | refine blk_drew ?_ | refine blk_alloc ?_ _)); exact BK588.out)) : gb588 ≠ gb605)); have n9_ := Aside0.mk ((by rw [hg]; exact Nat.ne_of_gt (blk_lt (g := gb588) (o := .cells #[.int .i64 a0_0, .int .i64 a0_1, .slice A0_2 l0_2.length c0_2] 24 (0, 0)) (by (with_reducible repeat (first | refine blk_drewN ?_ _ | refine blk_drew ?_ | refine blk_alloc ?_ _)); exact BK588.out)) : gb605 ≠ gb588)); clear HO595; clear HO598; clear HO603; clear BK588; clear HB; have HO595 := n0_; have HO598 := n1_; have HO603 := n2_; have BK588 := n3_; have HB := n4_; have BK605 := n5_; have GW605 := n6_; have GE605 := n7_; have NB588_605 := n8_; have NB605_588 := n9_; clear n0_ n1_ n2_ n3_ n4_ n5_ n6_ n7_ n8_ n9_; clear hb hbox hg; have hnb34 := NB605_588.out; have hnc34 := NB588_605.out; have hcz35_0 : w33.cell? ⟨gb605, 0, none⟩ = some (.int .i64 0) := (blk_cell BK605.out 0).trans rfl; have hcz35_1 : w33.cell? ⟨gb605, 1, none⟩ = some (.int .i64 0) := (blk_cell BK605.out 1).trans rfl; have hcz35_2 : w33.cell? ⟨gb605, 2, none⟩ = some (.slice none 0 0) := (blk_cell BK605.out 2).trans rfl; have hfz35_0 := blk_frozen BK605.out 0; have hfz35_1 := blk_frozen BK605.out 1; have hfz35_2 := blk_frozen BK605.out 2; obtain ⟨Ao36, co36, eo36⟩ := Kd.R_slice HO603.out; subst eo36; have hcz37_0 : w33.cell? ⟨gb588, 0, none⟩ = some (.int .i64 a0_0) := (blk_cell BK588.out 0).trans rfl; have hcz37_1 : w33.cell? ⟨gb588, 1, none⟩ = some (.int .i64 a0_1) := (blk_cell BK588.out 1).trans rfl; have hcz37_2 : w33.cell? ⟨gb588, 2, none⟩ = some (.slice A0_2 l0_2.length c0_2) := (blk_cell BK588.out 2).trans rfl; have hfz37_0 := blk_frozen BK588.out 0; have hfz37_1 := blk_frozen BK588.out 1; have hfz37_2 := blk_frozen BK588.out 2) | ((with_reducible refine gate_callee (f := 15) rfl ?_); refine goesL_ (some 42) rfl rfl Try.func15 (by kernel_rfl) rfl #[.agg #[.int .i64 a0_0, .int .i64 a0_1, .slice A0_2 l0_2.length c0_2]] rfl (by (try simp only [List.map_toArray, List.map_cons, List.map_nil]); first | done | rfl | (simp only [List.length_drop, List.length_take]; rfl)) ?_; (with_reducible refine (laws_toRLog.calls k a0_0 a0_1 _ _ l0_2 t606 t607 t608 _ ?side1 ?side2 A19.out).mono ?_); (case side1 => exact Kd.C_below HR0_2.out (by repeat (first | (with_reducible first | exact HB.out | apply below_alloc | apply pw_below_drewN | apply below_drew1 | refine below_set ?_ GE588.out | refine below_set ?_ GE605.out) | exact HB.out))); (case side2 => exact HC0_2.out); rintro e w38 ⟨v609, rfl, ho0, hb⟩; refine ⟨_, rfl, ?_⟩; have n0_ := Aside0.mk (Kd.R_elder' (by (with_reducible repeat (first | apply Kd.R_alloc | apply Kd.R_drewN | apply Kd.R_drew)); exact (Kd.R_mono (Kd.R_far (p := ⟨gb605, 2, none⟩) (Kd.R_far (p := ⟨gb605, 1, none⟩) (Kd.R_far (p := ⟨gb605, 0, none⟩) (Kd.R_types HO595.out BK605.out (by decide)) (fun _ hk => hk.2) (.int .i64 t599)) (fun _ hk => hk.2) (.int .i64 t600)) (fun _ hk => hk.2) (.slice Ao36 t601.length co36)) (fun _ h_ => h_.1))) (Kd.R_base ho0) hb); have n1_ := Aside0.mk (Kd.R_elder' (by (with_reducible repeat (first | apply Kd.R_alloc | apply Kd.R_drewN | apply Kd.R_drew)); exact (Kd.R_mono (Kd.R_far (p := ⟨gb605, 2, none⟩) (Kd.R_far (p := ⟨gb605, 1, none⟩) (Kd.R_far (p := ⟨gb605, 0, none⟩) (Kd.R_types HO598.out BK605.out (by decide)) (fun _ hk => hk.2) (.int .i64 t599)) (fun _ hk => hk.2) (.int .i64 t600)) (fun _ hk => hk.2) (.slice Ao36 t601.length co36)) (fun _ h_ => h_.1))) (Kd.R_base ho0) hb); have n2_ := Aside0.mk (Kd.R_elder' (by (with_reducible repeat (first | apply Kd.R_alloc | apply Kd.R_drewN | apply Kd.R_drew)); exact (Kd.R_mono (Kd.R_far (p := ⟨gb605, 2, none⟩) (Kd.R_far (p := ⟨gb605, 1, none⟩) (Kd.R_far (p := ⟨gb605, 0, none⟩) (Kd.R_types HO603.out BK605.out (by decide)) (fun _ hk => hk.2) (.int .i64 t599)) (fun _ hk => hk.2) (.int .i64 t600)) (fun _ hk => hk.2) (.slice Ao36 t601.length co36)) (fun _ h_ => h_.1))) (Kd.R_base ho0) hb); have n3_ := Aside0.mk (Kd.R_lower (Kd.R_new' (Kd.R_new' (Kd.R_new' ho0 (Kd.R_lt (by (with_reducible repeat (first | apply Kd.R_alloc | apply Kd.R_drewN | apply Kd.R_drew)); exact (Kd.R_mono (Kd.R_far (p := ⟨gb605, 2, none⟩) (Kd.R_far (p := ⟨gb605, 1, none⟩) (Kd.R_far (p := ⟨gb605, 0, none⟩) (Kd.R_types HO595.out BK605.out (by decide)) (fun _ hk => hk.2) (.int .i64 t599)) (fun _ hk => hk.2) (.int .i64 t600)) (fun _ hk => hk.2) (.slice Ao36 t601.length co36)) (fun _ h_ => h_.1))))) (Kd.R_lt (by (with_reducible repeat (first | apply Kd.R_alloc | apply Kd.R_drewN | apply Kd.R_drew)); exact (Kd.R_mono (Kd.R_far (p := ⟨gb605, 2, none⟩) (Kd.R_far (p := ⟨gb605, 1, none⟩) (Kd.R_far (p := ⟨gb605, 0, none⟩) (Kd.R_types HO598.out BK605.out (by decide)) (fun _ hk => hk.2) (.int .i64 t599)) (fun _ hk => hk.2) (.int .i64 t600)) (fun _ hk => hk.2) (.slice Ao36 t601.length co36)) (fun _ h_ => h_.1))))) (Kd.R_lt (by (with_reducible repeat (first | apply Kd.R_alloc | apply Kd.R_drewN | apply Kd.R_drew)); exact (Kd.R_mono (Kd.R_far (p := ⟨gb605, 2, none⟩) (Kd.R_far (p := ⟨gb605, 1, none⟩) (Kd.R_far (p := ⟨gb605, 0, none⟩) (Kd.R_types HO603.out BK605.out (by decide)) (fun _ hk => hk.2) (.int .i64 t599)) (fun _ hk => hk.2) (.int .i64 t600)) (fun _ hk => hk.2) (.slice Ao36 t601.length co36)) (fun _ h_ => h_.1))))) (below_size (by repeat (first | (with_reducible first | exact HB.out | apply below_alloc | apply pw_below_drewN | apply below_drew1 | refine below_set ?_ GE588.out | refine below_set ?_ GE605.out) | exact HB.out)))); have n4_ := Aside0.mk (blk_below (g := gb588) (o := .cells #[.int .i64 a0_0, .int .i64 a0_1, .slice A0_2 l0_2.length c0_2] 24 (0, 0)) (by (with_reducible repeat (first | refine blk_drewN ?_ _ | refine blk_drew ?_ | refine blk_alloc ?_ _)); refine blk_far ?_ NB588_605.out _; (with_reducible repeat (first | refine blk_drewN ?_ _ | refine blk_drew ?_ | refine blk_alloc ?_ _)); refine blk_far ?_ NB588_605.out _; (with_reducible repeat (first | refine blk_drewN ?_ _ | refine blk_drew ?_ | refine blk_alloc ?_ _)); refine blk_far ?_ NB588_605.out _; (with_reducible repeat (first | refine blk_drewN ?_ _ | refine blk_drew ?_ | refine blk_alloc ?_ _)); exact BK588.out) hb); have n5_ := Aside0.mk (blk_below (g := gb605) (o := .cells #[.int .i64 t599, .int .i64 t600, .slice Ao36 t601.length co36] 29 (0, 0)) (by (with_reducible repeat (first | refine blk_drewN ?_ _ | refine blk_drew ?_ | refine blk_alloc ?_ _)); refine blk_put (cs := #[.int .i64 t599, .int .i64 t600, .slice none 0 0]) ?_ 2 _ rfl; (with_reducible repeat (first | refine blk_drewN ?_ _ | refine blk_drew ?_ | refine blk_alloc ?_ _)); refine blk_put (cs := #[.int .i64 t599, .int .i64 0, .slice none 0 0]) ?_ 1 _ rfl; (with_reducible repeat (first | refine blk_drewN ?_ _ | refine blk_drew ?_ | refine blk_alloc ?_ _)); refine blk_put (cs := #[.int .i64 0, .int .i64 0, .slice none 0 0]) ?_ 0 _ rfl; (with_reducible repeat (first | refine blk_drewN ?_ _ | refine blk_drew ?_ | refine blk_alloc ?_ _)); exact BK605.out) hb); have n6_ := Aside0.mk (below_step (by repeat (first | (with_reducible first | exact HB.out | apply below_alloc | apply pw_below_drewN | apply below_drew1 | refine below_set ?_ GE588.out | refine below_set ?_ GE605.out) | exact HB.out)) hb); clear HO595; clear HO598; clear HO603; clear BK588; clear BK605; clear HB; have HO595 := n0_; have HO598 := n1_; have HO603 := n2_; have HO610 := n3_; have BK588 := n4_; have BK605 := n5_; have HB := n6_; clear n0_ n1_ n2_ n3_ n4_ n5_ n6_; (try clear hb); (try clear hb2); (try clear hk); (try clear hi); (try clear ho0)) | ((with_reducible refine gate_dst (N := 12) rfl ?_); refine box_event ?hg (N := 12) ?hd (cs := #[.int .i64 0, .int .i64 0, .slice none 0 0]) (t := 29) ?hr ?_; (case hd => rfl); (case hg => rfl); (case hr => first | (go_simp; done) | (go_simp; rfl)); intro gb611 hg w39 hbox hb; have n0_ := Aside0.mk (Kd.R_below (by (with_reducible repeat (first | apply Kd.R_alloc | apply Kd.R_drewN | apply Kd.R_drew)); exact HO595.out) hb); have n1_ := Aside0.mk (Kd.R_below (by (with_reducible repeat (first | apply Kd.R_alloc | apply Kd.R_drewN | apply Kd.R_drew)); exact HO598.out) hb); have n2_ := Aside0.mk (Kd.R_below (by (with_reducible repeat (first | apply Kd.R_alloc | apply Kd.R_drewN | apply Kd.R_drew)); exact HO603.out) hb); have n3_ := Aside0.mk (Kd.R_below (by (with_reducible repeat (first | apply Kd.R_alloc | apply Kd.R_drewN | apply Kd.R_drew)); exact HO610.out) hb); have n4_ := Aside0.mk (blk_below (g := gb588) (o := .cells #[.int .i64 a0_0, .int .i64 a0_1, .slice A0_2 l0_2.length c0_2] 24 (0, 0)) (by (with_reducible repeat (first | refine blk_drewN ?_ _ | refine blk_drew ?_ | refine blk_alloc ?_ _)); exact BK588.out) hb); have n5_ := Aside0.mk (blk_below (g := gb605) (o := .cells #[.int .i64 t599, .int .i64 t600, .slice Ao36 t601.length co36] 29 (0, 0)) (by (with_reducible repeat (first | refine blk_drewN ?_ _ | refine blk_drew ?_ | refine blk_alloc ?_ _)); exact BK605.out) hb); have n6_ := Aside0.mk (below_step (by repeat (first | (with_reducible first | exact HB.out | apply below_alloc | apply pw_below_drewN | apply below_drew1 | refine below_set ?_ GE588.out | refine below_set ?_ GE605.out) | exact HB.out)) hb); have n7_ := Aside0.mk (hbox); have n8_ := Aside0.mk ((by rw [hg]; exact (below_size (by repeat (first | (with_reducible first | exact HB.out | apply below_alloc | apply pw_below_drewN | apply below_drew1 | refine below_set ?_ GE588.out | refine below_set ?_ GE605.out) | exact HB.out))) : w.heap.size ≤ gb611)); have n9_ := Aside0.mk ((by rw [hg]; exact (below_size (by repeat (first | (with_reducible first | exact HB.out | apply below_alloc | apply pw_below_drewN | apply below_drew1 | refine below_set ?_ GE588.out | refine below_set ?_ GE605.out) | exact HB.out))) : w.heap.size ≤ gb611)); have n10_ := Aside0.mk ((by rw [hg]; exact Nat.ne_of_lt (blk_lt (g := gb588) (o := .cells #[.int .i64 a0_0, .int .i64 a0_1, .slice A0_2 l0_2.length c0_2] 24 (0, 0)) (by (with_reducible repeat (first | refine blk_drewN ?_ _ | refine blk_drew ?_ | refine blk_alloc ?_ _)); exact BK588.out)) : gb588 ≠ gb611)); have n11_ := Aside0.mk ((by rw [hg]; exact Nat.ne_of_gt (blk_lt (g := gb588) (o := .cells #[.int .i64 a0_0, .int .i64 a0_1, .slice A0_2 l0_2.length c0_2] 24 (0, 0)) (by (with_reducible repeat (first | refine blk_drewN ?_ _ | refine blk_drew ?_ | refine blk_alloc ?_ _)); exact BK588.out)) : gb611 ≠ gb588)); have n12_ := Aside0.mk ((by rw [hg]; exact Nat.ne_of_lt (blk_lt (g := gb605) (o := .cells #[.int .i64 t599, .int .i64 t600, .slice Ao36 t601.length co36] 29 (0, 0)) (by (with_reducible repeat (first | refine blk_drewN ?_ _ | refine blk_drew ?_ | refine blk_alloc ?_ _)); exact BK605.out)) : gb605 ≠ gb611)); have n13_ := Aside0.mk ((by rw [hg]; exact Nat.ne_of_gt (blk_lt (g := gb605) (o := .cells #[.int .i64 t599, .int .i64 t600, .slice Ao36 t601.length co36] 29 (0, 0)) (by (with_reducible repeat (first | refine blk_drewN ?_ _ | refine blk_drew ?_ | refine blk_alloc ?_ _)); exact BK605.out)) : gb611 ≠ gb605)); clear HO595; clear HO598; clear HO603; clear HO610; clear BK588; clear BK605; clear HB; have HO595 := n0_; have HO598 := n1_; have HO603 := n2_; have HO610 := n3_; have BK588 := n4_; have BK605 := n5_; have HB := n6_; have BK611 := n7_; have GW611 := n8_; have GE611 := n9_; have NB588_611 := n10_; have NB611_588 := n11_; have NB605_611 := n12_; have NB611_605 := n13_; clear n0_ n1_ n2_ n3_ n4_ n5_ n6_ n7_ n8_ n9_ n10_ n11_ n12_ n13_; clear hb hbox hg; have hnb40 := NB611_588.out; have hnc40 := NB588_611.out; have hnb41 := NB611_605.out; have hnc41 := NB605_611.out; have hcz42_0 : w39.cell? ⟨gb611, 0, none⟩ = some (.int .i64 0) := (blk_cell BK611.out 0).trans rfl; have hcz42_1 : w39.cell? ⟨gb611, 1, none⟩ = some (.int .i64 0) := (blk_cell BK611.out 1).trans rfl; have hcz42_2 : w39.cell? ⟨gb611, 2, none⟩ = some (.slice none 0 0) := (blk_cell BK611.out 2).trans rfl; have hfz42_0 := blk_frozen BK611.out 0; have hfz42_1 := blk_frozen BK611.out 1; have hfz42_2 := blk_frozen BK611.out 2; obtain ⟨Ao43, co43, eo43⟩ := Kd.R_slice HO610.out; subst eo43) | ((with_reducible refine gate_callee (f := 37) rfl ?_); refine goesL_ (some 44) rfl rfl Try.func37 (by kernel_rfl) rfl #[.slice A3 l3.length c3] rfl (by (try simp only [List.map_toArray, List.map_cons, List.map_nil]); first | done | rfl | (simp only [List.length_drop, List.length_take]; rfl)) ?_; (with_reducible refine (laws_toEntryS.calls k _ _ l3 t612 _ ?side1 ?side2 A20.out).mono ?_); (case side1 => exact Kd.C_below HR3.out (by repeat (first | (with_reducible first | exact HB.out | apply below_alloc | apply pw_below_drewN | apply below_drew1 | refine below_set ?_ GE588.out | refine below_set ?_ GE605.out | refine below_set ?_ GE611.out) | exact HB.out))); (case side2 => exact HC3.out); rintro e w44 ⟨v613, rfl, ho0, hb⟩; refine ⟨_, rfl, ?_⟩; have n0_ := Aside0.mk (Kd.R_elder' (by (with_reducible repeat (first | apply Kd.R_alloc | apply Kd.R_drewN | apply Kd.R_drew)); exact (Kd.R_mono (Kd.R_far (p := ⟨gb611, 2, none⟩) (Kd.R_far (p := ⟨gb611, 1, none⟩) (Kd.R_far (p := ⟨gb611, 0, none⟩) (Kd.R_types HO595.out BK611.out (by decide)) (fun _ hk => hk.2) (.int .i64 t606)) (fun _ hk => hk.2) (.int .i64 t607)) (fun _ hk => hk.2) (.slice Ao43 t608.length co43)) (fun _ h_ => h_.1))) (Kd.R_base ho0) hb); have n1_ := Aside0.mk (Kd.R_elder' (by (with_reducible repeat (first | apply Kd.R_alloc | apply Kd.R_drewN | apply Kd.R_drew)); exact (Kd.R_mono (Kd.R_far (p := ⟨gb611, 2, none⟩) (Kd.R_far (p := ⟨gb611, 1, none⟩) (Kd.R_far (p := ⟨gb611, 0, none⟩) (Kd.R_types HO598.out BK611.out (by decide)) (fun _ hk => hk.2) (.int .i64 t606)) (fun _ hk => hk.2) (.int .i64 t607)) (fun _ hk => hk.2) (.slice Ao43 t608.length co43)) (fun _ h_ => h_.1))) (Kd.R_base ho0) hb); have n2_ := Aside0.mk (Kd.R_elder' (by (with_reducible repeat (first | apply Kd.R_alloc | apply Kd.R_drewN | apply Kd.R_drew)); exact (Kd.R_mono (Kd.R_far (p := ⟨gb611, 2, none⟩) (Kd.R_far (p := ⟨gb611, 1, none⟩) (Kd.R_far (p := ⟨gb611, 0, none⟩) (Kd.R_types HO603.out BK611.out (by decide)) (fun _ hk => hk.2) (.int .i64 t606)) (fun _ hk => hk.2) (.int .i64 t607)) (fun _ hk => hk.2) (.slice Ao43 t608.length co43)) (fun _ h_ => h_.1))) (Kd.R_base ho0) hb); have n3_ := Aside0.mk (Kd.R_elder' (by (with_reducible repeat (first | apply Kd.R_alloc | apply Kd.R_drewN | apply Kd.R_drew)); exact (Kd.R_mono (Kd.R_far (p := ⟨gb611, 2, none⟩) (Kd.R_far (p := ⟨gb611, 1, none⟩) (Kd.R_far (p := ⟨gb611, 0, none⟩) (Kd.R_types HO610.out BK611.out (by decide)) (fun _ hk => hk.2) (.int .i64 t606)) (fun _ hk => hk.2) (.int .i64 t607)) (fun _ hk => hk.2) (.slice Ao43 t608.length co43)) (fun _ h_ => h_.1))) (Kd.R_base ho0) hb); have n4_ := Aside0.mk (Kd.R_lower (Kd.R_new' (Kd.R_new' (Kd.R_new' (Kd.R_new' ho0 (Kd.R_lt (by (with_reducible repeat (first | apply Kd.R_alloc | apply Kd.R_drewN | apply Kd.R_drew)); exact (Kd.R_mono (Kd.R_far (p := ⟨gb611, 2, none⟩) (Kd.R_far (p := ⟨gb611, 1, none⟩) (Kd.R_far (p := ⟨gb611, 0, none⟩) (Kd.R_types HO595.out BK611.out (by decide)) (fun _ hk => hk.2) (.int .i64 t606)) (fun _ hk => hk.2) (.int .i64 t607)) (fun _ hk => hk.2) (.slice Ao43 t608.length co43)) (fun _ h_ => h_.1))))) (Kd.R_lt (by (with_reducible repeat (first | apply Kd.R_alloc | apply Kd.R_drewN | apply Kd.R_drew)); exact (Kd.R_mono (Kd.R_far (p := ⟨gb611, 2, none⟩) (Kd.R_far (p := ⟨gb611, 1, none⟩) (Kd.R_far (p := ⟨gb611, 0, none⟩) (Kd.R_types HO598.out BK611.out (by decide)) (fun _ hk => hk.2) (.int .i64 t606)) (fun _ hk => hk.2) (.int .i64 t607)) (fun _ hk => hk.2) (.slice Ao43 t608.length co43)) (fun _ h_ => h_.1))))) (Kd.R_lt (by (with_reducible repeat (first | apply Kd.R_alloc | apply Kd.R_drewN | apply Kd.R_drew)); exact (Kd.R_mono (Kd.R_far (p := ⟨gb611, 2, none⟩) (Kd.R_far (p := ⟨gb611, 1, none⟩) (Kd.R_far (p := ⟨gb611, 0, none⟩) (Kd.R_types HO603.out BK611.out (by decide)) (fun _ hk => hk.2) (.int .i64 t606)) (fun _ hk => hk.2) (.int .i64 t607)) (fun _ hk => hk.2) (.slice Ao43 t608.length co43)) (fun _ h_ => h_.1))))) (Kd.R_lt (by (with_reducible repeat (first | apply Kd.R_alloc | apply Kd.R_drewN | apply Kd.R_drew)); exact (Kd.R_mono (Kd.R_far (p := ⟨gb611, 2, none⟩) (Kd.R_far (p := ⟨gb611, 1, none⟩) (Kd.R_far (p := ⟨gb611, 0, none⟩) (Kd.R_types HO610.out BK611.out (by decide)) (fun _ hk => hk.2) (.int .i64 t606)) (fun _ hk => hk.2) (.int .i64 t607)) (fun _ hk => hk.2) (.slice Ao43 t608.length co43)) (fun _ h_ => h_.1))))) (below_size (by repeat (first | (with_reducible first | exact HB.out | apply below_alloc | apply pw_below_drewN | apply below_drew1 | refine below_set ?_ GE588.out | refine below_set ?_ GE605.out | refine below_set ?_ GE611.out) | exact HB.out)))); have n5_ := Aside0.mk (blk_below (g := gb588) (o := .cells #[.int .i64 a0_0, .int .i64 a0_1, .slice A0_2 l0_2.length c0_2] 24 (0, 0)) (by (with_reducible repeat (first | refine blk_drewN ?_ _ | refine blk_drew ?_ | refine blk_alloc ?_ _)); refine blk_far ?_ NB588_611.out _; (with_reducible repeat (first | refine blk_drewN ?_ _ | refine blk_drew ?_ | refine blk_alloc ?_ _)); refine blk_far ?_ NB588_611.out _; (with_reducible repeat (first | refine blk_drewN ?_ _ | refine blk_drew ?_ | refine blk_alloc ?_ _)); refine blk_far ?_ NB588_611.out _; (with_reducible repeat (first | refine blk_drewN ?_ _ | refine blk_drew ?_ | refine blk_alloc ?_ _)); exact BK588.out) hb); have n6_ := Aside0.mk (blk_below (g := gb605) (o := .cells #[.int .i64 t599, .int .i64 t600, .slice Ao36 t601.length co36] 29 (0, 0)) (by (with_reducible repeat (first | refine blk_drewN ?_ _ | refine blk_drew ?_ | refine blk_alloc ?_ _)); refine blk_far ?_ NB605_611.out _; (with_reducible repeat (first | refine blk_drewN ?_ _ | refine blk_drew ?_ | refine blk_alloc ?_ _)); refine blk_far ?_ NB605_611.out _; (with_reducible repeat (first | refine blk_drewN ?_ _ | refine blk_drew ?_ | refine blk_alloc ?_ _)); refine blk_far ?_ NB605_611.out _; (with_reducible repeat (first | refine blk_drewN ?_ _ | refine blk_drew ?_ | refine blk_alloc ?_ _)); exact BK605.out) hb); have n7_ := Aside0.mk (blk_below (g := gb611) (o := .cells #[.int .i64 t606, .int .i64 t607, .slice Ao43 t608.length co43] 29 (0, 0)) (by (with_reducible repeat (first | refine blk_drewN ?_ _ | refine blk_drew ?_ | refine blk_alloc ?_ _)); refine blk_put (cs := #[.int .i64 t606, .int .i64 t607, .slice none 0 0]) ?_ 2 _ rfl; (with_reducible repeat (first | refine blk_drewN ?_ _ | refine blk_drew ?_ | refine blk_alloc ?_ _)); refine blk_put (cs := #[.int .i64 t606, .int .i64 0, .slice none 0 0]) ?_ 1 _ rfl; (with_reducible repeat (first | refine blk_drewN ?_ _ | refine blk_drew ?_ | refine blk_alloc ?_ _)); refine blk_put (cs := #[.int .i64 0, .int .i64 0, .slice none 0 0]) ?_ 0 _ rfl; (with_reducible repeat (first | refine blk_drewN ?_ _ | refine blk_drew ?_ | refine blk_alloc ?_ _)); exact BK611.out) hb); have n8_ := Aside0.mk (below_step (by repeat (first | (with_reducible first | exact HB.out | apply below_alloc | apply pw_below_drewN | apply below_drew1 | refine below_set ?_ GE588.out | refine below_set ?_ GE605.out | refine below_set ?_ GE611.out) | exact HB.out)) hb); clear HO595; clear HO598; clear HO603; clear HO610; clear BK588; clear BK605; clear BK611; clear HB; have HO595 := n0_; have HO598 := n1_; have HO603 := n2_; have HO610 := n3_; have HO614 := n4_; have BK588 := n5_; have BK605 := n6_; have BK611 := n7_; have HB := n8_; clear n0_ n1_ n2_ n3_ n4_ n5_ n6_ n7_ n8_; (try clear hb); (try clear hb2); (try clear hk); (try clear hi); (try clear ho0); have hcz45_0 : w44.cell? ⟨gb611, 0, none⟩ = some (.int .i64 t606) := (blk_cell BK611.out 0).trans rfl; have hcz45_1 : w44.cell? ⟨gb611, 1, none⟩ = some (.int .i64 t607) := (blk_cell BK611.out 1).trans rfl; have hcz45_2 : w44.cell? ⟨gb611, 2, none⟩ = some (.slice Ao43 t608.length co43) := (blk_cell BK611.out 2).trans rfl; have hfz45_0 := blk_frozen BK611.out 0; have hfz45_1 := blk_frozen BK611.out 1; have hfz45_2 := blk_frozen BK611.out 2; obtain ⟨Ao46, co46, eo46⟩ := Kd.R_slice HO614.out; subst eo46) | ((with_reducible refine gate_callee (f := 38) rfl ?_); refine goesL_ (some 50) rfl rfl Try.func38 (by kernel_rfl) rfl #[.agg #[.int .i64 t606, .int .i64 t607, .slice Ao43 t608.length co43], .int .i64 a1, .int .i64 a2, .slice Ao46 t612.length co46] rfl (by (try simp only [List.map_toArray, List.map_cons, List.map_nil]); first | done | rfl | (simp only [List.length_drop, List.length_take]; rfl)) ?_; (with_reducible refine (impl_AppendTo.calls k t606 t607 _ _ t608 a1 a2 _ _ t612 t615 t616 t617 t620 _ ?side1 ?side2 ?side3 ?side4 A21.out).mono ?_); (case side1 => repeat (first | exact (Kd.R_reads' HO610.out).2.2 | (with_reducible refine Kd.C_alloc ?_ _) | (with_reducible refine Kd.C_drewN ?_ _) | (with_reducible refine Kd.C_drew ?_))); (case side2 => exact (Kd.R_reads' HO610.out).2.1); (case side3 => repeat (first | exact (Kd.R_reads' HO614.out).2.2 | (with_reducible refine Kd.C_alloc ?_ _) | (with_reducible refine Kd.C_drewN ?_ _) | (with_reducible refine Kd.C_drew ?_))); (case side4 => exact (Kd.R_reads' HO614.out).2.1); rintro e w47 ⟨v618, rfl, ho0, hb⟩; refine ⟨_, rfl, ?_⟩; have n0_ := Aside0.mk (Kd.R_elder' (by (with_reducible repeat (first | apply Kd.R_alloc | apply Kd.R_drewN | apply Kd.R_drew)); exact HO595.out) (Kd.R_base ho0) hb); have n1_ := Aside0.mk (Kd.R_elder' (by (with_reducible repeat (first | apply Kd.R_alloc | apply Kd.R_drewN | apply Kd.R_drew)); exact HO598.out) (Kd.R_base ho0) hb); have n2_ := Aside0.mk (Kd.R_elder' (by (with_reducible repeat (first | apply Kd.R_alloc | apply Kd.R_drewN | apply Kd.R_drew)); exact HO603.out) (Kd.R_base ho0) hb); have n3_ := Aside0.mk (Kd.R_elder' (by (with_reducible repeat (first | apply Kd.R_alloc | apply Kd.R_drewN | apply Kd.R_drew)); exact HO610.out) (Kd.R_base ho0) hb); have n4_ := Aside0.mk (Kd.R_elder' (by (with_reducible repeat (first | apply Kd.R_alloc | apply Kd.R_drewN | apply Kd.R_drew)); exact HO614.out) (Kd.R_base ho0) hb); have n5_ := Aside0.mk (Kd.R_lower (Kd.R_new' (Kd.R_new' (Kd.R_new' (Kd.R_new' (Kd.R_new' ho0 (Kd.R_lt (by (with_reducible repeat (first | apply Kd.R_alloc | apply Kd.R_drewN | apply Kd.R_drew)); exact HO595.out))) (Kd.R_lt (by (with_reducible repeat (first | apply Kd.R_alloc | apply Kd.R_drewN | apply Kd.R_drew)); exact HO598.out))) (Kd.R_lt (by (with_reducible repeat (first | apply Kd.R_alloc | apply Kd.R_drewN | apply Kd.R_drew)); exact HO603.out))) (Kd.R_lt (by (with_reducible repeat (first | apply Kd.R_alloc | apply Kd.R_drewN | apply Kd.R_drew)); exact HO610.out))) (Kd.R_lt (by (with_reducible repeat (first | apply Kd.R_alloc | apply Kd.R_drewN | apply Kd.R_drew)); exact HO614.out))) (below_size (by repeat (first | (with_reducible first | exact HB.out | apply below_alloc | apply pw_below_drewN | apply below_drew1 | refine below_set ?_ GE588.out | refine below_set ?_ GE605.out | refine below_set ?_ GE611.out) | exact HB.out)))); have n6_ := Aside0.mk (blk_below (g := gb588) (o := .cells #[.int .i64 a0_0, .int .i64 a0_1, .slice A0_2 l0_2.length c0_2] 24 (0, 0)) (by (with_reducible repeat (first | refine blk_drewN ?_ _ | refine blk_drew ?_ | refine blk_alloc ?_ _)); exact BK588.out) hb); have n7_ := Aside0.mk (blk_below (g := gb605) (o := .cells #[.int .i64 t599, .int .i64 t600, .slice Ao36 t601.length co36] 29 (0, 0)) (by (with_reducible repeat (first | refine blk_drewN ?_ _ | refine blk_drew ?_ | refine blk_alloc ?_ _)); exact BK605.out) hb); have n8_ := Aside0.mk (blk_below (g := gb611) (o := .cells #[.int .i64 t606, .int .i64 t607, .slice Ao43 t608.length co43] 29 (0, 0)) (by (with_reducible repeat (first | refine blk_drewN ?_ _ | refine blk_drew ?_ | refine blk_alloc ?_ _)); exact BK611.out) hb); have n9_ := Aside0.mk (below_step (by repeat (first | (with_reducible first | exact HB.out | apply below_alloc | apply pw_below_drewN | apply below_drew1 | refine below_set ?_ GE588.out | refine below_set ?_ GE605.out | refine below_set ?_ GE611.out) | exact HB.out)) hb); clear HO595; clear HO598; clear HO603; clear HO610; clear HO614; clear BK588; clear BK605; clear BK611; clear HB; have HO595 := n0_; have HO598 := n1_; have HO603 := n2_; have HO610 := n3_; have HO614 := n4_; have HO619 := n5_; have BK588 := n6_; have BK605 := n7_; have BK611 := n8_; have HB := n9_; clear n0_ n1_ n2_ n3_ n4_ n5_ n6_ n7_ n8_ n9_; (try clear hb); (try clear hb2); (try clear hk); (try clear hi); (try clear ho0)) | ((with_reducible refine gate_dst (N := 14) rfl ?_); refine box_event ?hg (N := 14) ?hd (cs := #[.int .i64 0, .int .i64 0, .slice none 0 0]) (t := 29) ?hr ?_; (case hd => rfl); (case hg => rfl); (case hr => first | (go_simp; done) | (go_simp; rfl)); intro gb621 hg w48 hbox hb; have n0_ := Aside0.mk (Kd.R_below (by (with_reducible repeat (first | apply Kd.R_alloc | apply Kd.R_drewN | apply Kd.R_drew)); exact HO595.out) hb); have n1_ := Aside0.mk (Kd.R_below (by (with_reducible repeat (first | apply Kd.R_alloc | apply Kd.R_drewN | apply Kd.R_drew)); exact HO598.out) hb); have n2_ := Aside0.mk (Kd.R_below (by (with_reducible repeat (first | apply Kd.R_alloc | apply Kd.R_drewN | apply Kd.R_drew)); exact HO603.out) hb); have n3_ := Aside0.mk (Kd.R_below (by (with_reducible repeat (first | apply Kd.R_alloc | apply Kd.R_drewN | apply Kd.R_drew)); exact HO610.out) hb); have n4_ := Aside0.mk (Kd.R_below (by (with_reducible repeat (first | apply Kd.R_alloc | apply Kd.R_drewN | apply Kd.R_drew)); exact HO614.out) hb); have n5_ := Aside0.mk (Kd.R_below (by (with_reducible repeat (first | apply Kd.R_alloc | apply Kd.R_drewN | apply Kd.R_drew)); exact HO619.out) hb); have n6_ := Aside0.mk (blk_below (g := gb588) (o := .cells #[.int .i64 a0_0, .int .i64 a0_1, .slice A0_2 l0_2.length c0_2] 24 (0, 0)) (by (with_reducible repeat (first | refine blk_drewN ?_ _ | refine blk_drew ?_ | refine blk_alloc ?_ _)); exact BK588.out) hb); have n7_ := Aside0.mk (blk_below (g := gb605) (o := .cells #[.int .i64 t599, .int .i64 t600, .slice Ao36 t601.length co36] 29 (0, 0)) (by (with_reducible repeat (first | refine blk_drewN ?_ _ | refine blk_drew ?_ | refine blk_alloc ?_ _)); exact BK605.out) hb); have n8_ := Aside0.mk (blk_below (g := gb611) (o := .cells #[.int .i64 t606, .int .i64 t607, .slice Ao43 t608.length co43] 29 (0, 0)) (by (with_reducible repeat (first | refine blk_drewN ?_ _ | refine blk_drew ?_ | refine blk_alloc ?_ _)); exact BK611.out) hb); have n9_ := Aside0.mk (below_step (by repeat (first | (with_reducible first | exact HB.out | apply below_alloc | apply pw_below_drewN | apply below_drew1 | refine below_set ?_ GE588.out | refine below_set ?_ GE605.out | refine below_set ?_ GE611.out) | exact HB.out)) hb); have n10_ := Aside0.mk (hbox); have n11_ := Aside0.mk ((by rw [hg]; exact (below_size (by repeat (first | (with_reducible first | exact HB.out | apply below_alloc | apply pw_below_drewN | apply below_drew1 | refine below_set ?_ GE588.out | refine below_set ?_ GE605.out | refine below_set ?_ GE611.out) | exact HB.out))) : w.heap.size ≤ gb621)); have n12_ := Aside0.mk ((by rw [hg]; exact (below_size (by repeat (first | (with_reducible first | exact HB.out | apply below_alloc | apply pw_below_drewN | apply below_drew1 | refine below_set ?_ GE588.out | refine below_set ?_ GE605.out | refine below_set ?_ GE611.out) | exact HB.out))) : w.heap.size ≤ gb621)); have n13_ := Aside0.mk ((by rw [hg]; exact Nat.ne_of_lt (blk_lt (g := gb588) (o := .cells #[.int .i64 a0_0, .int .i64 a0_1, .slice A0_2 l0_2.length c0_2] 24 (0, 0)) (by (with_reducible repeat (first | refine blk_drewN ?_ _ | refine blk_drew ?_ | refine blk_alloc ?_ _)); exact BK588.out)) : gb588 ≠ gb621)); have n14_ := Aside0.mk ((by rw [hg]; exact Nat.ne_of_gt (blk_lt (g := gb588) (o := .cells #[.int .i64 a0_0, .int .i64 a0_1, .slice A0_2 l0_2.length c0_2] 24 (0, 0)) (by (with_reducible repeat (first | refine blk_drewN ?_ _ | refine blk_drew ?_ | refine blk_alloc ?_ _)); exact BK588.out)) : gb621 ≠ gb588)); have n15_ := Aside0.mk ((by rw [hg]; exact Nat.ne_of_lt (blk_lt (g := gb605) (o := .cells #[.int .i64 t599, .int .i64 t600, .slice Ao36 t601.length co36] 29 (0, 0)) (by (with_reducible repeat (first | refine blk_drewN ?_ _ | refine blk_drew ?_ | refine blk_alloc ?_ _)); exact BK605.out)) : gb605 ≠ gb621)); have n16_ := Aside0.mk ((by rw [hg]; exact Nat.ne_of_gt (blk_lt (g := gb605) (o := .cells #[.int .i64 t599, .int .i64 t600, .slice Ao36 t601.length co36] 29 (0, 0)) (by (with_reducible repeat (first | refine blk_drewN ?_ _ | refine blk_drew ?_ | refine blk_alloc ?_ _)); exact BK605.out)) : gb621 ≠ gb605)); have n17_ := Aside0.mk ((by rw [hg]; exact Nat.ne_of_lt (blk_lt (g := gb611) (o := .cells #[.int .i64 t606, .int .i64 t607, .slice Ao43 t608.length co43] 29 (0, 0)) (by (with_reducible repeat (first | refine blk_drewN ?_ _ | refine blk_drew ?_ | refine blk_alloc ?_ _)); exact BK611.out)) : gb611 ≠ gb621)); have n18_ := Aside0.mk ((by rw [hg]; exact Nat.ne_of_gt (blk_lt (g := gb611) (o := .cells #[.int .i64 t606, .int .i64 t607, .slice Ao43 t608.length co43] 29 (0, 0)) (by (with_reducible repeat (first | refine blk_drewN ?_ _ | refine blk_drew ?_ | refine blk_alloc ?_ _)); exact BK611.out)) : gb621 ≠ gb611)); clear HO595; clear HO598; clear HO603; clear HO610; clear HO614; clear HO619; clear BK588; clear BK605; clear BK611; clear HB; have HO595 := n0_; have HO598 := n1_; have HO603 := n2_; have HO610 := n3_; have HO614 := n4_; have HO619 := n5_; have BK588 := n6_; have BK605 := n7_; have BK611 := n8_; have HB := n9_; have BK621 := n10_; have GW621 := n11_; have GE621 := n12_; have NB588_621 := n13_; have NB621_588 := n14_; have NB605_621 := n15_; have NB621_605 := n16_; have NB611_621 := n17_; have NB621_611 := n18_; clear n0_ n1_ n2_ n3_ n4_ n5_ n6_ n7_ n8_ n9_ n10_ n11_ n12_ n13_ n14_ n15_ n16_ n17_ n18_; clear hb hbox hg; have hnb49 := NB621_588.out; have hnc49 := NB588_621.out; have hnb50 := NB621_605.out; have hnc50 := NB605_621.out; have hnb51 := NB621_611.out; have hnc51 := NB611_621.out; have hcz52_0 : w48.cell? ⟨gb621, 0, none⟩ = some (.int .i64 0) := (blk_cell BK621.out 0).trans rfl; have hcz52_1 : w48.cell? ⟨gb621, 1, none⟩ = some (.int .i64 0) := (blk_cell BK621.out 1).trans rfl; have hcz52_2 : w48.cell? ⟨gb621, 2, none⟩ = some (.slice none 0 0) := (blk_cell BK621.out 2).trans rfl; have hfz52_0 := blk_frozen BK621.out 0; have hfz52_1 := blk_frozen BK621.out 1; have hfz52_2 := blk_frozen BK621.out 2; obtain ⟨Ao53, co53, eo53⟩ := Kd.R_slice HO619.out; subst eo53))
      (try simp only [Act.put, List.setIfInBounds_toArray, List.set_cons_zero, List.set_cons_succ])
      go_cut [61] (fun v61 wc => ∃ (kq : Nat) (x61_21 : Bool), v61 = .bool x61_21 ∧ Aside0 (laws_FnExactAppendTo.j0 kq a1 a2 l3 t604 t612 t620 x61_21 a0_0 a0_1 l0_2 t599 t600 t601 t606 t607 t608 t615 t616 t617 = some r) ∧ Aside0 (kq ≤ k) ∧ Aside0 (Kd.R k54 54 wc w.heap.size (fun k_ => some k_ ≠ ((.slice Ao36 t601.length co36) : Value).ownBlock ∧ some k_ ≠ ((.slice Ao43 t608.length co43) : Value).ownBlock ∧ some k_ ≠ ((.slice Ao53 t617.length co53) : Value).ownBlock) (.slice Ao46 t612.length co46) t612) ∧ Aside0 (Kd.R k54 54 wc w.heap.size (fun k_ => some k_ ≠ ((.slice Ao46 t612.length co46) : Value).ownBlock ∧ some k_ ≠ ((.slice Ao43 t608.length co43) : Value).ownBlock ∧ some k_ ≠ ((.slice Ao53 t617.length co53) : Value).ownBlock) (.slice Ao36 t601.length co36) t601) ∧ Aside0 (Kd.R k54 54 wc w.heap.size (fun k_ => some k_ ≠ ((.slice Ao46 t612.length co46) : Value).ownBlock ∧ some k_ ≠ ((.slice Ao36 t601.length co36) : Value).ownBlock ∧ some k_ ≠ ((.slice Ao53 t617.length co53) : Value).ownBlock) (.slice Ao43 t608.length co43) t608) ∧ Aside0 (Kd.R k54 54 wc w.heap.size (fun k_ => some k_ ≠ ((.slice Ao46 t612.length co46) : Value).ownBlock ∧ some k_ ≠ ((.slice Ao36 t601.length co36) : Value).ownBlock ∧ some k_ ≠ ((.slice Ao43 t608.length co43) : Value).ownBlock) (.slice Ao53 t617.length co53) t617) ∧ Aside0 (wc.heap[gb588]? = some (.cells #[.int .i64 a0_0, .int .i64 a0_1, (.slice A0_2 l0_2.length c0_2)] 24 (0, 0))) ∧ Aside0 (wc.heap[gb605]? = some (.cells #[.int .i64 t599, .int .i64 t600, (.slice Ao36 t601.length co36)] 29 (0, 0))) ∧ Aside0 (wc.heap[gb611]? = some (.cells #[.int .i64 t606, .int .i64 t607, (.slice Ao43 t608.length co43)] 29 (0, 0))) ∧ Aside0 (wc.heap[gb621]? = some (.cells #[.int .i64 t615, .int .i64 t616, (.slice Ao53 t617.length co53)] 29 (0, 0))) ∧ Aside0 (Below w.heap.size w wc))
      case first =>
        have H := HC22.out
        clear HC22
        replace H := Option.bind_eq_some_iff.mp H
        obtain ⟨t622, A540, H⟩ := H
        replace H : (if t622 = true then (laws_FnExactAppendTo.j0 k a1 a2 l3 t604 t612 t620 (t620 != t604) a0_0 a0_1 l0_2 t599 t600 t601 t606 t607 t608 t615 t616 t617) else (laws_FnExactAppendTo.j0 k a1 a2 l3 t604 t612 t620 true a0_0 a0_1 l0_2 t599 t600 t601 t606 t607 t608 t615 t616 t617)) = some r := H
        have A54 := Aside0.mk A540
        clear A540
        by_cases c55 : t622 = true
        · subst c55
          have H1 : (laws_FnExactAppendTo.j0 k a1 a2 l3 t604 t612 t620 (t620 != t604) a0_0 a0_1 l0_2 t599 t600 t601 t606 t607 t608 t615 t616 t617) = some r := by rw [if_pos rfl] at H; exact H
          clear H
          have H := H1
          clear H1
          have H' := Aside0.mk H
          clear H
          have hnb56 := NB621_588.out
          have hnc56 := NB588_621.out
          have hnb57 := NB621_605.out
          have hnc57 := NB605_621.out
          have hnb58 := NB621_611.out
          have hnc58 := NB611_621.out
          have hcz59_0 : w48.cell? ⟨gb621, 0, none⟩ = some (.int .i64 0) := (blk_cell BK621.out 0).trans rfl
          have hcz59_1 : w48.cell? ⟨gb621, 1, none⟩ = some (.int .i64 0) := (blk_cell BK621.out 1).trans rfl
          have hcz59_2 : w48.cell? ⟨gb621, 2, none⟩ = some (.slice none 0 0) := (blk_cell BK621.out 2).trans rfl
          have hfz59_0 := blk_frozen BK621.out 0
          have hfz59_1 := blk_frozen BK621.out 1
          have hfz59_2 := blk_frozen BK621.out 2
          have hnb60 := NB605_588.out
          have hnc60 := NB588_605.out
          have hnb61 := NB605_611.out
          have hnc61 := NB611_605.out
          have hcz62_0 : w48.cell? ⟨gb605, 0, none⟩ = some (.int .i64 t599) := (blk_cell BK605.out 0).trans rfl
          have hcz62_1 : w48.cell? ⟨gb605, 1, none⟩ = some (.int .i64 t600) := (blk_cell BK605.out 1).trans rfl
          have hcz62_2 : w48.cell? ⟨gb605, 2, none⟩ = some (.slice Ao36 t601.length co36) := (blk_cell BK605.out 2).trans rfl
          have hfz62_0 := blk_frozen BK605.out 0
          have hfz62_1 := blk_frozen BK605.out 1
          have hfz62_2 := blk_frozen BK605.out 2
          go_wp2_with (first | ((with_reducible refine gate_callee (f := 17) rfl ?_); refine goesL_ (some 55) rfl rfl Try.func17 (by kernel_rfl) rfl #[.agg #[.int .i64 t615, .int .i64 t616, .slice Ao53 t617.length co53], .agg #[.int .i64 t599, .int .i64 t600, .slice Ao36 t601.length co36]] rfl (by (try simp only [List.map_toArray, List.map_cons, List.map_nil]); first | done | rfl | (simp only [List.length_drop, List.length_take]; rfl)) ?_; (with_reducible refine (laws_eqRLog.calls k t615 t616 _ _ t617 t599 t600 _ _ t601 true _ ?side1 ?side2 ?side3 ?side4 A54.out).mono ?_); (case side1 => refine (Kd.R_reads' (e := 54) (base := w.heap.size) (ok := fun k_ => (((((True ∧ some k_ ≠ (.slice Ao30 t593.length co30 : Value).ownBlock) ∧ some k_ ≠ (.slice Ao31 t596.length co31 : Value).ownBlock) ∧ some k_ ≠ (.slice Ao36 t601.length co36 : Value).ownBlock) ∧ some k_ ≠ (.slice Ao43 t608.length co43 : Value).ownBlock) ∧ some k_ ≠ (.slice Ao46 t612.length co46 : Value).ownBlock)) (n := t617.length) (c := co53) ?_).2.2; exact (by (with_reducible repeat (first | apply Kd.R_alloc | apply Kd.R_drewN | apply Kd.R_drew)); exact (Kd.R_mono (Kd.R_far (p := ⟨gb621, 2, none⟩) (Kd.R_far (p := ⟨gb621, 1, none⟩) (Kd.R_far (p := ⟨gb621, 0, none⟩) (Kd.R_types HO619.out BK621.out (by decide)) (fun _ hk => hk.2) (.int .i64 t615)) (fun _ hk => hk.2) (.int .i64 t616)) (fun _ hk => hk.2) (.slice Ao53 t617.length co53)) (fun _ h_ => h_.1)))); (case side2 => exact (Kd.R_reads' HO619.out).2.1); (case side3 => refine (Kd.R_reads' (e := 54) (base := w.heap.size) (ok := fun k_ => (((((True ∧ some k_ ≠ (.slice Ao30 t593.length co30 : Value).ownBlock) ∧ some k_ ≠ (.slice Ao31 t596.length co31 : Value).ownBlock) ∧ some k_ ≠ (.slice Ao43 t608.length co43 : Value).ownBlock) ∧ some k_ ≠ (.slice Ao46 t612.length co46 : Value).ownBlock) ∧ some k_ ≠ (.slice Ao53 t617.length co53 : Value).ownBlock)) (n := t601.length) (c := co36) ?_).2.2; exact (by (with_reducible repeat (first | apply Kd.R_alloc | apply Kd.R_drewN | apply Kd.R_drew)); exact (Kd.R_mono (Kd.R_far (p := ⟨gb621, 2, none⟩) (Kd.R_far (p := ⟨gb621, 1, none⟩) (Kd.R_far (p := ⟨gb621, 0, none⟩) (Kd.R_types HO603.out BK621.out (by decide)) (fun _ hk => hk.2) (.int .i64 t615)) (fun _ hk => hk.2) (.int .i64 t616)) (fun _ hk => hk.2) (.slice Ao53 t617.length co53)) (fun _ h_ => h_.1)))); (case side4 => exact (Kd.R_reads' HO603.out).2.1); rintro e w63 ⟨rfl, hb⟩; refine ⟨_, rfl, ?_⟩; have n0_ := Aside0.mk (Kd.R_below (by (with_reducible repeat (first | apply Kd.R_alloc | apply Kd.R_drewN | apply Kd.R_drew)); exact (Kd.R_mono (Kd.R_far (p := ⟨gb621, 2, none⟩) (Kd.R_far (p := ⟨gb621, 1, none⟩) (Kd.R_far (p := ⟨gb621, 0, none⟩) (Kd.R_types HO595.out BK621.out (by decide)) (fun _ hk => hk.2) (.int .i64 t615)) (fun _ hk => hk.2) (.int .i64 t616)) (fun _ hk => hk.2) (.slice Ao53 t617.length co53)) (fun _ h_ => h_.1))) hb); have n1_ := Aside0.mk (Kd.R_below (by (with_reducible repeat (first | apply Kd.R_alloc | apply Kd.R_drewN | apply Kd.R_drew)); exact (Kd.R_mono (Kd.R_far (p := ⟨gb621, 2, none⟩) (Kd.R_far (p := ⟨gb621, 1, none⟩) (Kd.R_far (p := ⟨gb621, 0, none⟩) (Kd.R_types HO598.out BK621.out (by decide)) (fun _ hk => hk.2) (.int .i64 t615)) (fun _ hk => hk.2) (.int .i64 t616)) (fun _ hk => hk.2) (.slice Ao53 t617.length co53)) (fun _ h_ => h_.1))) hb); have n2_ := Aside0.mk (Kd.R_below (by (with_reducible repeat (first | apply Kd.R_alloc | apply Kd.R_drewN | apply Kd.R_drew)); exact (Kd.R_mono (Kd.R_far (p := ⟨gb621, 2, none⟩) (Kd.R_far (p := ⟨gb621, 1, none⟩) (Kd.R_far (p := ⟨gb621, 0, none⟩) (Kd.R_types HO603.out BK621.out (by decide)) (fun _ hk => hk.2) (.int .i64 t615)) (fun _ hk => hk.2) (.int .i64 t616)) (fun _ hk => hk.2) (.slice Ao53 t617.length co53)) (fun _ h_ => h_.1))) hb); have n3_ := Aside0.mk (Kd.R_below (by (with_reducible repeat (first | apply Kd.R_alloc | apply Kd.R_drewN | apply Kd.R_drew)); exact (Kd.R_mono (Kd.R_far (p := ⟨gb621, 2, none⟩) (Kd.R_far (p := ⟨gb621, 1, none⟩) (Kd.R_far (p := ⟨gb621, 0, none⟩) (Kd.R_types HO610.out BK621.out (by decide)) (fun _ hk => hk.2) (.int .i64 t615)) (fun _ hk => hk.2) (.int .i64 t616)) (fun _ hk => hk.2) (.slice Ao53 t617.length co53)) (fun _ h_ => h_.1))) hb); have n4_ := Aside0.mk (Kd.R_below (by (with_reducible repeat (first | apply Kd.R_alloc | apply Kd.R_drewN | apply Kd.R_drew)); exact (Kd.R_mono (Kd.R_far (p := ⟨gb621, 2, none⟩) (Kd.R_far (p := ⟨gb621, 1, none⟩) (Kd.R_far (p := ⟨gb621, 0, none⟩) (Kd.R_types HO614.out BK621.out (by decide)) (fun _ hk => hk.2) (.int .i64 t615)) (fun _ hk => hk.2) (.int .i64 t616)) (fun _ hk => hk.2) (.slice Ao53 t617.length co53)) (fun _ h_ => h_.1))) hb); have n5_ := Aside0.mk (Kd.R_below (by (with_reducible repeat (first | apply Kd.R_alloc | apply Kd.R_drewN | apply Kd.R_drew)); exact (Kd.R_mono (Kd.R_far (p := ⟨gb621, 2, none⟩) (Kd.R_far (p := ⟨gb621, 1, none⟩) (Kd.R_far (p := ⟨gb621, 0, none⟩) (Kd.R_types HO619.out BK621.out (by decide)) (fun _ hk => hk.2) (.int .i64 t615)) (fun _ hk => hk.2) (.int .i64 t616)) (fun _ hk => hk.2) (.slice Ao53 t617.length co53)) (fun _ h_ => h_.1))) hb); have n6_ := Aside0.mk (blk_below (g := gb588) (o := .cells #[.int .i64 a0_0, .int .i64 a0_1, .slice A0_2 l0_2.length c0_2] 24 (0, 0)) (by (with_reducible repeat (first | refine blk_drewN ?_ _ | refine blk_drew ?_ | refine blk_alloc ?_ _)); refine blk_far ?_ NB588_621.out _; (with_reducible repeat (first | refine blk_drewN ?_ _ | refine blk_drew ?_ | refine blk_alloc ?_ _)); refine blk_far ?_ NB588_621.out _; (with_reducible repeat (first | refine blk_drewN ?_ _ | refine blk_drew ?_ | refine blk_alloc ?_ _)); refine blk_far ?_ NB588_621.out _; (with_reducible repeat (first | refine blk_drewN ?_ _ | refine blk_drew ?_ | refine blk_alloc ?_ _)); exact BK588.out) hb); have n7_ := Aside0.mk (blk_below (g := gb605) (o := .cells #[.int .i64 t599, .int .i64 t600, .slice Ao36 t601.length co36] 29 (0, 0)) (by (with_reducible repeat (first | refine blk_drewN ?_ _ | refine blk_drew ?_ | refine blk_alloc ?_ _)); refine blk_far ?_ NB605_621.out _; (with_reducible repeat (first | refine blk_drewN ?_ _ | refine blk_drew ?_ | refine blk_alloc ?_ _)); refine blk_far ?_ NB605_621.out _; (with_reducible repeat (first | refine blk_drewN ?_ _ | refine blk_drew ?_ | refine blk_alloc ?_ _)); refine blk_far ?_ NB605_621.out _; (with_reducible repeat (first | refine blk_drewN ?_ _ | refine blk_drew ?_ | refine blk_alloc ?_ _)); exact BK605.out) hb); have n8_ := Aside0.mk (blk_below (g := gb611) (o := .cells #[.int .i64 t606, .int .i64 t607, .slice Ao43 t608.length co43] 29 (0, 0)) (by (with_reducible repeat (first | refine blk_drewN ?_ _ | refine blk_drew ?_ | refine blk_alloc ?_ _)); refine blk_far ?_ NB611_621.out _; (with_reducible repeat (first | refine blk_drewN ?_ _ | refine blk_drew ?_ | refine blk_alloc ?_ _)); refine blk_far ?_ NB611_621.out _; (with_reducible repeat (first | refine blk_drewN ?_ _ | refine blk_drew ?_ | refine blk_alloc ?_ _)); refine blk_far ?_ NB611_621.out _; (with_reducible repeat (first | refine blk_drewN ?_ _ | refine blk_drew ?_ | refine blk_alloc ?_ _)); exact BK611.out) hb); have n9_ := Aside0.mk (blk_below (g := gb621) (o := .cells #[.int .i64 t615, .int .i64 t616, .slice Ao53 t617.length co53] 29 (0, 0)) (by (with_reducible repeat (first | refine blk_drewN ?_ _ | refine blk_drew ?_ | refine blk_alloc ?_ _)); refine blk_put (cs := #[.int .i64 t615, .int .i64 t616, .slice none 0 0]) ?_ 2 _ rfl; (with_reducible repeat (first | refine blk_drewN ?_ _ | refine blk_drew ?_ | refine blk_alloc ?_ _)); refine blk_put (cs := #[.int .i64 t615, .int .i64 0, .slice none 0 0]) ?_ 1 _ rfl; (with_reducible repeat (first | refine blk_drewN ?_ _ | refine blk_drew ?_ | refine blk_alloc ?_ _)); refine blk_put (cs := #[.int .i64 0, .int .i64 0, .slice none 0 0]) ?_ 0 _ rfl; (with_reducible repeat (first | refine blk_drewN ?_ _ | refine blk_drew ?_ | refine blk_alloc ?_ _)); exact BK621.out) hb); have n10_ := Aside0.mk (below_step (by repeat (first | (with_reducible first | exact HB.out | apply below_alloc | apply pw_below_drewN | apply below_drew1 | refine below_set ?_ GE588.out | refine below_set ?_ GE605.out | refine below_set ?_ GE611.out | refine below_set ?_ GE621.out) | exact HB.out)) hb); clear HO595; clear HO598; clear HO603; clear HO610; clear HO614; clear HO619; clear BK588; clear BK605; clear BK611; clear BK621; clear HB; have HO595 := n0_; have HO598 := n1_; have HO603 := n2_; have HO610 := n3_; have HO614 := n4_; have HO619 := n5_; have BK588 := n6_; have BK605 := n7_; have BK611 := n8_; have BK621 := n9_; have HB := n10_; clear n0_ n1_ n2_ n3_ n4_ n5_ n6_ n7_ n8_ n9_ n10_; (try clear hb); (try clear hb2); (try clear hk); (try clear hi)))
          go_meet
          case rel => exact ⟨_, ((t620 != t604)), (by first | rfl | (simp; done) | (simp [*]; done)), H', ⟨by first | omega | exact Nat.le_refl _⟩, ⟨by (with_reducible repeat (first | apply Kd.R_alloc | apply Kd.R_drewN | apply Kd.R_drew)); exact Kd.R_mono HO614.out (fun _ hk => ⟨hk.1.1.2, ⟨hk.1.2, hk.2⟩⟩)⟩, ⟨by (with_reducible repeat (first | apply Kd.R_alloc | apply Kd.R_drewN | apply Kd.R_drew)); exact Kd.R_mono HO603.out (fun _ hk => ⟨hk.1.2, ⟨hk.1.1.2, hk.2⟩⟩)⟩, ⟨by (with_reducible repeat (first | apply Kd.R_alloc | apply Kd.R_drewN | apply Kd.R_drew)); exact Kd.R_mono HO610.out (fun _ hk => ⟨hk.1.2, ⟨hk.1.1.2, hk.2⟩⟩)⟩, ⟨by (with_reducible repeat (first | apply Kd.R_alloc | apply Kd.R_drewN | apply Kd.R_drew)); exact Kd.R_mono HO619.out (fun _ hk => ⟨hk.2, ⟨hk.1.1.2, hk.1.2⟩⟩)⟩, ⟨by (with_reducible repeat (first | refine blk_drewN ?_ _ | refine blk_drew ?_ | refine blk_alloc ?_ _)); exact BK588.out⟩, ⟨by (with_reducible repeat (first | refine blk_drewN ?_ _ | refine blk_drew ?_ | refine blk_alloc ?_ _)); exact BK605.out⟩, ⟨by (with_reducible repeat (first | refine blk_drewN ?_ _ | refine blk_drew ?_ | refine blk_alloc ?_ _)); exact BK611.out⟩, ⟨by (with_reducible repeat (first | refine blk_drewN ?_ _ | refine blk_drew ?_ | refine blk_alloc ?_ _)); exact BK621.out⟩, ⟨by repeat (first | (with_reducible first | exact HB.out | apply below_alloc | apply pw_below_drewN | apply below_drew1 | refine below_set ?_ GE588.out | refine below_set ?_ GE605.out | refine below_set ?_ GE611.out | refine below_set ?_ GE621.out) | exact HB.out)⟩⟩
        · replace c55 := Bool.eq_false_iff.mpr c55
          subst c55
          have H1 : (laws_FnExactAppendTo.j0 k a1 a2 l3 t604 t612 t620 true a0_0 a0_1 l0_2 t599 t600 t601 t606 t607 t608 t615 t616 t617) = some r := by rw [if_neg (show ¬ (false = true) by decide)] at H; exact H
          clear H
          have H := H1
          clear H1
          have H' := Aside0.mk H
          clear H
          have hnb64 := NB621_588.out
          have hnc64 := NB588_621.out
          have hnb65 := NB621_605.out
          have hnc65 := NB605_621.out
          have hnb66 := NB621_611.out
          have hnc66 := NB611_621.out
          have hcz67_0 : w48.cell? ⟨gb621, 0, none⟩ = some (.int .i64 0) := (blk_cell BK621.out 0).trans rfl
          have hcz67_1 : w48.cell? ⟨gb621, 1, none⟩ = some (.int .i64 0) := (blk_cell BK621.out 1).trans rfl
          have hcz67_2 : w48.cell? ⟨gb621, 2, none⟩ = some (.slice none 0 0) := (blk_cell BK621.out 2).trans rfl
          have hfz67_0 := blk_frozen BK621.out 0
          have hfz67_1 := blk_frozen BK621.out 1
          have hfz67_2 := blk_frozen BK621.out 2
          have hnb68 := NB605_588.out
          have hnc68 := NB588_605.out
          have hnb69 := NB605_611.out
          have hnc69 := NB611_605.out
          have hcz70_0 : w48.cell? ⟨gb605, 0, none⟩ = some (.int .i64 t599) := (blk_cell BK605.out 0).trans rfl
          have hcz70_1 : w48.cell? ⟨gb605, 1, none⟩ = some (.int .i64 t600) := (blk_cell BK605.out 1).trans rfl
          have hcz70_2 : w48.cell? ⟨gb605, 2, none⟩ = some (.slice Ao36 t601.length co36) := (blk_cell BK605.out 2).trans rfl
          have hfz70_0 := blk_frozen BK605.out 0
          have hfz70_1 := blk_frozen BK605.out 1
          have hfz70_2 := blk_frozen BK605.out 2
          go_wp2_with (first | ((with_reducible refine gate_callee (f := 17) rfl ?_); refine goesL_ (some 55) rfl rfl Try.func17 (by kernel_rfl) rfl #[.agg #[.int .i64 t615, .int .i64 t616, .slice Ao53 t617.length co53], .agg #[.int .i64 t599, .int .i64 t600, .slice Ao36 t601.length co36]] rfl (by (try simp only [List.map_toArray, List.map_cons, List.map_nil]); first | done | rfl | (simp only [List.length_drop, List.length_take]; rfl)) ?_; (with_reducible refine (laws_eqRLog.calls k t615 t616 _ _ t617 t599 t600 _ _ t601 false _ ?side1 ?side2 ?side3 ?side4 A54.out).mono ?_); (case side1 => refine (Kd.R_reads' (e := 54) (base := w.heap.size) (ok := fun k_ => (((((True ∧ some k_ ≠ (.slice Ao30 t593.length co30 : Value).ownBlock) ∧ some k_ ≠ (.slice Ao31 t596.length co31 : Value).ownBlock) ∧ some k_ ≠ (.slice Ao36 t601.length co36 : Value).ownBlock) ∧ some k_ ≠ (.slice Ao43 t608.length co43 : Value).ownBlock) ∧ some k_ ≠ (.slice Ao46 t612.length co46 : Value).ownBlock)) (n := t617.length) (c := co53) ?_).2.2; exact (by (with_reducible repeat (first | apply Kd.R_alloc | apply Kd.R_drewN | apply Kd.R_drew)); exact (Kd.R_mono (Kd.R_far (p := ⟨gb621, 2, none⟩) (Kd.R_far (p := ⟨gb621, 1, none⟩) (Kd.R_far (p := ⟨gb621, 0, none⟩) (Kd.R_types HO619.out BK621.out (by decide)) (fun _ hk => hk.2) (.int .i64 t615)) (fun _ hk => hk.2) (.int .i64 t616)) (fun _ hk => hk.2) (.slice Ao53 t617.length co53)) (fun _ h_ => h_.1)))); (case side2 => exact (Kd.R_reads' HO619.out).2.1); (case side3 => refine (Kd.R_reads' (e := 54) (base := w.heap.size) (ok := fun k_ => (((((True ∧ some k_ ≠ (.slice Ao30 t593.length co30 : Value).ownBlock) ∧ some k_ ≠ (.slice Ao31 t596.length co31 : Value).ownBlock) ∧ some k_ ≠ (.slice Ao43 t608.length co43 : Value).ownBlock) ∧ some k_ ≠ (.slice Ao46 t612.length co46 : Value).ownBlock) ∧ some k_ ≠ (.slice Ao53 t617.length co53 : Value).ownBlock)) (n := t601.length) (c := co36) ?_).2.2; exact (by (with_reducible repeat (first | apply Kd.R_alloc | apply Kd.R_drewN | apply Kd.R_drew)); exact (Kd.R_mono (Kd.R_far (p := ⟨gb621, 2, none⟩) (Kd.R_far (p := ⟨gb621, 1, none⟩) (Kd.R_far (p := ⟨gb621, 0, none⟩) (Kd.R_types HO603.out BK621.out (by decide)) (fun _ hk => hk.2) (.int .i64 t615)) (fun _ hk => hk.2) (.int .i64 t616)) (fun _ hk => hk.2) (.slice Ao53 t617.length co53)) (fun _ h_ => h_.1)))); (case side4 => exact (Kd.R_reads' HO603.out).2.1); rintro e w71 ⟨rfl, hb⟩; refine ⟨_, rfl, ?_⟩; have n0_ := Aside0.mk (Kd.R_below (by (with_reducible repeat (first | apply Kd.R_alloc | apply Kd.R_drewN | apply Kd.R_drew)); exact (Kd.R_mono (Kd.R_far (p := ⟨gb621, 2, none⟩) (Kd.R_far (p := ⟨gb621, 1, none⟩) (Kd.R_far (p := ⟨gb621, 0, none⟩) (Kd.R_types HO595.out BK621.out (by decide)) (fun _ hk => hk.2) (.int .i64 t615)) (fun _ hk => hk.2) (.int .i64 t616)) (fun _ hk => hk.2) (.slice Ao53 t617.length co53)) (fun _ h_ => h_.1))) hb); have n1_ := Aside0.mk (Kd.R_below (by (with_reducible repeat (first | apply Kd.R_alloc | apply Kd.R_drewN | apply Kd.R_drew)); exact (Kd.R_mono (Kd.R_far (p := ⟨gb621, 2, none⟩) (Kd.R_far (p := ⟨gb621, 1, none⟩) (Kd.R_far (p := ⟨gb621, 0, none⟩) (Kd.R_types HO598.out BK621.out (by decide)) (fun _ hk => hk.2) (.int .i64 t615)) (fun _ hk => hk.2) (.int .i64 t616)) (fun _ hk => hk.2) (.slice Ao53 t617.length co53)) (fun _ h_ => h_.1))) hb); have n2_ := Aside0.mk (Kd.R_below (by (with_reducible repeat (first | apply Kd.R_alloc | apply Kd.R_drewN | apply Kd.R_drew)); exact (Kd.R_mono (Kd.R_far (p := ⟨gb621, 2, none⟩) (Kd.R_far (p := ⟨gb621, 1, none⟩) (Kd.R_far (p := ⟨gb621, 0, none⟩) (Kd.R_types HO603.out BK621.out (by decide)) (fun _ hk => hk.2) (.int .i64 t615)) (fun _ hk => hk.2) (.int .i64 t616)) (fun _ hk => hk.2) (.slice Ao53 t617.length co53)) (fun _ h_ => h_.1))) hb); have n3_ := Aside0.mk (Kd.R_below (by (with_reducible repeat (first | apply Kd.R_alloc | apply Kd.R_drewN | apply Kd.R_drew)); exact (Kd.R_mono (Kd.R_far (p := ⟨gb621, 2, none⟩) (Kd.R_far (p := ⟨gb621, 1, none⟩) (Kd.R_far (p := ⟨gb621, 0, none⟩) (Kd.R_types HO610.out BK621.out (by decide)) (fun _ hk => hk.2) (.int .i64 t615)) (fun _ hk => hk.2) (.int .i64 t616)) (fun _ hk => hk.2) (.slice Ao53 t617.length co53)) (fun _ h_ => h_.1))) hb); have n4_ := Aside0.mk (Kd.R_below (by (with_reducible repeat (first | apply Kd.R_alloc | apply Kd.R_drewN | apply Kd.R_drew)); exact (Kd.R_mono (Kd.R_far (p := ⟨gb621, 2, none⟩) (Kd.R_far (p := ⟨gb621, 1, none⟩) (Kd.R_far (p := ⟨gb621, 0, none⟩) (Kd.R_types HO614.out BK621.out (by decide)) (fun _ hk => hk.2) (.int .i64 t615)) (fun _ hk => hk.2) (.int .i64 t616)) (fun _ hk => hk.2) (.slice Ao53 t617.length co53)) (fun _ h_ => h_.1))) hb); have n5_ := Aside0.mk (Kd.R_below (by (with_reducible repeat (first | apply Kd.R_alloc | apply Kd.R_drewN | apply Kd.R_drew)); exact (Kd.R_mono (Kd.R_far (p := ⟨gb621, 2, none⟩) (Kd.R_far (p := ⟨gb621, 1, none⟩) (Kd.R_far (p := ⟨gb621, 0, none⟩) (Kd.R_types HO619.out BK621.out (by decide)) (fun _ hk => hk.2) (.int .i64 t615)) (fun _ hk => hk.2) (.int .i64 t616)) (fun _ hk => hk.2) (.slice Ao53 t617.length co53)) (fun _ h_ => h_.1))) hb); have n6_ := Aside0.mk (blk_below (g := gb588) (o := .cells #[.int .i64 a0_0, .int .i64 a0_1, .slice A0_2 l0_2.length c0_2] 24 (0, 0)) (by (with_reducible repeat (first | refine blk_drewN ?_ _ | refine blk_drew ?_ | refine blk_alloc ?_ _)); refine blk_far ?_ NB588_621.out _; (with_reducible repeat (first | refine blk_drewN ?_ _ | refine blk_drew ?_ | refine blk_alloc ?_ _)); refine blk_far ?_ NB588_621.out _; (with_reducible repeat (first | refine blk_drewN ?_ _ | refine blk_drew ?_ | refine blk_alloc ?_ _)); refine blk_far ?_ NB588_621.out _; (with_reducible repeat (first | refine blk_drewN ?_ _ | refine blk_drew ?_ | refine blk_alloc ?_ _)); exact BK588.out) hb); have n7_ := Aside0.mk (blk_below (g := gb605) (o := .cells #[.int .i64 t599, .int .i64 t600, .slice Ao36 t601.length co36] 29 (0, 0)) (by (with_reducible repeat (first | refine blk_drewN ?_ _ | refine blk_drew ?_ | refine blk_alloc ?_ _)); refine blk_far ?_ NB605_621.out _; (with_reducible repeat (first | refine blk_drewN ?_ _ | refine blk_drew ?_ | refine blk_alloc ?_ _)); refine blk_far ?_ NB605_621.out _; (with_reducible repeat (first | refine blk_drewN ?_ _ | refine blk_drew ?_ | refine blk_alloc ?_ _)); refine blk_far ?_ NB605_621.out _; (with_reducible repeat (first | refine blk_drewN ?_ _ | refine blk_drew ?_ | refine blk_alloc ?_ _)); exact BK605.out) hb); have n8_ := Aside0.mk (blk_below (g := gb611) (o := .cells #[.int .i64 t606, .int .i64 t607, .slice Ao43 t608.length co43] 29 (0, 0)) (by (with_reducible repeat (first | refine blk_drewN ?_ _ | refine blk_drew ?_ | refine blk_alloc ?_ _)); refine blk_far ?_ NB611_621.out _; (with_reducible repeat (first | refine blk_drewN ?_ _ | refine blk_drew ?_ | refine blk_alloc ?_ _)); refine blk_far ?_ NB611_621.out _; (with_reducible repeat (first | refine blk_drewN ?_ _ | refine blk_drew ?_ | refine blk_alloc ?_ _)); refine blk_far ?_ NB611_621.out _; (with_reducible repeat (first | refine blk_drewN ?_ _ | refine blk_drew ?_ | refine blk_alloc ?_ _)); exact BK611.out) hb); have n9_ := Aside0.mk (blk_below (g := gb621) (o := .cells #[.int .i64 t615, .int .i64 t616, .slice Ao53 t617.length co53] 29 (0, 0)) (by (with_reducible repeat (first | refine blk_drewN ?_ _ | refine blk_drew ?_ | refine blk_alloc ?_ _)); refine blk_put (cs := #[.int .i64 t615, .int .i64 t616, .slice none 0 0]) ?_ 2 _ rfl; (with_reducible repeat (first | refine blk_drewN ?_ _ | refine blk_drew ?_ | refine blk_alloc ?_ _)); refine blk_put (cs := #[.int .i64 t615, .int .i64 0, .slice none 0 0]) ?_ 1 _ rfl; (with_reducible repeat (first | refine blk_drewN ?_ _ | refine blk_drew ?_ | refine blk_alloc ?_ _)); refine blk_put (cs := #[.int .i64 0, .int .i64 0, .slice none 0 0]) ?_ 0 _ rfl; (with_reducible repeat (first | refine blk_drewN ?_ _ | refine blk_drew ?_ | refine blk_alloc ?_ _)); exact BK621.out) hb); have n10_ := Aside0.mk (below_step (by repeat (first | (with_reducible first | exact HB.out | apply below_alloc | apply pw_below_drewN | apply below_drew1 | refine below_set ?_ GE588.out | refine below_set ?_ GE605.out | refine below_set ?_ GE611.out | refine below_set ?_ GE621.out) | exact HB.out)) hb); clear HO595; clear HO598; clear HO603; clear HO610; clear HO614; clear HO619; clear BK588; clear BK605; clear BK611; clear BK621; clear HB; have HO595 := n0_; have HO598 := n1_; have HO603 := n2_; have HO610 := n3_; have HO614 := n4_; have HO619 := n5_; have BK588 := n6_; have BK605 := n7_; have BK611 := n8_; have BK621 := n9_; have HB := n10_; clear n0_ n1_ n2_ n3_ n4_ n5_ n6_ n7_ n8_ n9_ n10_; (try clear hb); (try clear hb2); (try clear hk); (try clear hi)))
          go_meet
          case rel => exact ⟨_, (true), (by first | rfl | (simp; done) | (simp [*]; done)), H', ⟨by first | omega | exact Nat.le_refl _⟩, ⟨by (with_reducible repeat (first | apply Kd.R_alloc | apply Kd.R_drewN | apply Kd.R_drew)); exact Kd.R_mono HO614.out (fun _ hk => ⟨hk.1.1.2, ⟨hk.1.2, hk.2⟩⟩)⟩, ⟨by (with_reducible repeat (first | apply Kd.R_alloc | apply Kd.R_drewN | apply Kd.R_drew)); exact Kd.R_mono HO603.out (fun _ hk => ⟨hk.1.2, ⟨hk.1.1.2, hk.2⟩⟩)⟩, ⟨by (with_reducible repeat (first | apply Kd.R_alloc | apply Kd.R_drewN | apply Kd.R_drew)); exact Kd.R_mono HO610.out (fun _ hk => ⟨hk.1.2, ⟨hk.1.1.2, hk.2⟩⟩)⟩, ⟨by (with_reducible repeat (first | apply Kd.R_alloc | apply Kd.R_drewN | apply Kd.R_drew)); exact Kd.R_mono HO619.out (fun _ hk => ⟨hk.2, ⟨hk.1.1.2, hk.1.2⟩⟩)⟩, ⟨by (with_reducible repeat (first | refine blk_drewN ?_ _ | refine blk_drew ?_ | refine blk_alloc ?_ _)); exact BK588.out⟩, ⟨by (with_reducible repeat (first | refine blk_drewN ?_ _ | refine blk_drew ?_ | refine blk_alloc ?_ _)); exact BK605.out⟩, ⟨by (with_reducible repeat (first | refine blk_drewN ?_ _ | refine blk_drew ?_ | refine blk_alloc ?_ _)); exact BK611.out⟩, ⟨by (with_reducible repeat (first | refine blk_drewN ?_ _ | refine blk_drew ?_ | refine blk_alloc ?_ _)); exact BK621.out⟩, ⟨by repeat (first | (with_reducible first | exact HB.out | apply below_alloc | apply pw_below_drewN | apply below_drew1 | refine below_set ?_ GE588.out | refine below_set ?_ GE605.out | refine below_set ?_ GE611.out | refine below_set ?_ GE621.out) | exact HB.out)⟩⟩
      case rest =>
        clear HC22
        try clear c1
        try clear p2
        try clear c3
        try clear c4
        try clear c5
        try clear c6
        try clear c6b0
        try clear c10
        try clear c11
        try clear c11b0
        try clear c13
        try clear c15
        try clear c17
        try clear c34
        try clear c35
        try clear c36
        try clear c37
        try clear c38
        try clear c40
        try clear c41
        try clear c49
        try clear c50
        try clear c51
        try clear c55
        try clear c56
        try clear c57
        try clear c58
        try clear c60
        try clear c61
        try clear c64
        try clear c65
        try clear c66
        try clear c68
        try clear c69
        try clear hcz13_0
        try clear hcz13_1
        try clear hcz13_2
        try clear hcz24_0
        try clear hcz24_1
        try clear hcz24_2
        try clear hcz27_0
        try clear hcz27_1
        try clear hcz27_2
        try clear hcz35_0
        try clear hcz35_1
        try clear hcz35_2
        try clear hcz37_0
        try clear hcz37_1
        try clear hcz37_2
        try clear hcz42_0
        try clear hcz42_1
        try clear hcz42_2
        try clear hcz45_0
        try clear hcz45_1
        try clear hcz45_2
        try clear hcz52_0
        try clear hcz52_1
        try clear hcz52_2
        try clear hcz59_0
        try clear hcz59_1
        try clear hcz59_2
        try clear hcz62_0
        try clear hcz62_1
        try clear hcz62_2
        try clear hcz67_0
        try clear hcz67_1
        try clear hcz67_2
        try clear hcz70_0
        try clear hcz70_1
        try clear hcz70_2
        try clear hcz8_0
        try clear hcz8_1
        try clear hcz8_2
        try clear hfz13_0
        try clear hfz13_1
        try clear hfz13_2
        try clear hfz24_0
        try clear hfz24_1
        try clear hfz24_2
        try clear hfz27_0
        try clear hfz27_1
        try clear hfz27_2
        try clear hfz35_0
        try clear hfz35_1
        try clear hfz35_2
        try clear hfz37_0
        try clear hfz37_1
        try clear hfz37_2
        try clear hfz42_0
        try clear hfz42_1
        try clear hfz42_2
        try clear hfz45_0
        try clear hfz45_1
        try clear hfz45_2
        try clear hfz52_0
        try clear hfz52_1
        try clear hfz52_2
        try clear hfz59_0
        try clear hfz59_1
        try clear hfz59_2
        try clear hfz62_0
        try clear hfz62_1
        try clear hfz62_2
        try clear hfz67_0
        try clear hfz67_1
        try clear hfz67_2
        try clear hfz70_0
        try clear hfz70_1
        try clear hfz70_2
        try clear hfz8_0
        try clear hfz8_1
        try clear hfz8_2
        obtain ⟨kq, x61_21, rfl, HA, HJ21, HO_13, HO_606002, HO_612002, HO_622002, BK588, BK605, BK611, BK621, HB⟩ := hcut
        cases kq with
        | zero => exact absurd HA.out (by simp [laws_FnExactAppendTo.j0])
        | succ kj21 =>
          have H := HA.out
          clear HA
          simp only [laws_FnExactAppendTo.j0] at H
          by_cases c72 : x61_21 = true
          · subst c72
            have H1 : (none) = some r := by rw [if_pos rfl] at H; exact H
            clear H
            have H := H1
            clear H1
            exact absurd H (by simp)
          · replace c72 := Bool.eq_false_iff.mpr c72
            subst c72
            have H1 : ((laws_toRLog.f kj21 a0_0 a0_1 l0_2).bind fun bt623 => ((laws_eqRLog.f kj21 t606 t607 t608 bt623.1 bt623.2.1 bt623.2.2).bind fun t628 => (if t628 = true then ((laws_toEntryS.f kj21 l3).bind fun t629 => ((laws_eqEntryS.f kj21 t612 t629).bind fun t632 => (if t632 = true then ((laws_markRLog.f kj21 t606 t607 t608 1).bind fun bt633 => ((laws_markEntryS.f kj21 t612 bt633.1).bind fun bt635 => (if bt635.1 < 0 then (laws_FnExactAppendTo.j1 kj21 a1 a2 l3 t604 true a0_0 a0_1 l0_2 t599 t600 t601 t615 t616 t617) else ((laws_eqRLog.f kj21 t615 t616 t617 t599 t600 t601).bind fun t637 => (if t637 = true then (laws_FnExactAppendTo.j1 kj21 a1 a2 l3 t604 (t620 != t604) a0_0 a0_1 l0_2 t599 t600 t601 t615 t616 t617) else (laws_FnExactAppendTo.j1 kj21 a1 a2 l3 t604 true a0_0 a0_1 l0_2 t599 t600 t601 t615 t616 t617)))))) else (none)))) else (none)))) = some r := by rw [if_neg (show ¬ (false = true) by decide)] at H; exact H
            clear H
            have H := H1
            clear H1
            replace H := Option.bind_eq_some_iff.mp H
            obtain ⟨⟨t623, t624, t625⟩, A730, H⟩ := H
            replace H : ((laws_eqRLog.f kj21 t606 t607 t608 t623 t624 t625).bind fun t628 => (if t628 = true then ((laws_toEntryS.f kj21 l3).bind fun t629 => ((laws_eqEntryS.f kj21 t612 t629).bind fun t632 => (if t632 = true then ((laws_markRLog.f kj21 t606 t607 t608 1).bind fun bt633 => ((laws_markEntryS.f kj21 t612 bt633.1).bind fun bt635 => (if bt635.1 < 0 then (laws_FnExactAppendTo.j1 kj21 a1 a2 l3 t604 true a0_0 a0_1 l0_2 t599 t600 t601 t615 t616 t617) else ((laws_eqRLog.f kj21 t615 t616 t617 t599 t600 t601).bind fun t637 => (if t637 = true then (laws_FnExactAppendTo.j1 kj21 a1 a2 l3 t604 (t620 != t604) a0_0 a0_1 l0_2 t599 t600 t601 t615 t616 t617) else (laws_FnExactAppendTo.j1 kj21 a1 a2 l3 t604 true a0_0 a0_1 l0_2 t599 t600 t601 t615 t616 t617)))))) else (none)))) else (none))) = some r := H
            have A73 := Aside0.mk A730
            clear A730
            replace H := Option.bind_eq_some_iff.mp H
            obtain ⟨t628, A740, H⟩ := H
            replace H : (if t628 = true then ((laws_toEntryS.f kj21 l3).bind fun t629 => ((laws_eqEntryS.f kj21 t612 t629).bind fun t632 => (if t632 = true then ((laws_markRLog.f kj21 t606 t607 t608 1).bind fun bt633 => ((laws_markEntryS.f kj21 t612 bt633.1).bind fun bt635 => (if bt635.1 < 0 then (laws_FnExactAppendTo.j1 kj21 a1 a2 l3 t604 true a0_0 a0_1 l0_2 t599 t600 t601 t615 t616 t617) else ((laws_eqRLog.f kj21 t615 t616 t617 t599 t600 t601).bind fun t637 => (if t637 = true then (laws_FnExactAppendTo.j1 kj21 a1 a2 l3 t604 (t620 != t604) a0_0 a0_1 l0_2 t599 t600 t601 t615 t616 t617) else (laws_FnExactAppendTo.j1 kj21 a1 a2 l3 t604 true a0_0 a0_1 l0_2 t599 t600 t601 t615 t616 t617)))))) else (none)))) else (none)) = some r := H
            have A74 := Aside0.mk A740
            clear A740
            by_cases c75 : t628 = true
            · subst c75
              have H1 : ((laws_toEntryS.f kj21 l3).bind fun t629 => ((laws_eqEntryS.f kj21 t612 t629).bind fun t632 => (if t632 = true then ((laws_markRLog.f kj21 t606 t607 t608 1).bind fun bt633 => ((laws_markEntryS.f kj21 t612 bt633.1).bind fun bt635 => (if bt635.1 < 0 then (laws_FnExactAppendTo.j1 kj21 a1 a2 l3 t604 true a0_0 a0_1 l0_2 t599 t600 t601 t615 t616 t617) else ((laws_eqRLog.f kj21 t615 t616 t617 t599 t600 t601).bind fun t637 => (if t637 = true then (laws_FnExactAppendTo.j1 kj21 a1 a2 l3 t604 (t620 != t604) a0_0 a0_1 l0_2 t599 t600 t601 t615 t616 t617) else (laws_FnExactAppendTo.j1 kj21 a1 a2 l3 t604 true a0_0 a0_1 l0_2 t599 t600 t601 t615 t616 t617)))))) else (none)))) = some r := by rw [if_pos rfl] at H; exact H
              clear H
              have H := H1
              clear H1
              replace H := Option.bind_eq_some_iff.mp H
              obtain ⟨t629, A760, H⟩ := H
              replace H : ((laws_eqEntryS.f kj21 t612 t629).bind fun t632 => (if t632 = true then ((laws_markRLog.f kj21 t606 t607 t608 1).bind fun bt633 => ((laws_markEntryS.f kj21 t612 bt633.1).bind fun bt635 => (if bt635.1 < 0 then (laws_FnExactAppendTo.j1 kj21 a1 a2 l3 t604 true a0_0 a0_1 l0_2 t599 t600 t601 t615 t616 t617) else ((laws_eqRLog.f kj21 t615 t616 t617 t599 t600 t601).bind fun t637 => (if t637 = true then (laws_FnExactAppendTo.j1 kj21 a1 a2 l3 t604 (t620 != t604) a0_0 a0_1 l0_2 t599 t600 t601 t615 t616 t617) else (laws_FnExactAppendTo.j1 kj21 a1 a2 l3 t604 true a0_0 a0_1 l0_2 t599 t600 t601 t615 t616 t617)))))) else (none))) = some r := H
              have A76 := Aside0.mk A760
              clear A760
              replace H := Option.bind_eq_some_iff.mp H
              obtain ⟨t632, A770, H⟩ := H
              replace H : (if t632 = true then ((laws_markRLog.f kj21 t606 t607 t608 1).bind fun bt633 => ((laws_markEntryS.f kj21 t612 bt633.1).bind fun bt635 => (if bt635.1 < 0 then (laws_FnExactAppendTo.j1 kj21 a1 a2 l3 t604 true a0_0 a0_1 l0_2 t599 t600 t601 t615 t616 t617) else ((laws_eqRLog.f kj21 t615 t616 t617 t599 t600 t601).bind fun t637 => (if t637 = true then (laws_FnExactAppendTo.j1 kj21 a1 a2 l3 t604 (t620 != t604) a0_0 a0_1 l0_2 t599 t600 t601 t615 t616 t617) else (laws_FnExactAppendTo.j1 kj21 a1 a2 l3 t604 true a0_0 a0_1 l0_2 t599 t600 t601 t615 t616 t617)))))) else (none)) = some r := H
              have A77 := Aside0.mk A770
              clear A770
              by_cases c78 : t632 = true
              · subst c78
                have H1 : ((laws_markRLog.f kj21 t606 t607 t608 1).bind fun bt633 => ((laws_markEntryS.f kj21 t612 bt633.1).bind fun bt635 => (if bt635.1 < 0 then (laws_FnExactAppendTo.j1 kj21 a1 a2 l3 t604 true a0_0 a0_1 l0_2 t599 t600 t601 t615 t616 t617) else ((laws_eqRLog.f kj21 t615 t616 t617 t599 t600 t601).bind fun t637 => (if t637 = true then (laws_FnExactAppendTo.j1 kj21 a1 a2 l3 t604 (t620 != t604) a0_0 a0_1 l0_2 t599 t600 t601 t615 t616 t617) else (laws_FnExactAppendTo.j1 kj21 a1 a2 l3 t604 true a0_0 a0_1 l0_2 t599 t600 t601 t615 t616 t617)))))) = some r := by rw [if_pos rfl] at H; exact H
                clear H
                have H := H1
                clear H1
                replace H := Option.bind_eq_some_iff.mp H
                obtain ⟨⟨t633, t634⟩, A790, H⟩ := H
                replace H : ((laws_markEntryS.f kj21 t612 t633).bind fun bt635 => (if bt635.1 < 0 then (laws_FnExactAppendTo.j1 kj21 a1 a2 l3 t604 true a0_0 a0_1 l0_2 t599 t600 t601 t615 t616 t617) else ((laws_eqRLog.f kj21 t615 t616 t617 t599 t600 t601).bind fun t637 => (if t637 = true then (laws_FnExactAppendTo.j1 kj21 a1 a2 l3 t604 (t620 != t604) a0_0 a0_1 l0_2 t599 t600 t601 t615 t616 t617) else (laws_FnExactAppendTo.j1 kj21 a1 a2 l3 t604 true a0_0 a0_1 l0_2 t599 t600 t601 t615 t616 t617))))) = some r := H
                have A79 := Aside0.mk A790
                clear A790
                replace H := Option.bind_eq_some_iff.mp H
                obtain ⟨⟨t635, t636⟩, A800, H⟩ := H
                replace H : (if t635 < 0 then (laws_FnExactAppendTo.j1 kj21 a1 a2 l3 t604 true a0_0 a0_1 l0_2 t599 t600 t601 t615 t616 t617) else ((laws_eqRLog.f kj21 t615 t616 t617 t599 t600 t601).bind fun t637 => (if t637 = true then (laws_FnExactAppendTo.j1 kj21 a1 a2 l3 t604 (t620 != t604) a0_0 a0_1 l0_2 t599 t600 t601 t615 t616 t617) else (laws_FnExactAppendTo.j1 kj21 a1 a2 l3 t604 true a0_0 a0_1 l0_2 t599 t600 t601 t615 t616 t617)))) = some r := H
                have A80 := Aside0.mk A800
                clear A800
                have HC81 := Aside0.mk H
                clear H
                try go_wp2
                have n0_ := Aside0.mk (Kd.R_drew HO_13.out)
                have n1_ := Aside0.mk (Kd.R_drew HO_606002.out)
                have n2_ := Aside0.mk (Kd.R_drew HO_612002.out)
                have n3_ := Aside0.mk (Kd.R_drew HO_622002.out)
                have n4_ := Aside0.mk (blk_drew BK588.out)
                have n5_ := Aside0.mk (blk_drew BK605.out)
                have n6_ := Aside0.mk (blk_drew BK611.out)
                have n7_ := Aside0.mk (blk_drew BK621.out)
                have n8_ := Aside0.mk (below_drew1 HB.out)
                clear HO_13
                clear HO_606002
                clear HO_612002
                clear HO_622002
                clear BK588
                clear BK605
                clear BK611
                clear BK621
                clear HB
                have HO_13 := n0_
                have HO_606002 := n1_
                have HO_612002 := n2_
                have HO_622002 := n3_
                have BK588 := n4_
                have BK605 := n5_
                have BK611 := n6_
                have BK621 := n7_
                have HB := n8_
                clear n0_ n1_ n2_ n3_ n4_ n5_ n6_ n7_ n8_
                refine start_ (n := 5) (S := fun w' => w'.cell? ⟨gb611, 0, none⟩ = some (.int .i64 t606) ∧ w'.cell? ⟨gb611, 1, none⟩ = some (.int .i64 t607) ∧ w'.cell? ⟨gb611, 2, none⟩ = some (.slice Ao43 t608.length co43) ∧ w'.cell? ⟨gb588, 0, none⟩ = some (.int .i64 a0_0) ∧ w'.cell? ⟨gb588, 1, none⟩ = some (.int .i64 a0_1) ∧ w'.cell? ⟨gb588, 2, none⟩ = some (.slice A0_2 l0_2.length c0_2)) (ds := []) #[false, false, false, false, false] (by kernel_rfl) rfl rfl ⟨(blk_cell BK611.out 0).trans rfl, (blk_cell BK611.out 1).trans rfl, (blk_cell BK611.out 2).trans rfl, (blk_cell BK588.out 0).trans rfl, (blk_cell BK588.out 1).trans rfl, (blk_cell BK588.out 2).trans rfl⟩ (fun hHeld => ?_)
                generalize wc.drew = w82 at HO_13 HO_606002 HO_612002 HO_622002 BK588 BK605 BK611 BK621 HB hHeld ⊢
                refine take_ (i := 0) (N := some 62) (v := ?_) (a' := ?_) #[true, false, false, false, false] rfl rfl (by kernel_rfl) (fun _ _ _ h => h) (Or.inl ⟨by rfl, ?_⟩) hHeld ?_ ?_
                rotate_left
                · rintro w' ⟨s0, s1, s2, s3, s4, s5⟩
                  go_simp
                  with_reducible rfl
                rotate_left
                · simp only [Act.put, List.setIfInBounds_toArray, List.set_cons_zero, List.set_cons_succ, i64_w, i32_w]
                  rfl
                refine take_ (i := 1) (N := some 63) (v := ?_) (a' := ?_) #[true, true, false, false, false] rfl rfl (by kernel_rfl) (fun _ _ _ h => h) (Or.inl ⟨by rfl, ?_⟩) hHeld ?_ ?_
                rotate_left
                · rintro w' ⟨s0, s1, s2, s3, s4, s5⟩
                  go_simp
                  with_reducible rfl
                rotate_left
                · simp only [Act.put, List.setIfInBounds_toArray, List.set_cons_zero, List.set_cons_succ, i64_w, i32_w]
                  rfl
                refine one_ (i := 2) (N := some 64) #[true, true, true, false, false] rfl rfl (by kernel_rfl) (by decide) (fun K hK => ?_)
                refine goes_ Try.func15 (by kernel_rfl) rfl #[.agg #[.int .i64 a0_0, .int .i64 a0_1, .slice A0_2 l0_2.length c0_2]] (by rfl) rfl rfl (by (try simp only [List.map_toArray, List.map_cons, List.map_nil]); first | done | rfl | (simp only [List.length_drop, List.length_take]; rfl)) ?_
                with_reducible refine (laws_toRLog.calls kj21 a0_0 a0_1 _ _ l0_2 t623 t624 t625 _ ?side1 ?side2 A73.out).mono ?_
                (case side1 => repeat (first | exact (Kd.C_below HR0_2.out HB.out) | (with_reducible refine Kd.C_alloc ?_ _) | (with_reducible refine Kd.C_drewN ?_ _) | (with_reducible refine Kd.C_drew ?_)))
                (case side2 => exact HC0_2.out)
                rintro e w83 ⟨v626, rfl, ho0, hb⟩
                refine ⟨_, rfl, ?_⟩
                have n0_ := Aside0.mk (Kd.R_elder' (by (with_reducible repeat (first | apply Kd.R_alloc | apply Kd.R_drewN | apply Kd.R_drew)); exact HO_13.out) (Kd.R_base ho0) hb)
                have n1_ := Aside0.mk (Kd.R_elder' (by (with_reducible repeat (first | apply Kd.R_alloc | apply Kd.R_drewN | apply Kd.R_drew)); exact HO_606002.out) (Kd.R_base ho0) hb)
                have n2_ := Aside0.mk (Kd.R_elder' (by (with_reducible repeat (first | apply Kd.R_alloc | apply Kd.R_drewN | apply Kd.R_drew)); exact HO_612002.out) (Kd.R_base ho0) hb)
                have n3_ := Aside0.mk (Kd.R_elder' (by (with_reducible repeat (first | apply Kd.R_alloc | apply Kd.R_drewN | apply Kd.R_drew)); exact HO_622002.out) (Kd.R_base ho0) hb)
                have n4_ := Aside0.mk (Kd.R_lower (Kd.R_new' (Kd.R_new' (Kd.R_new' (Kd.R_new' ho0 (Kd.R_lt (by (with_reducible repeat (first | apply Kd.R_alloc | apply Kd.R_drewN | apply Kd.R_drew)); exact HO_13.out))) (Kd.R_lt (by (with_reducible repeat (first | apply Kd.R_alloc | apply Kd.R_drewN | apply Kd.R_drew)); exact HO_606002.out))) (Kd.R_lt (by (with_reducible repeat (first | apply Kd.R_alloc | apply Kd.R_drewN | apply Kd.R_drew)); exact HO_612002.out))) (Kd.R_lt (by (with_reducible repeat (first | apply Kd.R_alloc | apply Kd.R_drewN | apply Kd.R_drew)); exact HO_622002.out))) (below_size (by repeat (first | (with_reducible first | exact HB.out | apply below_alloc | apply pw_below_drewN | apply below_drew1 | refine below_set ?_ GE588.out | refine below_set ?_ GE605.out | refine below_set ?_ GE611.out | refine below_set ?_ GE621.out) | exact HB.out))))
                have n5_ := Aside0.mk (blk_below (g := gb588) (o := .cells #[.int .i64 a0_0, .int .i64 a0_1, .slice A0_2 l0_2.length c0_2] 24 (0, 0)) (by (with_reducible repeat (first | refine blk_drewN ?_ _ | refine blk_drew ?_ | refine blk_alloc ?_ _)); exact BK588.out) hb)
                have n6_ := Aside0.mk (blk_below (g := gb605) (o := .cells #[.int .i64 t599, .int .i64 t600, .slice Ao36 t601.length co36] 29 (0, 0)) (by (with_reducible repeat (first | refine blk_drewN ?_ _ | refine blk_drew ?_ | refine blk_alloc ?_ _)); exact BK605.out) hb)
                have n7_ := Aside0.mk (blk_below (g := gb611) (o := .cells #[.int .i64 t606, .int .i64 t607, .slice Ao43 t608.length co43] 29 (0, 0)) (by (with_reducible repeat (first | refine blk_drewN ?_ _ | refine blk_drew ?_ | refine blk_alloc ?_ _)); exact BK611.out) hb)
                have n8_ := Aside0.mk (blk_below (g := gb621) (o := .cells #[.int .i64 t615, .int .i64 t616, .slice Ao53 t617.length co53] 29 (0, 0)) (by (with_reducible repeat (first | refine blk_drewN ?_ _ | refine blk_drew ?_ | refine blk_alloc ?_ _)); exact BK621.out) hb)
                have n9_ := Aside0.mk (below_step (by repeat (first | (with_reducible first | exact HB.out | apply below_alloc | apply pw_below_drewN | apply below_drew1 | refine below_set ?_ GE588.out | refine below_set ?_ GE605.out | refine below_set ?_ GE611.out | refine below_set ?_ GE621.out) | exact HB.out)) hb)
                clear HO_13
                clear HO_606002
                clear HO_612002
                clear HO_622002
                clear BK588
                clear BK605
                clear BK611
                clear BK621
                clear HB
                have HO_13 := n0_
                have HO_606002 := n1_
                have HO_612002 := n2_
                have HO_622002 := n3_
                have HO627 := n4_
                have BK588 := n5_
                have BK605 := n6_
                have BK611 := n7_
                have BK621 := n8_
                have HB := n9_
                clear n0_ n1_ n2_ n3_ n4_ n5_ n6_ n7_ n8_ n9_
                (try clear hb)
                (try clear hb2)
                (try clear hk)
                (try clear hi)
                (try clear ho0)
                obtain ⟨Ao84, co84, eo84⟩ := Kd.R_slice HO627.out
                (first | subst eo84 | (injection eo84 with f1_ f2_ f3_; have f4_ := f1_.symm; have f5_ := f3_.symm; clear f1_ f2_ f3_; subst f4_; subst f5_))
                refine hK.out _ _ ⟨(blk_cell BK611.out 0).trans rfl, (blk_cell BK611.out 1).trans rfl, (blk_cell BK611.out 2).trans rfl, (blk_cell BK588.out 0).trans rfl, (blk_cell BK588.out 1).trans rfl, (blk_cell BK588.out 2).trans rfl⟩ (fun hHeld => ?_)
                clear hK K
                refine norm_ (a' := ?_) ?_ ?_
                rotate_left
                · show Act.put _ (some 64) _ = _
                  simp only [Act.put, List.setIfInBounds_toArray, List.set_cons_zero, List.set_cons_succ, i64_w, i32_w]
                  rfl
                refine one_ (i := 3) (N := some 65) #[true, true, true, true, false] rfl rfl (by kernel_rfl) (by decide) (fun K hK => ?_)
                refine goes_ Try.func17 (by kernel_rfl) rfl #[.agg #[.int .i64 t606, .int .i64 t607, .slice Ao43 t608.length co43], .agg #[.int .i64 t623, .int .i64 t624, .slice Ao84 t625.length co84]] (by rfl) rfl rfl (by (try simp only [List.map_toArray, List.map_cons, List.map_nil]); first | done | rfl | (simp only [List.length_drop, List.length_take]; rfl)) ?_
                with_reducible refine (laws_eqRLog.calls kj21 t606 t607 _ _ t608 t623 t624 _ _ t625 true _ ?side1 ?side2 ?side3 ?side4 A74.out).mono ?_
                (case side1 => repeat (first | exact (Kd.R_reads' HO_612002.out).2.2 | (with_reducible refine Kd.C_alloc ?_ _) | (with_reducible refine Kd.C_drewN ?_ _) | (with_reducible refine Kd.C_drew ?_)))
                (case side2 => exact (Kd.R_reads' HO_612002.out).2.1)
                (case side3 => repeat (first | exact (Kd.R_reads' HO627.out).2.2 | (with_reducible refine Kd.C_alloc ?_ _) | (with_reducible refine Kd.C_drewN ?_ _) | (with_reducible refine Kd.C_drew ?_)))
                (case side4 => exact (Kd.R_reads' HO627.out).2.1)
                rintro e w85 ⟨rfl, hb⟩
                refine ⟨_, rfl, ?_⟩
                have n0_ := Aside0.mk (Kd.R_below (by (with_reducible repeat (first | apply Kd.R_alloc | apply Kd.R_drewN | apply Kd.R_drew)); exact HO_13.out) hb)
                have n1_ := Aside0.mk (Kd.R_below (by (with_reducible repeat (first | apply Kd.R_alloc | apply Kd.R_drewN | apply Kd.R_drew)); exact HO_606002.out) hb)
                have n2_ := Aside0.mk (Kd.R_below (by (with_reducible repeat (first | apply Kd.R_alloc | apply Kd.R_drewN | apply Kd.R_drew)); exact HO_612002.out) hb)
                have n3_ := Aside0.mk (Kd.R_below (by (with_reducible repeat (first | apply Kd.R_alloc | apply Kd.R_drewN | apply Kd.R_drew)); exact HO_622002.out) hb)
                have n4_ := Aside0.mk (Kd.R_below (by (with_reducible repeat (first | apply Kd.R_alloc | apply Kd.R_drewN | apply Kd.R_drew)); exact HO627.out) hb)
                have n5_ := Aside0.mk (blk_below (g := gb588) (o := .cells #[.int .i64 a0_0, .int .i64 a0_1, .slice A0_2 l0_2.length c0_2] 24 (0, 0)) (by (with_reducible repeat (first | refine blk_drewN ?_ _ | refine blk_drew ?_ | refine blk_alloc ?_ _)); exact BK588.out) hb)
                have n6_ := Aside0.mk (blk_below (g := gb605) (o := .cells #[.int .i64 t599, .int .i64 t600, .slice Ao36 t601.length co36] 29 (0, 0)) (by (with_reducible repeat (first | refine blk_drewN ?_ _ | refine blk_drew ?_ | refine blk_alloc ?_ _)); exact BK605.out) hb)
                have n7_ := Aside0.mk (blk_below (g := gb611) (o := .cells #[.int .i64 t606, .int .i64 t607, .slice Ao43 t608.length co43] 29 (0, 0)) (by (with_reducible repeat (first | refine blk_drewN ?_ _ | refine blk_drew ?_ | refine blk_alloc ?_ _)); exact BK611.out) hb)
                have n8_ := Aside0.mk (blk_below (g := gb621) (o := .cells #[.int .i64 t615, .int .i64 t616, .slice Ao53 t617.length co53] 29 (0, 0)) (by (with_reducible repeat (first | refine blk_drewN ?_ _ | refine blk_drew ?_ | refine blk_alloc ?_ _)); exact BK621.out) hb)
                have n9_ := Aside0.mk (below_step (by repeat (first | (with_reducible first | exact HB.out | apply below_alloc | apply pw_below_drewN | apply below_drew1 | refine below_set ?_ GE588.out | refine below_set ?_ GE605.out | refine below_set ?_ GE611.out | refine below_set ?_ GE621.out) | exact HB.out)) hb)
                clear HO_13
                clear HO_606002
                clear HO_612002
                clear HO_622002
                clear HO627
                clear BK588
                clear BK605
                clear BK611
                clear BK621
                clear HB
                have HO_13 := n0_
                have HO_606002 := n1_
                have HO_612002 := n2_
                have HO_622002 := n3_
                have HO627 := n4_
                have BK588 := n5_
                have BK605 := n6_
                have BK611 := n7_
                have BK621 := n8_
                have HB := n9_
                clear n0_ n1_ n2_ n3_ n4_ n5_ n6_ n7_ n8_ n9_
                (try clear hb)
                (try clear hb2)
                (try clear hk)
                (try clear hi)
                refine hK.out _ _ ⟨(blk_cell BK611.out 0).trans rfl, (blk_cell BK611.out 1).trans rfl, (blk_cell BK611.out 2).trans rfl, (blk_cell BK588.out 0).trans rfl, (blk_cell BK588.out 1).trans rfl, (blk_cell BK588.out 2).trans rfl⟩ (fun hHeld => ?_)
                clear hK K
                refine norm_ (a' := ?_) ?_ ?_
                rotate_left
                · show Act.put _ (some 65) _ = _
                  simp only [Act.put, List.setIfInBounds_toArray, List.set_cons_zero, List.set_cons_succ, i64_w, i32_w]
                  rfl
                refine pure_ (i := 4) (N := some 66) (v := ?_) (a' := ?_) #[true, true, true, true, true] rfl rfl (by kernel_rfl) (fun _ _ _ h => h) (Or.inl ⟨by rfl, ?_⟩) ?_ ?_
                rotate_left
                · intro w'
                  go_simp
                  with_reducible rfl
                rotate_left
                · simp only [Act.put, List.setIfInBounds_toArray, List.set_cons_zero, List.set_cons_succ, i64_w, i32_w]
                  rfl
                refine done_ (by kernel_rfl) ?_
                go_upto_region 21 with (first | ((with_reducible refine gate_callee (f := 37) rfl ?_); refine goesL_ (some 69) rfl rfl Try.func37 (by kernel_rfl) rfl #[.slice A3 l3.length c3] rfl (by (try simp only [List.map_toArray, List.map_cons, List.map_nil]); first | done | rfl | (simp only [List.length_drop, List.length_take]; rfl)) ?_; (with_reducible refine (laws_toEntryS.calls kj21 _ _ l3 t629 _ ?side1 ?side2 A76.out).mono ?_); (case side1 => repeat (first | exact (Kd.C_below HR3.out HB.out) | (with_reducible refine Kd.C_alloc ?_ _) | (with_reducible refine Kd.C_drewN ?_ _) | (with_reducible refine Kd.C_drew ?_))); (case side2 => exact HC3.out); rintro e w86 ⟨v630, rfl, ho0, hb⟩; refine ⟨_, rfl, ?_⟩; have n0_ := Aside0.mk (Kd.R_elder' (by (with_reducible repeat (first | apply Kd.R_alloc | apply Kd.R_drewN | apply Kd.R_drew)); exact HO_13.out) (Kd.R_base ho0) hb); have n1_ := Aside0.mk (Kd.R_elder' (by (with_reducible repeat (first | apply Kd.R_alloc | apply Kd.R_drewN | apply Kd.R_drew)); exact HO_606002.out) (Kd.R_base ho0) hb); have n2_ := Aside0.mk (Kd.R_elder' (by (with_reducible repeat (first | apply Kd.R_alloc | apply Kd.R_drewN | apply Kd.R_drew)); exact HO_612002.out) (Kd.R_base ho0) hb); have n3_ := Aside0.mk (Kd.R_elder' (by (with_reducible repeat (first | apply Kd.R_alloc | apply Kd.R_drewN | apply Kd.R_drew)); exact HO_622002.out) (Kd.R_base ho0) hb); have n4_ := Aside0.mk (Kd.R_elder' (by (with_reducible repeat (first | apply Kd.R_alloc | apply Kd.R_drewN | apply Kd.R_drew)); exact HO627.out) (Kd.R_base ho0) hb); have n5_ := Aside0.mk (Kd.R_lower (Kd.R_new' (Kd.R_new' (Kd.R_new' (Kd.R_new' (Kd.R_new' ho0 (Kd.R_lt (by (with_reducible repeat (first | apply Kd.R_alloc | apply Kd.R_drewN | apply Kd.R_drew)); exact HO_13.out))) (Kd.R_lt (by (with_reducible repeat (first | apply Kd.R_alloc | apply Kd.R_drewN | apply Kd.R_drew)); exact HO_606002.out))) (Kd.R_lt (by (with_reducible repeat (first | apply Kd.R_alloc | apply Kd.R_drewN | apply Kd.R_drew)); exact HO_612002.out))) (Kd.R_lt (by (with_reducible repeat (first | apply Kd.R_alloc | apply Kd.R_drewN | apply Kd.R_drew)); exact HO_622002.out))) (Kd.R_lt (by (with_reducible repeat (first | apply Kd.R_alloc | apply Kd.R_drewN | apply Kd.R_drew)); exact HO627.out))) (below_size (by repeat (first | (with_reducible first | exact HB.out | apply below_alloc | apply pw_below_drewN | apply below_drew1 | refine below_set ?_ GE588.out | refine below_set ?_ GE605.out | refine below_set ?_ GE611.out | refine below_set ?_ GE621.out) | exact HB.out)))); have n6_ := Aside0.mk (blk_below (g := gb588) (o := .cells #[.int .i64 a0_0, .int .i64 a0_1, .slice A0_2 l0_2.length c0_2] 24 (0, 0)) (by (with_reducible repeat (first | refine blk_drewN ?_ _ | refine blk_drew ?_ | refine blk_alloc ?_ _)); exact BK588.out) hb); have n7_ := Aside0.mk (blk_below (g := gb605) (o := .cells #[.int .i64 t599, .int .i64 t600, .slice Ao36 t601.length co36] 29 (0, 0)) (by (with_reducible repeat (first | refine blk_drewN ?_ _ | refine blk_drew ?_ | refine blk_alloc ?_ _)); exact BK605.out) hb); have n8_ := Aside0.mk (blk_below (g := gb611) (o := .cells #[.int .i64 t606, .int .i64 t607, .slice Ao43 t608.length co43] 29 (0, 0)) (by (with_reducible repeat (first | refine blk_drewN ?_ _ | refine blk_drew ?_ | refine blk_alloc ?_ _)); exact BK611.out) hb); have n9_ := Aside0.mk (blk_below (g := gb621) (o := .cells #[.int .i64 t615, .int .i64 t616, .slice Ao53 t617.length co53] 29 (0, 0)) (by (with_reducible repeat (first | refine blk_drewN ?_ _ | refine blk_drew ?_ | refine blk_alloc ?_ _)); exact BK621.out) hb); have n10_ := Aside0.mk (below_step (by repeat (first | (with_reducible first | exact HB.out | apply below_alloc | apply pw_below_drewN | apply below_drew1 | refine below_set ?_ GE588.out | refine below_set ?_ GE605.out | refine below_set ?_ GE611.out | refine below_set ?_ GE621.out) | exact HB.out)) hb); clear HO_13; clear HO_606002; clear HO_612002; clear HO_622002; clear HO627; clear BK588; clear BK605; clear BK611; clear BK621; clear HB; have HO_13 := n0_; have HO_606002 := n1_; have HO_612002 := n2_; have HO_622002 := n3_; have HO627 := n4_; have HO631 := n5_; have BK588 := n6_; have BK605 := n7_; have BK611 := n8_; have BK621 := n9_; have HB := n10_; clear n0_ n1_ n2_ n3_ n4_ n5_ n6_ n7_ n8_ n9_ n10_; (try clear hb); (try clear hb2); (try clear hk); (try clear hi); (try clear ho0); obtain ⟨Ao87, co87, eo87⟩ := Kd.R_slice HO631.out; subst eo87) | ((with_reducible refine gate_callee (f := 28) rfl ?_); refine goesL_ (some 70) rfl rfl Try.func28 (by kernel_rfl) rfl #[.slice Ao46 t612.length co46, .slice Ao87 t629.length co87] rfl (by (try simp only [List.map_toArray, List.map_cons, List.map_nil]); first | done | rfl | (simp only [List.length_drop, List.length_take]; rfl)) ?_; (with_reducible refine (laws_eqEntryS.calls kj21 _ _ t612 _ _ t629 true _ ?side1 ?side2 ?side3 ?side4 A77.out).mono ?_); (case side1 => repeat (first | exact (Kd.R_reads' HO_13.out).2.2 | (with_reducible refine Kd.C_alloc ?_ _) | (with_reducible refine Kd.C_drewN ?_ _) | (with_reducible refine Kd.C_drew ?_))); (case side2 => exact (Kd.R_reads' HO_13.out).2.1); (case side3 => repeat (first | exact (Kd.R_reads' HO631.out).2.2 | (with_reducible refine Kd.C_alloc ?_ _) | (with_reducible refine Kd.C_drewN ?_ _) | (with_reducible refine Kd.C_drew ?_))); (case side4 => exact (Kd.R_reads' HO631.out).2.1); rintro e w88 ⟨rfl, hb⟩; refine ⟨_, rfl, ?_⟩; have n0_ := Aside0.mk (Kd.R_below (by (with_reducible repeat (first | apply Kd.R_alloc | apply Kd.R_drewN | apply Kd.R_drew)); exact HO_13.out) hb); have n1_ := Aside0.mk (Kd.R_below (by (with_reducible repeat (first | apply Kd.R_alloc | apply Kd.R_drewN | apply Kd.R_drew)); exact HO_606002.out) hb); have n2_ := Aside0.mk (Kd.R_below (by (with_reducible repeat (first | apply Kd.R_alloc | apply Kd.R_drewN | apply Kd.R_drew)); exact HO_612002.out) hb); have n3_ := Aside0.mk (Kd.R_below (by (with_reducible repeat (first | apply Kd.R_alloc | apply Kd.R_drewN | apply Kd.R_drew)); exact HO_622002.out) hb); have n4_ := Aside0.mk (Kd.R_below (by (with_reducible repeat (first | apply Kd.R_alloc | apply Kd.R_drewN | apply Kd.R_drew)); exact HO627.out) hb); have n5_ := Aside0.mk (Kd.R_below (by (with_reducible repeat (first | apply Kd.R_alloc | apply Kd.R_drewN | apply Kd.R_drew)); exact HO631.out) hb); have n6_ := Aside0.mk (blk_below (g := gb588) (o := .cells #[.int .i64 a0_0, .int .i64 a0_1, .slice A0_2 l0_2.length c0_2] 24 (0, 0)) (by (with_reducible repeat (first | refine blk_drewN ?_ _ | refine blk_drew ?_ | refine blk_alloc ?_ _)); exact BK588.out) hb); have n7_ := Aside0.mk (blk_below (g := gb605) (o := .cells #[.int .i64 t599, .int .i64 t600, .slice Ao36 t601.length co36] 29 (0, 0)) (by (with_reducible repeat (first | refine blk_drewN ?_ _ | refine blk_drew ?_ | refine blk_alloc ?_ _)); exact BK605.out) hb); have n8_ := Aside0.mk (blk_below (g := gb611) (o := .cells #[.int .i64 t606, .int .i64 t607, .slice Ao43 t608.length co43] 29 (0, 0)) (by (with_reducible repeat (first | refine blk_drewN ?_ _ | refine blk_drew ?_ | refine blk_alloc ?_ _)); exact BK611.out) hb); have n9_ := Aside0.mk (blk_below (g := gb621) (o := .cells #[.int .i64 t615, .int .i64 t616, .slice Ao53 t617.length co53] 29 (0, 0)) (by (with_reducible repeat (first | refine blk_drewN ?_ _ | refine blk_drew ?_ | refine blk_alloc ?_ _)); exact BK621.out) hb); have n10_ := Aside0.mk (below_step (by repeat (first | (with_reducible first | exact HB.out | apply below_alloc | apply pw_below_drewN | apply below_drew1 | refine below_set ?_ GE588.out | refine below_set ?_ GE605.out | refine below_set ?_ GE611.out | refine below_set ?_ GE621.out) | exact HB.out)) hb); clear HO_13; clear HO_606002; clear HO_612002; clear HO_622002; clear HO627; clear HO631; clear BK588; clear BK605; clear BK611; clear BK621; clear HB; have HO_13 := n0_; have HO_606002 := n1_; have HO_612002 := n2_; have HO_622002 := n3_; have HO627 := n4_; have HO631 := n5_; have BK588 := n6_; have BK605 := n7_; have BK611 := n8_; have BK621 := n9_; have HB := n10_; clear n0_ n1_ n2_ n3_ n4_ n5_ n6_ n7_ n8_ n9_ n10_; (try clear hb); (try clear hb2); (try clear hk); (try clear hi); have hnb89 := NB611_588.out; have hnc89 := NB588_611.out; have hnb90 := NB611_605.out; have hnc90 := NB605_611.out; have hnb91 := NB611_621.out; have hnc91 := NB621_611.out; have hcz92_0 : w88.cell? ⟨gb611, 0, none⟩ = some (.int .i64 t606) := (blk_cell BK611.out 0).trans rfl; have hcz92_1 : w88.cell? ⟨gb611, 1, none⟩ = some (.int .i64 t607) := (blk_cell BK611.out 1).trans rfl; have hcz92_2 : w88.cell? ⟨gb611, 2, none⟩ = some (.slice Ao43 t608.length co43) := (blk_cell BK611.out 2).trans rfl; have hfz92_0 := blk_frozen BK611.out 0; have hfz92_1 := blk_frozen BK611.out 1; have hfz92_2 := blk_frozen BK611.out 2) | ((with_reducible refine gate_callee (f := 29) rfl ?_); refine goesL_ (some 74) rfl rfl Try.func29 (by kernel_rfl) rfl #[.agg #[.int .i64 t606, .int .i64 t607, .slice Ao43 t608.length co43], .int .i64 1] rfl (by (try simp only [List.map_toArray, List.map_cons, List.map_nil]); first | done | rfl | (simp only [List.length_drop, List.length_take]; rfl)) ?_; (with_reducible refine (laws_markRLog.calls kj21 t606 t607 (fun k_ => some k_ = (.slice Ao43 t608.length co43 : Value).ownBlock) (.slice Ao43 t608.length co43) t608 1 t633 t634 w _ ?side1 ?side2 A79.out).mono ?_); (case side1 => repeat (first | (with_reducible first | exact HB.out | apply below_alloc | apply pw_below_drewN | apply below_drew1 | refine below_set ?_ GE588.out | refine below_set ?_ GE605.out | refine below_set ?_ GE611.out | refine below_set ?_ GE621.out) | exact HB.out)); (case side2 => exact Kd.R_tight rfl HO_612002.out); rintro e w93 ⟨rfl, hy0, hb, hkp⟩; refine ⟨_, rfl, ?_⟩; have n0_ := Aside0.mk (Kd.R_mono (ok' := fun k_ => some k_ ≠ (.slice Ao36 t601.length co36 : Value).ownBlock ∧ some k_ ≠ (.slice Ao43 t608.length co43 : Value).ownBlock ∧ some k_ ≠ (.slice Ao53 t617.length co53 : Value).ownBlock ∧ some k_ ≠ (.slice Ao84 t625.length co84 : Value).ownBlock ∧ some k_ ≠ (.slice Ao87 t629.length co87 : Value).ownBlock) (Kd.R_keptB (HO_13.out) hkp (fun k_ hk_ hs_ => (hk_.1.1.2.1) hs_)) (fun k_ hk_ => ⟨hk_.1.1.1.1, hk_.1.1.1.2.1, hk_.1.1.1.2.2, hk_.1.1.2, hk_.1.2⟩)); have n1_ := Aside0.mk (Kd.R_mono (ok' := fun k_ => some k_ ≠ (.slice Ao46 t612.length co46 : Value).ownBlock ∧ some k_ ≠ (.slice Ao43 t608.length co43 : Value).ownBlock ∧ some k_ ≠ (.slice Ao53 t617.length co53 : Value).ownBlock ∧ some k_ ≠ (.slice Ao84 t625.length co84 : Value).ownBlock ∧ some k_ ≠ (.slice Ao87 t629.length co87 : Value).ownBlock) (Kd.R_keptB (HO_606002.out) hkp (fun k_ hk_ hs_ => (hk_.1.1.2.1) hs_)) (fun k_ hk_ => ⟨hk_.1.1.1.1, hk_.1.1.1.2.1, hk_.1.1.1.2.2, hk_.1.1.2, hk_.1.2⟩)); have n2_ := Aside0.mk (Kd.R_reok rfl hy0 (fun k_ e_ => HO_612002.out.1 k_ e_)); have n3_ := Aside0.mk (Kd.R_mono (ok' := fun k_ => some k_ ≠ (.slice Ao46 t612.length co46 : Value).ownBlock ∧ some k_ ≠ (.slice Ao36 t601.length co36 : Value).ownBlock ∧ some k_ ≠ (.slice Ao43 t608.length co43 : Value).ownBlock ∧ some k_ ≠ (.slice Ao84 t625.length co84 : Value).ownBlock ∧ some k_ ≠ (.slice Ao87 t629.length co87 : Value).ownBlock) (Kd.R_keptB (HO_622002.out) hkp (fun k_ hk_ hs_ => (hk_.1.1.2.2) hs_)) (fun k_ hk_ => ⟨hk_.1.1.1.1, hk_.1.1.1.2.1, hk_.1.1.1.2.2, hk_.1.1.2, hk_.1.2⟩)); have n4_ := Aside0.mk (blk_kept (by (with_reducible repeat (first | refine blk_drewN ?_ _ | refine blk_drew ?_ | refine blk_alloc ?_ _)); exact BK588.out) hkp (fun hs_ => (fun e_ => (Kd.R_ne HO_612002.out BK588.out (by decide)) e_) hs_)); have n5_ := Aside0.mk (blk_kept (by (with_reducible repeat (first | refine blk_drewN ?_ _ | refine blk_drew ?_ | refine blk_alloc ?_ _)); exact BK605.out) hkp (fun hs_ => (fun e_ => (Kd.R_ne HO_612002.out BK605.out (by decide)) e_) hs_)); have n6_ := Aside0.mk (blk_kept (by (with_reducible repeat (first | refine blk_drewN ?_ _ | refine blk_drew ?_ | refine blk_alloc ?_ _)); exact BK611.out) hkp (fun hs_ => (fun e_ => (Kd.R_ne HO_612002.out BK611.out (by decide)) e_) hs_)); have n7_ := Aside0.mk (blk_kept (by (with_reducible repeat (first | refine blk_drewN ?_ _ | refine blk_drew ?_ | refine blk_alloc ?_ _)); exact BK621.out) hkp (fun hs_ => (fun e_ => (Kd.R_ne HO_612002.out BK621.out (by decide)) e_) hs_)); have n8_ := Aside0.mk (Kd.R_mono (ok' := fun k_ => some k_ ≠ (.slice Ao46 t612.length co46 : Value).ownBlock ∧ some k_ ≠ (.slice Ao36 t601.length co36 : Value).ownBlock ∧ some k_ ≠ (.slice Ao43 t608.length co43 : Value).ownBlock ∧ some k_ ≠ (.slice Ao53 t617.length co53 : Value).ownBlock ∧ some k_ ≠ (.slice Ao87 t629.length co87 : Value).ownBlock) (Kd.R_keptB (HO627.out) hkp (fun k_ hk_ hs_ => (hk_.1.1.2) hs_)) (fun k_ hk_ => ⟨hk_.1.1.1.1.1.2, hk_.1.1.1.1.2, hk_.1.1.1.2, hk_.1.1.2, hk_.1.2⟩)); have n9_ := Aside0.mk (Kd.R_mono (ok' := fun k_ => some k_ ≠ (.slice Ao46 t612.length co46 : Value).ownBlock ∧ some k_ ≠ (.slice Ao36 t601.length co36 : Value).ownBlock ∧ some k_ ≠ (.slice Ao43 t608.length co43 : Value).ownBlock ∧ some k_ ≠ (.slice Ao53 t617.length co53 : Value).ownBlock ∧ some k_ ≠ (.slice Ao84 t625.length co84 : Value).ownBlock) (Kd.R_keptB (HO631.out) hkp (fun k_ hk_ hs_ => (hk_.1.1.2) hs_)) (fun k_ hk_ => ⟨hk_.1.1.1.1.1.2, hk_.1.1.1.1.2, hk_.1.1.1.2, hk_.1.1.2, hk_.1.2⟩)); have n10_ := Aside0.mk (hb); clear HO_13; clear HO_606002; clear HO_612002; clear HO_622002; clear BK588; clear BK605; clear BK611; clear BK621; clear HO627; clear HO631; clear HB; have HO_13 := n0_; have HO_606002 := n1_; have HO_612002 := n2_; have HO_622002 := n3_; have BK588 := n4_; have BK605 := n5_; have BK611 := n6_; have BK621 := n7_; have HO627 := n8_; have HO631 := n9_; have HB := n10_; clear n0_ n1_ n2_ n3_ n4_ n5_ n6_ n7_ n8_ n9_ n10_; (try clear hb); (try clear hkp); (try clear hy0)) | ((with_reducible refine gate_callee (f := 30) rfl ?_); refine goesL_ (some 77) rfl rfl Try.func30 (by kernel_rfl) rfl #[.slice Ao46 t612.length co46, .int .i64 t633] rfl (by (try simp only [List.map_toArray, List.map_cons, List.map_nil]); first | done | rfl | (simp only [List.length_drop, List.length_take]; rfl)) ?_; (with_reducible refine (laws_markEntryS.calls kj21 (fun k_ => some k_ = (.slice Ao46 t612.length co46 : Value).ownBlock) (.slice Ao46 t612.length co46) t612 t633 t635 t636 w _ ?side1 ?side2 A80.out).mono ?_); (case side1 => repeat (first | (with_reducible first | exact HB.out | apply below_alloc | apply pw_below_drewN | apply below_drew1 | refine below_set ?_ GE588.out | refine below_set ?_ GE605.out | refine below_set ?_ GE611.out | refine below_set ?_ GE621.out) | exact HB.out)); (case side2 => exact Kd.R_tight rfl HO_13.out); rintro e w94 ⟨rfl, hy0, hb, hkp⟩; refine ⟨_, rfl, ?_⟩; have n0_ := Aside0.mk (Kd.R_reok rfl hy0 (fun k_ e_ => HO_13.out.1 k_ e_)); have n1_ := Aside0.mk (Kd.R_mono (ok' := fun k_ => some k_ ≠ (.slice Ao46 t612.length co46 : Value).ownBlock ∧ some k_ ≠ (.slice Ao43 t608.length co43 : Value).ownBlock ∧ some k_ ≠ (.slice Ao53 t617.length co53 : Value).ownBlock ∧ some k_ ≠ (.slice Ao84 t625.length co84 : Value).ownBlock ∧ some k_ ≠ (.slice Ao87 t629.length co87 : Value).ownBlock) (Kd.R_keptB (HO_606002.out) hkp (fun k_ hk_ hs_ => (hk_.1) hs_)) (fun k_ hk_ => ⟨hk_.1.1, hk_.1.2.1, hk_.1.2.2.1, hk_.1.2.2.2.1, hk_.1.2.2.2.2⟩)); have n2_ := Aside0.mk (Kd.R_mono (ok' := fun k_ => some k_ ≠ (.slice Ao46 t612.length co46 : Value).ownBlock ∧ some k_ ≠ (.slice Ao36 t601.length co36 : Value).ownBlock ∧ some k_ ≠ (.slice Ao53 t617.length co53 : Value).ownBlock ∧ some k_ ≠ (.slice Ao84 t625.length co84 : Value).ownBlock ∧ some k_ ≠ (.slice Ao87 t629.length co87 : Value).ownBlock) (Kd.R_keptB (HO_612002.out) hkp (fun k_ hk_ hs_ => (hk_.1.1.1) hs_)) (fun k_ hk_ => ⟨hk_.1.1.1.1, hk_.1.1.1.2.1, hk_.1.1.1.2.2, hk_.1.1.2, hk_.1.2⟩)); have n3_ := Aside0.mk (Kd.R_mono (ok' := fun k_ => some k_ ≠ (.slice Ao46 t612.length co46 : Value).ownBlock ∧ some k_ ≠ (.slice Ao36 t601.length co36 : Value).ownBlock ∧ some k_ ≠ (.slice Ao43 t608.length co43 : Value).ownBlock ∧ some k_ ≠ (.slice Ao84 t625.length co84 : Value).ownBlock ∧ some k_ ≠ (.slice Ao87 t629.length co87 : Value).ownBlock) (Kd.R_keptB (HO_622002.out) hkp (fun k_ hk_ hs_ => (hk_.1) hs_)) (fun k_ hk_ => ⟨hk_.1.1, hk_.1.2.1, hk_.1.2.2.1, hk_.1.2.2.2.1, hk_.1.2.2.2.2⟩)); have n4_ := Aside0.mk (blk_kept (by (with_reducible repeat (first | refine blk_drewN ?_ _ | refine blk_drew ?_ | refine blk_alloc ?_ _)); exact BK588.out) hkp (fun hs_ => (fun e_ => (Kd.R_ne HO_13.out BK588.out (by decide)) e_) hs_)); have n5_ := Aside0.mk (blk_kept (by (with_reducible repeat (first | refine blk_drewN ?_ _ | refine blk_drew ?_ | refine blk_alloc ?_ _)); exact BK605.out) hkp (fun hs_ => (fun e_ => (Kd.R_ne HO_13.out BK605.out (by decide)) e_) hs_)); have n6_ := Aside0.mk (blk_kept (by (with_reducible repeat (first | refine blk_drewN ?_ _ | refine blk_drew ?_ | refine blk_alloc ?_ _)); exact BK611.out) hkp (fun hs_ => (fun e_ => (Kd.R_ne HO_13.out BK611.out (by decide)) e_) hs_)); have n7_ := Aside0.mk (blk_kept (by (with_reducible repeat (first | refine blk_drewN ?_ _ | refine blk_drew ?_ | refine blk_alloc ?_ _)); exact BK621.out) hkp (fun hs_ => (fun e_ => (Kd.R_ne HO_13.out BK621.out (by decide)) e_) hs_)); have n8_ := Aside0.mk (Kd.R_mono (ok' := fun k_ => some k_ ≠ (.slice Ao46 t612.length co46 : Value).ownBlock ∧ some k_ ≠ (.slice Ao36 t601.length co36 : Value).ownBlock ∧ some k_ ≠ (.slice Ao43 t608.length co43 : Value).ownBlock ∧ some k_ ≠ (.slice Ao53 t617.length co53 : Value).ownBlock ∧ some k_ ≠ (.slice Ao87 t629.length co87 : Value).ownBlock) (Kd.R_keptB (HO627.out) hkp (fun k_ hk_ hs_ => (hk_.1) hs_)) (fun k_ hk_ => ⟨hk_.1.1, hk_.1.2.1, hk_.1.2.2.1, hk_.1.2.2.2.1, hk_.1.2.2.2.2⟩)); have n9_ := Aside0.mk (Kd.R_mono (ok' := fun k_ => some k_ ≠ (.slice Ao46 t612.length co46 : Value).ownBlock ∧ some k_ ≠ (.slice Ao36 t601.length co36 : Value).ownBlock ∧ some k_ ≠ (.slice Ao43 t608.length co43 : Value).ownBlock ∧ some k_ ≠ (.slice Ao53 t617.length co53 : Value).ownBlock ∧ some k_ ≠ (.slice Ao84 t625.length co84 : Value).ownBlock) (Kd.R_keptB (HO631.out) hkp (fun k_ hk_ hs_ => (hk_.1) hs_)) (fun k_ hk_ => ⟨hk_.1.1, hk_.1.2.1, hk_.1.2.2.1, hk_.1.2.2.2.1, hk_.1.2.2.2.2⟩)); have n10_ := Aside0.mk (hb); clear HO_13; clear HO_606002; clear HO_612002; clear HO_622002; clear BK588; clear BK605; clear BK611; clear BK621; clear HO627; clear HO631; clear HB; have HO_13 := n0_; have HO_606002 := n1_; have HO_612002 := n2_; have HO_622002 := n3_; have BK588 := n4_; have BK605 := n5_; have BK611 := n6_; have BK621 := n7_; have HO627 := n8_; have HO631 := n9_; have HB := n10_; clear n0_ n1_ n2_ n3_ n4_ n5_ n6_ n7_ n8_ n9_ n10_; (try clear hb); (try clear hkp); (try clear hy0)))
                (try simp only [Act.put, List.setIfInBounds_toArray, List.set_cons_zero, List.set_cons_succ])
                go_cut [90] (fun v90 wc => ∃ (kq : Nat) (x90_80 : Bool), v90 = .bool x90_80 ∧ Aside0 (laws_FnExactAppendTo.j1 kq a1 a2 l3 t604 x90_80 a0_0 a0_1 l0_2 t599 t600 t601 t615 t616 t617 = some r) ∧ Aside0 (kq ≤ kj21) ∧ Aside0 (Kd.R k54 54 wc w.heap.size (fun k_ => some k_ ≠ ((.slice Ao43 t608.length co43) : Value).ownBlock ∧ some k_ ≠ ((.slice Ao53 t617.length co53) : Value).ownBlock) (.slice Ao36 t601.length co36) t601) ∧ Aside0 (Kd.R k54 54 wc w.heap.size (fun k_ => some k_ ≠ ((.slice Ao36 t601.length co36) : Value).ownBlock ∧ some k_ ≠ ((.slice Ao53 t617.length co53) : Value).ownBlock) (.slice Ao43 t608.length co43) t634) ∧ Aside0 (Kd.R k54 54 wc w.heap.size (fun k_ => some k_ ≠ ((.slice Ao36 t601.length co36) : Value).ownBlock ∧ some k_ ≠ ((.slice Ao43 t608.length co43) : Value).ownBlock) (.slice Ao53 t617.length co53) t617) ∧ Aside0 (wc.heap[gb588]? = some (.cells #[.int .i64 a0_0, .int .i64 a0_1, (.slice A0_2 l0_2.length c0_2)] 24 (0, 0))) ∧ Aside0 (wc.heap[gb605]? = some (.cells #[.int .i64 t599, .int .i64 t600, (.slice Ao36 t601.length co36)] 29 (0, 0))) ∧ Aside0 (wc.heap[gb611]? = some (.cells #[.int .i64 t606, .int .i64 t607, (.slice Ao43 t608.length co43)] 29 (0, 0))) ∧ Aside0 (wc.heap[gb621]? = some (.cells #[.int .i64 t615, .int .i64 t616, (.slice Ao53 t617.length co53)] 29 (0, 0))) ∧ Aside0 (Below w.heap.size w wc))
                case first =>
                  have H := HC81.out
                  clear HC81
                  by_cases c95 : t635 < 0
                  · rw [if_pos c95] at H
                    have c95b0 : decide (t635 < 0) = true := decide_eq_true c95
                    clear c95
                    (first | rw [c95b0] | (simp only [i64_w, i32_w]; rw [c95b0]) | skip)
                    have H' := Aside0.mk H
                    clear H
                    go_wp2
                    go_meet
                    case rel => exact ⟨_, (true), (by first | rfl | (simp; done) | (simp [*]; done)), H', ⟨by have := HJ21.out; first | omega | exact Nat.le_refl _⟩, ⟨by (with_reducible repeat (first | apply Kd.R_alloc | apply Kd.R_drewN | apply Kd.R_drew)); exact Kd.R_mono HO_606002.out (fun _ hk => ⟨hk.2.1, hk.2.2.1⟩)⟩, ⟨by (with_reducible repeat (first | apply Kd.R_alloc | apply Kd.R_drewN | apply Kd.R_drew)); exact Kd.R_mono HO_612002.out (fun _ hk => ⟨hk.2.1, hk.2.2.1⟩)⟩, ⟨by (with_reducible repeat (first | apply Kd.R_alloc | apply Kd.R_drewN | apply Kd.R_drew)); exact Kd.R_mono HO_622002.out (fun _ hk => ⟨hk.2.1, hk.2.2.1⟩)⟩, ⟨by (with_reducible repeat (first | refine blk_drewN ?_ _ | refine blk_drew ?_ | refine blk_alloc ?_ _)); exact BK588.out⟩, ⟨by (with_reducible repeat (first | refine blk_drewN ?_ _ | refine blk_drew ?_ | refine blk_alloc ?_ _)); exact BK605.out⟩, ⟨by (with_reducible repeat (first | refine blk_drewN ?_ _ | refine blk_drew ?_ | refine blk_alloc ?_ _)); exact BK611.out⟩, ⟨by (with_reducible repeat (first | refine blk_drewN ?_ _ | refine blk_drew ?_ | refine blk_alloc ?_ _)); exact BK621.out⟩, ⟨by repeat (first | (with_reducible first | exact HB.out | apply below_alloc | apply pw_below_drewN | apply below_drew1 | refine below_set ?_ GE588.out | refine below_set ?_ GE605.out | refine below_set ?_ GE611.out | refine below_set ?_ GE621.out) | exact HB.out)⟩⟩
                  · rw [if_neg c95] at H
                    have c95b0 : decide (t635 < 0) = false := decide_eq_false c95
                    clear c95
                    (first | rw [c95b0] | (simp only [i64_w, i32_w]; rw [c95b0]) | skip)
                    replace H := Option.bind_eq_some_iff.mp H
                    obtain ⟨t637, A960, H⟩ := H
                    replace H : (if t637 = true then (laws_FnExactAppendTo.j1 kj21 a1 a2 l3 t604 (t620 != t604) a0_0 a0_1 l0_2 t599 t600 t601 t615 t616 t617) else (laws_FnExactAppendTo.j1 kj21 a1 a2 l3 t604 true a0_0 a0_1 l0_2 t599 t600 t601 t615 t616 t617)) = some r := H
                    have A96 := Aside0.mk A960
                    clear A960
                    by_cases c97 : t637 = true
                    · subst c97
                      have H1 : (laws_FnExactAppendTo.j1 kj21 a1 a2 l3 t604 (t620 != t604) a0_0 a0_1 l0_2 t599 t600 t601 t615 t616 t617) = some r := by rw [if_pos rfl] at H; exact H
                      clear H
                      have H := H1
                      clear H1
                      have H' := Aside0.mk H
                      clear H
                      have hnb98 := NB621_588.out
                      have hnc98 := NB588_621.out
                      have hnb99 := NB621_605.out
                      have hnc99 := NB605_621.out
                      have hnb100 := NB621_611.out
                      have hnc100 := NB611_621.out
                      have hcz101_0 : w94.cell? ⟨gb621, 0, none⟩ = some (.int .i64 t615) := (blk_cell BK621.out 0).trans rfl
                      have hcz101_1 : w94.cell? ⟨gb621, 1, none⟩ = some (.int .i64 t616) := (blk_cell BK621.out 1).trans rfl
                      have hcz101_2 : w94.cell? ⟨gb621, 2, none⟩ = some (.slice Ao53 t617.length co53) := (blk_cell BK621.out 2).trans rfl
                      have hfz101_0 := blk_frozen BK621.out 0
                      have hfz101_1 := blk_frozen BK621.out 1
                      have hfz101_2 := blk_frozen BK621.out 2
                      have hnb102 := NB605_588.out
                      have hnc102 := NB588_605.out
                      have hnb103 := NB605_611.out
                      have hnc103 := NB611_605.out
                      have hcz104_0 : w94.cell? ⟨gb605, 0, none⟩ = some (.int .i64 t599) := (blk_cell BK605.out 0).trans rfl
                      have hcz104_1 : w94.cell? ⟨gb605, 1, none⟩ = some (.int .i64 t600) := (blk_cell BK605.out 1).trans rfl
                      have hcz104_2 : w94.cell? ⟨gb605, 2, none⟩ = some (.slice Ao36 t601.length co36) := (blk_cell BK605.out 2).trans rfl
                      have hfz104_0 := blk_frozen BK605.out 0
                      have hfz104_1 := blk_frozen BK605.out 1
                      have hfz104_2 := blk_frozen BK605.out 2
                      go_wp2_with (first | (go_at_call 17; (with_reducible refine (laws_eqRLog.calls kj21 t615 t616 _ _ t617 t599 t600 _ _ t601 true _ ?side1 ?side2 ?side3 ?side4 A96.out).mono ?_); (case side1 => repeat (first | exact (Kd.R_reads' HO_622002.out).2.2 | (with_reducible refine Kd.C_alloc ?_ _) | (with_reducible refine Kd.C_drewN ?_ _) | (with_reducible refine Kd.C_drew ?_))); (case side2 => exact (Kd.R_reads' HO_622002.out).2.1); (case side3 => repeat (first | exact (Kd.R_reads' HO_606002.out).2.2 | (with_reducible refine Kd.C_alloc ?_ _) | (with_reducible refine Kd.C_drewN ?_ _) | (with_reducible refine Kd.C_drew ?_))); (case side4 => exact (Kd.R_reads' HO_606002.out).2.1); rintro e w105 ⟨rfl, hb⟩; have n0_ := Aside0.mk (Kd.R_below (by (with_reducible repeat (first | apply Kd.R_alloc | apply Kd.R_drewN | apply Kd.R_drew)); exact HO_13.out) hb); have n1_ := Aside0.mk (Kd.R_below (by (with_reducible repeat (first | apply Kd.R_alloc | apply Kd.R_drewN | apply Kd.R_drew)); exact HO_606002.out) hb); have n2_ := Aside0.mk (Kd.R_below (by (with_reducible repeat (first | apply Kd.R_alloc | apply Kd.R_drewN | apply Kd.R_drew)); exact HO_612002.out) hb); have n3_ := Aside0.mk (Kd.R_below (by (with_reducible repeat (first | apply Kd.R_alloc | apply Kd.R_drewN | apply Kd.R_drew)); exact HO_622002.out) hb); have n4_ := Aside0.mk (Kd.R_below (by (with_reducible repeat (first | apply Kd.R_alloc | apply Kd.R_drewN | apply Kd.R_drew)); exact HO627.out) hb); have n5_ := Aside0.mk (Kd.R_below (by (with_reducible repeat (first | apply Kd.R_alloc | apply Kd.R_drewN | apply Kd.R_drew)); exact HO631.out) hb); have n6_ := Aside0.mk (blk_below (g := gb588) (o := .cells #[.int .i64 a0_0, .int .i64 a0_1, .slice A0_2 l0_2.length c0_2] 24 (0, 0)) (by (with_reducible repeat (first | refine blk_drewN ?_ _ | refine blk_drew ?_ | refine blk_alloc ?_ _)); exact BK588.out) hb); have n7_ := Aside0.mk (blk_below (g := gb605) (o := .cells #[.int .i64 t599, .int .i64 t600, .slice Ao36 t601.length co36] 29 (0, 0)) (by (with_reducible repeat (first | refine blk_drewN ?_ _ | refine blk_drew ?_ | refine blk_alloc ?_ _)); exact BK605.out) hb); have n8_ := Aside0.mk (blk_below (g := gb611) (o := .cells #[.int .i64 t606, .int .i64 t607, .slice Ao43 t608.length co43] 29 (0, 0)) (by (with_reducible repeat (first | refine blk_drewN ?_ _ | refine blk_drew ?_ | refine blk_alloc ?_ _)); exact BK611.out) hb); have n9_ := Aside0.mk (blk_below (g := gb621) (o := .cells #[.int .i64 t615, .int .i64 t616, .slice Ao53 t617.length co53] 29 (0, 0)) (by (with_reducible repeat (first | refine blk_drewN ?_ _ | refine blk_drew ?_ | refine blk_alloc ?_ _)); exact BK621.out) hb); have n10_ := Aside0.mk (below_step (by repeat (first | (with_reducible first | exact HB.out | apply below_alloc | apply pw_below_drewN | apply below_drew1 | refine below_set ?_ GE588.out | refine below_set ?_ GE605.out | refine below_set ?_ GE611.out | refine below_set ?_ GE621.out) | exact HB.out)) hb); clear HO_13; clear HO_606002; clear HO_612002; clear HO_622002; clear HO627; clear HO631; clear BK588; clear BK605; clear BK611; clear BK621; clear HB; have HO_13 := n0_; have HO_606002 := n1_; have HO_612002 := n2_; have HO_622002 := n3_; have HO627 := n4_; have HO631 := n5_; have BK588 := n6_; have BK605 := n7_; have BK611 := n8_; have BK621 := n9_; have HB := n10_; clear n0_ n1_ n2_ n3_ n4_ n5_ n6_ n7_ n8_ n9_ n10_; (try clear hb); (try clear hb2); (try clear hk); (try clear hi)))
                      go_meet
                      case rel => exact ⟨_, ((t620 != t604)), (by first | rfl | (simp; done) | (simp [*]; done)), H', ⟨by have := HJ21.out; first | omega | exact Nat.le_refl _⟩, ⟨by (with_reducible repeat (first | apply Kd.R_alloc | apply Kd.R_drewN | apply Kd.R_drew)); exact Kd.R_mono HO_606002.out (fun _ hk => ⟨hk.2.1, hk.2.2.1⟩)⟩, ⟨by (with_reducible repeat (first | apply Kd.R_alloc | apply Kd.R_drewN | apply Kd.R_drew)); exact Kd.R_mono HO_612002.out (fun _ hk => ⟨hk.2.1, hk.2.2.1⟩)⟩, ⟨by (with_reducible repeat (first | apply Kd.R_alloc | apply Kd.R_drewN | apply Kd.R_drew)); exact Kd.R_mono HO_622002.out (fun _ hk => ⟨hk.2.1, hk.2.2.1⟩)⟩, ⟨by (with_reducible repeat (first | refine blk_drewN ?_ _ | refine blk_drew ?_ | refine blk_alloc ?_ _)); exact BK588.out⟩, ⟨by (with_reducible repeat (first | refine blk_drewN ?_ _ | refine blk_drew ?_ | refine blk_alloc ?_ _)); exact BK605.out⟩, ⟨by (with_reducible repeat (first | refine blk_drewN ?_ _ | refine blk_drew ?_ | refine blk_alloc ?_ _)); exact BK611.out⟩, ⟨by (with_reducible repeat (first | refine blk_drewN ?_ _ | refine blk_drew ?_ | refine blk_alloc ?_ _)); exact BK621.out⟩, ⟨by repeat (first | (with_reducible first | exact HB.out | apply below_alloc | apply pw_below_drewN | apply below_drew1 | refine below_set ?_ GE588.out | refine below_set ?_ GE605.out | refine below_set ?_ GE611.out | refine below_set ?_ GE621.out) | exact HB.out)⟩⟩
                    · replace c97 := Bool.eq_false_iff.mpr c97
                      subst c97
                      have H1 : (laws_FnExactAppendTo.j1 kj21 a1 a2 l3 t604 true a0_0 a0_1 l0_2 t599 t600 t601 t615 t616 t617) = some r := by rw [if_neg (show ¬ (false = true) by decide)] at H; exact H
                      clear H
                      have H := H1
                      clear H1
                      have H' := Aside0.mk H
                      clear H
                      have hnb106 := NB621_588.out
                      have hnc106 := NB588_621.out
                      have hnb107 := NB621_605.out
                      have hnc107 := NB605_621.out
                      have hnb108 := NB621_611.out
                      have hnc108 := NB611_621.out
                      have hcz109_0 : w94.cell? ⟨gb621, 0, none⟩ = some (.int .i64 t615) := (blk_cell BK621.out 0).trans rfl
                      have hcz109_1 : w94.cell? ⟨gb621, 1, none⟩ = some (.int .i64 t616) := (blk_cell BK621.out 1).trans rfl
                      have hcz109_2 : w94.cell? ⟨gb621, 2, none⟩ = some (.slice Ao53 t617.length co53) := (blk_cell BK621.out 2).trans rfl
                      have hfz109_0 := blk_frozen BK621.out 0
                      have hfz109_1 := blk_frozen BK621.out 1
                      have hfz109_2 := blk_frozen BK621.out 2
                      have hnb110 := NB605_588.out
                      have hnc110 := NB588_605.out
                      have hnb111 := NB605_611.out
                      have hnc111 := NB611_605.out
                      have hcz112_0 : w94.cell? ⟨gb605, 0, none⟩ = some (.int .i64 t599) := (blk_cell BK605.out 0).trans rfl
                      have hcz112_1 : w94.cell? ⟨gb605, 1, none⟩ = some (.int .i64 t600) := (blk_cell BK605.out 1).trans rfl
                      have hcz112_2 : w94.cell? ⟨gb605, 2, none⟩ = some (.slice Ao36 t601.length co36) := (blk_cell BK605.out 2).trans rfl
                      have hfz112_0 := blk_frozen BK605.out 0
                      have hfz112_1 := blk_frozen BK605.out 1
                      have hfz112_2 := blk_frozen BK605.out 2
                      go_wp2_with (first | (go_at_call 17; (with_reducible refine (laws_eqRLog.calls kj21 t615 t616 _ _ t617 t599 t600 _ _ t601 false _ ?side1 ?side2 ?side3 ?side4 A96.out).mono ?_); (case side1 => repeat (first | exact (Kd.R_reads' HO_622002.out).2.2 | (with_reducible refine Kd.C_alloc ?_ _) | (with_reducible refine Kd.C_drewN ?_ _) | (with_reducible refine Kd.C_drew ?_))); (case side2 => exact (Kd.R_reads' HO_622002.out).2.1); (case side3 => repeat (first | exact (Kd.R_reads' HO_606002.out).2.2 | (with_reducible refine Kd.C_alloc ?_ _) | (with_reducible refine Kd.C_drewN ?_ _) | (with_reducible refine Kd.C_drew ?_))); (case side4 => exact (Kd.R_reads' HO_606002.out).2.1); rintro e w113 ⟨rfl, hb⟩; have n0_ := Aside0.mk (Kd.R_below (by (with_reducible repeat (first | apply Kd.R_alloc | apply Kd.R_drewN | apply Kd.R_drew)); exact HO_13.out) hb); have n1_ := Aside0.mk (Kd.R_below (by (with_reducible repeat (first | apply Kd.R_alloc | apply Kd.R_drewN | apply Kd.R_drew)); exact HO_606002.out) hb); have n2_ := Aside0.mk (Kd.R_below (by (with_reducible repeat (first | apply Kd.R_alloc | apply Kd.R_drewN | apply Kd.R_drew)); exact HO_612002.out) hb); have n3_ := Aside0.mk (Kd.R_below (by (with_reducible repeat (first | apply Kd.R_alloc | apply Kd.R_drewN | apply Kd.R_drew)); exact HO_622002.out) hb); have n4_ := Aside0.mk (Kd.R_below (by (with_reducible repeat (first | apply Kd.R_alloc | apply Kd.R_drewN | apply Kd.R_drew)); exact HO627.out) hb); have n5_ := Aside0.mk (Kd.R_below (by (with_reducible repeat (first | apply Kd.R_alloc | apply Kd.R_drewN | apply Kd.R_drew)); exact HO631.out) hb); have n6_ := Aside0.mk (blk_below (g := gb588) (o := .cells #[.int .i64 a0_0, .int .i64 a0_1, .slice A0_2 l0_2.length c0_2] 24 (0, 0)) (by (with_reducible repeat (first | refine blk_drewN ?_ _ | refine blk_drew ?_ | refine blk_alloc ?_ _)); exact BK588.out) hb); have n7_ := Aside0.mk (blk_below (g := gb605) (o := .cells #[.int .i64 t599, .int .i64 t600, .slice Ao36 t601.length co36] 29 (0, 0)) (by (with_reducible repeat (first | refine blk_drewN ?_ _ | refine blk_drew ?_ | refine blk_alloc ?_ _)); exact BK605.out) hb); have n8_ := Aside0.mk (blk_below (g := gb611) (o := .cells #[.int .i64 t606, .int .i64 t607, .slice Ao43 t608.length co43] 29 (0, 0)) (by (with_reducible repeat (first | refine blk_drewN ?_ _ | refine blk_drew ?_ | refine blk_alloc ?_ _)); exact BK611.out) hb); have n9_ := Aside0.mk (blk_below (g := gb621) (o := .cells #[.int .i64 t615, .int .i64 t616, .slice Ao53 t617.length co53] 29 (0, 0)) (by (with_reducible repeat (first | refine blk_drewN ?_ _ | refine blk_drew ?_ | refine blk_alloc ?_ _)); exact BK621.out) hb); have n10_ := Aside0.mk (below_step (by repeat (first | (with_reducible first | exact HB.out | apply below_alloc | apply pw_below_drewN | apply below_drew1 | refine below_set ?_ GE588.out | refine below_set ?_ GE605.out | refine below_set ?_ GE611.out | refine below_set ?_ GE621.out) | exact HB.out)) hb); clear HO_13; clear HO_606002; clear HO_612002; clear HO_622002; clear HO627; clear HO631; clear BK588; clear BK605; clear BK611; clear BK621; clear HB; have HO_13 := n0_; have HO_606002 := n1_; have HO_612002 := n2_; have HO_622002 := n3_; have HO627 := n4_; have HO631 := n5_; have BK588 := n6_; have BK605 := n7_; have BK611 := n8_; have BK621 := n9_; have HB := n10_; clear n0_ n1_ n2_ n3_ n4_ n5_ n6_ n7_ n8_ n9_ n10_; (try clear hb); (try clear hb2); (try clear hk); (try clear hi)))
                      go_meet
                      case rel => exact ⟨_, (true), (by first | rfl | (simp; done) | (simp [*]; done)), H', ⟨by have := HJ21.out; first | omega | exact Nat.le_refl _⟩, ⟨by (with_reducible repeat (first | apply Kd.R_alloc | apply Kd.R_drewN | apply Kd.R_drew)); exact Kd.R_mono HO_606002.out (fun _ hk => ⟨hk.2.1, hk.2.2.1⟩)⟩, ⟨by (with_reducible repeat (first | apply Kd.R_alloc | apply Kd.R_drewN | apply Kd.R_drew)); exact Kd.R_mono HO_612002.out (fun _ hk => ⟨hk.2.1, hk.2.2.1⟩)⟩, ⟨by (with_reducible repeat (first | apply Kd.R_alloc | apply Kd.R_drewN | apply Kd.R_drew)); exact Kd.R_mono HO_622002.out (fun _ hk => ⟨hk.2.1, hk.2.2.1⟩)⟩, ⟨by (with_reducible repeat (first | refine blk_drewN ?_ _ | refine blk_drew ?_ | refine blk_alloc ?_ _)); exact BK588.out⟩, ⟨by (with_reducible repeat (first | refine blk_drewN ?_ _ | refine blk_drew ?_ | refine blk_alloc ?_ _)); exact BK605.out⟩, ⟨by (with_reducible repeat (first | refine blk_drewN ?_ _ | refine blk_drew ?_ | refine blk_alloc ?_ _)); exact BK611.out⟩, ⟨by (with_reducible repeat (first | refine blk_drewN ?_ _ | refine blk_drew ?_ | refine blk_alloc ?_ _)); exact BK621.out⟩, ⟨by repeat (first | (with_reducible first | exact HB.out | apply below_alloc | apply pw_below_drewN | apply below_drew1 | refine below_set ?_ GE588.out | refine below_set ?_ GE605.out | refine below_set ?_ GE611.out | refine below_set ?_ GE621.out) | exact HB.out)⟩⟩
                case rest =>
                  clear HC81
                  try clear c1
                  try clear c2
                  try clear p2
                  try clear c3
                  try clear c4
                  try clear c5
                  try clear c6
                  try clear c6b0
                  try clear c7
                  try clear c8
                  try clear c9
                  try clear c10
                  try clear c11
                  try clear c11b0
                  try clear c13
                  try clear c15
                  try clear c17
                  try clear c28
                  try clear c29
                  try clear c30
                  try clear c34
                  try clear c35
                  try clear c36
                  try clear c37
                  try clear c38
                  try clear c40
                  try clear c41
                  try clear c49
                  try clear c50
                  try clear c51
                  try clear c55
                  try clear c56
                  try clear c57
                  try clear c58
                  try clear c60
                  try clear c61
                  try clear c64
                  try clear c65
                  try clear c66
                  try clear c68
                  try clear c69
                  try clear c72
                  try clear c75
                  try clear c78
                  try clear c89
                  try clear c90
                  try clear c91
                  try clear c95
                  try clear c95b0
                  try clear c97
                  try clear c98
                  try clear c99
                  try clear c100
                  try clear c102
                  try clear c103
                  try clear c106
                  try clear c107
                  try clear c108
                  try clear c110
                  try clear c111
                  try clear hcz101_0
                  try clear hcz101_1
                  try clear hcz101_2
                  try clear hcz104_0
                  try clear hcz104_1
                  try clear hcz104_2
                  try clear hcz109_0
                  try clear hcz109_1
                  try clear hcz109_2
                  try clear hcz112_0
                  try clear hcz112_1
                  try clear hcz112_2
                  try clear hcz13_0
                  try clear hcz13_1
                  try clear hcz13_2
                  try clear hcz24_0
                  try clear hcz24_1
                  try clear hcz24_2
                  try clear hcz27_0
                  try clear hcz27_1
                  try clear hcz27_2
                  try clear hcz35_0
                  try clear hcz35_1
                  try clear hcz35_2
                  try clear hcz37_0
                  try clear hcz37_1
                  try clear hcz37_2
                  try clear hcz42_0
                  try clear hcz42_1
                  try clear hcz42_2
                  try clear hcz45_0
                  try clear hcz45_1
                  try clear hcz45_2
                  try clear hcz52_0
                  try clear hcz52_1
                  try clear hcz52_2
                  try clear hcz59_0
                  try clear hcz59_1
                  try clear hcz59_2
                  try clear hcz62_0
                  try clear hcz62_1
                  try clear hcz62_2
                  try clear hcz67_0
                  try clear hcz67_1
                  try clear hcz67_2
                  try clear hcz70_0
                  try clear hcz70_1
                  try clear hcz70_2
                  try clear hcz8_0
                  try clear hcz8_1
                  try clear hcz8_2
                  try clear hcz92_0
                  try clear hcz92_1
                  try clear hcz92_2
                  try clear hfz101_0
                  try clear hfz101_1
                  try clear hfz101_2
                  try clear hfz104_0
                  try clear hfz104_1
                  try clear hfz104_2
                  try clear hfz109_0
                  try clear hfz109_1
                  try clear hfz109_2
                  try clear hfz112_0
                  try clear hfz112_1
                  try clear hfz112_2
                  try clear hfz13_0
                  try clear hfz13_1
                  try clear hfz13_2
                  try clear hfz24_0
                  try clear hfz24_1
                  try clear hfz24_2
                  try clear hfz27_0
                  try clear hfz27_1
                  try clear hfz27_2
                  try clear hfz35_0
                  try clear hfz35_1
                  try clear hfz35_2
                  try clear hfz37_0
                  try clear hfz37_1
                  try clear hfz37_2
                  try clear hfz42_0
                  try clear hfz42_1
                  try clear hfz42_2
                  try clear hfz45_0
                  try clear hfz45_1
                  try clear hfz45_2
                  try clear hfz52_0
                  try clear hfz52_1
                  try clear hfz52_2
                  try clear hfz59_0
                  try clear hfz59_1
                  try clear hfz59_2
                  try clear hfz62_0
                  try clear hfz62_1
                  try clear hfz62_2
                  try clear hfz67_0
                  try clear hfz67_1
                  try clear hfz67_2
                  try clear hfz70_0
                  try clear hfz70_1
                  try clear hfz70_2
                  try clear hfz8_0
                  try clear hfz8_1
                  try clear hfz8_2
                  try clear hfz92_0
                  try clear hfz92_1
                  try clear hfz92_2
                  try clear p2
                  obtain ⟨kq, x90_80, rfl, HA, HJ80, HO_606002, HO_612002, HO_622002, BK588, BK605, BK611, BK621, HB⟩ := hcut
                  have hl612002_80 := (Kd.R_reads' HO_612002.out).1
                  rw [hl612002_80] at HO_612002
                  (try simp only [hl612002_80])
                  (try simp only [hl612002_80] at BK588)
                  (try simp only [hl612002_80] at BK605)
                  (try simp only [hl612002_80] at BK611)
                  (try simp only [hl612002_80] at BK621)
                  (try simp only [hl612002_80] at HO_606002)
                  (try simp only [hl612002_80] at HO_622002)
                  cases kq with
                  | zero => exact absurd HA.out (by simp [laws_FnExactAppendTo.j1])
                  | succ kj80 =>
                    have H := HA.out
                    clear HA
                    simp only [laws_FnExactAppendTo.j1] at H
                    by_cases c114 : x90_80 = true
                    · subst c114
                      have H1 : (none) = some r := by rw [if_pos rfl] at H; exact H
                      clear H
                      have H := H1
                      clear H1
                      exact absurd H (by simp)
                    · replace c114 := Bool.eq_false_iff.mpr c114
                      subst c114
                      have H1 : ((laws_markRLog.f kj80 t615 t616 t617 1).bind fun bt638 => ((laws_heldRLog.f kj80 t615 t616 bt638.2 1).bind fun t640 => (if t640 < 0 then (none) else (if t640 = bt638.1 then ((laws_toRLog.f kj80 a0_0 a0_1 l0_2).bind fun bt641 => ((laws_toEntryS.f kj80 l3).bind fun t646 => ((impl_AppendTo.f kj80 bt641.1 bt641.2.1 bt641.2.2 a1 a2 t646).bind fun bt649 => ((laws_eqRLog.f kj80 bt649.1 bt649.2.1 bt649.2.2.1 t599 t600 t601).bind fun t656 => (if t656 = true then (laws_FnExactAppendTo.j2 kj80 bt638.1 (bt649.2.2.2 != t604) t615 t616 bt638.2) else (laws_FnExactAppendTo.j2 kj80 bt638.1 true t615 t616 bt638.2)))))) else (none))))) = some r := by rw [if_neg (show ¬ (false = true) by decide)] at H; exact H
                      clear H
                      have H := H1
                      clear H1
                      replace H := Option.bind_eq_some_iff.mp H
                      obtain ⟨⟨t638, t639⟩, A1150, H⟩ := H
                      replace H : ((laws_heldRLog.f kj80 t615 t616 t639 1).bind fun t640 => (if t640 < 0 then (none) else (if t640 = t638 then ((laws_toRLog.f kj80 a0_0 a0_1 l0_2).bind fun bt641 => ((laws_toEntryS.f kj80 l3).bind fun t646 => ((impl_AppendTo.f kj80 bt641.1 bt641.2.1 bt641.2.2 a1 a2 t646).bind fun bt649 => ((laws_eqRLog.f kj80 bt649.1 bt649.2.1 bt649.2.2.1 t599 t600 t601).bind fun t656 => (if t656 = true then (laws_FnExactAppendTo.j2 kj80 t638 (bt649.2.2.2 != t604) t615 t616 t639) else (laws_FnExactAppendTo.j2 kj80 t638 true t615 t616 t639)))))) else (none)))) = some r := H
                      have A115 := Aside0.mk A1150
                      clear A1150
                      replace H := Option.bind_eq_some_iff.mp H
                      obtain ⟨t640, A1160, H⟩ := H
                      replace H : (if t640 < 0 then (none) else (if t640 = t638 then ((laws_toRLog.f kj80 a0_0 a0_1 l0_2).bind fun bt641 => ((laws_toEntryS.f kj80 l3).bind fun t646 => ((impl_AppendTo.f kj80 bt641.1 bt641.2.1 bt641.2.2 a1 a2 t646).bind fun bt649 => ((laws_eqRLog.f kj80 bt649.1 bt649.2.1 bt649.2.2.1 t599 t600 t601).bind fun t656 => (if t656 = true then (laws_FnExactAppendTo.j2 kj80 t638 (bt649.2.2.2 != t604) t615 t616 t639) else (laws_FnExactAppendTo.j2 kj80 t638 true t615 t616 t639)))))) else (none))) = some r := H
                      have A116 := Aside0.mk A1160
                      clear A1160
                      by_cases c117 : t640 < 0
                      · rw [if_pos c117] at H
                        exact absurd H (by simp)
                      · rw [if_neg c117] at H
                        have c117b0 : decide (t640 < 0) = false := decide_eq_false c117
                        clear c117
                        by_cases c118 : t640 = t638
                        · rw [if_pos c118] at H
                          have c118b0 : (t640 == t638) = true := beq_iff_eq.mpr c118
                          have c118b1 : (t640 != t638) = false := bne_eq_false_iff_eq.mpr c118
                          clear c118
                          replace H := Option.bind_eq_some_iff.mp H
                          obtain ⟨⟨t641, t642, t643⟩, A1190, H⟩ := H
                          replace H : ((laws_toEntryS.f kj80 l3).bind fun t646 => ((impl_AppendTo.f kj80 t641 t642 t643 a1 a2 t646).bind fun bt649 => ((laws_eqRLog.f kj80 bt649.1 bt649.2.1 bt649.2.2.1 t599 t600 t601).bind fun t656 => (if t656 = true then (laws_FnExactAppendTo.j2 kj80 t638 (bt649.2.2.2 != t604) t615 t616 t639) else (laws_FnExactAppendTo.j2 kj80 t638 true t615 t616 t639))))) = some r := H
                          have A119 := Aside0.mk A1190
                          clear A1190
                          replace H := Option.bind_eq_some_iff.mp H
                          obtain ⟨t646, A1200, H⟩ := H
                          replace H : ((impl_AppendTo.f kj80 t641 t642 t643 a1 a2 t646).bind fun bt649 => ((laws_eqRLog.f kj80 bt649.1 bt649.2.1 bt649.2.2.1 t599 t600 t601).bind fun t656 => (if t656 = true then (laws_FnExactAppendTo.j2 kj80 t638 (bt649.2.2.2 != t604) t615 t616 t639) else (laws_FnExactAppendTo.j2 kj80 t638 true t615 t616 t639)))) = some r := H
                          have A120 := Aside0.mk A1200
                          clear A1200
                          replace H := Option.bind_eq_some_iff.mp H
                          obtain ⟨⟨t649, t650, t651, t654⟩, A1210, H⟩ := H
                          replace H : ((laws_eqRLog.f kj80 t649 t650 t651 t599 t600 t601).bind fun t656 => (if t656 = true then (laws_FnExactAppendTo.j2 kj80 t638 (t654 != t604) t615 t616 t639) else (laws_FnExactAppendTo.j2 kj80 t638 true t615 t616 t639))) = some r := H
                          have A121 := Aside0.mk A1210
                          clear A1210
                          have HC122 := Aside0.mk H
                          clear H
                          have hnb123 := NB621_588.out
                          have hnc123 := NB588_621.out
                          have hnb124 := NB621_605.out
                          have hnc124 := NB605_621.out
                          have hnb125 := NB621_611.out
                          have hnc125 := NB611_621.out
                          have hcz126_0 : wc.cell? ⟨gb621, 0, none⟩ = some (.int .i64 t615) := (blk_cell BK621.out 0).trans rfl
                          have hcz126_1 : wc.cell? ⟨gb621, 1, none⟩ = some (.int .i64 t616) := (blk_cell BK621.out 1).trans rfl
                          have hcz126_2 : wc.cell? ⟨gb621, 2, none⟩ = some (.slice Ao53 t617.length co53) := (blk_cell BK621.out 2).trans rfl
                          have hfz126_0 := blk_frozen BK621.out 0
                          have hfz126_1 := blk_frozen BK621.out 1
                          have hfz126_2 := blk_frozen BK621.out 2
                          go_upto_region 32 with (first | ((with_reducible refine gate_callee (f := 29) rfl ?_); refine goesL_ (some 93) rfl rfl Try.func29 (by kernel_rfl) rfl #[.agg #[.int .i64 t615, .int .i64 t616, .slice Ao53 t617.length co53], .int .i64 1] rfl (by (try simp only [List.map_toArray, List.map_cons, List.map_nil]); first | done | rfl | (simp only [List.length_drop, List.length_take]; rfl)) ?_; (with_reducible refine (laws_markRLog.calls kj80 t615 t616 (fun k_ => some k_ = (.slice Ao53 t617.length co53 : Value).ownBlock) (.slice Ao53 t617.length co53) t617 1 t638 t639 w _ ?side1 ?side2 A115.out).mono ?_); (case side1 => repeat (first | (with_reducible first | exact HB.out | apply below_alloc | apply pw_below_drewN | apply below_drew1 | refine below_set ?_ GE588.out | refine below_set ?_ GE605.out | refine below_set ?_ GE611.out | refine below_set ?_ GE621.out) | exact HB.out)); (case side2 => exact Kd.R_tight rfl HO_622002.out); rintro e w127 ⟨rfl, hy0, hb, hkp⟩; refine ⟨_, rfl, ?_⟩; have n0_ := Aside0.mk (Kd.R_mono (ok' := fun k_ => some k_ ≠ (.slice Ao43 t634.length co43 : Value).ownBlock ∧ some k_ ≠ (.slice Ao53 t617.length co53 : Value).ownBlock) (Kd.R_keptB (HO_606002.out) hkp (fun k_ hk_ hs_ => (hk_.2) hs_)) (fun k_ hk_ => ⟨hk_.1.1, hk_.1.2⟩)); have n1_ := Aside0.mk (Kd.R_mono (ok' := fun k_ => some k_ ≠ (.slice Ao36 t601.length co36 : Value).ownBlock ∧ some k_ ≠ (.slice Ao53 t617.length co53 : Value).ownBlock) (Kd.R_keptB (HO_612002.out) hkp (fun k_ hk_ hs_ => (hk_.2) hs_)) (fun k_ hk_ => ⟨hk_.1.1, hk_.1.2⟩)); have n2_ := Aside0.mk (Kd.R_reok rfl hy0 (fun k_ e_ => HO_622002.out.1 k_ e_)); have n3_ := Aside0.mk (blk_kept (by (with_reducible repeat (first | refine blk_drewN ?_ _ | refine blk_drew ?_ | refine blk_alloc ?_ _)); exact BK588.out) hkp (fun hs_ => (fun e_ => (Kd.R_ne HO_622002.out BK588.out (by decide)) e_) hs_)); have n4_ := Aside0.mk (blk_kept (by (with_reducible repeat (first | refine blk_drewN ?_ _ | refine blk_drew ?_ | refine blk_alloc ?_ _)); exact BK605.out) hkp (fun hs_ => (fun e_ => (Kd.R_ne HO_622002.out BK605.out (by decide)) e_) hs_)); have n5_ := Aside0.mk (blk_kept (by (with_reducible repeat (first | refine blk_drewN ?_ _ | refine blk_drew ?_ | refine blk_alloc ?_ _)); exact BK611.out) hkp (fun hs_ => (fun e_ => (Kd.R_ne HO_622002.out BK611.out (by decide)) e_) hs_)); have n6_ := Aside0.mk (blk_kept (by (with_reducible repeat (first | refine blk_drewN ?_ _ | refine blk_drew ?_ | refine blk_alloc ?_ _)); exact BK621.out) hkp (fun hs_ => (fun e_ => (Kd.R_ne HO_622002.out BK621.out (by decide)) e_) hs_)); have n7_ := Aside0.mk (hb); clear HO_606002; clear HO_612002; clear HO_622002; clear BK588; clear BK605; clear BK611; clear BK621; clear HB; have HO_606002 := n0_; have HO_612002 := n1_; have HO_622002 := n2_; have BK588 := n3_; have BK605 := n4_; have BK611 := n5_; have BK621 := n6_; have HB := n7_; clear n0_ n1_ n2_ n3_ n4_ n5_ n6_ n7_; (try clear hb); (try clear hkp); (try clear hy0); have hcz128_0 : w127.cell? ⟨gb621, 0, none⟩ = some (.int .i64 t615) := (blk_cell BK621.out 0).trans rfl; have hcz128_1 : w127.cell? ⟨gb621, 1, none⟩ = some (.int .i64 t616) := (blk_cell BK621.out 1).trans rfl; have hcz128_2 : w127.cell? ⟨gb621, 2, none⟩ = some (.slice Ao53 t617.length co53) := (blk_cell BK621.out 2).trans rfl; have hfz128_0 := blk_frozen BK621.out 0; have hfz128_1 := blk_frozen BK621.out 1; have hfz128_2 := blk_frozen BK621.out 2) | ((with_reducible refine gate_callee (f := 34) rfl ?_); refine goesL_ (some 96) rfl rfl Try.func34 (by kernel_rfl) rfl #[.agg #[.int .i64 t615, .int .i64 t616, .slice Ao53 t639.length co53], .int .i64 1] rfl (by (try simp only [List.map_toArray, List.map_cons, List.map_nil]); first | done | (rw [show t639.length = t617.length from (Kd.R_reads' HO_622002.out).1.symm] <;> rfl) | rfl | (simp only [List.length_drop, List.length_take]; rfl)) ?_; (with_reducible refine (laws_heldRLog.calls kj80 t615 t616 _ _ t639 1 t640 _ ?side1 ?side2 A116.out).mono ?_); (case side1 => repeat (first | exact (Kd.R_reads' HO_622002.out).2.2 | (with_reducible refine Kd.C_alloc ?_ _) | (with_reducible refine Kd.C_drewN ?_ _) | (with_reducible refine Kd.C_drew ?_))); (case side2 => rw [show t639.length = t617.length from (Kd.R_reads' HO_622002.out).1.symm]; exact (Kd.R_reads' HO_622002.out).2.1); rintro e w129 ⟨rfl, hb⟩; refine ⟨_, rfl, ?_⟩; have n0_ := Aside0.mk (Kd.R_below (by (with_reducible repeat (first | apply Kd.R_alloc | apply Kd.R_drewN | apply Kd.R_drew)); exact HO_606002.out) hb); have n1_ := Aside0.mk (Kd.R_below (by (with_reducible repeat (first | apply Kd.R_alloc | apply Kd.R_drewN | apply Kd.R_drew)); exact HO_612002.out) hb); have n2_ := Aside0.mk (Kd.R_below (by (with_reducible repeat (first | apply Kd.R_alloc | apply Kd.R_drewN | apply Kd.R_drew)); exact HO_622002.out) hb); have n3_ := Aside0.mk (blk_below (g := gb588) (o := .cells #[.int .i64 a0_0, .int .i64 a0_1, .slice A0_2 l0_2.length c0_2] 24 (0, 0)) (by (with_reducible repeat (first | refine blk_drewN ?_ _ | refine blk_drew ?_ | refine blk_alloc ?_ _)); exact BK588.out) hb); have n4_ := Aside0.mk (blk_below (g := gb605) (o := .cells #[.int .i64 t599, .int .i64 t600, .slice Ao36 t601.length co36] 29 (0, 0)) (by (with_reducible repeat (first | refine blk_drewN ?_ _ | refine blk_drew ?_ | refine blk_alloc ?_ _)); exact BK605.out) hb); have n5_ := Aside0.mk (blk_below (g := gb611) (o := .cells #[.int .i64 t606, .int .i64 t607, .slice Ao43 t634.length co43] 29 (0, 0)) (by (with_reducible repeat (first | refine blk_drewN ?_ _ | refine blk_drew ?_ | refine blk_alloc ?_ _)); exact BK611.out) hb); have n6_ := Aside0.mk (blk_below (g := gb621) (o := .cells #[.int .i64 t615, .int .i64 t616, .slice Ao53 t617.length co53] 29 (0, 0)) (by (with_reducible repeat (first | refine blk_drewN ?_ _ | refine blk_drew ?_ | refine blk_alloc ?_ _)); exact BK621.out) hb); have n7_ := Aside0.mk (below_step (by repeat (first | (with_reducible first | exact HB.out | apply below_alloc | apply pw_below_drewN | apply below_drew1 | refine below_set ?_ GE588.out | refine below_set ?_ GE605.out | refine below_set ?_ GE611.out | refine below_set ?_ GE621.out) | exact HB.out)) hb); clear HO_606002; clear HO_612002; clear HO_622002; clear BK588; clear BK605; clear BK611; clear BK621; clear HB; have HO_606002 := n0_; have HO_612002 := n1_; have HO_622002 := n2_; have BK588 := n3_; have BK605 := n4_; have BK611 := n5_; have BK621 := n6_; have HB := n7_; clear n0_ n1_ n2_ n3_ n4_ n5_ n6_ n7_; (try clear hb); (try clear hb2); (try clear hk); (try clear hi); have hnb130 := NB588_605.out; have hnc130 := NB605_588.out; have hnb131 := NB588_611.out; have hnc131 := NB611_588.out; have hcz132_0 : w129.cell? ⟨gb588, 0, none⟩ = some (.int .i64 a0_0) := (blk_cell BK588.out 0).trans rfl; have hcz132_1 : w129.cell? ⟨gb588, 1, none⟩ = some (.int .i64 a0_1) := (blk_cell BK588.out 1).trans rfl; have hcz132_2 : w129.cell? ⟨gb588, 2, none⟩ = some (.slice A0_2 l0_2.length c0_2) := (blk_cell BK588.out 2).trans rfl; have hfz132_0 := blk_frozen BK588.out 0; have hfz132_1 := blk_frozen BK588.out 1; have hfz132_2 := blk_frozen BK588.out 2) | ((with_reducible refine gate_callee (f := 15) rfl ?_); refine goesL_ (some 104) rfl rfl Try.func15 (by kernel_rfl) rfl #[.agg #[.int .i64 a0_0, .int .i64 a0_1, .slice A0_2 l0_2.length c0_2]] rfl (by (try simp only [List.map_toArray, List.map_cons, List.map_nil]); first | done | rfl | (simp only [List.length_drop, List.length_take]; rfl)) ?_; (with_reducible refine (laws_toRLog.calls kj80 a0_0 a0_1 _ _ l0_2 t641 t642 t643 _ ?side1 ?side2 A119.out).mono ?_); (case side1 => repeat (first | exact (Kd.C_below HR0_2.out HB.out) | (with_reducible refine Kd.C_alloc ?_ _) | (with_reducible refine Kd.C_drewN ?_ _) | (with_reducible refine Kd.C_drew ?_))); (case side2 => exact HC0_2.out); rintro e w133 ⟨v644, rfl, ho0, hb⟩; refine ⟨_, rfl, ?_⟩; have n0_ := Aside0.mk (Kd.R_elder' (by (with_reducible repeat (first | apply Kd.R_alloc | apply Kd.R_drewN | apply Kd.R_drew)); exact HO_606002.out) (Kd.R_base ho0) hb); have n1_ := Aside0.mk (Kd.R_elder' (by (with_reducible repeat (first | apply Kd.R_alloc | apply Kd.R_drewN | apply Kd.R_drew)); exact HO_612002.out) (Kd.R_base ho0) hb); have n2_ := Aside0.mk (Kd.R_elder' (by (with_reducible repeat (first | apply Kd.R_alloc | apply Kd.R_drewN | apply Kd.R_drew)); exact HO_622002.out) (Kd.R_base ho0) hb); have n3_ := Aside0.mk (Kd.R_lower (Kd.R_new' (Kd.R_new' (Kd.R_new' ho0 (Kd.R_lt (by (with_reducible repeat (first | apply Kd.R_alloc | apply Kd.R_drewN | apply Kd.R_drew)); exact HO_606002.out))) (Kd.R_lt (by (with_reducible repeat (first | apply Kd.R_alloc | apply Kd.R_drewN | apply Kd.R_drew)); exact HO_612002.out))) (Kd.R_lt (by (with_reducible repeat (first | apply Kd.R_alloc | apply Kd.R_drewN | apply Kd.R_drew)); exact HO_622002.out))) (below_size (by repeat (first | (with_reducible first | exact HB.out | apply below_alloc | apply pw_below_drewN | apply below_drew1 | refine below_set ?_ GE588.out | refine below_set ?_ GE605.out | refine below_set ?_ GE611.out | refine below_set ?_ GE621.out) | exact HB.out)))); have n4_ := Aside0.mk (blk_below (g := gb588) (o := .cells #[.int .i64 a0_0, .int .i64 a0_1, .slice A0_2 l0_2.length c0_2] 24 (0, 0)) (by (with_reducible repeat (first | refine blk_drewN ?_ _ | refine blk_drew ?_ | refine blk_alloc ?_ _)); exact BK588.out) hb); have n5_ := Aside0.mk (blk_below (g := gb605) (o := .cells #[.int .i64 t599, .int .i64 t600, .slice Ao36 t601.length co36] 29 (0, 0)) (by (with_reducible repeat (first | refine blk_drewN ?_ _ | refine blk_drew ?_ | refine blk_alloc ?_ _)); exact BK605.out) hb); have n6_ := Aside0.mk (blk_below (g := gb611) (o := .cells #[.int .i64 t606, .int .i64 t607, .slice Ao43 t634.length co43] 29 (0, 0)) (by (with_reducible repeat (first | refine blk_drewN ?_ _ | refine blk_drew ?_ | refine blk_alloc ?_ _)); exact BK611.out) hb); have n7_ := Aside0.mk (blk_below (g := gb621) (o := .cells #[.int .i64 t615, .int .i64 t616, .slice Ao53 t617.length co53] 29 (0, 0)) (by (with_reducible repeat (first | refine blk_drewN ?_ _ | refine blk_drew ?_ | refine blk_alloc ?_ _)); exact BK621.out) hb); have n8_ := Aside0.mk (below_step (by repeat (first | (with_reducible first | exact HB.out | apply below_alloc | apply pw_below_drewN | apply below_drew1 | refine below_set ?_ GE588.out | refine below_set ?_ GE605.out | refine below_set ?_ GE611.out | refine below_set ?_ GE621.out) | exact HB.out)) hb); clear HO_606002; clear HO_612002; clear HO_622002; clear BK588; clear BK605; clear BK611; clear BK621; clear HB; have HO_606002 := n0_; have HO_612002 := n1_; have HO_622002 := n2_; have HO645 := n3_; have BK588 := n4_; have BK605 := n5_; have BK611 := n6_; have BK621 := n7_; have HB := n8_; clear n0_ n1_ n2_ n3_ n4_ n5_ n6_ n7_ n8_; (try clear hb); (try clear hb2); (try clear hk); (try clear hi); (try clear ho0)) | ((with_reducible refine gate_callee (f := 37) rfl ?_); refine goesL_ (some 108) rfl rfl Try.func37 (by kernel_rfl) rfl #[.slice A3 l3.length c3] rfl (by (try simp only [List.map_toArray, List.map_cons, List.map_nil]); first | done | rfl | (simp only [List.length_drop, List.length_take]; rfl)) ?_; (with_reducible refine (laws_toEntryS.calls kj80 _ _ l3 t646 _ ?side1 ?side2 A120.out).mono ?_); (case side1 => repeat (first | exact (Kd.C_below HR3.out HB.out) | (with_reducible refine Kd.C_alloc ?_ _) | (with_reducible refine Kd.C_drewN ?_ _) | (with_reducible refine Kd.C_drew ?_))); (case side2 => exact HC3.out); rintro e w134 ⟨v647, rfl, ho0, hb⟩; refine ⟨_, rfl, ?_⟩; have n0_ := Aside0.mk (Kd.R_elder' (by (with_reducible repeat (first | apply Kd.R_alloc | apply Kd.R_drewN | apply Kd.R_drew)); exact HO_606002.out) (Kd.R_base ho0) hb); have n1_ := Aside0.mk (Kd.R_elder' (by (with_reducible repeat (first | apply Kd.R_alloc | apply Kd.R_drewN | apply Kd.R_drew)); exact HO_612002.out) (Kd.R_base ho0) hb); have n2_ := Aside0.mk (Kd.R_elder' (by (with_reducible repeat (first | apply Kd.R_alloc | apply Kd.R_drewN | apply Kd.R_drew)); exact HO_622002.out) (Kd.R_base ho0) hb); have n3_ := Aside0.mk (Kd.R_elder' (by (with_reducible repeat (first | apply Kd.R_alloc | apply Kd.R_drewN | apply Kd.R_drew)); exact HO645.out) (Kd.R_base ho0) hb); have n4_ := Aside0.mk (Kd.R_lower (Kd.R_new' (Kd.R_new' (Kd.R_new' (Kd.R_new' ho0 (Kd.R_lt (by (with_reducible repeat (first | apply Kd.R_alloc | apply Kd.R_drewN | apply Kd.R_drew)); exact HO_606002.out))) (Kd.R_lt (by (with_reducible repeat (first | apply Kd.R_alloc | apply Kd.R_drewN | apply Kd.R_drew)); exact HO_612002.out))) (Kd.R_lt (by (with_reducible repeat (first | apply Kd.R_alloc | apply Kd.R_drewN | apply Kd.R_drew)); exact HO_622002.out))) (Kd.R_lt (by (with_reducible repeat (first | apply Kd.R_alloc | apply Kd.R_drewN | apply Kd.R_drew)); exact HO645.out))) (below_size (by repeat (first | (with_reducible first | exact HB.out | apply below_alloc | apply pw_below_drewN | apply below_drew1 | refine below_set ?_ GE588.out | refine below_set ?_ GE605.out | refine below_set ?_ GE611.out | refine below_set ?_ GE621.out) | exact HB.out)))); have n5_ := Aside0.mk (blk_below (g := gb588) (o := .cells #[.int .i64 a0_0, .int .i64 a0_1, .slice A0_2 l0_2.length c0_2] 24 (0, 0)) (by (with_reducible repeat (first | refine blk_drewN ?_ _ | refine blk_drew ?_ | refine blk_alloc ?_ _)); exact BK588.out) hb); have n6_ := Aside0.mk (blk_below (g := gb605) (o := .cells #[.int .i64 t599, .int .i64 t600, .slice Ao36 t601.length co36] 29 (0, 0)) (by (with_reducible repeat (first | refine blk_drewN ?_ _ | refine blk_drew ?_ | refine blk_alloc ?_ _)); exact BK605.out) hb); have n7_ := Aside0.mk (blk_below (g := gb611) (o := .cells #[.int .i64 t606, .int .i64 t607, .slice Ao43 t634.length co43] 29 (0, 0)) (by (with_reducible repeat (first | refine blk_drewN ?_ _ | refine blk_drew ?_ | refine blk_alloc ?_ _)); exact BK611.out) hb); have n8_ := Aside0.mk (blk_below (g := gb621) (o := .cells #[.int .i64 t615, .int .i64 t616, .slice Ao53 t617.length co53] 29 (0, 0)) (by (with_reducible repeat (first | refine blk_drewN ?_ _ | refine blk_drew ?_ | refine blk_alloc ?_ _)); exact BK621.out) hb); have n9_ := Aside0.mk (below_step (by repeat (first | (with_reducible first | exact HB.out | apply below_alloc | apply pw_below_drewN | apply below_drew1 | refine below_set ?_ GE588.out | refine below_set ?_ GE605.out | refine below_set ?_ GE611.out | refine below_set ?_ GE621.out) | exact HB.out)) hb); clear HO_606002; clear HO_612002; clear HO_622002; clear HO645; clear BK588; clear BK605; clear BK611; clear BK621; clear HB; have HO_606002 := n0_; have HO_612002 := n1_; have HO_622002 := n2_; have HO645 := n3_; have HO648 := n4_; have BK588 := n5_; have BK605 := n6_; have BK611 := n7_; have BK621 := n8_; have HB := n9_; clear n0_ n1_ n2_ n3_ n4_ n5_ n6_ n7_ n8_ n9_; (try clear hb); (try clear hb2); (try clear hk); (try clear hi); (try clear ho0); obtain ⟨Ao135, co135, eo135⟩ := Kd.R_slice HO645.out; subst eo135; obtain ⟨Ao136, co136, eo136⟩ := Kd.R_slice HO648.out; subst eo136) | ((with_reducible refine gate_callee (f := 38) rfl ?_); refine goesL_ (some 109) rfl rfl Try.func38 (by kernel_rfl) rfl #[.agg #[.int .i64 t641, .int .i64 t642, .slice Ao135 t643.length co135], .int .i64 a1, .int .i64 a2, .slice Ao136 t646.length co136] rfl (by (try simp only [List.map_toArray, List.map_cons, List.map_nil]); first | done | rfl | (simp only [List.length_drop, List.length_take]; rfl)) ?_; (with_reducible refine (impl_AppendTo.calls kj80 t641 t642 _ _ t643 a1 a2 _ _ t646 t649 t650 t651 t654 _ ?side1 ?side2 ?side3 ?side4 A121.out).mono ?_); (case side1 => repeat (first | exact (Kd.R_reads' HO645.out).2.2 | (with_reducible refine Kd.C_alloc ?_ _) | (with_reducible refine Kd.C_drewN ?_ _) | (with_reducible refine Kd.C_drew ?_))); (case side2 => exact (Kd.R_reads' HO645.out).2.1); (case side3 => repeat (first | exact (Kd.R_reads' HO648.out).2.2 | (with_reducible refine Kd.C_alloc ?_ _) | (with_reducible refine Kd.C_drewN ?_ _) | (with_reducible refine Kd.C_drew ?_))); (case side4 => exact (Kd.R_reads' HO648.out).2.1); rintro e w137 ⟨v652, rfl, ho0, hb⟩; refine ⟨_, rfl, ?_⟩; have n0_ := Aside0.mk (Kd.R_elder' (by (with_reducible repeat (first | apply Kd.R_alloc | apply Kd.R_drewN | apply Kd.R_drew)); exact HO_606002.out) (Kd.R_base ho0) hb); have n1_ := Aside0.mk (Kd.R_elder' (by (with_reducible repeat (first | apply Kd.R_alloc | apply Kd.R_drewN | apply Kd.R_drew)); exact HO_612002.out) (Kd.R_base ho0) hb); have n2_ := Aside0.mk (Kd.R_elder' (by (with_reducible repeat (first | apply Kd.R_alloc | apply Kd.R_drewN | apply Kd.R_drew)); exact HO_622002.out) (Kd.R_base ho0) hb); have n3_ := Aside0.mk (Kd.R_elder' (by (with_reducible repeat (first | apply Kd.R_alloc | apply Kd.R_drewN | apply Kd.R_drew)); exact HO645.out) (Kd.R_base ho0) hb); have n4_ := Aside0.mk (Kd.R_elder' (by (with_reducible repeat (first | apply Kd.R_alloc | apply Kd.R_drewN | apply Kd.R_drew)); exact HO648.out) (Kd.R_base ho0) hb); have n5_ := Aside0.mk (Kd.R_lower (Kd.R_new' (Kd.R_new' (Kd.R_new' (Kd.R_new' (Kd.R_new' ho0 (Kd.R_lt (by (with_reducible repeat (first | apply Kd.R_alloc | apply Kd.R_drewN | apply Kd.R_drew)); exact HO_606002.out))) (Kd.R_lt (by (with_reducible repeat (first | apply Kd.R_alloc | apply Kd.R_drewN | apply Kd.R_drew)); exact HO_612002.out))) (Kd.R_lt (by (with_reducible repeat (first | apply Kd.R_alloc | apply Kd.R_drewN | apply Kd.R_drew)); exact HO_622002.out))) (Kd.R_lt (by (with_reducible repeat (first | apply Kd.R_alloc | apply Kd.R_drewN | apply Kd.R_drew)); exact HO645.out))) (Kd.R_lt (by (with_reducible repeat (first | apply Kd.R_alloc | apply Kd.R_drewN | apply Kd.R_drew)); exact HO648.out))) (below_size (by repeat (first | (with_reducible first | exact HB.out | apply below_alloc | apply pw_below_drewN | apply below_drew1 | refine below_set ?_ GE588.out | refine below_set ?_ GE605.out | refine below_set ?_ GE611.out | refine below_set ?_ GE621.out) | exact HB.out)))); have n6_ := Aside0.mk (blk_below (g := gb588) (o := .cells #[.int .i64 a0_0, .int .i64 a0_1, .slice A0_2 l0_2.length c0_2] 24 (0, 0)) (by (with_reducible repeat (first | refine blk_drewN ?_ _ | refine blk_drew ?_ | refine blk_alloc ?_ _)); exact BK588.out) hb); have n7_ := Aside0.mk (blk_below (g := gb605) (o := .cells #[.int .i64 t599, .int .i64 t600, .slice Ao36 t601.length co36] 29 (0, 0)) (by (with_reducible repeat (first | refine blk_drewN ?_ _ | refine blk_drew ?_ | refine blk_alloc ?_ _)); exact BK605.out) hb); have n8_ := Aside0.mk (blk_below (g := gb611) (o := .cells #[.int .i64 t606, .int .i64 t607, .slice Ao43 t634.length co43] 29 (0, 0)) (by (with_reducible repeat (first | refine blk_drewN ?_ _ | refine blk_drew ?_ | refine blk_alloc ?_ _)); exact BK611.out) hb); have n9_ := Aside0.mk (blk_below (g := gb621) (o := .cells #[.int .i64 t615, .int .i64 t616, .slice Ao53 t617.length co53] 29 (0, 0)) (by (with_reducible repeat (first | refine blk_drewN ?_ _ | refine blk_drew ?_ | refine blk_alloc ?_ _)); exact BK621.out) hb); have n10_ := Aside0.mk (below_step (by repeat (first | (with_reducible first | exact HB.out | apply below_alloc | apply pw_below_drewN | apply below_drew1 | refine below_set ?_ GE588.out | refine below_set ?_ GE605.out | refine below_set ?_ GE611.out | refine below_set ?_ GE621.out) | exact HB.out)) hb); clear HO_606002; clear HO_612002; clear HO_622002; clear HO645; clear HO648; clear BK588; clear BK605; clear BK611; clear BK621; clear HB; have HO_606002 := n0_; have HO_612002 := n1_; have HO_622002 := n2_; have HO645 := n3_; have HO648 := n4_; have HO653 := n5_; have BK588 := n6_; have BK605 := n7_; have BK611 := n8_; have BK621 := n9_; have HB := n10_; clear n0_ n1_ n2_ n3_ n4_ n5_ n6_ n7_ n8_ n9_ n10_; (try clear hb); (try clear hb2); (try clear hk); (try clear hi); (try clear ho0)) | ((with_reducible refine gate_dst (N := 19) rfl ?_); refine box_event ?hg (N := 19) ?hd (cs := #[.int .i64 0, .int .i64 0, .slice none 0 0]) (t := 29) ?hr ?_; (case hd => rfl); (case hg => rfl); (case hr => first | (go_simp; done) | (go_simp; rfl)); intro gb655 hg w138 hbox hb; have n0_ := Aside0.mk (Kd.R_below (by (with_reducible repeat (first | apply Kd.R_alloc | apply Kd.R_drewN | apply Kd.R_drew)); exact HO_606002.out) hb); have n1_ := Aside0.mk (Kd.R_below (by (with_reducible repeat (first | apply Kd.R_alloc | apply Kd.R_drewN | apply Kd.R_drew)); exact HO_612002.out) hb); have n2_ := Aside0.mk (Kd.R_below (by (with_reducible repeat (first | apply Kd.R_alloc | apply Kd.R_drewN | apply Kd.R_drew)); exact HO_622002.out) hb); have n3_ := Aside0.mk (Kd.R_below (by (with_reducible repeat (first | apply Kd.R_alloc | apply Kd.R_drewN | apply Kd.R_drew)); exact HO645.out) hb); have n4_ := Aside0.mk (Kd.R_below (by (with_reducible repeat (first | apply Kd.R_alloc | apply Kd.R_drewN | apply Kd.R_drew)); exact HO648.out) hb); have n5_ := Aside0.mk (Kd.R_below (by (with_reducible repeat (first | apply Kd.R_alloc | apply Kd.R_drewN | apply Kd.R_drew)); exact HO653.out) hb); have n6_ := Aside0.mk (blk_below (g := gb588) (o := .cells #[.int .i64 a0_0, .int .i64 a0_1, .slice A0_2 l0_2.length c0_2] 24 (0, 0)) (by (with_reducible repeat (first | refine blk_drewN ?_ _ | refine blk_drew ?_ | refine blk_alloc ?_ _)); exact BK588.out) hb); have n7_ := Aside0.mk (blk_below (g := gb605) (o := .cells #[.int .i64 t599, .int .i64 t600, .slice Ao36 t601.length co36] 29 (0, 0)) (by (with_reducible repeat (first | refine blk_drewN ?_ _ | refine blk_drew ?_ | refine blk_alloc ?_ _)); exact BK605.out) hb); have n8_ := Aside0.mk (blk_below (g := gb611) (o := .cells #[.int .i64 t606, .int .i64 t607, .slice Ao43 t634.length co43] 29 (0, 0)) (by (with_reducible repeat (first | refine blk_drewN ?_ _ | refine blk_drew ?_ | refine blk_alloc ?_ _)); exact BK611.out) hb); have n9_ := Aside0.mk (blk_below (g := gb621) (o := .cells #[.int .i64 t615, .int .i64 t616, .slice Ao53 t617.length co53] 29 (0, 0)) (by (with_reducible repeat (first | refine blk_drewN ?_ _ | refine blk_drew ?_ | refine blk_alloc ?_ _)); exact BK621.out) hb); have n10_ := Aside0.mk (below_step (by repeat (first | (with_reducible first | exact HB.out | apply below_alloc | apply pw_below_drewN | apply below_drew1 | refine below_set ?_ GE588.out | refine below_set ?_ GE605.out | refine below_set ?_ GE611.out | refine below_set ?_ GE621.out) | exact HB.out)) hb); have n11_ := Aside0.mk (hbox); have n12_ := Aside0.mk ((by rw [hg]; exact (below_size (by repeat (first | (with_reducible first | exact HB.out | apply below_alloc | apply pw_below_drewN | apply below_drew1 | refine below_set ?_ GE588.out | refine below_set ?_ GE605.out | refine below_set ?_ GE611.out | refine below_set ?_ GE621.out) | exact HB.out))) : w.heap.size ≤ gb655)); have n13_ := Aside0.mk ((by rw [hg]; exact (below_size (by repeat (first | (with_reducible first | exact HB.out | apply below_alloc | apply pw_below_drewN | apply below_drew1 | refine below_set ?_ GE588.out | refine below_set ?_ GE605.out | refine below_set ?_ GE611.out | refine below_set ?_ GE621.out) | exact HB.out))) : w.heap.size ≤ gb655)); have n14_ := Aside0.mk ((by rw [hg]; exact Nat.ne_of_lt (blk_lt (g := gb588) (o := .cells #[.int .i64 a0_0, .int .i64 a0_1, .slice A0_2 l0_2.length c0_2] 24 (0, 0)) (by (with_reducible repeat (first | refine blk_drewN ?_ _ | refine blk_drew ?_ | refine blk_alloc ?_ _)); exact BK588.out)) : gb588 ≠ gb655)); have n15_ := Aside0.mk ((by rw [hg]; exact Nat.ne_of_gt (blk_lt (g := gb588) (o := .cells #[.int .i64 a0_0, .int .i64 a0_1, .slice A0_2 l0_2.length c0_2] 24 (0, 0)) (by (with_reducible repeat (first | refine blk_drewN ?_ _ | refine blk_drew ?_ | refine blk_alloc ?_ _)); exact BK588.out)) : gb655 ≠ gb588)); have n16_ := Aside0.mk ((by rw [hg]; exact Nat.ne_of_lt (blk_lt (g := gb605) (o := .cells #[.int .i64 t599, .int .i64 t600, .slice Ao36 t601.length co36] 29 (0, 0)) (by (with_reducible repeat (first | refine blk_drewN ?_ _ | refine blk_drew ?_ | refine blk_alloc ?_ _)); exact BK605.out)) : gb605 ≠ gb655)); have n17_ := Aside0.mk ((by rw [hg]; exact Nat.ne_of_gt (blk_lt (g := gb605) (o := .cells #[.int .i64 t599, .int .i64 t600, .slice Ao36 t601.length co36] 29 (0, 0)) (by (with_reducible repeat (first | refine blk_drewN ?_ _ | refine blk_drew ?_ | refine blk_alloc ?_ _)); exact BK605.out)) : gb655 ≠ gb605)); have n18_ := Aside0.mk ((by rw [hg]; exact Nat.ne_of_lt (blk_lt (g := gb611) (o := .cells #[.int .i64 t606, .int .i64 t607, .slice Ao43 t634.length co43] 29 (0, 0)) (by (with_reducible repeat (first | refine blk_drewN ?_ _ | refine blk_drew ?_ | refine blk_alloc ?_ _)); exact BK611.out)) : gb611 ≠ gb655)); have n19_ := Aside0.mk ((by rw [hg]; exact Nat.ne_of_gt (blk_lt (g := gb611) (o := .cells #[.int .i64 t606, .int .i64 t607, .slice Ao43 t634.length co43] 29 (0, 0)) (by (with_reducible repeat (first | refine blk_drewN ?_ _ | refine blk_drew ?_ | refine blk_alloc ?_ _)); exact BK611.out)) : gb655 ≠ gb611)); have n20_ := Aside0.mk ((by rw [hg]; exact Nat.ne_of_lt (blk_lt (g := gb621) (o := .cells #[.int .i64 t615, .int .i64 t616, .slice Ao53 t617.length co53] 29 (0, 0)) (by (with_reducible repeat (first | refine blk_drewN ?_ _ | refine blk_drew ?_ | refine blk_alloc ?_ _)); exact BK621.out)) : gb621 ≠ gb655)); have n21_ := Aside0.mk ((by rw [hg]; exact Nat.ne_of_gt (blk_lt (g := gb621) (o := .cells #[.int .i64 t615, .int .i64 t616, .slice Ao53 t617.length co53] 29 (0, 0)) (by (with_reducible repeat (first | refine blk_drewN ?_ _ | refine blk_drew ?_ | refine blk_alloc ?_ _)); exact BK621.out)) : gb655 ≠ gb621)); clear HO_606002; clear HO_612002; clear HO_622002; clear HO645; clear HO648; clear HO653; clear BK588; clear BK605; clear BK611; clear BK621; clear HB; have HO_606002 := n0_; have HO_612002 := n1_; have HO_622002 := n2_; have HO645 := n3_; have HO648 := n4_; have HO653 := n5_; have BK588 := n6_; have BK605 := n7_; have BK611 := n8_; have BK621 := n9_; have HB := n10_; have BK655 := n11_; have GW655 := n12_; have GE655 := n13_; have NB588_655 := n14_; have NB655_588 := n15_; have NB605_655 := n16_; have NB655_605 := n17_; have NB611_655 := n18_; have NB655_611 := n19_; have NB621_655 := n20_; have NB655_621 := n21_; clear n0_ n1_ n2_ n3_ n4_ n5_ n6_ n7_ n8_ n9_ n10_ n11_ n12_ n13_ n14_ n15_ n16_ n17_ n18_ n19_ n20_ n21_; clear hb hbox hg; have hnb139 := NB655_588.out; have hnc139 := NB588_655.out; have hnb140 := NB655_605.out; have hnc140 := NB605_655.out; have hnb141 := NB655_611.out; have hnc141 := NB611_655.out; have hnb142 := NB655_621.out; have hnc142 := NB621_655.out; have hcz143_0 : w138.cell? ⟨gb655, 0, none⟩ = some (.int .i64 0) := (blk_cell BK655.out 0).trans rfl; have hcz143_1 : w138.cell? ⟨gb655, 1, none⟩ = some (.int .i64 0) := (blk_cell BK655.out 1).trans rfl; have hcz143_2 : w138.cell? ⟨gb655, 2, none⟩ = some (.slice none 0 0) := (blk_cell BK655.out 2).trans rfl; have hfz143_0 := blk_frozen BK655.out 0; have hfz143_1 := blk_frozen BK655.out 1; have hfz143_2 := blk_frozen BK655.out 2; obtain ⟨Ao144, co144, eo144⟩ := Kd.R_slice HO653.out; subst eo144))
                          (try simp only [Act.put, List.setIfInBounds_toArray, List.set_cons_zero, List.set_cons_succ])
                          go_cut [120] (fun v120 wc => ∃ (kq : Nat) (x120_121 : Bool), v120 = .bool x120_121 ∧ Aside0 (laws_FnExactAppendTo.j2 kq t638 x120_121 t615 t616 t639 = some r) ∧ Aside0 (kq ≤ kj80) ∧ Aside0 (Kd.R k54 54 wc w.heap.size (fun k_ => some k_ ≠ ((.slice Ao43 t634.length co43) : Value).ownBlock ∧ some k_ ≠ ((.slice Ao53 t617.length co53) : Value).ownBlock ∧ some k_ ≠ ((.slice Ao144 t651.length co144) : Value).ownBlock) (.slice Ao36 t601.length co36) t601) ∧ Aside0 (Kd.R k54 54 wc w.heap.size (fun k_ => some k_ ≠ ((.slice Ao36 t601.length co36) : Value).ownBlock ∧ some k_ ≠ ((.slice Ao53 t617.length co53) : Value).ownBlock ∧ some k_ ≠ ((.slice Ao144 t651.length co144) : Value).ownBlock) (.slice Ao43 t634.length co43) t634) ∧ Aside0 (Kd.R k54 54 wc w.heap.size (fun k_ => some k_ ≠ ((.slice Ao36 t601.length co36) : Value).ownBlock ∧ some k_ ≠ ((.slice Ao43 t634.length co43) : Value).ownBlock ∧ some k_ ≠ ((.slice Ao144 t651.length co144) : Value).ownBlock) (.slice Ao53 t617.length co53) t639) ∧ Aside0 (Kd.R k54 54 wc w.heap.size (fun k_ => some k_ ≠ ((.slice Ao36 t601.length co36) : Value).ownBlock ∧ some k_ ≠ ((.slice Ao43 t634.length co43) : Value).ownBlock ∧ some k_ ≠ ((.slice Ao53 t617.length co53) : Value).ownBlock) (.slice Ao144 t651.length co144) t651) ∧ Aside0 (wc.heap[gb588]? = some (.cells #[.int .i64 a0_0, .int .i64 a0_1, (.slice A0_2 l0_2.length c0_2)] 24 (0, 0))) ∧ Aside0 (wc.heap[gb605]? = some (.cells #[.int .i64 t599, .int .i64 t600, (.slice Ao36 t601.length co36)] 29 (0, 0))) ∧ Aside0 (wc.heap[gb611]? = some (.cells #[.int .i64 t606, .int .i64 t607, (.slice Ao43 t634.length co43)] 29 (0, 0))) ∧ Aside0 (wc.heap[gb621]? = some (.cells #[.int .i64 t615, .int .i64 t616, (.slice Ao53 t617.length co53)] 29 (0, 0))) ∧ Aside0 (wc.heap[gb655]? = some (.cells #[.int .i64 t649, .int .i64 t650, (.slice Ao144 t651.length co144)] 29 (0, 0))) ∧ Aside0 (Below w.heap.size w wc))
                          case first =>
                            have H := HC122.out
                            clear HC122
                            replace H := Option.bind_eq_some_iff.mp H
                            obtain ⟨t656, A1450, H⟩ := H
                            replace H : (if t656 = true then (laws_FnExactAppendTo.j2 kj80 t638 (t654 != t604) t615 t616 t639) else (laws_FnExactAppendTo.j2 kj80 t638 true t615 t616 t639)) = some r := H
                            have A145 := Aside0.mk A1450
                            clear A1450
                            by_cases c146 : t656 = true
                            · subst c146
                              have H1 : (laws_FnExactAppendTo.j2 kj80 t638 (t654 != t604) t615 t616 t639) = some r := by rw [if_pos rfl] at H; exact H
                              clear H
                              have H := H1
                              clear H1
                              have H' := Aside0.mk H
                              clear H
                              have hnb147 := NB655_588.out
                              have hnc147 := NB588_655.out
                              have hnb148 := NB655_605.out
                              have hnc148 := NB605_655.out
                              have hnb149 := NB655_611.out
                              have hnc149 := NB611_655.out
                              have hnb150 := NB655_621.out
                              have hnc150 := NB621_655.out
                              have hcz151_0 : w138.cell? ⟨gb655, 0, none⟩ = some (.int .i64 0) := (blk_cell BK655.out 0).trans rfl
                              have hcz151_1 : w138.cell? ⟨gb655, 1, none⟩ = some (.int .i64 0) := (blk_cell BK655.out 1).trans rfl
                              have hcz151_2 : w138.cell? ⟨gb655, 2, none⟩ = some (.slice none 0 0) := (blk_cell BK655.out 2).trans rfl
                              have hfz151_0 := blk_frozen BK655.out 0
                              have hfz151_1 := blk_frozen BK655.out 1
                              have hfz151_2 := blk_frozen BK655.out 2
                              have hnb152 := NB605_588.out
                              have hnc152 := NB588_605.out
                              have hnb153 := NB605_611.out
                              have hnc153 := NB611_605.out
                              have hnb154 := NB605_621.out
                              have hnc154 := NB621_605.out
                              have hcz155_0 : w138.cell? ⟨gb605, 0, none⟩ = some (.int .i64 t599) := (blk_cell BK605.out 0).trans rfl
                              have hcz155_1 : w138.cell? ⟨gb605, 1, none⟩ = some (.int .i64 t600) := (blk_cell BK605.out 1).trans rfl
                              have hcz155_2 : w138.cell? ⟨gb605, 2, none⟩ = some (.slice Ao36 t601.length co36) := (blk_cell BK605.out 2).trans rfl
                              have hfz155_0 := blk_frozen BK605.out 0
                              have hfz155_1 := blk_frozen BK605.out 1
                              have hfz155_2 := blk_frozen BK605.out 2
                              go_wp2_with (first | ((with_reducible refine gate_callee (f := 17) rfl ?_); refine goesL_ (some 114) rfl rfl Try.func17 (by kernel_rfl) rfl #[.agg #[.int .i64 t649, .int .i64 t650, .slice Ao144 t651.length co144], .agg #[.int .i64 t599, .int .i64 t600, .slice Ao36 t601.length co36]] rfl (by (try simp only [List.map_toArray, List.map_cons, List.map_nil]); first | done | rfl | (simp only [List.length_drop, List.length_take]; rfl)) ?_; (with_reducible refine (laws_eqRLog.calls kj80 t649 t650 _ _ t651 t599 t600 _ _ t601 true _ ?side1 ?side2 ?side3 ?side4 A145.out).mono ?_); (case side1 => refine (Kd.R_reads' (e := 54) (base := w.heap.size) (ok := fun k_ => (((((True ∧ some k_ ≠ (.slice Ao36 t601.length co36 : Value).ownBlock) ∧ some k_ ≠ (.slice Ao43 t634.length co43 : Value).ownBlock) ∧ some k_ ≠ (.slice Ao53 t617.length co53 : Value).ownBlock) ∧ some k_ ≠ (.slice Ao135 t643.length co135 : Value).ownBlock) ∧ some k_ ≠ (.slice Ao136 t646.length co136 : Value).ownBlock)) (n := t651.length) (c := co144) ?_).2.2; exact (by (with_reducible repeat (first | apply Kd.R_alloc | apply Kd.R_drewN | apply Kd.R_drew)); exact (Kd.R_mono (Kd.R_far (p := ⟨gb655, 2, none⟩) (Kd.R_far (p := ⟨gb655, 1, none⟩) (Kd.R_far (p := ⟨gb655, 0, none⟩) (Kd.R_types HO653.out BK655.out (by decide)) (fun _ hk => hk.2) (.int .i64 t649)) (fun _ hk => hk.2) (.int .i64 t650)) (fun _ hk => hk.2) (.slice Ao144 t651.length co144)) (fun _ h_ => h_.1)))); (case side2 => exact (Kd.R_reads' HO653.out).2.1); (case side3 => refine (Kd.R_reads' (e := 54) (base := w.heap.size) (ok := fun k_ => ((((some k_ ≠ (.slice Ao43 t634.length co43 : Value).ownBlock ∧ some k_ ≠ (.slice Ao53 t617.length co53 : Value).ownBlock) ∧ some k_ ≠ (.slice Ao135 t643.length co135 : Value).ownBlock) ∧ some k_ ≠ (.slice Ao136 t646.length co136 : Value).ownBlock) ∧ some k_ ≠ (.slice Ao144 t651.length co144 : Value).ownBlock)) (n := t601.length) (c := co36) ?_).2.2; exact (by (with_reducible repeat (first | apply Kd.R_alloc | apply Kd.R_drewN | apply Kd.R_drew)); exact (Kd.R_mono (Kd.R_far (p := ⟨gb655, 2, none⟩) (Kd.R_far (p := ⟨gb655, 1, none⟩) (Kd.R_far (p := ⟨gb655, 0, none⟩) (Kd.R_types HO_606002.out BK655.out (by decide)) (fun _ hk => hk.2) (.int .i64 t649)) (fun _ hk => hk.2) (.int .i64 t650)) (fun _ hk => hk.2) (.slice Ao144 t651.length co144)) (fun _ h_ => h_.1)))); (case side4 => exact (Kd.R_reads' HO_606002.out).2.1); rintro e w156 ⟨rfl, hb⟩; refine ⟨_, rfl, ?_⟩; have n0_ := Aside0.mk (Kd.R_below (by (with_reducible repeat (first | apply Kd.R_alloc | apply Kd.R_drewN | apply Kd.R_drew)); exact (Kd.R_mono (Kd.R_far (p := ⟨gb655, 2, none⟩) (Kd.R_far (p := ⟨gb655, 1, none⟩) (Kd.R_far (p := ⟨gb655, 0, none⟩) (Kd.R_types HO_606002.out BK655.out (by decide)) (fun _ hk => hk.2) (.int .i64 t649)) (fun _ hk => hk.2) (.int .i64 t650)) (fun _ hk => hk.2) (.slice Ao144 t651.length co144)) (fun _ h_ => h_.1))) hb); have n1_ := Aside0.mk (Kd.R_below (by (with_reducible repeat (first | apply Kd.R_alloc | apply Kd.R_drewN | apply Kd.R_drew)); exact (Kd.R_mono (Kd.R_far (p := ⟨gb655, 2, none⟩) (Kd.R_far (p := ⟨gb655, 1, none⟩) (Kd.R_far (p := ⟨gb655, 0, none⟩) (Kd.R_types HO_612002.out BK655.out (by decide)) (fun _ hk => hk.2) (.int .i64 t649)) (fun _ hk => hk.2) (.int .i64 t650)) (fun _ hk => hk.2) (.slice Ao144 t651.length co144)) (fun _ h_ => h_.1))) hb); have n2_ := Aside0.mk (Kd.R_below (by (with_reducible repeat (first | apply Kd.R_alloc | apply Kd.R_drewN | apply Kd.R_drew)); exact (Kd.R_mono (Kd.R_far (p := ⟨gb655, 2, none⟩) (Kd.R_far (p := ⟨gb655, 1, none⟩) (Kd.R_far (p := ⟨gb655, 0, none⟩) (Kd.R_types HO_622002.out BK655.out (by decide)) (fun _ hk => hk.2) (.int .i64 t649)) (fun _ hk => hk.2) (.int .i64 t650)) (fun _ hk => hk.2) (.slice Ao144 t651.length co144)) (fun _ h_ => h_.1))) hb); have n3_ := Aside0.mk (Kd.R_below (by (with_reducible repeat (first | apply Kd.R_alloc | apply Kd.R_drewN | apply Kd.R_drew)); exact (Kd.R_mono (Kd.R_far (p := ⟨gb655, 2, none⟩) (Kd.R_far (p := ⟨gb655, 1, none⟩) (Kd.R_far (p := ⟨gb655, 0, none⟩) (Kd.R_types HO645.out BK655.out (by decide)) (fun _ hk => hk.2) (.int .i64 t649)) (fun _ hk => hk.2) (.int .i64 t650)) (fun _ hk => hk.2) (.slice Ao144 t651.length co144)) (fun _ h_ => h_.1))) hb); have n4_ := Aside0.mk (Kd.R_below (by (with_reducible repeat (first | apply Kd.R_alloc | apply Kd.R_drewN | apply Kd.R_drew)); exact (Kd.R_mono (Kd.R_far (p := ⟨gb655, 2, none⟩) (Kd.R_far (p := ⟨gb655, 1, none⟩) (Kd.R_far (p := ⟨gb655, 0, none⟩) (Kd.R_types HO648.out BK655.out (by decide)) (fun _ hk => hk.2) (.int .i64 t649)) (fun _ hk => hk.2) (.int .i64 t650)) (fun _ hk => hk.2) (.slice Ao144 t651.length co144)) (fun _ h_ => h_.1))) hb); have n5_ := Aside0.mk (Kd.R_below (by (with_reducible repeat (first | apply Kd.R_alloc | apply Kd.R_drewN | apply Kd.R_drew)); exact (Kd.R_mono (Kd.R_far (p := ⟨gb655, 2, none⟩) (Kd.R_far (p := ⟨gb655, 1, none⟩) (Kd.R_far (p := ⟨gb655, 0, none⟩) (Kd.R_types HO653.out BK655.out (by decide)) (fun _ hk => hk.2) (.int .i64 t649)) (fun _ hk => hk.2) (.int .i64 t650)) (fun _ hk => hk.2) (.slice Ao144 t651.length co144)) (fun _ h_ => h_.1))) hb); have n6_ := Aside0.mk (blk_below (g := gb588) (o := .cells #[.int .i64 a0_0, .int .i64 a0_1, .slice A0_2 l0_2.length c0_2] 24 (0, 0)) (by (with_reducible repeat (first | refine blk_drewN ?_ _ | refine blk_drew ?_ | refine blk_alloc ?_ _)); refine blk_far ?_ NB588_655.out _; (with_reducible repeat (first | refine blk_drewN ?_ _ | refine blk_drew ?_ | refine blk_alloc ?_ _)); refine blk_far ?_ NB588_655.out _; (with_reducible repeat (first | refine blk_drewN ?_ _ | refine blk_drew ?_ | refine blk_alloc ?_ _)); refine blk_far ?_ NB588_655.out _; (with_reducible repeat (first | refine blk_drewN ?_ _ | refine blk_drew ?_ | refine blk_alloc ?_ _)); exact BK588.out) hb); have n7_ := Aside0.mk (blk_below (g := gb605) (o := .cells #[.int .i64 t599, .int .i64 t600, .slice Ao36 t601.length co36] 29 (0, 0)) (by (with_reducible repeat (first | refine blk_drewN ?_ _ | refine blk_drew ?_ | refine blk_alloc ?_ _)); refine blk_far ?_ NB605_655.out _; (with_reducible repeat (first | refine blk_drewN ?_ _ | refine blk_drew ?_ | refine blk_alloc ?_ _)); refine blk_far ?_ NB605_655.out _; (with_reducible repeat (first | refine blk_drewN ?_ _ | refine blk_drew ?_ | refine blk_alloc ?_ _)); refine blk_far ?_ NB605_655.out _; (with_reducible repeat (first | refine blk_drewN ?_ _ | refine blk_drew ?_ | refine blk_alloc ?_ _)); exact BK605.out) hb); have n8_ := Aside0.mk (blk_below (g := gb611) (o := .cells #[.int .i64 t606, .int .i64 t607, .slice Ao43 t634.length co43] 29 (0, 0)) (by (with_reducible repeat (first | refine blk_drewN ?_ _ | refine blk_drew ?_ | refine blk_alloc ?_ _)); refine blk_far ?_ NB611_655.out _; (with_reducible repeat (first | refine blk_drewN ?_ _ | refine blk_drew ?_ | refine blk_alloc ?_ _)); refine blk_far ?_ NB611_655.out _; (with_reducible repeat (first | refine blk_drewN ?_ _ | refine blk_drew ?_ | refine blk_alloc ?_ _)); refine blk_far ?_ NB611_655.out _; (with_reducible repeat (first | refine blk_drewN ?_ _ | refine blk_drew ?_ | refine blk_alloc ?_ _)); exact BK611.out) hb); have n9_ := Aside0.mk (blk_below (g := gb621) (o := .cells #[.int .i64 t615, .int .i64 t616, .slice Ao53 t617.length co53] 29 (0, 0)) (by (with_reducible repeat (first | refine blk_drewN ?_ _ | refine blk_drew ?_ | refine blk_alloc ?_ _)); refine blk_far ?_ NB621_655.out _; (with_reducible repeat (first | refine blk_drewN ?_ _ | refine blk_drew ?_ | refine blk_alloc ?_ _)); refine blk_far ?_ NB621_655.out _; (with_reducible repeat (first | refine blk_drewN ?_ _ | refine blk_drew ?_ | refine blk_alloc ?_ _)); refine blk_far ?_ NB621_655.out _; (with_reducible repeat (first | refine blk_drewN ?_ _ | refine blk_drew ?_ | refine blk_alloc ?_ _)); exact BK621.out) hb); have n10_ := Aside0.mk (blk_below (g := gb655) (o := .cells #[.int .i64 t649, .int .i64 t650, .slice Ao144 t651.length co144] 29 (0, 0)) (by (with_reducible repeat (first | refine blk_drewN ?_ _ | refine blk_drew ?_ | refine blk_alloc ?_ _)); refine blk_put (cs := #[.int .i64 t649, .int .i64 t650, .slice none 0 0]) ?_ 2 _ rfl; (with_reducible repeat (first | refine blk_drewN ?_ _ | refine blk_drew ?_ | refine blk_alloc ?_ _)); refine blk_put (cs := #[.int .i64 t649, .int .i64 0, .slice none 0 0]) ?_ 1 _ rfl; (with_reducible repeat (first | refine blk_drewN ?_ _ | refine blk_drew ?_ | refine blk_alloc ?_ _)); refine blk_put (cs := #[.int .i64 0, .int .i64 0, .slice none 0 0]) ?_ 0 _ rfl; (with_reducible repeat (first | refine blk_drewN ?_ _ | refine blk_drew ?_ | refine blk_alloc ?_ _)); exact BK655.out) hb); have n11_ := Aside0.mk (below_step (by repeat (first | (with_reducible first | exact HB.out | apply below_alloc | apply pw_below_drewN | apply below_drew1 | refine below_set ?_ GE588.out | refine below_set ?_ GE605.out | refine below_set ?_ GE611.out | refine below_set ?_ GE621.out | refine below_set ?_ GE655.out) | exact HB.out)) hb); clear HO_606002; clear HO_612002; clear HO_622002; clear HO645; clear HO648; clear HO653; clear BK588; clear BK605; clear BK611; clear BK621; clear BK655; clear HB; have HO_606002 := n0_; have HO_612002 := n1_; have HO_622002 := n2_; have HO645 := n3_; have HO648 := n4_; have HO653 := n5_; have BK588 := n6_; have BK605 := n7_; have BK611 := n8_; have BK621 := n9_; have BK655 := n10_; have HB := n11_; clear n0_ n1_ n2_ n3_ n4_ n5_ n6_ n7_ n8_ n9_ n10_ n11_; (try clear hb); (try clear hb2); (try clear hk); (try clear hi)))
                              go_meet
                              case rel => exact ⟨_, ((t654 != t604)), (by first | rfl | (simp; done) | (simp [*]; done)), H', ⟨by have := HJ21.out; have := HJ80.out; first | omega | exact Nat.le_refl _⟩, ⟨by (try simp only [hl612002_80]); (with_reducible repeat (first | apply Kd.R_alloc | apply Kd.R_drewN | apply Kd.R_drew)); exact Kd.R_mono HO_606002.out (fun _ hk => ⟨hk.1.1.1.1, ⟨hk.1.1.1.2, hk.2⟩⟩)⟩, ⟨by (try simp only [hl612002_80]); (with_reducible repeat (first | apply Kd.R_alloc | apply Kd.R_drewN | apply Kd.R_drew)); exact Kd.R_mono HO_612002.out (fun _ hk => ⟨hk.1.1.1.1, ⟨hk.1.1.1.2, hk.2⟩⟩)⟩, ⟨by (try simp only [hl612002_80]); (with_reducible repeat (first | apply Kd.R_alloc | apply Kd.R_drewN | apply Kd.R_drew)); exact Kd.R_mono HO_622002.out (fun _ hk => ⟨hk.1.1.1.1, ⟨hk.1.1.1.2, hk.2⟩⟩)⟩, ⟨by (try simp only [hl612002_80]); (with_reducible repeat (first | apply Kd.R_alloc | apply Kd.R_drewN | apply Kd.R_drew)); exact Kd.R_mono HO653.out (fun _ hk => ⟨hk.1.1.1.1.2, ⟨hk.1.1.1.2, hk.1.1.2⟩⟩)⟩, ⟨by (try simp only [hl612002_80]); (with_reducible repeat (first | refine blk_drewN ?_ _ | refine blk_drew ?_ | refine blk_alloc ?_ _)); exact BK588.out⟩, ⟨by (try simp only [hl612002_80]); (with_reducible repeat (first | refine blk_drewN ?_ _ | refine blk_drew ?_ | refine blk_alloc ?_ _)); exact BK605.out⟩, ⟨by (try simp only [hl612002_80]); (with_reducible repeat (first | refine blk_drewN ?_ _ | refine blk_drew ?_ | refine blk_alloc ?_ _)); exact BK611.out⟩, ⟨by (try simp only [hl612002_80]); (with_reducible repeat (first | refine blk_drewN ?_ _ | refine blk_drew ?_ | refine blk_alloc ?_ _)); exact BK621.out⟩, ⟨by (try simp only [hl612002_80]); (with_reducible repeat (first | refine blk_drewN ?_ _ | refine blk_drew ?_ | refine blk_alloc ?_ _)); exact BK655.out⟩, ⟨by repeat (first | (with_reducible first | exact HB.out | apply below_alloc | apply pw_below_drewN | apply below_drew1 | refine below_set ?_ GE588.out | refine below_set ?_ GE605.out | refine below_set ?_ GE611.out | refine below_set ?_ GE621.out | refine below_set ?_ GE655.out) | exact HB.out)⟩⟩
                            · replace c146 := Bool.eq_false_iff.mpr c146
                              subst c146
                              have H1 : (laws_FnExactAppendTo.j2 kj80 t638 true t615 t616 t639) = some r := by rw [if_neg (show ¬ (false = true) by decide)] at H; exact H
                              clear H
                              have H := H1
                              clear H1
                              have H' := Aside0.mk H
                              clear H
                              have hnb157 := NB655_588.out
                              have hnc157 := NB588_655.out
                              have hnb158 := NB655_605.out
                              have hnc158 := NB605_655.out
                              have hnb159 := NB655_611.out
                              have hnc159 := NB611_655.out
                              have hnb160 := NB655_621.out
                              have hnc160 := NB621_655.out
                              have hcz161_0 : w138.cell? ⟨gb655, 0, none⟩ = some (.int .i64 0) := (blk_cell BK655.out 0).trans rfl
                              have hcz161_1 : w138.cell? ⟨gb655, 1, none⟩ = some (.int .i64 0) := (blk_cell BK655.out 1).trans rfl
                              have hcz161_2 : w138.cell? ⟨gb655, 2, none⟩ = some (.slice none 0 0) := (blk_cell BK655.out 2).trans rfl
                              have hfz161_0 := blk_frozen BK655.out 0
                              have hfz161_1 := blk_frozen BK655.out 1
                              have hfz161_2 := blk_frozen BK655.out 2
                              have hnb162 := NB605_588.out
                              have hnc162 := NB588_605.out
                              have hnb163 := NB605_611.out
                              have hnc163 := NB611_605.out
                              have hnb164 := NB605_621.out
                              have hnc164 := NB621_605.out
                              have hcz165_0 : w138.cell? ⟨gb605, 0, none⟩ = some (.int .i64 t599) := (blk_cell BK605.out 0).trans rfl
                              have hcz165_1 : w138.cell? ⟨gb605, 1, none⟩ = some (.int .i64 t600) := (blk_cell BK605.out 1).trans rfl
                              have hcz165_2 : w138.cell? ⟨gb605, 2, none⟩ = some (.slice Ao36 t601.length co36) := (blk_cell BK605.out 2).trans rfl
                              have hfz165_0 := blk_frozen BK605.out 0
                              have hfz165_1 := blk_frozen BK605.out 1
                              have hfz165_2 := blk_frozen BK605.out 2
                              go_wp2_with (first | ((with_reducible refine gate_callee (f := 17) rfl ?_); refine goesL_ (some 114) rfl rfl Try.func17 (by kernel_rfl) rfl #[.agg #[.int .i64 t649, .int .i64 t650, .slice Ao144 t651.length co144], .agg #[.int .i64 t599, .int .i64 t600, .slice Ao36 t601.length co36]] rfl (by (try simp only [List.map_toArray, List.map_cons, List.map_nil]); first | done | rfl | (simp only [List.length_drop, List.length_take]; rfl)) ?_; (with_reducible refine (laws_eqRLog.calls kj80 t649 t650 _ _ t651 t599 t600 _ _ t601 false _ ?side1 ?side2 ?side3 ?side4 A145.out).mono ?_); (case side1 => refine (Kd.R_reads' (e := 54) (base := w.heap.size) (ok := fun k_ => (((((True ∧ some k_ ≠ (.slice Ao36 t601.length co36 : Value).ownBlock) ∧ some k_ ≠ (.slice Ao43 t634.length co43 : Value).ownBlock) ∧ some k_ ≠ (.slice Ao53 t617.length co53 : Value).ownBlock) ∧ some k_ ≠ (.slice Ao135 t643.length co135 : Value).ownBlock) ∧ some k_ ≠ (.slice Ao136 t646.length co136 : Value).ownBlock)) (n := t651.length) (c := co144) ?_).2.2; exact (by (with_reducible repeat (first | apply Kd.R_alloc | apply Kd.R_drewN | apply Kd.R_drew)); exact (Kd.R_mono (Kd.R_far (p := ⟨gb655, 2, none⟩) (Kd.R_far (p := ⟨gb655, 1, none⟩) (Kd.R_far (p := ⟨gb655, 0, none⟩) (Kd.R_types HO653.out BK655.out (by decide)) (fun _ hk => hk.2) (.int .i64 t649)) (fun _ hk => hk.2) (.int .i64 t650)) (fun _ hk => hk.2) (.slice Ao144 t651.length co144)) (fun _ h_ => h_.1)))); (case side2 => exact (Kd.R_reads' HO653.out).2.1); (case side3 => refine (Kd.R_reads' (e := 54) (base := w.heap.size) (ok := fun k_ => ((((some k_ ≠ (.slice Ao43 t634.length co43 : Value).ownBlock ∧ some k_ ≠ (.slice Ao53 t617.length co53 : Value).ownBlock) ∧ some k_ ≠ (.slice Ao135 t643.length co135 : Value).ownBlock) ∧ some k_ ≠ (.slice Ao136 t646.length co136 : Value).ownBlock) ∧ some k_ ≠ (.slice Ao144 t651.length co144 : Value).ownBlock)) (n := t601.length) (c := co36) ?_).2.2; exact (by (with_reducible repeat (first | apply Kd.R_alloc | apply Kd.R_drewN | apply Kd.R_drew)); exact (Kd.R_mono (Kd.R_far (p := ⟨gb655, 2, none⟩) (Kd.R_far (p := ⟨gb655, 1, none⟩) (Kd.R_far (p := ⟨gb655, 0, none⟩) (Kd.R_types HO_606002.out BK655.out (by decide)) (fun _ hk => hk.2) (.int .i64 t649)) (fun _ hk => hk.2) (.int .i64 t650)) (fun _ hk => hk.2) (.slice Ao144 t651.length co144)) (fun _ h_ => h_.1)))); (case side4 => exact (Kd.R_reads' HO_606002.out).2.1); rintro e w166 ⟨rfl, hb⟩; refine ⟨_, rfl, ?_⟩; have n0_ := Aside0.mk (Kd.R_below (by (with_reducible repeat (first | apply Kd.R_alloc | apply Kd.R_drewN | apply Kd.R_drew)); exact (Kd.R_mono (Kd.R_far (p := ⟨gb655, 2, none⟩) (Kd.R_far (p := ⟨gb655, 1, none⟩) (Kd.R_far (p := ⟨gb655, 0, none⟩) (Kd.R_types HO_606002.out BK655.out (by decide)) (fun _ hk => hk.2) (.int .i64 t649)) (fun _ hk => hk.2) (.int .i64 t650)) (fun _ hk => hk.2) (.slice Ao144 t651.length co144)) (fun _ h_ => h_.1))) hb); have n1_ := Aside0.mk (Kd.R_below (by (with_reducible repeat (first | apply Kd.R_alloc | apply Kd.R_drewN | apply Kd.R_drew)); exact (Kd.R_mono (Kd.R_far (p := ⟨gb655, 2, none⟩) (Kd.R_far (p := ⟨gb655, 1, none⟩) (Kd.R_far (p := ⟨gb655, 0, none⟩) (Kd.R_types HO_612002.out BK655.out (by decide)) (fun _ hk => hk.2) (.int .i64 t649)) (fun _ hk => hk.2) (.int .i64 t650)) (fun _ hk => hk.2) (.slice Ao144 t651.length co144)) (fun _ h_ => h_.1))) hb); have n2_ := Aside0.mk (Kd.R_below (by (with_reducible repeat (first | apply Kd.R_alloc | apply Kd.R_drewN | apply Kd.R_drew)); exact (Kd.R_mono (Kd.R_far (p := ⟨gb655, 2, none⟩) (Kd.R_far (p := ⟨gb655, 1, none⟩) (Kd.R_far (p := ⟨gb655, 0, none⟩) (Kd.R_types HO_622002.out BK655.out (by decide)) (fun _ hk => hk.2) (.int .i64 t649)) (fun _ hk => hk.2) (.int .i64 t650)) (fun _ hk => hk.2) (.slice Ao144 t651.length co144)) (fun _ h_ => h_.1))) hb); have n3_ := Aside0.mk (Kd.R_below (by (with_reducible repeat (first | apply Kd.R_alloc | apply Kd.R_drewN | apply Kd.R_drew)); exact (Kd.R_mono (Kd.R_far (p := ⟨gb655, 2, none⟩) (Kd.R_far (p := ⟨gb655, 1, none⟩) (Kd.R_far (p := ⟨gb655, 0, none⟩) (Kd.R_types HO645.out BK655.out (by decide)) (fun _ hk => hk.2) (.int .i64 t649)) (fun _ hk => hk.2) (.int .i64 t650)) (fun _ hk => hk.2) (.slice Ao144 t651.length co144)) (fun _ h_ => h_.1))) hb); have n4_ := Aside0.mk (Kd.R_below (by (with_reducible repeat (first | apply Kd.R_alloc | apply Kd.R_drewN | apply Kd.R_drew)); exact (Kd.R_mono (Kd.R_far (p := ⟨gb655, 2, none⟩) (Kd.R_far (p := ⟨gb655, 1, none⟩) (Kd.R_far (p := ⟨gb655, 0, none⟩) (Kd.R_types HO648.out BK655.out (by decide)) (fun _ hk => hk.2) (.int .i64 t649)) (fun _ hk => hk.2) (.int .i64 t650)) (fun _ hk => hk.2) (.slice Ao144 t651.length co144)) (fun _ h_ => h_.1))) hb); have n5_ := Aside0.mk (Kd.R_below (by (with_reducible repeat (first | apply Kd.R_alloc | apply Kd.R_drewN | apply Kd.R_drew)); exact (Kd.R_mono (Kd.R_far (p := ⟨gb655, 2, none⟩) (Kd.R_far (p := ⟨gb655, 1, none⟩) (Kd.R_far (p := ⟨gb655, 0, none⟩) (Kd.R_types HO653.out BK655.out (by decide)) (fun _ hk => hk.2) (.int .i64 t649)) (fun _ hk => hk.2) (.int .i64 t650)) (fun _ hk => hk.2) (.slice Ao144 t651.length co144)) (fun _ h_ => h_.1))) hb); have n6_ := Aside0.mk (blk_below (g := gb588) (o := .cells #[.int .i64 a0_0, .int .i64 a0_1, .slice A0_2 l0_2.length c0_2] 24 (0, 0)) (by (with_reducible repeat (first | refine blk_drewN ?_ _ | refine blk_drew ?_ | refine blk_alloc ?_ _)); refine blk_far ?_ NB588_655.out _; (with_reducible repeat (first | refine blk_drewN ?_ _ | refine blk_drew ?_ | refine blk_alloc ?_ _)); refine blk_far ?_ NB588_655.out _; (with_reducible repeat (first | refine blk_drewN ?_ _ | refine blk_drew ?_ | refine blk_alloc ?_ _)); refine blk_far ?_ NB588_655.out _; (with_reducible repeat (first | refine blk_drewN ?_ _ | refine blk_drew ?_ | refine blk_alloc ?_ _)); exact BK588.out) hb); have n7_ := Aside0.mk (blk_below (g := gb605) (o := .cells #[.int .i64 t599, .int .i64 t600, .slice Ao36 t601.length co36] 29 (0, 0)) (by (with_reducible repeat (first | refine blk_drewN ?_ _ | refine blk_drew ?_ | refine blk_alloc ?_ _)); refine blk_far ?_ NB605_655.out _; (with_reducible repeat (first | refine blk_drewN ?_ _ | refine blk_drew ?_ | refine blk_alloc ?_ _)); refine blk_far ?_ NB605_655.out _; (with_reducible repeat (first | refine blk_drewN ?_ _ | refine blk_drew ?_ | refine blk_alloc ?_ _)); refine blk_far ?_ NB605_655.out _; (with_reducible repeat (first | refine blk_drewN ?_ _ | refine blk_drew ?_ | refine blk_alloc ?_ _)); exact BK605.out) hb); have n8_ := Aside0.mk (blk_below (g := gb611) (o := .cells #[.int .i64 t606, .int .i64 t607, .slice Ao43 t634.length co43] 29 (0, 0)) (by (with_reducible repeat (first | refine blk_drewN ?_ _ | refine blk_drew ?_ | refine blk_alloc ?_ _)); refine blk_far ?_ NB611_655.out _; (with_reducible repeat (first | refine blk_drewN ?_ _ | refine blk_drew ?_ | refine blk_alloc ?_ _)); refine blk_far ?_ NB611_655.out _; (with_reducible repeat (first | refine blk_drewN ?_ _ | refine blk_drew ?_ | refine blk_alloc ?_ _)); refine blk_far ?_ NB611_655.out _; (with_reducible repeat (first | refine blk_drewN ?_ _ | refine blk_drew ?_ | refine blk_alloc ?_ _)); exact BK611.out) hb); have n9_ := Aside0.mk (blk_below (g := gb621) (o := .cells #[.int .i64 t615, .int .i64 t616, .slice Ao53 t617.length co53] 29 (0, 0)) (by (with_reducible repeat (first | refine blk_drewN ?_ _ | refine blk_drew ?_ | refine blk_alloc ?_ _)); refine blk_far ?_ NB621_655.out _; (with_reducible repeat (first | refine blk_drewN ?_ _ | refine blk_drew ?_ | refine blk_alloc ?_ _)); refine blk_far ?_ NB621_655.out _; (with_reducible repeat (first | refine blk_drewN ?_ _ | refine blk_drew ?_ | refine blk_alloc ?_ _)); refine blk_far ?_ NB621_655.out _; (with_reducible repeat (first | refine blk_drewN ?_ _ | refine blk_drew ?_ | refine blk_alloc ?_ _)); exact BK621.out) hb); have n10_ := Aside0.mk (blk_below (g := gb655) (o := .cells #[.int .i64 t649, .int .i64 t650, .slice Ao144 t651.length co144] 29 (0, 0)) (by (with_reducible repeat (first | refine blk_drewN ?_ _ | refine blk_drew ?_ | refine blk_alloc ?_ _)); refine blk_put (cs := #[.int .i64 t649, .int .i64 t650, .slice none 0 0]) ?_ 2 _ rfl; (with_reducible repeat (first | refine blk_drewN ?_ _ | refine blk_drew ?_ | refine blk_alloc ?_ _)); refine blk_put (cs := #[.int .i64 t649, .int .i64 0, .slice none 0 0]) ?_ 1 _ rfl; (with_reducible repeat (first | refine blk_drewN ?_ _ | refine blk_drew ?_ | refine blk_alloc ?_ _)); refine blk_put (cs := #[.int .i64 0, .int .i64 0, .slice none 0 0]) ?_ 0 _ rfl; (with_reducible repeat (first | refine blk_drewN ?_ _ | refine blk_drew ?_ | refine blk_alloc ?_ _)); exact BK655.out) hb); have n11_ := Aside0.mk (below_step (by repeat (first | (with_reducible first | exact HB.out | apply below_alloc | apply pw_below_drewN | apply below_drew1 | refine below_set ?_ GE588.out | refine below_set ?_ GE605.out | refine below_set ?_ GE611.out | refine below_set ?_ GE621.out | refine below_set ?_ GE655.out) | exact HB.out)) hb); clear HO_606002; clear HO_612002; clear HO_622002; clear HO645; clear HO648; clear HO653; clear BK588; clear BK605; clear BK611; clear BK621; clear BK655; clear HB; have HO_606002 := n0_; have HO_612002 := n1_; have HO_622002 := n2_; have HO645 := n3_; have HO648 := n4_; have HO653 := n5_; have BK588 := n6_; have BK605 := n7_; have BK611 := n8_; have BK621 := n9_; have BK655 := n10_; have HB := n11_; clear n0_ n1_ n2_ n3_ n4_ n5_ n6_ n7_ n8_ n9_ n10_ n11_; (try clear hb); (try clear hb2); (try clear hk); (try clear hi)))
                              go_meet
                              case rel => exact ⟨_, (true), (by first | rfl | (simp; done) | (simp [*]; done)), H', ⟨by have := HJ21.out; have := HJ80.out; first | omega | exact Nat.le_refl _⟩, ⟨by (try simp only [hl612002_80]); (with_reducible repeat (first | apply Kd.R_alloc | apply Kd.R_drewN | apply Kd.R_drew)); exact Kd.R_mono HO_606002.out (fun _ hk => ⟨hk.1.1.1.1, ⟨hk.1.1.1.2, hk.2⟩⟩)⟩, ⟨by (try simp only [hl612002_80]); (with_reducible repeat (first | apply Kd.R_alloc | apply Kd.R_drewN | apply Kd.R_drew)); exact Kd.R_mono HO_612002.out (fun _ hk => ⟨hk.1.1.1.1, ⟨hk.1.1.1.2, hk.2⟩⟩)⟩, ⟨by (try simp only [hl612002_80]); (with_reducible repeat (first | apply Kd.R_alloc | apply Kd.R_drewN | apply Kd.R_drew)); exact Kd.R_mono HO_622002.out (fun _ hk => ⟨hk.1.1.1.1, ⟨hk.1.1.1.2, hk.2⟩⟩)⟩, ⟨by (try simp only [hl612002_80]); (with_reducible repeat (first | apply Kd.R_alloc | apply Kd.R_drewN | apply Kd.R_drew)); exact Kd.R_mono HO653.out (fun _ hk => ⟨hk.1.1.1.1.2, ⟨hk.1.1.1.2, hk.1.1.2⟩⟩)⟩, ⟨by (try simp only [hl612002_80]); (with_reducible repeat (first | refine blk_drewN ?_ _ | refine blk_drew ?_ | refine blk_alloc ?_ _)); exact BK588.out⟩, ⟨by (try simp only [hl612002_80]); (with_reducible repeat (first | refine blk_drewN ?_ _ | refine blk_drew ?_ | refine blk_alloc ?_ _)); exact BK605.out⟩, ⟨by (try simp only [hl612002_80]); (with_reducible repeat (first | refine blk_drewN ?_ _ | refine blk_drew ?_ | refine blk_alloc ?_ _)); exact BK611.out⟩, ⟨by (try simp only [hl612002_80]); (with_reducible repeat (first | refine blk_drewN ?_ _ | refine blk_drew ?_ | refine blk_alloc ?_ _)); exact BK621.out⟩, ⟨by (try simp only [hl612002_80]); (with_reducible repeat (first | refine blk_drewN ?_ _ | refine blk_drew ?_ | refine blk_alloc ?_ _)); exact BK655.out⟩, ⟨by repeat (first | (with_reducible first | exact HB.out | apply below_alloc | apply pw_below_drewN | apply below_drew1 | refine below_set ?_ GE588.out | refine below_set ?_ GE605.out | refine below_set ?_ GE611.out | refine below_set ?_ GE621.out | refine below_set ?_ GE655.out) | exact HB.out)⟩⟩
                          case rest =>
                            clear HC122
                            try clear c1
                            try clear c2
                            try clear p2
                            try clear c3
                            try clear c4
                            try clear c5
                            try clear c6
                            try clear c6b0
                            try clear c7
                            try clear c8
                            try clear c9
                            try clear c10
                            try clear c11
                            try clear c11b0
                            try clear c12
                            try clear c13
                            try clear c14
                            try clear c15
                            try clear c16
                            try clear c17
                            try clear c28
                            try clear c29
                            try clear c30
                            try clear c34
                            try clear c35
                            try clear c36
                            try clear c37
                            try clear c38
                            try clear c40
                            try clear c41
                            try clear c49
                            try clear c50
                            try clear c51
                            try clear c55
                            try clear c56
                            try clear c57
                            try clear c58
                            try clear c60
                            try clear c61
                            try clear c64
                            try clear c65
                            try clear c66
                            try clear c68
                            try clear c69
                            try clear c72
                            try clear c75
                            try clear c78
                            try clear c89
                            try clear c90
                            try clear c91
                            try clear c95
                            try clear c95b0
                            try clear c97
                            try clear c98
                            try clear c99
                            try clear c100
                            try clear c102
                            try clear c103
                            try clear c106
                            try clear c107
                            try clear c108
                            try clear c110
                            try clear c111
                            try clear c114
                            try clear c117
                            try clear c117b0
                            try clear c118
                            try clear c118b0
                            try clear c118b1
                            try clear c123
                            try clear c124
                            try clear c125
                            try clear c130
                            try clear c131
                            try clear c139
                            try clear c140
                            try clear c141
                            try clear c142
                            try clear c146
                            try clear c147
                            try clear c148
                            try clear c149
                            try clear c150
                            try clear c152
                            try clear c153
                            try clear c154
                            try clear c157
                            try clear c158
                            try clear c159
                            try clear c160
                            try clear c162
                            try clear c163
                            try clear c164
                            try clear hcz101_0
                            try clear hcz101_1
                            try clear hcz101_2
                            try clear hcz104_0
                            try clear hcz104_1
                            try clear hcz104_2
                            try clear hcz109_0
                            try clear hcz109_1
                            try clear hcz109_2
                            try clear hcz112_0
                            try clear hcz112_1
                            try clear hcz112_2
                            try clear hcz126_0
                            try clear hcz126_1
                            try clear hcz126_2
                            try clear hcz128_0
                            try clear hcz128_1
                            try clear hcz128_2
                            try clear hcz132_0
                            try clear hcz132_1
                            try clear hcz132_2
                            try clear hcz13_0
                            try clear hcz13_1
                            try clear hcz13_2
                            try clear hcz143_0
                            try clear hcz143_1
                            try clear hcz143_2
                            try clear hcz151_0
                            try clear hcz151_1
                            try clear hcz151_2
                            try clear hcz155_0
                            try clear hcz155_1
                            try clear hcz155_2
                            try clear hcz161_0
                            try clear hcz161_1
                            try clear hcz161_2
                            try clear hcz165_0
                            try clear hcz165_1
                            try clear hcz165_2
                            try clear hcz24_0
                            try clear hcz24_1
                            try clear hcz24_2
                            try clear hcz27_0
                            try clear hcz27_1
                            try clear hcz27_2
                            try clear hcz35_0
                            try clear hcz35_1
                            try clear hcz35_2
                            try clear hcz37_0
                            try clear hcz37_1
                            try clear hcz37_2
                            try clear hcz42_0
                            try clear hcz42_1
                            try clear hcz42_2
                            try clear hcz45_0
                            try clear hcz45_1
                            try clear hcz45_2
                            try clear hcz52_0
                            try clear hcz52_1
                            try clear hcz52_2
                            try clear hcz59_0
                            try clear hcz59_1
                            try clear hcz59_2
                            try clear hcz62_0
                            try clear hcz62_1
                            try clear hcz62_2
                            try clear hcz67_0
                            try clear hcz67_1
                            try clear hcz67_2
                            try clear hcz70_0
                            try clear hcz70_1
                            try clear hcz70_2
                            try clear hcz8_0
                            try clear hcz8_1
                            try clear hcz8_2
                            try clear hcz92_0
                            try clear hcz92_1
                            try clear hcz92_2
                            try clear hfz101_0
                            try clear hfz101_1
                            try clear hfz101_2
                            try clear hfz104_0
                            try clear hfz104_1
                            try clear hfz104_2
                            try clear hfz109_0
                            try clear hfz109_1
                            try clear hfz109_2
                            try clear hfz112_0
                            try clear hfz112_1
                            try clear hfz112_2
                            try clear hfz126_0
                            try clear hfz126_1
                            try clear hfz126_2
                            try clear hfz128_0
                            try clear hfz128_1
                            try clear hfz128_2
                            try clear hfz132_0
                            try clear hfz132_1
                            try clear hfz132_2
                            try clear hfz13_0
                            try clear hfz13_1
                            try clear hfz13_2
                            try clear hfz143_0
                            try clear hfz143_1
                            try clear hfz143_2
                            try clear hfz151_0
                            try clear hfz151_1
                            try clear hfz151_2
                            try clear hfz155_0
                            try clear hfz155_1
                            try clear hfz155_2
                            try clear hfz161_0
                            try clear hfz161_1
                            try clear hfz161_2
                            try clear hfz165_0
                            try clear hfz165_1
                            try clear hfz165_2
                            try clear hfz24_0
                            try clear hfz24_1
                            try clear hfz24_2
                            try clear hfz27_0
                            try clear hfz27_1
                            try clear hfz27_2
                            try clear hfz35_0
                            try clear hfz35_1
                            try clear hfz35_2
                            try clear hfz37_0
                            try clear hfz37_1
                            try clear hfz37_2
                            try clear hfz42_0
                            try clear hfz42_1
                            try clear hfz42_2
                            try clear hfz45_0
                            try clear hfz45_1
                            try clear hfz45_2
                            try clear hfz52_0
                            try clear hfz52_1
                            try clear hfz52_2
                            try clear hfz59_0
                            try clear hfz59_1
                            try clear hfz59_2
                            try clear hfz62_0
                            try clear hfz62_1
                            try clear hfz62_2
                            try clear hfz67_0
                            try clear hfz67_1
                            try clear hfz67_2
                            try clear hfz70_0
                            try clear hfz70_1
                            try clear hfz70_2
                            try clear hfz8_0
                            try clear hfz8_1
                            try clear hfz8_2
                            try clear hfz92_0
                            try clear hfz92_1
                            try clear hfz92_2
                            try clear p2
                            obtain ⟨kq, x120_121, rfl, HA, HJ121, HO_606002, HO_612002, HO_622002, HO_656002, BK588, BK605, BK611, BK621, BK655, HB⟩ := hcut
                            have hl622002_121 := (Kd.R_reads' HO_622002.out).1
                            rw [hl622002_121] at HO_622002
                            (try simp only [hl622002_121])
                            (try simp only [hl622002_121] at BK588)
                            (try simp only [hl622002_121] at BK605)
                            (try simp only [hl622002_121] at BK611)
                            (try simp only [hl622002_121] at BK621)
                            (try simp only [hl622002_121] at BK655)
                            (try simp only [hl622002_121] at HO_606002)
                            (try simp only [hl622002_121] at HO_612002)
                            (try simp only [hl622002_121] at HO_656002)
                            cases kq with
                            | zero => exact absurd HA.out (by simp [laws_FnExactAppendTo.j2])
                            | succ kj121 =>
                              have H := HA.out
                              clear HA
                              simp only [laws_FnExactAppendTo.j2] at H
                              by_cases c167 : x120_121 = true
                              · subst c167
                                have H1 : (none) = some r := by rw [if_pos rfl] at H; exact H
                                clear H
                                have H := H1
                                clear H1
                                exact absurd H (by simp)
                              · replace c167 := Bool.eq_false_iff.mpr c167
                                subst c167
                                have H1 : ((laws_heldRLog.f kj121 t615 t616 t639 1).bind fun t657 => (if t657 < 0 then (none) else (if t657 = t638 then (some true) else (none)))) = some r := by rw [if_neg (show ¬ (false = true) by decide)] at H; exact H
                                clear H
                                have H := H1
                                clear H1
                                replace H := Option.bind_eq_some_iff.mp H
                                obtain ⟨t657, A1680, H⟩ := H
                                replace H : (if t657 < 0 then (none) else (if t657 = t638 then (some true) else (none))) = some r := H
                                have A168 := Aside0.mk A1680
                                clear A1680
                                by_cases c169 : t657 < 0
                                · rw [if_pos c169] at H
                                  exact absurd H (by simp)
                                · rw [if_neg c169] at H
                                  have c169b0 : decide (t657 < 0) = false := decide_eq_false c169
                                  clear c169
                                  by_cases c170 : t657 = t638
                                  · rw [if_pos c170] at H
                                    have c170b0 : (t657 == t638) = true := beq_iff_eq.mpr c170
                                    have c170b1 : (t657 != t638) = false := bne_eq_false_iff_eq.mpr c170
                                    clear c170
                                    obtain rfl := Option.some.inj H
                                    have hnb171 := NB621_588.out
                                    have hnc171 := NB588_621.out
                                    have hnb172 := NB621_605.out
                                    have hnc172 := NB605_621.out
                                    have hnb173 := NB621_611.out
                                    have hnc173 := NB611_621.out
                                    have hnb174 := NB621_655.out
                                    have hnc174 := NB655_621.out
                                    have hcz175_0 : wc.cell? ⟨gb621, 0, none⟩ = some (.int .i64 t615) := (blk_cell BK621.out 0).trans rfl
                                    have hcz175_1 : wc.cell? ⟨gb621, 1, none⟩ = some (.int .i64 t616) := (blk_cell BK621.out 1).trans rfl
                                    have hcz175_2 : wc.cell? ⟨gb621, 2, none⟩ = some (.slice Ao53 t639.length co53) := (blk_cell BK621.out 2).trans rfl
                                    have hfz175_0 := blk_frozen BK621.out 0
                                    have hfz175_1 := blk_frozen BK621.out 1
                                    have hfz175_2 := blk_frozen BK621.out 2
                                    go_wp2_with (first | ((with_reducible refine gate_callee (f := 34) rfl ?_); refine goesL_ (some 123) rfl rfl Try.func34 (by kernel_rfl) rfl #[.agg #[.int .i64 t615, .int .i64 t616, .slice Ao53 t639.length co53], .int .i64 1] rfl (by (try simp only [List.map_toArray, List.map_cons, List.map_nil]); first | done | rfl | (simp only [List.length_drop, List.length_take]; rfl)) ?_; (with_reducible refine (laws_heldRLog.calls kj121 t615 t616 _ _ t639 1 t657 _ ?side1 ?side2 A168.out).mono ?_); (case side1 => repeat (first | exact (Kd.R_reads' HO_622002.out).2.2 | (with_reducible refine Kd.C_alloc ?_ _) | (with_reducible refine Kd.C_drewN ?_ _) | (with_reducible refine Kd.C_drew ?_))); (case side2 => exact (Kd.R_reads' HO_622002.out).2.1); rintro e w176 ⟨rfl, hb⟩; refine ⟨_, rfl, ?_⟩; have n0_ := Aside0.mk (Kd.R_below (by (with_reducible repeat (first | apply Kd.R_alloc | apply Kd.R_drewN | apply Kd.R_drew)); exact HO_606002.out) hb); have n1_ := Aside0.mk (Kd.R_below (by (with_reducible repeat (first | apply Kd.R_alloc | apply Kd.R_drewN | apply Kd.R_drew)); exact HO_612002.out) hb); have n2_ := Aside0.mk (Kd.R_below (by (with_reducible repeat (first | apply Kd.R_alloc | apply Kd.R_drewN | apply Kd.R_drew)); exact HO_622002.out) hb); have n3_ := Aside0.mk (Kd.R_below (by (with_reducible repeat (first | apply Kd.R_alloc | apply Kd.R_drewN | apply Kd.R_drew)); exact HO_656002.out) hb); have n4_ := Aside0.mk (blk_below (g := gb588) (o := .cells #[.int .i64 a0_0, .int .i64 a0_1, .slice A0_2 l0_2.length c0_2] 24 (0, 0)) (by (with_reducible repeat (first | refine blk_drewN ?_ _ | refine blk_drew ?_ | refine blk_alloc ?_ _)); exact BK588.out) hb); have n5_ := Aside0.mk (blk_below (g := gb605) (o := .cells #[.int .i64 t599, .int .i64 t600, .slice Ao36 t601.length co36] 29 (0, 0)) (by (with_reducible repeat (first | refine blk_drewN ?_ _ | refine blk_drew ?_ | refine blk_alloc ?_ _)); exact BK605.out) hb); have n6_ := Aside0.mk (blk_below (g := gb611) (o := .cells #[.int .i64 t606, .int .i64 t607, .slice Ao43 t634.length co43] 29 (0, 0)) (by (with_reducible repeat (first | refine blk_drewN ?_ _ | refine blk_drew ?_ | refine blk_alloc ?_ _)); exact BK611.out) hb); have n7_ := Aside0.mk (blk_below (g := gb621) (o := .cells #[.int .i64 t615, .int .i64 t616, .slice Ao53 t639.length co53] 29 (0, 0)) (by (with_reducible repeat (first | refine blk_drewN ?_ _ | refine blk_drew ?_ | refine blk_alloc ?_ _)); exact BK621.out) hb); have n8_ := Aside0.mk (blk_below (g := gb655) (o := .cells #[.int .i64 t649, .int .i64 t650, .slice Ao144 t651.length co144] 29 (0, 0)) (by (with_reducible repeat (first | refine blk_drewN ?_ _ | refine blk_drew ?_ | refine blk_alloc ?_ _)); exact BK655.out) hb); have n9_ := Aside0.mk (below_step (by repeat (first | (with_reducible first | exact HB.out | apply below_alloc | apply pw_below_drewN | apply below_drew1 | refine below_set ?_ GE588.out | refine below_set ?_ GE605.out | refine below_set ?_ GE611.out | refine below_set ?_ GE621.out | refine below_set ?_ GE655.out) | exact HB.out)) hb); clear HO_606002; clear HO_612002; clear HO_622002; clear HO_656002; clear BK588; clear BK605; clear BK611; clear BK621; clear BK655; clear HB; have HO_606002 := n0_; have HO_612002 := n1_; have HO_622002 := n2_; have HO_656002 := n3_; have BK588 := n4_; have BK605 := n5_; have BK611 := n6_; have BK621 := n7_; have BK655 := n8_; have HB := n9_; clear n0_ n1_ n2_ n3_ n4_ n5_ n6_ n7_ n8_ n9_; (try clear hb); (try clear hb2); (try clear hk); (try clear hi)))
                                    go_ret
                                    exact ⟨by first | rfl | (simp [errW_none, errW_some] <;> rfl) | (simp [*, errW_none, errW_some] <;> rfl), by repeat (first | (with_reducible first | exact HB.out | apply below_alloc | apply pw_below_drewN | apply below_drew1 | refine below_set ?_ GE588.out | refine below_set ?_ GE605.out | refine below_set ?_ GE611.out | refine below_set ?_ GE621.out | refine below_set ?_ GE655.out) | exact HB.out)⟩
                                  · rw [if_neg c170] at H
                                    exact absurd H (by simp)
                        · rw [if_neg c118] at H
                          exact absurd H (by simp)
              · replace c78 := Bool.eq_false_iff.mpr c78
                subst c78
                have H1 : (none) = some r := by rw [if_neg (show ¬ (false = true) by decide)] at H; exact H
                clear H
                have H := H1
                clear H1
                exact absurd H (by simp)
            · replace c75 := Bool.eq_false_iff.mpr c75
              subst c75
              have H1 : (none) = some r := by rw [if_neg (show ¬ (false = true) by decide)] at H; exact H
              clear H
              have H := H1
              clear H1
              exact absurd H (by simp)
end Go.Proofs.Ytalbkbmnjpameaa.F

namespace Go.Proofs.Ytalbkbmnjpameaa.PK
open Go.RowKit Go.Proofs.YtalbkbmnjpameaaW.PrintWords
theorem EvS {α : Type} {g : Nat → Option α} {r : α} (h : Ev (fun k => g (k + 1)) r) : Ev g r := by
  obtain ⟨K, h⟩ := h
  refine ⟨K + 1, fun k hk => ?_⟩
  obtain ⟨m, rfl⟩ : ∃ m, k = m + 1 := ⟨k - 1, by omega⟩
  exact h m (by omega)
theorem EvB {α β : Type} {g : Nat → Option α} {f : Nat → α → Option β} {a : α} {r : β} (h : Ev g a) : Ev (fun k => (g k).bind (f k)) r ↔ Ev (fun k => f k a) r := by
  obtain ⟨K, h⟩ := h
  constructor
  · rintro ⟨K', h'⟩
    refine ⟨max K K', fun k hk => ?_⟩
    have h2 : (g k).bind (f k) = some r := h' k (by omega)
    rw [h k (by omega)] at h2
    exact h2
  · rintro ⟨K', h'⟩
    refine ⟨max K K', fun k hk => ?_⟩
    show (g k).bind (f k) = some r
    rw [h k (by omega)]
    exact h' k (by omega)
theorem EvN {α : Type} {r : α} : Ev (fun _ => some r) r := ⟨0, fun _ _ => rfl⟩
theorem EvE {α : Type} {g : Nat → Option α} {r : α} (h : Ev g r) : ∃ k, g k = some r := h.rounds
theorem w64 {x : Int} (h : -9223372036854775808 ≤ x) (h' : x ≤ 9223372036854775807) : wrap64 x = x := by
  unfold wrap64
  omega
theorem up {P : Int → Prop} (n : Nat) (base : P n) (step : ∀ i : Nat, i < n → P ((i + 1 : Nat) : Int) → P (i : Int)) : ∀ i : Nat, i ≤ n → P (i : Int) := by
  intro i hi
  obtain ⟨d, hd⟩ : ∃ d, d + i = n := ⟨n - i, by omega⟩
  induction d generalizing i with
  | zero => have : i = n := by omega
            subst this
            exact base
  | succ d ih => exact step i (by omega) (ih (i + 1) (by omega) (by omega))
theorem getD_nat {α : Type} (l : List α) (z : α) (i : Nat) (h : i < l.length) : l.getD ((i : Int).toNat) z = l[i] := by
  simp [List.getD_eq_getElem?_getD, List.getElem?_eq_getElem h]
theorem drop_at {α : Type} (l : List α) (i : Nat) (h : i < l.length) : l.drop i = l[i] :: l.drop (i + 1) := List.drop_eq_getElem_cons h
theorem marks {α : Type} (L : Nat → List α → Int → Int → Option (Int × List α)) (H : Nat → List α → Int → Int → Option Int) (B : Int) (hB : 0 ≤ B) (n : Nat) (N : Int)
    (endL : ∀ l a, l.length = n → Ev (fun k => L k l a n) (a, l)) (endH : ∀ l a, l.length = n → Ev (fun k => H k l a n) a)
    (step : ∀ (i : Nat) (l : List α) (a : Int), i < n → l.length = n → 0 ≤ a → a + B ≤ N → ∃ (e : α) (a1 : Int), a ≤ a1 ∧ a1 ≤ a + B ∧
      (∀ r, Ev (fun k => L k (l.set i e) a1 ((i + 1 : Nat) : Int)) r → Ev (fun k => L k l a i) r) ∧
      (∀ (l' : List α) r, l'.length = n → l'[i]? = some e → Ev (fun k => H k l' a1 ((i + 1 : Nat) : Int)) r → Ev (fun k => H k l' a i) r)) :
    ∀ (i : Nat), i ≤ n → ∀ (l : List α) (a : Int), l.length = n → 0 ≤ a → a + (n - i) * B ≤ N →
      ∃ (a' : Int) (l' : List α), Ev (fun k => L k l a i) (a', l') ∧ a ≤ a' ∧ a' ≤ a + (n - i) * B ∧ l'.length = n ∧ (∀ j, j < i → l'[j]? = l[j]?) ∧ Ev (fun k => H k l' a i) a' := by
  intro i hi
  obtain ⟨d, hd⟩ : ∃ d, d + i = n := ⟨n - i, by omega⟩
  induction d generalizing i with
  | zero =>
    intro l a hl h0 hN
    have : i = n := by omega
    subst this
    exact ⟨a, l, endL l a hl, Int.le_refl _, by rw [Int.sub_self, Int.zero_mul]; omega, hl, fun _ _ => rfl, endH l a hl⟩
  | succ d ih =>
    intro l a hl h0 hN
    have hni : ((n : Int) - i) * B = B + ((n : Int) - ((i + 1 : Nat) : Int)) * B := by
      rw [show (n : Int) - i = 1 + ((n : Int) - ((i + 1 : Nat) : Int)) by omega, Int.add_mul, Int.one_mul]
    have hnn : 0 ≤ ((n : Int) - ((i + 1 : Nat) : Int)) * B := Int.mul_nonneg (by omega) hB
    obtain ⟨e, a1, h1, h2, hL, hH⟩ := step i l a (by omega) hl h0 (by omega)
    obtain ⟨a', l', hev, h3, h4, h5, h6, h7⟩ := ih (i + 1) (by omega) (by omega) (l.set i e) a1 (by simpa using hl) (by omega) (by omega)
    refine ⟨a', l', hL _ hev, by omega, by omega, h5, fun j hj => ?_, hH l' a' h5 ?_ h7⟩
    · rw [h6 j (by omega), List.getElem?_set_ne (by omega)]
    · rw [h6 i (by omega), List.getElem?_set_self (by omega)]
end Go.Proofs.Ytalbkbmnjpameaa.PK

namespace Go.Proofs.Ytalbkbmnjpameaa.F
open Go.RowKit Go.Proofs.YtalbkbmnjpameaaW.PrintWords Go.Proofs.YtalbkbmnjpameaaW.PrintLast Go.Proofs.YtalbkbmnjpameaaW.PrintMore
attribute [local go_sem] max2_int min2_int max_two min_two max_three min_three max_four min_four   -- for this text's walks alone
set_option linter.unusedVariables false
set_option linter.unusedSimpArgs false
end Go.Proofs.Ytalbkbmnjpameaa.F

namespace Go.Proofs.Ytalbkbmnjpameaa.RL
set_option linter.unusedVariables false
set_option linter.unusedSimpArgs false
open Go.RowKit Go.Proofs.Ytalbkbmnjpameaa.F Go.Proofs.Ytalbkbmnjpameaa.PK Go.Proofs.YtalbkbmnjpameaaW.PrintWords Go.Proofs.YtalbkbmnjpameaaW.PrintLast
theorem rd64 (l : List S64) (i : Nat) (h : i < l.length) : rd_T64 l (i : Int) = l[i] := getD_nat l _ i h
theorem rd54 (l : List S54) (i : Nat) (h : i < l.length) : rd_T54 l (i : Int) = l[i] := getD_nat l _ i h
theorem nxt (i n : Nat) (h : i < n) (hn : n ≤ 9223372036854775807) : wrap64 ((i : Int) + 1) = ((i + 1 : Nat) : Int) := by rw [w64 (by omega) (by omega)]; omega
theorem szEntry (a : Int) (s : ByteArray) (x : Int) (hs : s.size ≤ 9223372036854775807) (h0 : 0 ≤ x) (h1 : x ≤ 1048576) : ∃ t, laws_szEntry.f a s x = some t ∧ t ≤ 1048576 ∧ -1 ≤ t := by
  unfold laws_szEntry.f
  rw [w64 (by omega) (by omega)]
  split
  · exact ⟨_, rfl, by omega, by omega⟩
  · exact ⟨_, rfl, by omega, by omega⟩
theorem szEntryS (l : List S64) (c : Int) (hc0 : 0 ≤ c) (hc : c ≤ 1048576) (hl : l.length ≤ 9223372036854775807) (hs : ∀ y ∈ l, y.f1.size ≤ 9223372036854775807) : ∃ t, Ev (fun k => laws_szEntryS.f k l c) t ∧ -1 ≤ t ∧ t ≤ 1048576 ∧ (0 ≤ t → l.length ≤ 1048576) := by
  by_cases h : (c - (l.length : Int)) < 0
  · refine ⟨-1, ?_, by omega, by omega, by omega⟩
    unfold laws_szEntryS.f
    rw [w64 (by omega) (by omega)]
    simp only [if_pos h]
    exact EvN
  · have key := up (P := fun i => ∀ x, 0 ≤ x → x ≤ 1048576 → ∃ t, Ev (fun k => laws_szEntryS.l0 k l x i) t ∧ -1 ≤ t ∧ t ≤ 1048576) l.length
      (fun x h0 h1 => ⟨x, EvS (by simp only [laws_szEntryS.l0, Int.lt_irrefl, if_false]; exact EvN), by omega, h1⟩)
      (fun i hi ih x h0 h1 => by
        obtain ⟨t, ht, ht1, ht2⟩ := szEntry (l[i].f0) (l[i].f1) x (hs _ (List.getElem_mem hi)) h0 h1
        by_cases h2 : t < 0
        · refine ⟨-1, EvS ?_, by omega, by omega⟩
          simp only [laws_szEntryS.l0, rd64 l i hi, ht, Option.bind_some, if_pos h2, if_pos (show (i : Int) < (l.length : Int) by omega), if_pos (show 0 ≤ (i : Int) by omega)]
          exact EvN
        · obtain ⟨t', h3, h4⟩ := ih t (by omega) (by omega)
          refine ⟨t', EvS ?_, h4⟩
          simp only [laws_szEntryS.l0, rd64 l i hi, ht, Option.bind_some, if_neg h2, if_pos (show (i : Int) < (l.length : Int) by omega), if_pos (show 0 ≤ (i : Int) by omega), nxt i _ hi hl]
          exact h3)
    obtain ⟨t, h1, h2, h3⟩ := key 0 (Nat.zero_le _) (c - (l.length : Int)) (by omega) (by omega)
    refine ⟨t, ?_, h2, h3, fun _ => by omega⟩
    unfold laws_szEntryS.f
    rw [w64 (by omega) (by omega)]
    simp only [if_neg h]
    exact h1
theorem szRLog (a b : Int) (l : List S64) (c : Int) (hc0 : 0 ≤ c) (hc : c ≤ 1048576) (hl : l.length ≤ 9223372036854775807 ∧ ∀ y_ ∈ l, (((Lit.int .i64 y_.f0).wf = true) ∧ (y_.f1.size ≤ 9223372036854775807))) :
    ∃ t, Ev (fun k => laws_szRLog.f k a b l c) t ∧ t ≤ 1048576 ∧ (0 ≤ t → l.length ≤ 1048576) := by
  obtain ⟨t, h, h1, h4, h2⟩ := szEntryS l c hc0 hc hl.1 (fun y hy => (hl.2 y hy).2)
  by_cases h3 : t < 0
  · refine ⟨-1, ?_, by omega, by omega⟩
    unfold laws_szRLog.f
    simp only [EvB h, if_pos h3]
    exact EvN
  · refine ⟨t, ?_, h4, h2⟩
    unfold laws_szRLog.f
    simp only [EvB h, if_neg h3]
    exact EvN
def conv (l : List S64) : List S54 := l.map fun e => ⟨e.f0, e.f1⟩
theorem conv_length (l : List S64) : (conv l).length = l.length := List.length_map _
theorem toEntryS (l : List S64) (hl : l.length ≤ 1048576) : Ev (fun k => laws_toEntryS.f k l) (conv l) := by
  have key := up (P := fun i => ∀ x : List S54, x.length = l.length → (∀ j : Nat, (j : Int) < i → x[j]? = (conv l)[j]?) → Ev (fun k => laws_toEntryS.l0 k l x i) (conv l)) l.length
      (fun x h0 h1 => by
        have : x = conv l := List.ext_getElem? fun j => by
          by_cases hj : j < l.length
          · exact h1 j (by omega)
          · rw [List.getElem?_eq_none (by omega), List.getElem?_eq_none (by rw [conv_length]; omega)]
        subst this
        exact EvS (by simp only [laws_toEntryS.l0, Int.lt_irrefl, if_false]; exact EvN))
      (fun i hi ih x h0 h1 => by
        refine EvS ?_
        simp only [laws_toEntryS.l0, laws_toEntry.f, rd64 l i hi, Option.bind_some, h0, Int.toNat_natCast, if_pos (show (i : Int) < (l.length : Int) by omega), if_pos (show 0 ≤ (i : Int) by omega), nxt i _ hi (by omega)]
        refine ih _ (by simpa using h0) fun j hj => ?_
        by_cases hji : j = i
        · subst hji
          rw [List.getElem?_set_self (by omega)]
          simp [conv, List.getElem?_eq_getElem hi]
        · rw [List.getElem?_set_ne (by omega)]
          exact h1 j (by omega))
  have := key 0 (Nat.zero_le _) (List.replicate l.length z54) (by simp) (fun j hj => absurd hj (by omega))
  unfold laws_toEntryS.f
  simp only [Int.toNat_natCast, if_pos (show 0 ≤ (l.length : Int) by omega), if_pos (show l.length ≤ 11728124029610 by omega)]
  exact this
theorem toRLog (a b : Int) (l : List S64) (hl : l.length ≤ 1048576) : Ev (fun k => laws_toRLog.f k a b l) (a, b, conv l) := by
  unfold laws_toRLog.f
  rw [EvB (toEntryS l hl)]
  exact EvN
theorem eqEntryS (x : List S54) (hx : x.length ≤ 9223372036854775807) : Ev (fun k => laws_eqEntryS.f k x x) true := by
  have key := up (P := fun i => Ev (fun k => laws_eqEntryS.l0 k x x i) true) x.length
    (EvS (by simp only [laws_eqEntryS.l0, Int.lt_irrefl, if_false]; exact EvN))
    (fun i hi ih => EvS (by simp only [laws_eqEntryS.l0, laws_eqEntry.f, if_true, Option.bind_some, if_pos (show (i : Int) < (x.length : Int) by omega), if_pos (show 0 ≤ (i : Int) by omega), nxt i _ hi hx]; exact ih))
  have := key 0 (Nat.zero_le _)
  unfold laws_eqEntryS.f
  simp only [if_true]
  exact this
theorem eqRLog (a b : Int) (x : List S54) (hx : x.length ≤ 9223372036854775807) : Ev (fun k => laws_eqRLog.f k a b x a b x) true := by
  unfold laws_eqRLog.f
  simp only [if_true]
  rw [EvB (eqEntryS x hx)]
  simp only [if_true]
  exact EvN
theorem strOf1 (x : Int) : (strOfNums [x]).size = 1 := rfl
theorem markText (x : Int) (h : x ≤ 9223372036854775807) : ∃ s, Ev (fun k => laws_markText.f k x) s := by
  have key : ∀ (d : Nat) (x : Int) (s : ByteArray), x < 10 ^ d → s.size + d ≤ 30 → ∃ r, Ev (fun k => laws_markText.l0 k x s) r := by
    intro d
    induction d with
    | zero =>
      intro x s hx hs
      have hS : (1 + s.size ≤ 9223372036854775807) = True := eq_true (by omega)
      refine ⟨(⟨#[109]⟩ : ByteArray) ++ s, EvS ?_⟩
      simp only [laws_markText.l0, if_neg (show ¬ x > 0 by simp at hx; omega), hS, if_true]
      exact EvN
    | succ d ih =>
      intro x s hx hs
      have hS : (1 + s.size ≤ 9223372036854775807) = True := eq_true (by omega)
      by_cases h0 : x > 0
      · have h10 : (10 : Int) ^ (d + 1) = 10 * 10 ^ d := by rw [Int.pow_succ, Int.mul_comm]
        have hq : Int.tdiv x 10 = x / 10 := Int.tdiv_eq_ediv_of_nonneg (by omega)
        obtain ⟨r, hr⟩ := ih (wrap64 (x / 10)) (strOfNums [(wrap64 (48 + (Int.tmod x 10))) % 256] ++ s) (by unfold wrap64; omega) (by rw [ByteArray.size_append, strOf1]; omega)
        refine ⟨r, EvS ?_⟩
        simp only [laws_markText.l0, if_pos h0, Option.bind_some, strOf1, hS, if_true, hq]
        exact hr
      · refine ⟨(⟨#[109]⟩ : ByteArray) ++ s, EvS ?_⟩
        simp only [laws_markText.l0, if_neg h0, hS, if_true]
        exact EvN
  by_cases h0 : x ≤ 0
  · exact ⟨⟨#[109, 48]⟩, by unfold laws_markText.f; simp only [if_pos h0]; exact EvN⟩
  · have h19 : (10 : Int) ^ 19 = 10000000000000000000 := by decide
    obtain ⟨r, hr⟩ := key 19 x ⟨#[]⟩ (by omega) (show 0 + 19 ≤ 30 by omega)
    exact ⟨r, by unfold laws_markText.f; simp only [if_neg h0]; exact hr⟩
end Go.Proofs.Ytalbkbmnjpameaa.RL

namespace Go.Proofs.Ytalbkbmnjpameaa.RL
set_option linter.unusedVariables false
set_option linter.unusedSimpArgs false
open Go.RowKit Go.Proofs.Ytalbkbmnjpameaa.F Go.Proofs.Ytalbkbmnjpameaa.PK Go.Proofs.YtalbkbmnjpameaaW.PrintWords Go.Proofs.YtalbkbmnjpameaaW.PrintLast
def okE (e : S54) : Bool := decide (1 ≤ e.f0 ∧ e.f0 ≤ 1000000 ∧ (e.f1.size : Int) ≤ 40)
def okL : Int → List S54 → Bool
  | _, [] => true
  | b, e :: r => okE e && decide (b ≤ e.f0) && okL e.f0 r
def okHead (a b : Int) (n : Nat) : Bool := decide (0 ≤ a ∧ a ≤ 1000000 ∧ 0 ≤ b ∧ b ≤ 1000000 ∧ (a = 0 ↔ b = 0) ∧ n ≤ 60)
def okR (a b : Int) (l : List S54) : Bool := okHead a b l.length && okL b l
theorem specEntry (e : S54) : spec_l05Entry.f e.f0 e.f1 = some (okE e) := by
  unfold spec_l05Entry.f spec_l01In.f okE
  by_cases h1 : 1 ≤ e.f0
  · by_cases h2 : e.f0 ≤ 1000000
    · simp [h1, h2]
    · simp [h1, h2]
  · simp [h1]
theorem implEntry (e : S54) : impl_isEntry.f e.f0 e.f1 = some (okE e) := by
  unfold impl_isEntry.f okE
  by_cases h1 : 1 ≤ e.f0
  · by_cases h2 : e.f0 ≤ 1000000
    · simp [h2, show e.f0 > 0 by omega, h1]
    · simp [h2, show e.f0 > 0 by omega, h1]
  · simp [show ¬ e.f0 > 0 by omega, h1]
theorem specLoop (a b' : Int) (l : List S54) (hl : l.length ≤ 9223372036854775807) : ∀ i : Nat, i ≤ l.length → ∀ b, Ev (fun k => spec_RLogOk.l0 k b i a b' l) (okL b (l.drop i)) :=
  up (P := fun i => ∀ b, Ev (fun k => spec_RLogOk.l0 k b i a b' l) (okL b (l.drop i.toNat))) l.length
    (fun b => EvS (by simp only [spec_RLogOk.l0, Int.lt_irrefl, if_false, Int.toNat_natCast, List.drop_length, okL]; exact EvN))
    (fun i hi ih b => EvS (by
      simp only [spec_RLogOk.l0, if_pos (show (i : Int) < (l.length : Int) by omega), if_pos (show 0 ≤ (i : Int) by omega), rd54 l i hi, specEntry, Option.bind_some, nxt i _ hi hl, Int.toNat_natCast, drop_at l i hi, okL]
      cases h : okE l[i] with
      | false => simp only [Bool.false_eq_true, if_false, Bool.false_and]; exact EvN
      | true =>
        by_cases h2 : l[i].f0 < b
        · simp only [if_true, if_pos h2, decide_eq_false (show ¬ b ≤ l[i].f0 by omega), Bool.and_false, Bool.false_and]; exact EvN
        · simp only [if_true, if_neg h2, decide_eq_true (show b ≤ l[i].f0 by omega), Bool.and_self, Bool.true_and]; exact ih _))
theorem implLoop (l : List S54) (hl : l.length ≤ 9223372036854775807) : ∀ i : Nat, i ≤ l.length → ∀ b, Ev (fun k => impl_isRLog.l0 k b l (l.length : Int) i) (okL b (l.drop i)) :=
  up (P := fun i => ∀ b, Ev (fun k => impl_isRLog.l0 k b l (l.length : Int) i) (okL b (l.drop i.toNat))) l.length
    (fun b => EvS (by simp only [impl_isRLog.l0, Int.lt_irrefl, if_false, Int.toNat_natCast, List.drop_length, okL]; exact EvN))
    (fun i hi ih b => EvS (by
      simp only [impl_isRLog.l0, if_pos (show (i : Int) < (l.length : Int) by omega), if_pos (show 0 ≤ (i : Int) by omega), rd54 l i hi, implEntry, Option.bind_some, nxt i _ hi hl, Int.toNat_natCast, drop_at l i hi, okL]
      cases h : okE l[i] with
      | false => simp only [Bool.false_eq_true, if_false, Bool.false_and]; exact EvN
      | true =>
        by_cases h2 : l[i].f0 < b
        · simp only [if_true, if_pos h2, decide_eq_false (show ¬ b ≤ l[i].f0 by omega), Bool.and_false, Bool.false_and]; exact EvN
        · simp only [if_true, if_neg h2, decide_eq_true (show b ≤ l[i].f0 by omega), Bool.and_self, Bool.true_and]; exact ih _))
theorem specOkJ (a b : Int) (l : List S54) (hl : l.length ≤ 9223372036854775807) (x : Bool) : Ev (fun k => spec_RLogOk.j0 k x a b l) (!x && okL b l) := by
  refine EvS ?_
  cases x with
  | true => simp only [spec_RLogOk.j0, if_true, Bool.not_true, Bool.false_and]; exact EvN
  | false => simp only [spec_RLogOk.j0, Bool.false_eq_true, if_false, Bool.not_false, Bool.true_and]; exact specLoop a b l hl 0 (Nat.zero_le _) b
theorem implOkJ (a b : Int) (l : List S54) (hl : l.length ≤ 9223372036854775807) (x : Bool) : Ev (fun k => impl_isRLog.j0 k x a b l) (!x && okL b l) := by
  refine EvS ?_
  cases x with
  | true => simp only [impl_isRLog.j0, if_true, Bool.not_true, Bool.false_and]; exact EvN
  | false => simp only [impl_isRLog.j0, Bool.false_eq_true, if_false, Bool.not_false, Bool.true_and]; exact implLoop l hl 0 (Nat.zero_le _) b
theorem EvQ {α : Type} {g : Nat → Option α} {r s : α} (h : Ev g r) (e : r = s) : Ev g s := e ▸ h
theorem specIn (x lo hi : Int) : spec_l01In.f x lo hi = some (decide (lo ≤ x ∧ x ≤ hi)) := by
  unfold spec_l01In.f
  by_cases h : lo ≤ x <;> simp [h]
theorem spec_ok (a b : Int) (l : List S54) (hl : l.length ≤ 9223372036854775807) : Ev (fun k => spec_RLogOk.f k a b l) (okR a b l) := by
  unfold spec_RLogOk.f
  simp only [specIn, Option.bind_some, decide_eq_true_eq]
  have J := specOkJ a b l hl
  unfold okR okHead
  by_cases h1 : 0 ≤ a ∧ a ≤ 1000000
  · by_cases h2 : 0 ≤ b ∧ b ≤ 1000000
    · simp only [if_pos h1, if_pos h2]
      cases hx : ((a == 0) != (b == 0)) with
      | true =>
        simp only [if_true]
        refine EvQ (J _) ?_
        have : ¬ (a = 0 ↔ b = 0) := fun e => by rw [bne_iff_ne] at hx; exact hx (Bool.eq_iff_iff.2 (by simpa using e))
        simp [this]
      | false =>
        simp only [Bool.false_eq_true, if_false]
        refine EvQ (J _) ?_
        have : (a = 0 ↔ b = 0) := by rw [bne_eq_false_iff_eq] at hx; simpa using Bool.eq_iff_iff.1 hx
        by_cases h5 : l.length ≤ 60
        · simp [this, h1, h2, h5, show ¬ (60 < (l.length : Int)) by omega]
        · simp [this, h1, h2, h5, show (60 < (l.length : Int)) by omega]
    · simp only [if_pos h1, if_neg h2]
      exact EvQ (J _) (by simp; omega)
  · simp only [if_neg h1]
    exact EvQ (J _) (by simp; omega)
theorem impl_ok (a b : Int) (l : List S54) (hl : l.length ≤ 9223372036854775807) : Ev (fun k => impl_isRLog.f k a b l) (okR a b l) := by
  unfold impl_isRLog.f
  have J := implOkJ a b l hl
  unfold okR okHead
  by_cases h1 : a < 0
  · simp only [if_pos h1]; exact EvQ (J _) (by simp; omega)
  by_cases h2 : a > 1000000
  · simp only [if_neg h1, if_pos h2]; exact EvQ (J _) (by simp; omega)
  by_cases h3 : b < 0
  · simp only [if_neg h1, if_neg h2, if_pos h3]; exact EvQ (J _) (by simp; omega)
  by_cases h4 : b > 1000000
  · simp only [if_neg h1, if_neg h2, if_neg h3, if_pos h4]; exact EvQ (J _) (by simp; omega)
  simp only [if_neg h1, if_neg h2, if_neg h3, if_neg h4]
  cases hx : ((b == 0) != (a == 0)) with
  | true =>
    simp only [if_true]
    refine EvQ (J _) ?_
    have : ¬ (a = 0 ↔ b = 0) := fun e => by rw [bne_iff_ne] at hx; exact hx (Bool.eq_iff_iff.2 (by simpa using e.symm))
    simp [this]
  | false =>
    simp only [Bool.false_eq_true, if_false]
    refine EvQ (J _) ?_
    have : (a = 0 ↔ b = 0) := by rw [bne_eq_false_iff_eq] at hx; simpa using (Bool.eq_iff_iff.1 hx).symm
    have e1 : 0 ≤ a := by omega
    have e2 : a ≤ 1000000 := by omega
    have e3 : 0 ≤ b := by omega
    have e4 : b ≤ 1000000 := by omega
    by_cases h5 : l.length ≤ 60
    · simp [this, e1, e2, e3, e4, h5, show ¬ (60 < (l.length : Int)) by omega]
    · simp [this, e1, e2, e3, e4, h5, show (60 < (l.length : Int)) by omega]
end Go.Proofs.Ytalbkbmnjpameaa.RL

namespace Go.Proofs.Ytalbkbmnjpameaa.F
open Go.RowKit Go.Proofs.YtalbkbmnjpameaaW.PrintWords Go.Proofs.YtalbkbmnjpameaaW.PrintLast Go.Proofs.YtalbkbmnjpameaaW.PrintMore
attribute [local go_sem] max2_int min2_int max_two min_two max_three min_three max_four min_four   -- for this text's walks alone
set_option linter.unusedVariables false
set_option linter.unusedSimpArgs false
end Go.Proofs.Ytalbkbmnjpameaa.F

namespace Go.Proofs.Ytalbkbmnjpameaa.F
open Go.RowKit Go.Proofs.YtalbkbmnjpameaaW.PrintWords Go.Proofs.YtalbkbmnjpameaaW.PrintLast Go.Proofs.YtalbkbmnjpameaaW.PrintMore
attribute [local go_sem] max2_int min2_int max_two min_two max_three min_three max_four min_four   -- for this text's walks alone
set_option linter.unusedVariables false
set_option linter.unusedSimpArgs false
end Go.Proofs.Ytalbkbmnjpameaa.F

namespace Go.Proofs.Ytalbkbmnjpameaa.F
open Go.RowKit Go.Proofs.YtalbkbmnjpameaaW.PrintWords Go.Proofs.YtalbkbmnjpameaaW.PrintLast Go.Proofs.YtalbkbmnjpameaaW.PrintMore
attribute [local go_sem] max2_int min2_int max_two min_two max_three min_three max_four min_four   -- for this text's walks alone
set_option linter.unusedVariables false
set_option linter.unusedSimpArgs false
end Go.Proofs.Ytalbkbmnjpameaa.F

namespace Go.Proofs.Ytalbkbmnjpameaa.RL
set_option linter.unusedVariables false
set_option linter.unusedSimpArgs false
open Go.RowKit Go.Proofs.Ytalbkbmnjpameaa.F Go.Proofs.Ytalbkbmnjpameaa.PK Go.Proofs.YtalbkbmnjpameaaW.PrintWords Go.Proofs.YtalbkbmnjpameaaW.PrintLast
theorem okR_bd {a b : Int} {l : List S54} (h : okR a b l = true) : 0 ≤ a ∧ a ≤ 1000000 ∧ 0 ≤ b ∧ b ≤ 1000000 ∧ l.length ≤ 60 := by
  simp only [okR, okHead, Bool.and_eq_true, decide_eq_true_eq] at h
  omega
def lastM (a : Int) (l : List S54) : Int := a + (l.length : Int)
def termM (a b : Int) (l : List S54) (i : Int) : Int := if i = a then b else (rd_T54 l (i - a - 1)).f0
theorem last_eq {a b : Int} {l : List S54} (h : okR a b l = true) : wrap64 (a + (l.length : Int)) = lastM a l := by
  have := okR_bd h
  exact w64 (by omega) (by omega)
def inL (a : Int) (l : List S54) (i : Int) : Prop := a ≤ i ∧ i ≤ lastM a l
instance (a : Int) (l : List S54) (i : Int) : Decidable (inL a l i) := by unfold inL; infer_instance
theorem idx_eq {a b i : Int} {l : List S54} (h : okR a b l = true) (hi : inL a l i) (hn : ¬ i = a) : wrap64 (wrap64 (i - a) - 1) = i - a - 1 ∧ 0 ≤ i - a - 1 ∧ i - a - 1 < (l.length : Int) := by
  have := okR_bd h
  unfold inL lastM at hi
  rw [w64 (x := i - a) (by omega) (by omega), w64 (by omega) (by omega)]
  omega
theorem impl_term {a b i : Int} {l : List S54} (h : okR a b l = true) (hi : inL a l i) : impl_RLog_term.f a b l i = some (termM a b l i) := by
  unfold impl_RLog_term.f termM
  by_cases hn : i = a
  · simp only [if_pos hn]
  · obtain ⟨e, h0, h1⟩ := idx_eq h hi hn
    simp only [if_neg hn, e, if_pos h0, if_pos h1]
def termR (a b : Int) (l : List S54) (i : Int) : Int := if okR a b l = true ∧ inL a l i then termM a b l i else -1
theorem spec_term (a b : Int) (l : List S54) (i : Int) (hl : l.length ≤ 9223372036854775807) : Ev (fun k => spec_TermAt.f k a b l i) (termR a b l i) := by
  unfold spec_TermAt.f termR
  simp only [EvB (spec_ok a b l hl)]
  by_cases h : okR a b l = true
  · simp only [if_pos h, specIn, Option.bind_some, last_eq h]
    refine EvS ?_
    by_cases hi : inL a l i
    · simp only [spec_TermAt.j0, h, hi, and_self, if_true, decide_eq_true (show a ≤ i ∧ i ≤ lastM a l from hi), Bool.not_true, Bool.false_eq_true, if_false]
      unfold termM
      by_cases hn : i = a
      · simp only [if_pos hn]; exact EvN
      · obtain ⟨e, h0, h1⟩ := idx_eq h hi hn
        simp only [if_neg hn, e, if_pos h0, if_pos h1]; exact EvN
    · simp only [spec_TermAt.j0, hi, and_false, if_false, decide_eq_false (show ¬ (a ≤ i ∧ i ≤ lastM a l) from hi), Bool.not_false, if_true]
      exact EvN
  · simp only [if_neg h, h, false_and, if_false]
    refine EvS ?_
    simp only [spec_TermAt.j0, if_true]
    exact EvN
theorem okL_mem : ∀ (l : List S54) (b : Int), okL b l = true → ∀ e ∈ l, okE e = true := by
  intro l
  induction l with
  | nil => intro b _ e he; cases he
  | cons x r ih =>
    intro b h e he
    simp only [okL, Bool.and_eq_true] at h
    cases he with
    | head => exact h.1.1
    | tail _ he => exact ih _ h.2 e he
theorem okR_mem {a b : Int} {l : List S54} (h : okR a b l = true) : ∀ e ∈ l, 1 ≤ e.f0 ∧ e.f0 ≤ 1000000 ∧ (e.f1.size : Int) ≤ 40 := by
  intro e he
  simp only [okR, Bool.and_eq_true] at h
  simpa [okE] using okL_mem l b h.2 e he
theorem term_bd {a b i : Int} {l : List S54} (h : okR a b l = true) (hi : inL a l i) : 0 ≤ termM a b l i ∧ termM a b l i ≤ 1000000 := by
  have hb := okR_bd h
  unfold termM
  by_cases hn : i = a
  · simp only [if_pos hn]; omega
  · obtain ⟨_, h0, h1⟩ := idx_eq h hi hn
    simp only [if_neg hn]
    have hj : (i - a - 1).toNat < l.length := by omega
    have e := rd54 l (i - a - 1).toNat hj
    rw [Int.toNat_of_nonneg h0] at e
    rw [e]
    have := okR_mem h _ (List.getElem_mem hj)
    omega
end Go.Proofs.Ytalbkbmnjpameaa.RL

namespace Go.Proofs.Ytalbkbmnjpameaa.F
open Go.RowKit Go.Proofs.YtalbkbmnjpameaaW.PrintWords Go.Proofs.YtalbkbmnjpameaaW.PrintLast Go.Proofs.YtalbkbmnjpameaaW.PrintMore
attribute [local go_sem] max2_int min2_int max_two min_two max_three min_three max_four min_four   -- for this text's walks alone
set_option linter.unusedVariables false
set_option linter.unusedSimpArgs false
end Go.Proofs.Ytalbkbmnjpameaa.F

namespace Go.Proofs.Ytalbkbmnjpameaa.F
open Go.RowKit Go.Proofs.YtalbkbmnjpameaaW.PrintWords Go.Proofs.YtalbkbmnjpameaaW.PrintLast Go.Proofs.YtalbkbmnjpameaaW.PrintMore
attribute [local go_sem] max2_int min2_int max_two min_two max_three min_three max_four min_four   -- for this text's walks alone
set_option linter.unusedVariables false
set_option linter.unusedSimpArgs false
end Go.Proofs.Ytalbkbmnjpameaa.F

namespace Go.Proofs.Ytalbkbmnjpameaa.RL
set_option linter.unusedVariables false
set_option linter.unusedSimpArgs false
open Go.RowKit Go.Proofs.Ytalbkbmnjpameaa.F Go.Proofs.Ytalbkbmnjpameaa.PK Go.Proofs.YtalbkbmnjpameaaW.PrintWords Go.Proofs.YtalbkbmnjpameaaW.PrintLast
theorem spec_copy (a b : Int) (l : List S54) (hl : l.length ≤ 1000000000) : Ev (fun k => spec_l05Copy.f k a b l) (a, b, l) := by
  have key := up (P := fun i => ∀ x : List S54, (x.length : Int) = i → x = l.take i.toNat → Ev (fun k => spec_l05Copy.l0 k i a b l a b x) (a, b, l)) l.length
    (fun x hx he => EvS (by
      rw [Int.toNat_natCast, List.take_length] at he
      simp only [spec_l05Copy.l0, Int.lt_irrefl, if_false, he]; exact EvN))
    (fun i hi ih x hx he => EvS (by
      have hS : (x.length < 5864062014805) = True := eq_true (by omega)
      simp only [spec_l05Copy.l0, if_pos (show (i : Int) < (l.length : Int) by omega), if_pos (show 0 ≤ (i : Int) by omega), hS, if_true, rd54 l i hi, nxt i _ hi (show l.length ≤ 9223372036854775807 by omega)]
      refine ih _ (by simp; omega) ?_
      rw [Int.toNat_natCast] at he
      rw [Int.toNat_natCast, he, List.take_add_one, List.getElem?_eq_getElem hi]
      rfl))
  unfold spec_l05Copy.f
  exact key 0 (Nat.zero_le _) [] rfl (by simp)
theorem impl_copy (a b : Int) (l : List S54) (hl : l.length ≤ 1000000000) : impl_copyRLog.f a b l = some (a, b, l) := by
  have hS : (([] : List S54).length + l.length < 5864062014805) = True := eq_true (by simp only [List.length_nil]; omega)
  simp only [impl_copyRLog.f, Option.bind_some, hS, if_true, List.nil_append]
end Go.Proofs.Ytalbkbmnjpameaa.RL
