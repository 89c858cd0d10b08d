/- Merged texts below the law FnExactWalSync: Go functions as Lean functions, their contracts, and plain lemmas. -/
import Derived.Test.YtcgojdhbphocgaaDoorQFnExactWalSync23
namespace Go.Proofs.YtcgojdhbphocgaaDoor.F
open Go.Proofs.YtcgojdhbphocgaaDoor
open Go.RowKit Go.Proofs.YtcgojdhbphocgaaDoorW.PrintWords Go.Proofs.YtcgojdhbphocgaaDoorW.PrintWords.Kd Go.Proofs.YtcgojdhbphocgaaDoorW.PrintMore.Kd Go.Proofs.YtcgojdhbphocgaaDoorW.PrintLast Go.Proofs.YtcgojdhbphocgaaDoorW.PrintMore
attribute [local go_sem] max2_int min2_int max_two min_two max_three min_three max_four min_four   -- for this text's walks alone
set_option linter.unusedVariables false
set_option linter.unusedSimpArgs false
mutual
def spec_l03Put.l0 : Nat → Bool → Int → List (S55) → ByteArray → List Int → List Int → List (S55) → Option ((List (S55)))
 | 0, _, _, _, _, _, _, _ => none
 | k + 1, x6, x7, x153000, x154000, x154001, x154002, x156000 => if x7 < (x153000.length : Int) then (if x6 = true then (spec_l03Put.j1 k x6 x7 false x153000 x154000 x154001 x154002 x156000) else (if 0 ≤ x7 then (spec_l03Put.j1 k x6 x7 (!(Op.bytesLess (((rd_T55 x153000 x7).f0).toList) x154000.toList)) x153000 x154000 x154001 x154002 x156000) else (none))) else (if x6 = true then ((spec_l03Copy.f k x156000).bind fun t156 => (some t156)) else (if x156000.length < 2199023255552 then ((spec_l03Copy.f k (x156000 ++ [(⟨x154000, x154001, x154002⟩ : S55)])).bind fun t162 => (some t162)) else (none)))
def spec_l03Put.j1 : Nat → Bool → Int → Bool → List (S55) → ByteArray → List Int → List Int → List (S55) → Option ((List (S55)))
 | 0, _, _, _, _, _, _, _, _ => none
 | k + 1, x6, x7, x28, x153000, x154000, x154001, x154002, x156000 => if x28 = true then (if x156000.length < 2199023255552 then ((some (x156000 ++ [(⟨x154000, x154001, x154002⟩ : S55)] : List (S55))).bind fun y166 => (if 0 ≤ x7 then (if x7 < (x153000.length : Int) then (if ((rd_T55 x153000 x7).f0).toList = x154000.toList then (spec_l03Put.l0 k true (wrap64 (x7 + 1)) x153000 x154000 x154001 x154002 y166) else (if y166.length < 2199023255552 then (spec_l03Put.l0 k true (wrap64 (x7 + 1)) x153000 x154000 x154001 x154002 (y166 ++ [(⟨(rd_T55 x153000 x7).f0, (rd_T55 x153000 x7).f1, (rd_T55 x153000 x7).f2⟩ : S55)])) else (none))) else (none)) else (none))) else (none)) else (if 0 ≤ x7 then (if x7 < (x153000.length : Int) then (if ((rd_T55 x153000 x7).f0).toList = x154000.toList then (spec_l03Put.l0 k x6 (wrap64 (x7 + 1)) x153000 x154000 x154001 x154002 x156000) else (if x156000.length < 2199023255552 then (spec_l03Put.l0 k x6 (wrap64 (x7 + 1)) x153000 x154000 x154001 x154002 (x156000 ++ [(⟨(rd_T55 x153000 x7).f0, (rd_T55 x153000 x7).f1, (rd_T55 x153000 x7).f2⟩ : S55)])) else (none))) else (none)) else (none))
end
def spec_l03Put.f (k : Nat) (l0_0 : List (S55)) (a1_0 : ByteArray) (l1_1 : List Int) (l1_2 : List Int) : Option ((List (S55))) := spec_l03Put.l0 k false 0 l0_0 a1_0 l1_1 l1_2 ([] : List (S55))
def spec_l03Put.T6 : Bool × List (List Nat × List Nat) := (true, [([], []), ([0], [0]), ([1], [1]), ([2], [2]), ([3, 2], [2, 3]), ([2], [2]), ([4, 5, 2], [2, 4, 5]), ([6, 2], [2, 6]), ([7, 2], [2, 7]), ([2], [2]), ([9, 2], [2, 9]), ([8, 10, 2], [2, 8, 10]), ([2, 11], [2, 11])])
def spec_l03Put.B6 : List Nat := [0, 1, 3, 7, 15, 7, 63, 127, 255, 7, 519, 2047, 4095]
theorem spec_l03Put.tab6 : rtab .any (opsOf Tryd.f77 6) = spec_l03Put.T6 := by kernel_rfl
theorem spec_l03Put.bits6 : waitsOk spec_l03Put.T6.2 spec_l03Put.B6 = true := by kernel_rfl
def spec_l03Put.T9 : Bool × List (List Nat × List Nat) := (true, [([], []), ([0], [0]), ([], []), ([1, 2], [1, 2]), ([3], [3]), ([4], [4]), ([], []), ([6], [6]), ([5, 7], [5, 7])])
def spec_l03Put.B9 : List Nat := [0, 1, 0, 7, 15, 31, 0, 64, 255]
theorem spec_l03Put.tab9 : rtab .any (opsOf Tryd.f77 9) = spec_l03Put.T9 := by kernel_rfl
theorem spec_l03Put.bits9 : waitsOk spec_l03Put.T9.2 spec_l03Put.B9 = true := by kernel_rfl
def spec_l03Put.T10 : Bool × List (List Nat × List Nat) := (true, [([], []), ([0], [0]), ([], []), ([2], [2]), ([], []), ([3, 4], [3, 4]), ([5], [5]), ([6], [6]), ([1, 7], [1, 7]), ([0, 1, 2, 3, 4, 5, 6, 7, 8], []), ([9, 8, 8, 0, 1, 2, 3, 4, 5, 6, 7, 8], [8, 9])])
def spec_l03Put.B10 : List Nat := [0, 1, 0, 4, 0, 28, 60, 124, 255, 511, 1023]
theorem spec_l03Put.tab10 : rtab .any (opsOf Tryd.f77 10) = spec_l03Put.T10 := by kernel_rfl
theorem spec_l03Put.bits10 : waitsOk spec_l03Put.T10.2 spec_l03Put.B10 = true := by kernel_rfl
set_option maxHeartbeats 8000000 in
set_option maxRecDepth 100000 in
theorem spec_l03Put.calls (k : Nat) (P0_0_ : Nat → Prop) (A0_0 : Option Addr) (c0_0 : Nat) (l0_0 : List (S55)) (a1_0 : ByteArray) (P1_1_ : Nat → Prop) (A1_1 : Option Addr) (c1_1 : Nat) (l1_1 : List Int) (P1_2_ : Nat → Prop) (A1_2 : Option Addr) (c1_2 : Nat) (l1_2 : List Int) (r : List (S55)) (w : World) (hs0_0 : Kd.V k55 55 w w.heap.size (fun k_ => P0_0_ k_) (.slice A0_0 l0_0.length c0_0) l0_0) (hs1_1 : Kd.V (Kd.int .u8) 5 w w.heap.size (fun k_ => P1_1_ k_) (.slice A1_1 l1_1.length c1_1) l1_1) (hs1_2 : Kd.V (Kd.int .u8) 5 w w.heap.size (fun k_ => P1_2_ k_) (.slice A1_2 l1_2.length c1_2) l1_2) (h : spec_l03Put.f k l0_0 a1_0 l1_1 l1_2 = some r) :
  Calls Tryd.prog 77 #[.agg #[.slice A0_0 l0_0.length c0_0], .agg #[.string a1_0, .slice A1_1 l1_1.length c1_1, .slice A1_2 l1_2.length c1_2]] w fun e w' => ∃ v0_ : Value, e = .returned (.agg #[v0_]) ∧ Kd.N k55 55 w' w.heap.size (fun k_ => ((P0_0_ k_ ∨ P1_1_ k_ ∨ P1_2_ k_) ∨ w.heap.size ≤ k_)) v0_ r ∧ Below w.heap.size w w' := by
 have hu28 := Tryd.underlying28
 have hu55 := Tryd.underlying55
 have HO0_0 := Aside0.mk (show Kd.V k55 55 w w.heap.size (fun k_ => ((P0_0_ k_ ∨ P1_1_ k_ ∨ P1_2_ k_) ∨ w.heap.size ≤ k_)) (.slice A0_0 l0_0.length c0_0) l0_0 from V_mono hs0_0 (fun k_ hk => .inl (.inl hk)))
 have HO1_1 := Aside0.mk (show Kd.V (Kd.int .u8) 5 w w.heap.size (fun k_ => ((P0_0_ k_ ∨ P1_1_ k_ ∨ P1_2_ k_) ∨ w.heap.size ≤ k_)) (.slice A1_1 l1_1.length c1_1) l1_1 from V_mono hs1_1 (fun k_ hk => .inl (.inr (.inl hk))))
 have HO1_2 := Aside0.mk (show Kd.V (Kd.int .u8) 5 w w.heap.size (fun k_ => ((P0_0_ k_ ∨ P1_1_ k_ ∨ P1_2_ k_) ∨ w.heap.size ≤ k_)) (.slice A1_2 l1_2.length c1_2) l1_2 from V_mono hs1_2 (fun k_ hk => .inl (.inr (.inr hk))))
 have HB := Aside0.mk (Below.refl w.heap.size w)
 have H : (spec_l03Put.l0 k false 0 l0_0 a1_0 l1_1 l1_2 ([] : List (S55))) = some r := h
 clear h
 have H' := Aside0.mk H
 clear H
 go_enter Tryd.func77, Tryd.ntmps77
 go_wp2_with (first | ((with_reducible refine gate_dst (N := 2) rfl ?_); refine box_event ?hg (N := 2) ?hd (cs := #[.slice A0_0 l0_0.length c0_0]) (t := 28) ?hr ?_; (case hd => rfl); (case hg => rfl); (case hr => first | (go_simp; done) | (go_simp; rfl)); intro gb152 hg w3 hbox hb; have n0_ := Aside0.mk (V_below (V_elderB (by (with_reducible repeat (first | apply V_alloc | apply V_drewN | apply V_drew)); exact HO0_0.out) gb152 (Nat.le_of_eq hg.symm)) hb); have n1_ := Aside0.mk (V_below (V_elderB (by (with_reducible repeat (first | apply V_alloc | apply V_drewN | apply V_drew)); exact HO1_1.out) gb152 (Nat.le_of_eq hg.symm)) hb); have n2_ := Aside0.mk (V_below (V_elderB (by (with_reducible repeat (first | apply V_alloc | apply V_drewN | apply V_drew)); exact HO1_2.out) gb152 (Nat.le_of_eq hg.symm)) hb); have n3_ := Aside0.mk (below_step (by repeat (first | (with_reducible first | exact HB.out | apply below_alloc | apply pw_below_drewN | apply below_drew1) | exact HB.out)) hb); have n4_ := Aside0.mk (hbox); have n5_ := Aside0.mk ((by rw [hg]; exact (below_size (by repeat (first | (with_reducible first | exact HB.out | apply below_alloc | apply pw_below_drewN | apply below_drew1) | exact HB.out))) : w.heap.size ≤ gb152)); have n6_ := Aside0.mk ((by rw [hg]; exact (below_size (by repeat (first | (with_reducible first | exact HB.out | apply below_alloc | apply pw_below_drewN | apply below_drew1) | exact HB.out))) : w.heap.size ≤ gb152)); clear HO0_0; clear HO1_1; clear HO1_2; clear HB; have HO0_0 := n0_; have HO1_1 := n1_; have HO1_2 := n2_; have HB := n3_; have BK152 := n4_; have GW152 := n5_; have GE152 := n6_; clear n0_ n1_ n2_ n3_ n4_ n5_ n6_; clear hb hbox hg) | ((with_reducible refine gate_dst (N := 3) rfl ?_); refine box_event ?hg (N := 3) ?hd (cs := #[.string a1_0, .slice A1_1 l1_1.length c1_1, .slice A1_2 l1_2.length c1_2]) (t := 55) ?hr ?_; (case hd => rfl); (case hg => rfl); (case hr => first | (go_simp; done) | (go_simp; rfl)); intro gb153 hg w4 hbox hb; have n0_ := Aside0.mk (V_below (V_elderB (by (with_reducible repeat (first | apply V_alloc | apply V_drewN | apply V_drew)); exact HO0_0.out) gb153 (Nat.le_of_eq hg.symm)) hb); have n1_ := Aside0.mk (V_below (V_elderB (by (with_reducible repeat (first | apply V_alloc | apply V_drewN | apply V_drew)); exact HO1_1.out) gb153 (Nat.le_of_eq hg.symm)) hb); have n2_ := Aside0.mk (V_below (V_elderB (by (with_reducible repeat (first | apply V_alloc | apply V_drewN | apply V_drew)); exact HO1_2.out) gb153 (Nat.le_of_eq hg.symm)) hb); have n3_ := Aside0.mk (blk_below (g := gb152) (o := .cells #[.slice A0_0 l0_0.length c0_0] 28 (0, 0)) (by (with_reducible repeat (first | refine blk_drewN ?_ _ | refine blk_drew ?_ | refine blk_alloc ?_ _)); exact BK152.out) hb); have n4_ := Aside0.mk (below_step (by repeat (first | (with_reducible first | exact HB.out | apply below_alloc | apply pw_below_drewN | apply below_drew1 | refine below_set ?_ GE152.out) | exact HB.out)) hb); have n5_ := Aside0.mk (hbox); have n6_ := Aside0.mk ((by rw [hg]; exact (below_size (by repeat (first | (with_reducible first | exact HB.out | apply below_alloc | apply pw_below_drewN | apply below_drew1 | refine below_set ?_ GE152.out) | exact HB.out))) : w.heap.size ≤ gb153)); have n7_ := Aside0.mk ((by rw [hg]; exact (below_size (by repeat (first | (with_reducible first | exact HB.out | apply below_alloc | apply pw_below_drewN | apply below_drew1 | refine below_set ?_ GE152.out) | exact HB.out))) : w.heap.size ≤ gb153)); have n8_ := Aside0.mk ((by rw [hg]; exact Nat.ne_of_lt (blk_lt (g := gb152) (o := .cells #[.slice A0_0 l0_0.length c0_0] 28 (0, 0)) (by (with_reducible repeat (first | refine blk_drewN ?_ _ | refine blk_drew ?_ | refine blk_alloc ?_ _)); exact BK152.out)) : gb152 ≠ gb153)); have n9_ := Aside0.mk ((by rw [hg]; exact Nat.ne_of_gt (blk_lt (g := gb152) (o := .cells #[.slice A0_0 l0_0.length c0_0] 28 (0, 0)) (by (with_reducible repeat (first | refine blk_drewN ?_ _ | refine blk_drew ?_ | refine blk_alloc ?_ _)); exact BK152.out)) : gb153 ≠ gb152)); clear HO0_0; clear HO1_1; clear HO1_2; clear BK152; clear HB; have HO0_0 := n0_; have HO1_1 := n1_; have HO1_2 := n2_; have BK152 := n3_; have HB := n4_; have BK153 := n5_; have GW153 := n6_; have GE153 := n7_; have NB152_153 := n8_; have NB153_152 := n9_; clear n0_ n1_ n2_ n3_ n4_ n5_ n6_ n7_ n8_ n9_; clear hb hbox hg) | ((with_reducible refine gate_dst (N := 4) rfl ?_); refine box_event ?hg (N := 4) ?hd (cs := #[.slice none 0 0]) (t := 28) ?hr ?_; (case hd => rfl); (case hg => rfl); (case hr => first | (go_simp; done) | (go_simp; rfl)); intro gb154 hg w5 hbox hb; have n0_ := Aside0.mk (V_below (V_elderB (by (with_reducible repeat (first | apply V_alloc | apply V_drewN | apply V_drew)); exact HO0_0.out) gb154 (Nat.le_of_eq hg.symm)) hb); have n1_ := Aside0.mk (V_below (V_elderB (by (with_reducible repeat (first | apply V_alloc | apply V_drewN | apply V_drew)); exact HO1_1.out) gb154 (Nat.le_of_eq hg.symm)) hb); have n2_ := Aside0.mk (V_below (V_elderB (by (with_reducible repeat (first | apply V_alloc | apply V_drewN | apply V_drew)); exact HO1_2.out) gb154 (Nat.le_of_eq hg.symm)) hb); have n3_ := Aside0.mk (blk_below (g := gb152) (o := .cells #[.slice A0_0 l0_0.length c0_0] 28 (0, 0)) (by (with_reducible repeat (first | refine blk_drewN ?_ _ | refine blk_drew ?_ | refine blk_alloc ?_ _)); exact BK152.out) hb); have n4_ := Aside0.mk (blk_below (g := gb153) (o := .cells #[.string a1_0, .slice A1_1 l1_1.length c1_1, .slice A1_2 l1_2.length c1_2] 55 (0, 0)) (by (with_reducible repeat (first | refine blk_drewN ?_ _ | refine blk_drew ?_ | refine blk_alloc ?_ _)); exact BK153.out) hb); have n5_ := Aside0.mk (below_step (by repeat (first | (with_reducible first | exact HB.out | apply below_alloc | apply pw_below_drewN | apply below_drew1 | refine below_set ?_ GE152.out | refine below_set ?_ GE153.out) | exact HB.out)) hb); have n6_ := Aside0.mk (hbox); have n7_ := Aside0.mk ((by rw [hg]; exact (below_size (by repeat (first | (with_reducible first | exact HB.out | apply below_alloc | apply pw_below_drewN | apply below_drew1 | refine below_set ?_ GE152.out | refine below_set ?_ GE153.out) | exact HB.out))) : w.heap.size ≤ gb154)); have n8_ := Aside0.mk ((by rw [hg]; exact (below_size (by repeat (first | (with_reducible first | exact HB.out | apply below_alloc | apply pw_below_drewN | apply below_drew1 | refine below_set ?_ GE152.out | refine below_set ?_ GE153.out) | exact HB.out))) : w.heap.size ≤ gb154)); have n9_ := Aside0.mk ((by rw [hg]; exact Nat.ne_of_lt (blk_lt (g := gb152) (o := .cells #[.slice A0_0 l0_0.length c0_0] 28 (0, 0)) (by (with_reducible repeat (first | refine blk_drewN ?_ _ | refine blk_drew ?_ | refine blk_alloc ?_ _)); exact BK152.out)) : gb152 ≠ gb154)); have n10_ := Aside0.mk ((by rw [hg]; exact Nat.ne_of_gt (blk_lt (g := gb152) (o := .cells #[.slice A0_0 l0_0.length c0_0] 28 (0, 0)) (by (with_reducible repeat (first | refine blk_drewN ?_ _ | refine blk_drew ?_ | refine blk_alloc ?_ _)); exact BK152.out)) : gb154 ≠ gb152)); have n11_ := Aside0.mk ((by rw [hg]; exact Nat.ne_of_lt (blk_lt (g := gb153) (o := .cells #[.string a1_0, .slice A1_1 l1_1.length c1_1, .slice A1_2 l1_2.length c1_2] 55 (0, 0)) (by (with_reducible repeat (first | refine blk_drewN ?_ _ | refine blk_drew ?_ | refine blk_alloc ?_ _)); exact BK153.out)) : gb153 ≠ gb154)); have n12_ := Aside0.mk ((by rw [hg]; exact Nat.ne_of_gt (blk_lt (g := gb153) (o := .cells #[.string a1_0, .slice A1_1 l1_1.length c1_1, .slice A1_2 l1_2.length c1_2] 55 (0, 0)) (by (with_reducible repeat (first | refine blk_drewN ?_ _ | refine blk_drew ?_ | refine blk_alloc ?_ _)); exact BK153.out)) : gb154 ≠ gb153)); clear HO0_0; clear HO1_1; clear HO1_2; clear BK152; clear BK153; clear HB; have HO0_0 := n0_; have HO1_1 := n1_; have HO1_2 := n2_; have BK152 := n3_; have BK153 := n4_; have HB := n5_; have BK154 := n6_; have GW154 := n7_; have GE154 := n8_; have NB152_154 := n9_; have NB154_152 := n10_; have NB153_154 := n11_; have NB154_153 := n12_; clear n0_ n1_ n2_ n3_ n4_ n5_ n6_ n7_ n8_ n9_ n10_ n11_ n12_; clear hb hbox hg) | ((with_reducible refine gate_dst (N := 5) rfl ?_); refine box_event ?hg (N := 5) ?hd (cs := #[.slice none 0 0]) (t := 28) ?hr ?_; (case hd => rfl); (case hg => rfl); (case hr => first | (go_simp; done) | (go_simp; rfl)); intro gb155 hg w6 hbox hb; have n0_ := Aside0.mk (V_below (V_elderB (by (with_reducible repeat (first | apply V_alloc | apply V_drewN | apply V_drew)); exact HO0_0.out) gb155 (Nat.le_of_eq hg.symm)) hb); have n1_ := Aside0.mk (V_below (V_elderB (by (with_reducible repeat (first | apply V_alloc | apply V_drewN | apply V_drew)); exact HO1_1.out) gb155 (Nat.le_of_eq hg.symm)) hb); have n2_ := Aside0.mk (V_below (V_elderB (by (with_reducible repeat (first | apply V_alloc | apply V_drewN | apply V_drew)); exact HO1_2.out) gb155 (Nat.le_of_eq hg.symm)) hb); have n3_ := Aside0.mk (blk_below (g := gb152) (o := .cells #[.slice A0_0 l0_0.length c0_0] 28 (0, 0)) (by (with_reducible repeat (first | refine blk_drewN ?_ _ | refine blk_drew ?_ | refine blk_alloc ?_ _)); exact BK152.out) hb); have n4_ := Aside0.mk (blk_below (g := gb153) (o := .cells #[.string a1_0, .slice A1_1 l1_1.length c1_1, .slice A1_2 l1_2.length c1_2] 55 (0, 0)) (by (with_reducible repeat (first | refine blk_drewN ?_ _ | refine blk_drew ?_ | refine blk_alloc ?_ _)); exact BK153.out) hb); have n5_ := Aside0.mk (blk_below (g := gb154) (o := .cells #[.slice none 0 0] 28 (0, 0)) (by (with_reducible repeat (first | refine blk_drewN ?_ _ | refine blk_drew ?_ | refine blk_alloc ?_ _)); exact BK154.out) hb); have n6_ := Aside0.mk (below_step (by repeat (first | (with_reducible first | exact HB.out | apply below_alloc | apply pw_below_drewN | apply below_drew1 | refine below_set ?_ GE152.out | refine below_set ?_ GE153.out | refine below_set ?_ GE154.out) | exact HB.out)) hb); have n7_ := Aside0.mk (hbox); have n8_ := Aside0.mk ((by rw [hg]; exact (below_size (by repeat (first | (with_reducible first | exact HB.out | apply below_alloc | apply pw_below_drewN | apply below_drew1 | refine below_set ?_ GE152.out | refine below_set ?_ GE153.out | refine below_set ?_ GE154.out) | exact HB.out))) : w.heap.size ≤ gb155)); have n9_ := Aside0.mk ((by rw [hg]; exact (below_size (by repeat (first | (with_reducible first | exact HB.out | apply below_alloc | apply pw_below_drewN | apply below_drew1 | refine below_set ?_ GE152.out | refine below_set ?_ GE153.out | refine below_set ?_ GE154.out) | exact HB.out))) : w.heap.size ≤ gb155)); have n10_ := Aside0.mk ((by rw [hg]; exact Nat.ne_of_lt (blk_lt (g := gb152) (o := .cells #[.slice A0_0 l0_0.length c0_0] 28 (0, 0)) (by (with_reducible repeat (first | refine blk_drewN ?_ _ | refine blk_drew ?_ | refine blk_alloc ?_ _)); exact BK152.out)) : gb152 ≠ gb155)); have n11_ := Aside0.mk ((by rw [hg]; exact Nat.ne_of_gt (blk_lt (g := gb152) (o := .cells #[.slice A0_0 l0_0.length c0_0] 28 (0, 0)) (by (with_reducible repeat (first | refine blk_drewN ?_ _ | refine blk_drew ?_ | refine blk_alloc ?_ _)); exact BK152.out)) : gb155 ≠ gb152)); have n12_ := Aside0.mk ((by rw [hg]; exact Nat.ne_of_lt (blk_lt (g := gb153) (o := .cells #[.string a1_0, .slice A1_1 l1_1.length c1_1, .slice A1_2 l1_2.length c1_2] 55 (0, 0)) (by (with_reducible repeat (first | refine blk_drewN ?_ _ | refine blk_drew ?_ | refine blk_alloc ?_ _)); exact BK153.out)) : gb153 ≠ gb155)); have n13_ := Aside0.mk ((by rw [hg]; exact Nat.ne_of_gt (blk_lt (g := gb153) (o := .cells #[.string a1_0, .slice A1_1 l1_1.length c1_1, .slice A1_2 l1_2.length c1_2] 55 (0, 0)) (by (with_reducible repeat (first | refine blk_drewN ?_ _ | refine blk_drew ?_ | refine blk_alloc ?_ _)); exact BK153.out)) : gb155 ≠ gb153)); have n14_ := Aside0.mk ((by rw [hg]; exact Nat.ne_of_lt (blk_lt (g := gb154) (o := .cells #[.slice none 0 0] 28 (0, 0)) (by (with_reducible repeat (first | refine blk_drewN ?_ _ | refine blk_drew ?_ | refine blk_alloc ?_ _)); exact BK154.out)) : gb154 ≠ gb155)); have n15_ := Aside0.mk ((by rw [hg]; exact Nat.ne_of_gt (blk_lt (g := gb154) (o := .cells #[.slice none 0 0] 28 (0, 0)) (by (with_reducible repeat (first | refine blk_drewN ?_ _ | refine blk_drew ?_ | refine blk_alloc ?_ _)); exact BK154.out)) : gb155 ≠ gb154)); clear HO0_0; clear HO1_1; clear HO1_2; clear BK152; clear BK153; clear BK154; clear HB; have HO0_0 := n0_; have HO1_1 := n1_; have HO1_2 := n2_; have BK152 := n3_; have BK153 := n4_; have BK154 := n5_; have HB := n6_; have BK155 := n7_; have GW155 := n8_; have GE155 := n9_; have NB152_155 := n10_; have NB155_152 := n11_; have NB153_155 := n12_; have NB155_153 := n13_; have NB154_155 := n14_; have NB155_154 := n15_; clear n0_ n1_ n2_ n3_ n4_ n5_ n6_ n7_ n8_ n9_ n10_ n11_ n12_ n13_ n14_ n15_; clear hb hbox hg; have hnb7 := NB155_152.out; have hnc7 := NB152_155.out; have hnb8 := NB155_153.out; have hnc8 := NB153_155.out; have hnb9 := NB155_154.out; have hnc9 := NB154_155.out; have hcz10_0 : w6.cell? ⟨gb155, 0, none⟩ = some (.slice none 0 0) := (blk_cell BK155.out 0).trans rfl; have hfz10_0 := blk_frozen BK155.out 0))
 go_loopg [6, 7] k (fun kq v6 v7 w' => ∃ (x6_1 : Bool) (x7_1 : Int) (x156000_1 : List (S55)) (u156000 : Value), v6 = .bool x6_1 ∧ v7 = .int .i64 x7_1 ∧ Aside0 (spec_l03Put.l0 kq x6_1 x7_1 l0_0 a1_0 l1_1 l1_2 x156000_1 = some r) ∧ Aside0 (kq ≤ k) ∧ Aside0 (Kd.V k55 55 w' w.heap.size (fun k_ => ((P0_0_ k_ ∨ P1_1_ k_ ∨ P1_2_ k_) ∨ w.heap.size ≤ k_) ∧ some k_ ≠ (u156000 : Value).ownBlock ∧ k_ ≠ gb152 ∧ k_ ≠ gb153 ∧ k_ ≠ gb154 ∧ k_ ≠ gb155) (.slice A0_0 l0_0.length c0_0) l0_0) ∧ Aside0 (Kd.V (Kd.int .u8) 5 w' w.heap.size (fun k_ => ((P0_0_ k_ ∨ P1_1_ k_ ∨ P1_2_ k_) ∨ w.heap.size ≤ k_) ∧ some k_ ≠ (u156000 : Value).ownBlock ∧ k_ ≠ gb152 ∧ k_ ≠ gb153 ∧ k_ ≠ gb154 ∧ k_ ≠ gb155) (.slice A1_1 l1_1.length c1_1) l1_1) ∧ Aside0 (Kd.V (Kd.int .u8) 5 w' w.heap.size (fun k_ => ((P0_0_ k_ ∨ P1_1_ k_ ∨ P1_2_ k_) ∨ w.heap.size ≤ k_) ∧ some k_ ≠ (u156000 : Value).ownBlock ∧ k_ ≠ gb152 ∧ k_ ≠ gb153 ∧ k_ ≠ gb154 ∧ k_ ≠ gb155) (.slice A1_2 l1_2.length c1_2) l1_2) ∧ Aside0 (Kd.N k55 55 w' w.heap.size (fun k_ => ((P0_0_ k_ ∨ P1_1_ k_ ∨ P1_2_ k_) ∨ w.heap.size ≤ k_) ∧ k_ ≠ gb152 ∧ k_ ≠ gb153 ∧ k_ ≠ gb154 ∧ k_ ≠ gb155) u156000 x156000_1) ∧ Aside0 (w'.heap[gb152]? = some (.cells #[(.slice A0_0 l0_0.length c0_0)] 28 (0, 0))) ∧ Aside0 (w'.heap[gb153]? = some (.cells #[.string a1_0, (.slice A1_1 l1_1.length c1_1), (.slice A1_2 l1_2.length c1_2)] 55 (0, 0))) ∧ Aside0 (w'.heap[gb154]? = some (.cells #[(.slice none 0 0)] 28 (0, 0))) ∧ Aside0 (w'.heap[gb155]? = some (.cells #[u156000] 28 (0, 0))) ∧ Aside0 (Below w.heap.size w w'))
 case atStart => exact ⟨(false), (0), (([] : List (S55))), (.slice none 0 0), (by first | rfl | (simp; done) | (simp [*]; done)), (by first | rfl | (simp; done) | (simp [*]; done)), H', ⟨Nat.le_refl _⟩, ⟨by (with_reducible repeat (first | apply V_alloc | apply V_drewN | apply V_drew)); exact V_mono (V_far (p := ⟨gb155, 0, none⟩) (V_mono HO0_0.out (fun k_ hk => (⟨hk, hk.2⟩ : _ ∧ k_ ≠ gb155))) (fun _ hk => hk.2) (.slice none 0 0)) (fun _ hk => ⟨hk.1.1.1.1.1, ⟨(by simp [Value.ownBlock]), ⟨hk.1.1.1.1.2, ⟨hk.1.1.1.2, ⟨hk.1.1.2, hk.1.2⟩⟩⟩⟩⟩)⟩, ⟨by (with_reducible repeat (first | apply V_alloc | apply V_drewN | apply V_drew)); exact V_mono (V_far (p := ⟨gb155, 0, none⟩) (V_mono HO1_1.out (fun k_ hk => (⟨hk, hk.2⟩ : _ ∧ k_ ≠ gb155))) (fun _ hk => hk.2) (.slice none 0 0)) (fun _ hk => ⟨hk.1.1.1.1.1, ⟨(by simp [Value.ownBlock]), ⟨hk.1.1.1.1.2, ⟨hk.1.1.1.2, ⟨hk.1.1.2, hk.1.2⟩⟩⟩⟩⟩)⟩, ⟨by (with_reducible repeat (first | apply V_alloc | apply V_drewN | apply V_drew)); exact V_mono (V_far (p := ⟨gb155, 0, none⟩) (V_mono HO1_2.out (fun k_ hk => (⟨hk, hk.2⟩ : _ ∧ k_ ≠ gb155))) (fun _ hk => hk.2) (.slice none 0 0)) (fun _ hk => ⟨hk.1.1.1.1.1, ⟨(by simp [Value.ownBlock]), ⟨hk.1.1.1.1.2, ⟨hk.1.1.1.2, ⟨hk.1.1.2, hk.1.2⟩⟩⟩⟩⟩)⟩, ⟨by first | exact S_nil _ _ _ _ _ | exact N_nil _ _ _ _ _ | exact V_nil _ _ _ _ _ | exact Q_nil _ _ _ _ _ | exact R_nil _ _ _ _ _⟩, ⟨by (with_reducible repeat (first | refine blk_drewN ?_ _ | refine blk_drew ?_ | refine blk_alloc ?_ _)); refine blk_far ?_ NB152_155.out _; (with_reducible repeat (first | refine blk_drewN ?_ _ | refine blk_drew ?_ | refine blk_alloc ?_ _)); exact BK152.out⟩, ⟨by (with_reducible repeat (first | refine blk_drewN ?_ _ | refine blk_drew ?_ | refine blk_alloc ?_ _)); refine blk_far ?_ NB153_155.out _; (with_reducible repeat (first | refine blk_drewN ?_ _ | refine blk_drew ?_ | refine blk_alloc ?_ _)); exact BK153.out⟩, ⟨by (with_reducible repeat (first | refine blk_drewN ?_ _ | refine blk_drew ?_ | refine blk_alloc ?_ _)); refine blk_far ?_ NB154_155.out _; (with_reducible repeat (first | refine blk_drewN ?_ _ | refine blk_drew ?_ | refine blk_alloc ?_ _)); exact BK154.out⟩, ⟨by (with_reducible repeat (first | refine blk_drewN ?_ _ | refine blk_drew ?_ | refine blk_alloc ?_ _)); refine blk_put (cs := #[.slice none 0 0]) ?_ 0 _ rfl; (with_reducible repeat (first | refine blk_drewN ?_ _ | refine blk_drew ?_ | refine blk_alloc ?_ _)); exact BK155.out⟩, ⟨by repeat (first | (with_reducible first | exact HB.out | apply below_alloc | apply pw_below_drewN | apply below_drew1 | refine below_set ?_ GE152.out | refine below_set ?_ GE153.out | refine below_set ?_ GE154.out | refine below_set ?_ GE155.out) | exact HB.out)⟩⟩
 case round =>
  clear H'
  try clear c1
  try clear p2
  try clear c7
  try clear c8
  try clear c9
  try clear hcz10_0
  try clear hfz10_0
  obtain ⟨x6_1, x7_1, x156000_1, u156000, rfl, rfl, HA, HK1, HO_153000, HO_154001, HO_154002, HO_156000, BK152, BK153, BK154, BK155, HB⟩ := hrel
  cases gk with
  | zero => exact absurd HA.out (by simp [spec_l03Put.l0])
  | succ k1 =>
   have H := HA.out
   clear HA
   simp only [spec_l03Put.l0] at H
   by_cases c11 : x7_1 < (l0_0.length : Int)
   ·
    rw [if_pos c11] at H
    have c11b0 : decide (x7_1 < (l0_0.length : Int)) = true := decide_eq_true c11
    clear c11
    have HC12 := Aside0.mk H
    clear H
    have hnb13 := NB152_153.out
    have hnc13 := NB153_152.out
    have hnb14 := NB152_154.out
    have hnc14 := NB154_152.out
    have hnb15 := NB152_155.out
    have hnc15 := NB155_152.out
    have hcz16_0 : wr.cell? ⟨gb152, 0, none⟩ = some (.slice A0_0 l0_0.length c0_0) := (blk_cell BK152.out 0).trans rfl
    have hfz16_0 := blk_frozen BK152.out 0
    go_upto_region 6 with (fail)
    go_cut [28] (fun v28 wc => ∃ (kq : Nat) (x28_11 : Bool), v28 = .bool x28_11 ∧ Aside0 (spec_l03Put.j1 kq x6_1 x7_1 x28_11 l0_0 a1_0 l1_1 l1_2 x156000_1 = some r) ∧ Aside0 (kq ≤ k1) ∧ Aside0 (Kd.V k55 55 wc w.heap.size (fun k_ => ((P0_0_ k_ ∨ P1_1_ k_ ∨ P1_2_ k_) ∨ w.heap.size ≤ k_) ∧ some k_ ≠ (u156000 : Value).ownBlock ∧ k_ ≠ gb152 ∧ k_ ≠ gb153 ∧ k_ ≠ gb154 ∧ k_ ≠ gb155) (.slice A0_0 l0_0.length c0_0) l0_0) ∧ Aside0 (Kd.V (Kd.int .u8) 5 wc w.heap.size (fun k_ => ((P0_0_ k_ ∨ P1_1_ k_ ∨ P1_2_ k_) ∨ w.heap.size ≤ k_) ∧ some k_ ≠ (u156000 : Value).ownBlock ∧ k_ ≠ gb152 ∧ k_ ≠ gb153 ∧ k_ ≠ gb154 ∧ k_ ≠ gb155) (.slice A1_1 l1_1.length c1_1) l1_1) ∧ Aside0 (Kd.V (Kd.int .u8) 5 wc w.heap.size (fun k_ => ((P0_0_ k_ ∨ P1_1_ k_ ∨ P1_2_ k_) ∨ w.heap.size ≤ k_) ∧ some k_ ≠ (u156000 : Value).ownBlock ∧ k_ ≠ gb152 ∧ k_ ≠ gb153 ∧ k_ ≠ gb154 ∧ k_ ≠ gb155) (.slice A1_2 l1_2.length c1_2) l1_2) ∧ Aside0 (Kd.N k55 55 wc w.heap.size (fun k_ => ((P0_0_ k_ ∨ P1_1_ k_ ∨ P1_2_ k_) ∨ w.heap.size ≤ k_) ∧ k_ ≠ gb152 ∧ k_ ≠ gb153 ∧ k_ ≠ gb154 ∧ k_ ≠ gb155) u156000 x156000_1) ∧ Aside0 (wc.heap[gb152]? = some (.cells #[(.slice A0_0 l0_0.length c0_0)] 28 (0, 0))) ∧ Aside0 (wc.heap[gb153]? = some (.cells #[.string a1_0, (.slice A1_1 l1_1.length c1_1), (.slice A1_2 l1_2.length c1_2)] 55 (0, 0))) ∧ Aside0 (wc.heap[gb154]? = some (.cells #[(.slice none 0 0)] 28 (0, 0))) ∧ Aside0 (wc.heap[gb155]? = some (.cells #[u156000] 28 (0, 0))) ∧ Aside0 (Below w.heap.size w wc))
    case first =>
     have H := HC12.out
     clear HC12
     by_cases c17 : x6_1 = true
     ·
      subst c17
      have H1 : (spec_l03Put.j1 k1 true x7_1 false l0_0 a1_0 l1_1 l1_2 x156000_1) = some r := by rw [if_pos rfl] at H; exact H
      clear H
      have H := H1
      clear H1
      have H' := Aside0.mk H
      clear H
      try go_wp2
      have n0_ := Aside0.mk (V_drew HO_153000.out)
      have n1_ := Aside0.mk (V_drew HO_154001.out)
      have n2_ := Aside0.mk (V_drew HO_154002.out)
      have n3_ := Aside0.mk (N_drew HO_156000.out)
      have n4_ := Aside0.mk (blk_drew BK152.out)
      have n5_ := Aside0.mk (blk_drew BK153.out)
      have n6_ := Aside0.mk (blk_drew BK154.out)
      have n7_ := Aside0.mk (blk_drew BK155.out)
      have n8_ := Aside0.mk (below_drew1 HB.out)
      clear HO_153000
      clear HO_154001
      clear HO_154002
      clear HO_156000
      clear BK152
      clear BK153
      clear BK154
      clear BK155
      clear HB
      have HO_153000 := n0_
      have HO_154001 := n1_
      have HO_154002 := n2_
      have HO_156000 := n3_
      have BK152 := n4_
      have BK153 := n5_
      have BK154 := n6_
      have BK155 := n7_
      have HB := n8_
      clear n0_ n1_ n2_ n3_ n4_ n5_ n6_ n7_ n8_
      refine start_ (n := 13) (S := fun w' => True) (ds := []) #[false, false, false, false, false, false, false, false, false, false, false, false, false] (by kernel_rfl) rfl rfl trivial (fun hHeld => ?_); refine with_tabW spec_l03Put.tab6 spec_l03Put.bits6 (fun HT_ HW_ => ?_)
      generalize wr.drew = w18 at HO_153000 HO_154001 HO_154002 HO_156000 BK152 BK153 BK154 BK155 HB hHeld ⊢
      refine SQ.pu 0 16 HT_ ?_
      refine SQ.pu 1 17 HT_ ?_
      refine SQ.pu 2 18 HT_ ?_
      refine SQ.of 3 19 HT_ ?_
      refine SQ.of 4 20 HT_ ?_
      refine SQ.of 5 21 HT_ ?_
      refine SQ.of 6 22 HT_ ?_
      refine SQ.of 7 23 HT_ ?_
      refine SQ.of 8 24 HT_ ?_
      refine SQ.of 9 25 HT_ ?_
      refine SQ.of 10 26 HT_ ?_
      refine SQ.of 11 27 HT_ ?_
      refine SQ.pu 12 28 HT_ ?_
      refine done_ (done_of HT_.out (by kernel_rfl)) ?_
      try go_wp2
      go_meet
      case rel => exact ⟨_, (false), (by first | rfl | (simp; done) | (simp [*]; done)), H', ⟨by have := HK1.out; first | omega | exact Nat.le_refl _⟩, ⟨by (with_reducible repeat (first | apply V_alloc | apply V_drewN | apply V_drew)); exact HO_153000.out⟩, ⟨by (with_reducible repeat (first | apply V_alloc | apply V_drewN | apply V_drew)); exact HO_154001.out⟩, ⟨by (with_reducible repeat (first | apply V_alloc | apply V_drewN | apply V_drew)); exact HO_154002.out⟩, ⟨by (with_reducible repeat (first | apply N_alloc | apply N_drewN | apply N_drew)); exact HO_156000.out⟩, ⟨by (with_reducible repeat (first | refine blk_drewN ?_ _ | refine blk_drew ?_ | refine blk_alloc ?_ _)); exact BK152.out⟩, ⟨by (with_reducible repeat (first | refine blk_drewN ?_ _ | refine blk_drew ?_ | refine blk_alloc ?_ _)); exact BK153.out⟩, ⟨by (with_reducible repeat (first | refine blk_drewN ?_ _ | refine blk_drew ?_ | refine blk_alloc ?_ _)); exact BK154.out⟩, ⟨by (with_reducible repeat (first | refine blk_drewN ?_ _ | refine blk_drew ?_ | refine blk_alloc ?_ _)); exact BK155.out⟩, ⟨by repeat (first | (with_reducible first | exact HB.out | apply below_alloc | apply pw_below_drewN | apply below_drew1 | refine below_set ?_ GE152.out | refine below_set ?_ GE153.out | refine below_set ?_ GE154.out | refine below_set ?_ GE155.out) | exact HB.out)⟩⟩
     ·
      replace c17 := Bool.eq_false_iff.mpr c17
      subst c17
      have H1 : (if 0 ≤ x7_1 then (spec_l03Put.j1 k1 false x7_1 (!(Op.bytesLess (((rd_T55 l0_0 x7_1).f0).toList) a1_0.toList)) l0_0 a1_0 l1_1 l1_2 x156000_1) else (none)) = some r := by rw [if_neg (show ¬ (false = true) by decide)] at H; exact H
      clear H
      have H := H1
      clear H1
      by_cases c19 : 0 ≤ x7_1
      ·
       rw [if_pos c19] at H
       have c19b0 : decide (0 ≤ x7_1) = true := decide_eq_true c19
       clear c19
       (first | rw [c19b0] | (simp only [i64_w, i32_w]; rw [c19b0]) | skip)
       have H' := Aside0.mk H
       clear H
       try go_wp2
       have n0_ := Aside0.mk (V_drew HO_153000.out)
       have n1_ := Aside0.mk (V_drew HO_154001.out)
       have n2_ := Aside0.mk (V_drew HO_154002.out)
       have n3_ := Aside0.mk (N_drew HO_156000.out)
       have n4_ := Aside0.mk (blk_drew BK152.out)
       have n5_ := Aside0.mk (blk_drew BK153.out)
       have n6_ := Aside0.mk (blk_drew BK154.out)
       have n7_ := Aside0.mk (blk_drew BK155.out)
       have n8_ := Aside0.mk (below_drew1 HB.out)
       clear HO_153000
       clear HO_154001
       clear HO_154002
       clear HO_156000
       clear BK152
       clear BK153
       clear BK154
       clear BK155
       clear HB
       have HO_153000 := n0_
       have HO_154001 := n1_
       have HO_154002 := n2_
       have HO_156000 := n3_
       have BK152 := n4_
       have BK153 := n5_
       have BK154 := n6_
       have BK155 := n7_
       have HB := n8_
       clear n0_ n1_ n2_ n3_ n4_ n5_ n6_ n7_ n8_
       have p165 : 0 ≤ (x7_1 : Int) := of_decide_eq_true (by first | (with_reducible assumption) | assumption)
       have q165 : x7_1 < (l0_0.length : Int) := of_decide_eq_true (by first | (with_reducible assumption) | assumption)
       obtain ⟨ad165, A165_1, c165_1, A165_2, c165_2, e165, hx165_0, hx165_1, hx165_2, hl165_1, hi165_1, hl165_2, hi165_2⟩ := at_T55 (V_reads' HO_153000.out).2.2 x7_1 p165 q165
       cases e165
       obtain ⟨ce165, hce165, hMe165, hcc165⟩ := V_get HO_153000.out z55 x7_1 p165 (by first | exact q165 | exact of_decide_eq_true (by first | (with_reducible assumption) | assumption) | (have e_ := (V_reads' HO_153000.out).1; omega))
       obtain ⟨ua165_1, uc165_1, ua165_2, uc165_2, rfl, ul165_1, ge165_1, ul165_2, ge165_2⟩ := k55_openF hMe165
       have hv165_1 := hcc165 1 _ rfl
       rw [add_field _ _ 1 (by omega)] at hv165_1
       replace hv165_1 := Option.some.inj (hv165_1.symm.trans hx165_1)
       injection hv165_1 with hva_ hvn_ hvc_
       rw [hva_] at ge165_1
       rw [hvc_] at ul165_1
       have HL165_1 := Aside0.mk (show Kd.V (Kd.int .u8) 5 _ w.heap.size _ _ ((rd_T55 l0_0 x7_1).f1) from V_mk ul165_1 ge165_1)
       clear hva_ hvn_ hvc_ ge165_1 ul165_1
       have hv165_2 := hcc165 2 _ rfl
       rw [add_field _ _ 2 (by omega)] at hv165_2
       replace hv165_2 := Option.some.inj (hv165_2.symm.trans hx165_2)
       injection hv165_2 with hva_ hvn_ hvc_
       rw [hva_] at ge165_2
       rw [hvc_] at ul165_2
       have HL165_2 := Aside0.mk (show Kd.V (Kd.int .u8) 5 _ w.heap.size _ _ ((rd_T55 l0_0 x7_1).f2) from V_mk ul165_2 ge165_2)
       clear hva_ hvn_ hvc_ ge165_2 ul165_2
       clear hcc165 hce165
       have HR165_1 := Aside0.mk hi165_1
       have HC165_1 := Aside0.mk hl165_1
       clear hi165_1 hl165_1
       have HR165_2 := Aside0.mk hi165_2
       have HC165_2 := Aside0.mk hl165_2
       clear hi165_2 hl165_2
       replace p165 := eq_true p165
       replace q165 := eq_true q165
       refine start_ (n := 13) (S := fun w' => w'.cell? ⟨gb152, 0, none⟩ = some (.slice (some ad165) l0_0.length c0_0) ∧ w'.cell? ⟨gb153, 0, none⟩ = some (.string a1_0) ∧ w'.cell? ⟨gb153, 1, none⟩ = some (.slice A1_1 l1_1.length c1_1) ∧ w'.cell? ⟨gb153, 2, none⟩ = some (.slice A1_2 l1_2.length c1_2) ∧ w'.cell? (ad165.add ((x7_1).toNat * 3)) = some (.string ((rd_T55 l0_0 x7_1).f0)) ∧ w'.cell? ⟨(ad165.add ((x7_1).toNat * 3)).block, (ad165.add ((x7_1).toNat * 3)).off + 1, none⟩ = some (.slice A165_1 ((rd_T55 l0_0 x7_1).f1).length c165_1) ∧ w'.cell? ⟨(ad165.add ((x7_1).toNat * 3)).block, (ad165.add ((x7_1).toNat * 3)).off + 2, none⟩ = some (.slice A165_2 ((rd_T55 l0_0 x7_1).f2).length c165_2)) (ds := []) #[false, false, false, false, false, false, false, false, false, false, false, false, false] (by kernel_rfl) rfl rfl ⟨(blk_cell BK152.out 0).trans rfl, (blk_cell BK153.out 0).trans rfl, (blk_cell BK153.out 1).trans rfl, (blk_cell BK153.out 2).trans rfl, hx165_0, hx165_1, hx165_2⟩ (fun hHeld => ?_); refine with_tabW spec_l03Put.tab6 spec_l03Put.bits6 (fun HT_ HW_ => ?_)
       generalize wr.drew = w20 at HO_153000 HO_154001 HO_154002 HO_156000 BK152 BK153 BK154 BK155 HB HL165_1 HL165_2 HR165_1 HR165_2 hx165_0 hx165_1 hx165_2 hHeld ⊢
       refine SQ.pu 0 16 HT_ ?_
       refine SQ.pu 1 17 HT_ ?_
       refine SQ.pu 2 18 HT_ ?_
       refine SQ.pu 3 19 HT_ ?_
       refine SQ.pu 5 21 HT_ ?_
       refine SQ.pu 9 25 HT_ ?_
       refine SQ.tk 4 20 HT_ HW_ hHeld ?_
       refine SQ.pu 6 22 HT_ ?_
       refine SQ.pu 7 23 HT_ ?_
       refine SQ.tk 8 24 HT_ HW_ hHeld ?_
       refine SQ.tk 10 26 HT_ HW_ hHeld ?_
       refine SQ.pu 11 27 HT_ ?_
       refine SQ.pu 12 28 HT_ ?_
       refine done_ (done_of HT_.out (by kernel_rfl)) ?_
       try go_wp2
       go_meet
       case rel => exact ⟨_, (!(Op.bytesLess (((rd_T55 l0_0 x7_1).f0).toList) a1_0.toList)), (by first | rfl | (simp; done) | (simp [*]; done)), H', ⟨by have := HK1.out; first | omega | exact Nat.le_refl _⟩, ⟨by (with_reducible repeat (first | apply V_alloc | apply V_drewN | apply V_drew)); exact HO_153000.out⟩, ⟨by (with_reducible repeat (first | apply V_alloc | apply V_drewN | apply V_drew)); exact HO_154001.out⟩, ⟨by (with_reducible repeat (first | apply V_alloc | apply V_drewN | apply V_drew)); exact HO_154002.out⟩, ⟨by (with_reducible repeat (first | apply N_alloc | apply N_drewN | apply N_drew)); exact HO_156000.out⟩, ⟨by (with_reducible repeat (first | refine blk_drewN ?_ _ | refine blk_drew ?_ | refine blk_alloc ?_ _)); exact BK152.out⟩, ⟨by (with_reducible repeat (first | refine blk_drewN ?_ _ | refine blk_drew ?_ | refine blk_alloc ?_ _)); exact BK153.out⟩, ⟨by (with_reducible repeat (first | refine blk_drewN ?_ _ | refine blk_drew ?_ | refine blk_alloc ?_ _)); exact BK154.out⟩, ⟨by (with_reducible repeat (first | refine blk_drewN ?_ _ | refine blk_drew ?_ | refine blk_alloc ?_ _)); exact BK155.out⟩, ⟨by repeat (first | (with_reducible first | exact HB.out | apply below_alloc | apply pw_below_drewN | apply below_drew1 | refine below_set ?_ GE152.out | refine below_set ?_ GE153.out | refine below_set ?_ GE154.out | refine below_set ?_ GE155.out) | exact HB.out)⟩⟩
      ·
       rw [if_neg c19] at H
       exact absurd H (by simp)
    case rest =>
     clear HC12
     try clear c1
     try clear p1
     try clear q1
     try clear hx1
     try clear p2
     try clear c7
     try clear c8
     try clear c9
     try clear c11
     try clear c11b0
     try clear c13
     try clear c14
     try clear c15
     try clear c16
     try clear p16
     try clear q16
     try clear hx16
     try clear c17
     try clear c19
     try clear c19b0
     try clear hcz10_0
     try clear hcz16_0
     try clear hfz10_0
     try clear hfz16_0
     try clear hx165_0
     try clear hx165_1
     try clear hx165_2
     try clear p165
     try clear p2
     try clear q165
     obtain ⟨kq, x28_11, rfl, HA, HJ11, HO_153000, HO_154001, HO_154002, HO_156000, BK152, BK153, BK154, BK155, HB⟩ := hcut
     cases kq with
     | zero => exact absurd HA.out (by simp [spec_l03Put.j1])
     | succ kj11 =>
      have H := HA.out
      clear HA
      simp only [spec_l03Put.j1] at H
      by_cases c21 : x28_11 = true
      ·
       subst c21
       have H1 : (if x156000_1.length < 2199023255552 then ((some (x156000_1 ++ [(⟨a1_0, l1_1, l1_2⟩ : S55)] : List (S55))).bind fun y166 => (if 0 ≤ x7_1 then (if x7_1 < (l0_0.length : Int) then (if ((rd_T55 l0_0 x7_1).f0).toList = a1_0.toList then (spec_l03Put.l0 kj11 true (wrap64 (x7_1 + 1)) l0_0 a1_0 l1_1 l1_2 y166) else (if y166.length < 2199023255552 then (spec_l03Put.l0 kj11 true (wrap64 (x7_1 + 1)) l0_0 a1_0 l1_1 l1_2 (y166 ++ [(⟨(rd_T55 l0_0 x7_1).f0, (rd_T55 l0_0 x7_1).f1, (rd_T55 l0_0 x7_1).f2⟩ : S55)])) else (none))) else (none)) else (none))) else (none)) = some r := by rw [if_pos rfl] at H; exact H
       clear H
       have H := H1
       clear H1
       by_cases c22 : x156000_1.length < 2199023255552
       ·
        rw [if_pos c22] at H
        have LMc22 := Aside0.mk c22
        clear c22
        obtain ⟨y166, hy166⟩ : ∃ y_ : List (S55), y_ = (x156000_1 ++ [(⟨a1_0, l1_1, l1_2⟩ : S55)]) := ⟨_, rfl⟩
        replace H : (if 0 ≤ x7_1 then (if x7_1 < (l0_0.length : Int) then (if ((rd_T55 l0_0 x7_1).f0).toList = a1_0.toList then (spec_l03Put.l0 kj11 true (wrap64 (x7_1 + 1)) l0_0 a1_0 l1_1 l1_2 y166) else (if y166.length < 2199023255552 then (spec_l03Put.l0 kj11 true (wrap64 (x7_1 + 1)) l0_0 a1_0 l1_1 l1_2 (y166 ++ [(⟨(rd_T55 l0_0 x7_1).f0, (rd_T55 l0_0 x7_1).f1, (rd_T55 l0_0 x7_1).f2⟩ : S55)])) else (none))) else (none)) else (none)) = some r := by first | (rw [hy166]; with_reducible exact H) | (have H2_ := (Option.bind_some _ _).symm.trans H; rw [hy166]; with_reducible exact H2_) | (have H2_ := (Option.bind_some _ _).symm.trans H; with_reducible exact H2_) | with_reducible exact H | (rw [hy166]; exact H) | exact H
        have Ny166 := Aside0.mk hy166
        clear hy166
        by_cases c23 : 0 ≤ x7_1
        ·
         rw [if_pos c23] at H
         have c23b0 : decide (0 ≤ x7_1) = true := decide_eq_true c23
         clear c23
         by_cases c24 : x7_1 < (l0_0.length : Int)
         ·
          rw [if_pos c24] at H
          have c24b0 : decide (x7_1 < (l0_0.length : Int)) = true := decide_eq_true c24
          clear c24
          by_cases c25 : ((rd_T55 l0_0 x7_1).f0).toList = a1_0.toList
          ·
           rw [if_pos c25] at H
           have c25b0 : (((rd_T55 l0_0 x7_1).f0).toList == a1_0.toList) = true := beq_iff_eq.mpr c25
           have c25b1 : (((rd_T55 l0_0 x7_1).f0).toList != a1_0.toList) = false := bne_eq_false_iff_eq.mpr c25
           clear c25
           have H' := Aside0.mk H
           clear H
           have hnb26 := NB155_152.out
           have hnc26 := NB152_155.out
           have hnb27 := NB155_153.out
           have hnc27 := NB153_155.out
           have hnb28 := NB155_154.out
           have hnc28 := NB154_155.out
           have hcz29_0 : wc.cell? ⟨gb155, 0, none⟩ = some (u156000) := (blk_cell BK155.out 0).trans rfl
           have hfz29_0 := blk_frozen BK155.out 0
           have hnb30 := NB153_152.out
           have hnc30 := NB152_153.out
           have hnb31 := NB153_154.out
           have hnc31 := NB154_153.out
           have hcz32_0 : wc.cell? ⟨gb153, 0, none⟩ = some (.string a1_0) := (blk_cell BK153.out 0).trans rfl
           have hcz32_1 : wc.cell? ⟨gb153, 1, none⟩ = some (.slice A1_1 l1_1.length c1_1) := (blk_cell BK153.out 1).trans rfl
           have hcz32_2 : wc.cell? ⟨gb153, 2, none⟩ = some (.slice A1_2 l1_2.length c1_2) := (blk_cell BK153.out 2).trans rfl
           have hfz32_0 := blk_frozen BK153.out 0
           have hfz32_1 := blk_frozen BK153.out 1
           have hfz32_2 := blk_frozen BK153.out 2
           try go_wp2_with (first | ((with_reducible refine gate_builtin (b := .append) (xs := #[.tmp 30, .tmp 32]) rfl ?_); at_builtin; refine N_append k55 (w0 := w) w.heap.size rfl (.tmp 30) (.tmp 32) 26 55 (.agg #[(.string ⟨#[]⟩), (.slice none 0 0), (.slice none 0 0)]) 64 rfl Tryd.underlying26 info55 rfl (by decide) (by omega) u156000 x156000_1 (⟨a1_0, l1_1, l1_2⟩ : S55) [.string a1_0, .slice A1_1 l1_1.length c1_1, .slice A1_2 l1_2.length c1_2] (fun k_ => ((P0_0_ k_ ∨ P1_1_ k_ ∨ P1_2_ k_) ∨ w.heap.size ≤ k_) ∧ k_ ≠ gb152 ∧ k_ ≠ gb153 ∧ k_ ≠ gb154 ∧ k_ ≠ gb155) (fun k_ => ((fun k_ => ((P0_0_ k_ ∨ P1_1_ k_ ∨ P1_2_ k_) ∨ w.heap.size ≤ k_) ∧ k_ ≠ gb152 ∧ k_ ≠ gb153 ∧ k_ ≠ gb154 ∧ k_ ≠ gb155)) k_ ∧ some k_ ≠ (u156000 : Value).ownBlock) rfl rfl ?aP (fun _ hk => hk) ?aF ?aO ?aB ?aS ?aL ?_; (case aP => exact (k55_mkF _ _ (⟨a1_0, l1_1, l1_2⟩ : S55) (V_reads' (V_mono (ok' := (fun k_ => ((fun k_ => ((P0_0_ k_ ∨ P1_1_ k_ ∨ P1_2_ k_) ∨ w.heap.size ≤ k_) ∧ k_ ≠ gb152 ∧ k_ ≠ gb153 ∧ k_ ≠ gb154 ∧ k_ ≠ gb155)) k_ ∧ some k_ ≠ (u156000 : Value).ownBlock)) (HO_154001.out) (fun k_ hk => ⟨⟨hk.1, ⟨hk.2.2.1, ⟨hk.2.2.2.1, ⟨hk.2.2.2.2.1, hk.2.2.2.2.2⟩⟩⟩⟩, hk.2.1⟩))).2.1 (V_F (V_mono (ok' := (fun k_ => ((fun k_ => ((P0_0_ k_ ∨ P1_1_ k_ ∨ P1_2_ k_) ∨ w.heap.size ≤ k_) ∧ k_ ≠ gb152 ∧ k_ ≠ gb153 ∧ k_ ≠ gb154 ∧ k_ ≠ gb155)) k_ ∧ some k_ ≠ (u156000 : Value).ownBlock)) (HO_154001.out) (fun k_ hk => ⟨⟨hk.1, ⟨hk.2.2.1, ⟨hk.2.2.2.1, ⟨hk.2.2.2.2.1, hk.2.2.2.2.2⟩⟩⟩⟩, hk.2.1⟩))) (V_reads' (V_mono (ok' := (fun k_ => ((fun k_ => ((P0_0_ k_ ∨ P1_1_ k_ ∨ P1_2_ k_) ∨ w.heap.size ≤ k_) ∧ k_ ≠ gb152 ∧ k_ ≠ gb153 ∧ k_ ≠ gb154 ∧ k_ ≠ gb155)) k_ ∧ some k_ ≠ (u156000 : Value).ownBlock)) (HO_154002.out) (fun k_ hk => ⟨⟨hk.1, ⟨hk.2.2.1, ⟨hk.2.2.2.1, ⟨hk.2.2.2.2.1, hk.2.2.2.2.2⟩⟩⟩⟩, hk.2.1⟩))).2.1 (V_F (V_mono (ok' := (fun k_ => ((fun k_ => ((P0_0_ k_ ∨ P1_1_ k_ ∨ P1_2_ k_) ∨ w.heap.size ≤ k_) ∧ k_ ≠ gb152 ∧ k_ ≠ gb153 ∧ k_ ≠ gb154 ∧ k_ ≠ gb155)) k_ ∧ some k_ ≠ (u156000 : Value).ownBlock)) (HO_154002.out) (fun k_ hk => ⟨⟨hk.1, ⟨hk.2.2.1, ⟨hk.2.2.2.1, ⟨hk.2.2.2.2.1, hk.2.2.2.2.2⟩⟩⟩⟩, hk.2.1⟩))))); (case aB => exact (by repeat (first | (with_reducible first | exact HB.out | apply below_alloc | apply pw_below_drewN | apply below_drew1 | refine below_set ?_ GE152.out | refine below_set ?_ GE153.out | refine below_set ?_ GE154.out | refine below_set ?_ GE155.out) | exact HB.out))); (case aF => exact (fun k_ hk => ⟨(.inr (Nat.le_trans (below_size (by repeat (first | (with_reducible first | exact HB.out | apply below_alloc | apply pw_below_drewN | apply below_drew1 | refine below_set ?_ GE152.out | refine below_set ?_ GE153.out | refine below_set ?_ GE154.out | refine below_set ?_ GE155.out) | exact HB.out))) hk)), Kd.freshB (g := gb152) (o := .cells #[.slice A0_0 l0_0.length c0_0] 28 (0, 0)) (by (with_reducible repeat (first | refine blk_drewN ?_ _ | refine blk_drew ?_ | refine blk_alloc ?_ _)); exact BK152.out) k_ hk, Kd.freshB (g := gb153) (o := .cells #[.string a1_0, .slice A1_1 l1_1.length c1_1, .slice A1_2 l1_2.length c1_2] 55 (0, 0)) (by (with_reducible repeat (first | refine blk_drewN ?_ _ | refine blk_drew ?_ | refine blk_alloc ?_ _)); exact BK153.out) k_ hk, Kd.freshB (g := gb154) (o := .cells #[.slice none 0 0] 28 (0, 0)) (by (with_reducible repeat (first | refine blk_drewN ?_ _ | refine blk_drew ?_ | refine blk_alloc ?_ _)); exact BK154.out) k_ hk, Kd.freshB (g := gb155) (o := .cells #[u156000] 28 (0, 0)) (by (with_reducible repeat (first | refine blk_drewN ?_ _ | refine blk_drew ?_ | refine blk_alloc ?_ _)); exact BK155.out) k_ hk⟩)); (case aO => exact (by (with_reducible repeat (first | apply N_alloc | apply N_drewN | apply N_drew)); exact HO_156000.out)); (case aS => exact (below_size (by repeat (first | (with_reducible first | exact HB.out | apply below_alloc | apply pw_below_drewN | apply below_drew1 | refine below_set ?_ GE152.out | refine below_set ?_ GE153.out | refine below_set ?_ GE154.out | refine below_set ?_ GE155.out) | exact HB.out)))); (case aL => have := LMc22.out; omega); intro v167 w33 ho hb hg hat; rw [← Ny166.out] at ho; have n0_ := Aside0.mk (V_afterv (ok := (fun k_ => ((P0_0_ k_ ∨ P1_1_ k_ ∨ P1_2_ k_) ∨ w.heap.size ≤ k_) ∧ k_ ≠ gb152 ∧ k_ ≠ gb153 ∧ k_ ≠ gb154 ∧ k_ ≠ gb155)) (by (with_reducible repeat (first | apply V_alloc | apply V_drewN | apply V_drew)); exact V_mono HO_153000.out (fun _ hk => ⟨⟨hk.1, ⟨hk.2.2.1, ⟨hk.2.2.2.1, ⟨hk.2.2.2.2.1, hk.2.2.2.2.2⟩⟩⟩⟩, hk.2.1⟩)) hg hat); have n1_ := Aside0.mk (V_afterv (ok := (fun k_ => ((P0_0_ k_ ∨ P1_1_ k_ ∨ P1_2_ k_) ∨ w.heap.size ≤ k_) ∧ k_ ≠ gb152 ∧ k_ ≠ gb153 ∧ k_ ≠ gb154 ∧ k_ ≠ gb155)) (by (with_reducible repeat (first | apply V_alloc | apply V_drewN | apply V_drew)); exact V_mono HO_154001.out (fun _ hk => ⟨⟨hk.1, ⟨hk.2.2.1, ⟨hk.2.2.2.1, ⟨hk.2.2.2.2.1, hk.2.2.2.2.2⟩⟩⟩⟩, hk.2.1⟩)) hg hat); have n2_ := Aside0.mk (V_afterv (ok := (fun k_ => ((P0_0_ k_ ∨ P1_1_ k_ ∨ P1_2_ k_) ∨ w.heap.size ≤ k_) ∧ k_ ≠ gb152 ∧ k_ ≠ gb153 ∧ k_ ≠ gb154 ∧ k_ ≠ gb155)) (by (with_reducible repeat (first | apply V_alloc | apply V_drewN | apply V_drew)); exact V_mono HO_154002.out (fun _ hk => ⟨⟨hk.1, ⟨hk.2.2.1, ⟨hk.2.2.2.1, ⟨hk.2.2.2.2.1, hk.2.2.2.2.2⟩⟩⟩⟩, hk.2.1⟩)) hg hat); have n3_ := Aside0.mk (blk_grown (g := gb152) (o := .cells #[.slice A0_0 l0_0.length c0_0] 28 (0, 0)) (by (with_reducible repeat (first | refine blk_drewN ?_ _ | refine blk_drew ?_ | refine blk_alloc ?_ _)); exact BK152.out) hg (N_ne HO_156000.out BK152.out (by decide))); have n4_ := Aside0.mk (blk_grown (g := gb153) (o := .cells #[.string a1_0, .slice A1_1 l1_1.length c1_1, .slice A1_2 l1_2.length c1_2] 55 (0, 0)) (by (with_reducible repeat (first | refine blk_drewN ?_ _ | refine blk_drew ?_ | refine blk_alloc ?_ _)); exact BK153.out) hg (N_away HO_156000.out (fun _ hk => hk.2.2.1))); have n5_ := Aside0.mk (blk_grown (g := gb154) (o := .cells #[.slice none 0 0] 28 (0, 0)) (by (with_reducible repeat (first | refine blk_drewN ?_ _ | refine blk_drew ?_ | refine blk_alloc ?_ _)); exact BK154.out) hg (N_ne HO_156000.out BK154.out (by decide))); have n6_ := Aside0.mk (blk_grown (g := gb155) (o := .cells #[u156000] 28 (0, 0)) (by (with_reducible repeat (first | refine blk_drewN ?_ _ | refine blk_drew ?_ | refine blk_alloc ?_ _)); exact BK155.out) hg (N_ne HO_156000.out BK155.out (by decide))); have n7_ := Aside0.mk (hb); have n8_ := Aside0.mk (ho); clear HO_153000; clear HO_154001; clear HO_154002; clear BK152; clear BK153; clear BK154; clear BK155; clear HB; clear HO_156000; have HO_153000 := n0_; have HO_154001 := n1_; have HO_154002 := n2_; have BK152 := n3_; have BK153 := n4_; have BK154 := n5_; have BK155 := n6_; have HB := n7_; have HO168 := n8_; clear n0_ n1_ n2_ n3_ n4_ n5_ n6_ n7_ n8_; clear ho hb hg hat; obtain ⟨Ao34, co34, eo34⟩ := N_slice HO168.out; subst eo34; have hcz35_0 : w33.cell? ⟨gb155, 0, none⟩ = some (u156000) := (blk_cell BK155.out 0).trans rfl; have hfz35_0 := blk_frozen BK155.out 0))
           have n0_ : Aside0 (Kd.V k55 55 (w33.setCell ⟨gb155, 0, none⟩ (.slice Ao34 y166.length co34)) w.heap.size (fun k_ => ((P0_0_ k_ ∨ P1_1_ k_ ∨ P1_2_ k_) ∨ w.heap.size ≤ k_) ∧ some k_ ≠ (.slice Ao34 y166.length co34 : Value).ownBlock ∧ k_ ≠ gb152 ∧ k_ ≠ gb153 ∧ k_ ≠ gb154 ∧ k_ ≠ gb155) (.slice A0_0 l0_0.length c0_0) l0_0) := ⟨by (with_reducible repeat (first | apply V_alloc | apply V_drewN | apply V_drew)); exact V_mono (V_far (p := ⟨gb155, 0, none⟩) (V_mono HO_153000.out (fun k_ hk => (⟨hk, hk.1.2.2.2.2⟩ : _ ∧ k_ ≠ gb155))) (fun _ hk => hk.2) (.slice Ao34 y166.length co34)) (fun _ hk => ⟨hk.1.1.1, ⟨hk.1.2, ⟨hk.1.1.2.1, ⟨hk.1.1.2.2.1, ⟨hk.1.1.2.2.2.1, hk.1.1.2.2.2.2⟩⟩⟩⟩⟩)⟩
           have n1_ : Aside0 (Kd.V (Kd.int .u8) 5 (w33.setCell ⟨gb155, 0, none⟩ (.slice Ao34 y166.length co34)) w.heap.size (fun k_ => ((P0_0_ k_ ∨ P1_1_ k_ ∨ P1_2_ k_) ∨ w.heap.size ≤ k_) ∧ some k_ ≠ (.slice Ao34 y166.length co34 : Value).ownBlock ∧ k_ ≠ gb152 ∧ k_ ≠ gb153 ∧ k_ ≠ gb154 ∧ k_ ≠ gb155) (.slice A1_1 l1_1.length c1_1) l1_1) := ⟨by (with_reducible repeat (first | apply V_alloc | apply V_drewN | apply V_drew)); exact V_mono (V_far (p := ⟨gb155, 0, none⟩) (V_mono HO_154001.out (fun k_ hk => (⟨hk, hk.1.2.2.2.2⟩ : _ ∧ k_ ≠ gb155))) (fun _ hk => hk.2) (.slice Ao34 y166.length co34)) (fun _ hk => ⟨hk.1.1.1, ⟨hk.1.2, ⟨hk.1.1.2.1, ⟨hk.1.1.2.2.1, ⟨hk.1.1.2.2.2.1, hk.1.1.2.2.2.2⟩⟩⟩⟩⟩)⟩
           have n2_ : Aside0 (Kd.V (Kd.int .u8) 5 (w33.setCell ⟨gb155, 0, none⟩ (.slice Ao34 y166.length co34)) w.heap.size (fun k_ => ((P0_0_ k_ ∨ P1_1_ k_ ∨ P1_2_ k_) ∨ w.heap.size ≤ k_) ∧ some k_ ≠ (.slice Ao34 y166.length co34 : Value).ownBlock ∧ k_ ≠ gb152 ∧ k_ ≠ gb153 ∧ k_ ≠ gb154 ∧ k_ ≠ gb155) (.slice A1_2 l1_2.length c1_2) l1_2) := ⟨by (with_reducible repeat (first | apply V_alloc | apply V_drewN | apply V_drew)); exact V_mono (V_far (p := ⟨gb155, 0, none⟩) (V_mono HO_154002.out (fun k_ hk => (⟨hk, hk.1.2.2.2.2⟩ : _ ∧ k_ ≠ gb155))) (fun _ hk => hk.2) (.slice Ao34 y166.length co34)) (fun _ hk => ⟨hk.1.1.1, ⟨hk.1.2, ⟨hk.1.1.2.1, ⟨hk.1.1.2.2.1, ⟨hk.1.1.2.2.2.1, hk.1.1.2.2.2.2⟩⟩⟩⟩⟩)⟩
           have n3_ : Aside0 (Kd.N k55 55 (w33.setCell ⟨gb155, 0, none⟩ (.slice Ao34 y166.length co34)) w.heap.size (fun k_ => ((P0_0_ k_ ∨ P1_1_ k_ ∨ P1_2_ k_) ∨ w.heap.size ≤ k_) ∧ k_ ≠ gb152 ∧ k_ ≠ gb153 ∧ k_ ≠ gb154 ∧ k_ ≠ gb155) (.slice Ao34 y166.length co34) y166) := ⟨by (with_reducible repeat (first | apply N_alloc | apply N_drewN | apply N_drew)); exact N_mono (N_far (p := ⟨gb155, 0, none⟩) (N_mono HO168.out (fun k_ hk => (⟨hk, hk.2.2.2.2⟩ : _ ∧ k_ ≠ gb155))) (fun _ hk => hk.2) (.slice Ao34 y166.length co34)) (fun _ hk => ⟨hk.1.1, ⟨hk.1.2.1, ⟨hk.1.2.2.1, ⟨hk.1.2.2.2.1, hk.1.2.2.2.2⟩⟩⟩⟩)⟩
           have n4_ : Aside0 ((w33.setCell ⟨gb155, 0, none⟩ (.slice Ao34 y166.length co34)).heap[gb152]? = some (.cells #[.slice A0_0 l0_0.length c0_0] 28 (0, 0))) := ⟨by (with_reducible repeat (first | refine blk_drewN ?_ _ | refine blk_drew ?_ | refine blk_alloc ?_ _)); refine blk_far ?_ NB152_155.out _; (with_reducible repeat (first | refine blk_drewN ?_ _ | refine blk_drew ?_ | refine blk_alloc ?_ _)); exact BK152.out⟩
           have n5_ : Aside0 ((w33.setCell ⟨gb155, 0, none⟩ (.slice Ao34 y166.length co34)).heap[gb153]? = some (.cells #[.string a1_0, .slice A1_1 l1_1.length c1_1, .slice A1_2 l1_2.length c1_2] 55 (0, 0))) := ⟨by (with_reducible repeat (first | refine blk_drewN ?_ _ | refine blk_drew ?_ | refine blk_alloc ?_ _)); refine blk_far ?_ NB153_155.out _; (with_reducible repeat (first | refine blk_drewN ?_ _ | refine blk_drew ?_ | refine blk_alloc ?_ _)); exact BK153.out⟩
           have n6_ : Aside0 ((w33.setCell ⟨gb155, 0, none⟩ (.slice Ao34 y166.length co34)).heap[gb154]? = some (.cells #[.slice none 0 0] 28 (0, 0))) := ⟨by (with_reducible repeat (first | refine blk_drewN ?_ _ | refine blk_drew ?_ | refine blk_alloc ?_ _)); refine blk_far ?_ NB154_155.out _; (with_reducible repeat (first | refine blk_drewN ?_ _ | refine blk_drew ?_ | refine blk_alloc ?_ _)); exact BK154.out⟩
           have n7_ : Aside0 ((w33.setCell ⟨gb155, 0, none⟩ (.slice Ao34 y166.length co34)).heap[gb155]? = some (.cells #[.slice Ao34 y166.length co34] 28 (0, 0))) := ⟨by (with_reducible repeat (first | refine blk_drewN ?_ _ | refine blk_drew ?_ | refine blk_alloc ?_ _)); refine blk_put (cs := #[u156000]) ?_ 0 _ rfl; (with_reducible repeat (first | refine blk_drewN ?_ _ | refine blk_drew ?_ | refine blk_alloc ?_ _)); exact BK155.out⟩
           have n8_ : Aside0 (Below w.heap.size w (w33.setCell ⟨gb155, 0, none⟩ (.slice Ao34 y166.length co34))) := ⟨by repeat (first | (with_reducible first | exact HB.out | apply below_alloc | apply pw_below_drewN | apply below_drew1 | refine below_set ?_ GE152.out | refine below_set ?_ GE153.out | refine below_set ?_ GE154.out | refine below_set ?_ GE155.out) | exact HB.out)⟩
           (try clear HO_153000)
           (try clear HO_154001)
           (try clear HO_154002)
           (try clear HO168)
           (try clear BK152)
           (try clear BK153)
           (try clear BK154)
           (try clear BK155)
           (try clear HB)
           generalize (w33.setCell ⟨gb155, 0, none⟩ (.slice Ao34 y166.length co34)) = w36 at n0_ n1_ n2_ n3_ n4_ n5_ n6_ n7_ n8_ ⊢
           have HO_153000 := n0_
           have HO_154001 := n1_
           have HO_154002 := n2_
           have HO168 := n3_
           have BK152 := n4_
           have BK153 := n5_
           have BK154 := n6_
           have BK155 := n7_
           have HB := n8_
           clear n0_ n1_ n2_ n3_ n4_ n5_ n6_ n7_ n8_
           have n0_ := Aside0.mk (V_drew HO_153000.out)
           have n1_ := Aside0.mk (V_drew HO_154001.out)
           have n2_ := Aside0.mk (V_drew HO_154002.out)
           have n3_ := Aside0.mk (N_drew HO168.out)
           have n4_ := Aside0.mk (blk_drew BK152.out)
           have n5_ := Aside0.mk (blk_drew BK153.out)
           have n6_ := Aside0.mk (blk_drew BK154.out)
           have n7_ := Aside0.mk (blk_drew BK155.out)
           have n8_ := Aside0.mk (below_drew1 HB.out)
           clear HO_153000
           clear HO_154001
           clear HO_154002
           clear HO168
           clear BK152
           clear BK153
           clear BK154
           clear BK155
           clear HB
           have HO_153000 := n0_
           have HO_154001 := n1_
           have HO_154002 := n2_
           have HO168 := n3_
           have BK152 := n4_
           have BK153 := n5_
           have BK154 := n6_
           have BK155 := n7_
           have HB := n8_
           clear n0_ n1_ n2_ n3_ n4_ n5_ n6_ n7_ n8_
           have p169 : 0 ≤ (x7_1 : Int) := of_decide_eq_true (by first | (with_reducible assumption) | assumption)
           have q169 : x7_1 < (l0_0.length : Int) := of_decide_eq_true (by first | (with_reducible assumption) | assumption)
           obtain ⟨ad169, A169_1, c169_1, A169_2, c169_2, e169, hx169_0, hx169_1, hx169_2, hl169_1, hi169_1, hl169_2, hi169_2⟩ := at_T55 (V_reads' HO_153000.out).2.2 x7_1 p169 q169
           cases e169
           obtain ⟨ce169, hce169, hMe169, hcc169⟩ := V_get HO_153000.out z55 x7_1 p169 (by first | exact q169 | exact of_decide_eq_true (by first | (with_reducible assumption) | assumption) | (have e_ := (V_reads' HO_153000.out).1; omega))
           obtain ⟨ua169_1, uc169_1, ua169_2, uc169_2, rfl, ul169_1, ge169_1, ul169_2, ge169_2⟩ := k55_openF hMe169
           have hv169_1 := hcc169 1 _ rfl
           rw [add_field _ _ 1 (by omega)] at hv169_1
           replace hv169_1 := Option.some.inj (hv169_1.symm.trans hx169_1)
           injection hv169_1 with hva_ hvn_ hvc_
           rw [hva_] at ge169_1
           rw [hvc_] at ul169_1
           have HL169_1 := Aside0.mk (show Kd.V (Kd.int .u8) 5 _ w.heap.size _ _ ((rd_T55 l0_0 x7_1).f1) from V_mk ul169_1 ge169_1)
           clear hva_ hvn_ hvc_ ge169_1 ul169_1
           have hv169_2 := hcc169 2 _ rfl
           rw [add_field _ _ 2 (by omega)] at hv169_2
           replace hv169_2 := Option.some.inj (hv169_2.symm.trans hx169_2)
           injection hv169_2 with hva_ hvn_ hvc_
           rw [hva_] at ge169_2
           rw [hvc_] at ul169_2
           have HL169_2 := Aside0.mk (show Kd.V (Kd.int .u8) 5 _ w.heap.size _ _ ((rd_T55 l0_0 x7_1).f2) from V_mk ul169_2 ge169_2)
           clear hva_ hvn_ hvc_ ge169_2 ul169_2
           clear hcc169 hce169
           have HR169_1 := Aside0.mk hi169_1
           have HC169_1 := Aside0.mk hl169_1
           clear hi169_1 hl169_1
           have HR169_2 := Aside0.mk hi169_2
           have HC169_2 := Aside0.mk hl169_2
           clear hi169_2 hl169_2
           replace p169 := eq_true p169
           replace q169 := eq_true q169
           refine start_ (n := 9) (S := fun w' => w'.cell? ⟨gb152, 0, none⟩ = some (.slice (some ad169) l0_0.length c0_0) ∧ w'.cell? ⟨gb153, 0, none⟩ = some (.string a1_0) ∧ w'.cell? ⟨gb153, 1, none⟩ = some (.slice A1_1 l1_1.length c1_1) ∧ w'.cell? ⟨gb153, 2, none⟩ = some (.slice A1_2 l1_2.length c1_2) ∧ w'.cell? (ad169.add ((x7_1).toNat * 3)) = some (.string ((rd_T55 l0_0 x7_1).f0)) ∧ w'.cell? ⟨(ad169.add ((x7_1).toNat * 3)).block, (ad169.add ((x7_1).toNat * 3)).off + 1, none⟩ = some (.slice A169_1 ((rd_T55 l0_0 x7_1).f1).length c169_1) ∧ w'.cell? ⟨(ad169.add ((x7_1).toNat * 3)).block, (ad169.add ((x7_1).toNat * 3)).off + 2, none⟩ = some (.slice A169_2 ((rd_T55 l0_0 x7_1).f2).length c169_2)) (ds := []) #[false, false, false, false, false, false, false, false, false] (by kernel_rfl) rfl rfl ⟨(blk_cell BK152.out 0).trans rfl, (blk_cell BK153.out 0).trans rfl, (blk_cell BK153.out 1).trans rfl, (blk_cell BK153.out 2).trans rfl, hx169_0, hx169_1, hx169_2⟩ (fun hHeld => ?_); refine with_tabW spec_l03Put.tab9 spec_l03Put.bits9 (fun HT_ HW_ => ?_)
           generalize w36.drew = w37 at HO_153000 HO_154001 HO_154002 HO168 BK152 BK153 BK154 BK155 HB HL169_1 HL169_2 HR169_1 HR169_2 hx169_0 hx169_1 hx169_2 hHeld ⊢
           refine SQ.pu 0 35 HT_ ?_
           refine SQ.pu 2 37 HT_ ?_
           refine SQ.pu 6 41 HT_ ?_
           refine SQ.tk 1 36 HT_ HW_ hHeld ?_
           refine SQ.pu 3 38 HT_ ?_
           refine SQ.pu 4 39 HT_ ?_
           refine SQ.tk 5 40 HT_ HW_ hHeld ?_
           refine SQ.tk 7 42 HT_ HW_ hHeld ?_
           refine SQ.pu 8 43 HT_ ?_
           refine done_ (done_of HT_.out (by kernel_rfl)) ?_
           try go_wp2
           go_roundg kj11
           case measure => have := HK1.out; have := HJ11.out; omega
           case rel => exact ⟨(true), (wrap64 (x7_1 + 1)), (y166), (.slice Ao34 y166.length co34), (by first | rfl | (simp; done) | (simp [*]; done)), (by first | rfl | (simp; done) | (simp [*]; done)), H', ⟨by have := HK1.out; have := HJ11.out; omega⟩, ⟨by (with_reducible repeat (first | apply V_alloc | apply V_drewN | apply V_drew)); exact HO_153000.out⟩, ⟨by (with_reducible repeat (first | apply V_alloc | apply V_drewN | apply V_drew)); exact HO_154001.out⟩, ⟨by (with_reducible repeat (first | apply V_alloc | apply V_drewN | apply V_drew)); exact HO_154002.out⟩, ⟨by (with_reducible repeat (first | apply N_alloc | apply N_drewN | apply N_drew)); exact HO168.out⟩, ⟨by (with_reducible repeat (first | refine blk_drewN ?_ _ | refine blk_drew ?_ | refine blk_alloc ?_ _)); exact BK152.out⟩, ⟨by (with_reducible repeat (first | refine blk_drewN ?_ _ | refine blk_drew ?_ | refine blk_alloc ?_ _)); exact BK153.out⟩, ⟨by (with_reducible repeat (first | refine blk_drewN ?_ _ | refine blk_drew ?_ | refine blk_alloc ?_ _)); exact BK154.out⟩, ⟨by (with_reducible repeat (first | refine blk_drewN ?_ _ | refine blk_drew ?_ | refine blk_alloc ?_ _)); exact BK155.out⟩, ⟨by repeat (first | (with_reducible first | exact HB.out | apply below_alloc | apply pw_below_drewN | apply below_drew1 | refine below_set ?_ GE152.out | refine below_set ?_ GE153.out | refine below_set ?_ GE154.out | refine below_set ?_ GE155.out) | exact HB.out)⟩⟩
          ·
           rw [if_neg c25] at H
           have c25b0 : (((rd_T55 l0_0 x7_1).f0).toList == a1_0.toList) = false := beq_eq_false_iff_ne.mpr c25
           have c25b1 : (((rd_T55 l0_0 x7_1).f0).toList != a1_0.toList) = true := bne_iff_ne.mpr c25
           by_cases c38 : y166.length < 2199023255552
           ·
            rw [if_pos c38] at H
            have LMc38 := Aside0.mk c38
            clear c38
            obtain ⟨y171, hy171⟩ : ∃ y_ : List (S55), y_ = (y166 ++ [(⟨(rd_T55 l0_0 x7_1).f0, (rd_T55 l0_0 x7_1).f1, (rd_T55 l0_0 x7_1).f2⟩ : S55)]) := ⟨_, rfl⟩
            replace H : (spec_l03Put.l0 kj11 true (wrap64 (x7_1 + 1)) l0_0 a1_0 l1_1 l1_2 y171) = some r := by first | (rw [hy171]; with_reducible exact H) | (have H2_ := (Option.bind_some _ _).symm.trans H; rw [hy171]; with_reducible exact H2_) | (have H2_ := (Option.bind_some _ _).symm.trans H; with_reducible exact H2_) | with_reducible exact H | (rw [hy171]; exact H) | exact H
            have Ny171 := Aside0.mk hy171
            clear hy171
            have H' := Aside0.mk H
            clear H
            have hnb39 := NB155_152.out
            have hnc39 := NB152_155.out
            have hnb40 := NB155_153.out
            have hnc40 := NB153_155.out
            have hnb41 := NB155_154.out
            have hnc41 := NB154_155.out
            have hcz42_0 : wc.cell? ⟨gb155, 0, none⟩ = some (u156000) := (blk_cell BK155.out 0).trans rfl
            have hfz42_0 := blk_frozen BK155.out 0
            have hnb43 := NB153_152.out
            have hnc43 := NB152_153.out
            have hnb44 := NB153_154.out
            have hnc44 := NB154_153.out
            have hcz45_0 : wc.cell? ⟨gb153, 0, none⟩ = some (.string a1_0) := (blk_cell BK153.out 0).trans rfl
            have hcz45_1 : wc.cell? ⟨gb153, 1, none⟩ = some (.slice A1_1 l1_1.length c1_1) := (blk_cell BK153.out 1).trans rfl
            have hcz45_2 : wc.cell? ⟨gb153, 2, none⟩ = some (.slice A1_2 l1_2.length c1_2) := (blk_cell BK153.out 2).trans rfl
            have hfz45_0 := blk_frozen BK153.out 0
            have hfz45_1 := blk_frozen BK153.out 1
            have hfz45_2 := blk_frozen BK153.out 2
            try go_wp2_with (first | ((with_reducible refine gate_builtin (b := .append) (xs := #[.tmp 30, .tmp 32]) rfl ?_); at_builtin; refine N_append k55 (w0 := w) w.heap.size rfl (.tmp 30) (.tmp 32) 26 55 (.agg #[(.string ⟨#[]⟩), (.slice none 0 0), (.slice none 0 0)]) 64 rfl Tryd.underlying26 info55 rfl (by decide) (by omega) u156000 x156000_1 (⟨a1_0, l1_1, l1_2⟩ : S55) [.string a1_0, .slice A1_1 l1_1.length c1_1, .slice A1_2 l1_2.length c1_2] (fun k_ => ((P0_0_ k_ ∨ P1_1_ k_ ∨ P1_2_ k_) ∨ w.heap.size ≤ k_) ∧ k_ ≠ gb152 ∧ k_ ≠ gb153 ∧ k_ ≠ gb154 ∧ k_ ≠ gb155) (fun k_ => ((fun k_ => ((P0_0_ k_ ∨ P1_1_ k_ ∨ P1_2_ k_) ∨ w.heap.size ≤ k_) ∧ k_ ≠ gb152 ∧ k_ ≠ gb153 ∧ k_ ≠ gb154 ∧ k_ ≠ gb155)) k_ ∧ some k_ ≠ (u156000 : Value).ownBlock) rfl rfl ?aP (fun _ hk => hk) ?aF ?aO ?aB ?aS ?aL ?_; (case aP => exact (k55_mkF _ _ (⟨a1_0, l1_1, l1_2⟩ : S55) (V_reads' (V_mono (ok' := (fun k_ => ((fun k_ => ((P0_0_ k_ ∨ P1_1_ k_ ∨ P1_2_ k_) ∨ w.heap.size ≤ k_) ∧ k_ ≠ gb152 ∧ k_ ≠ gb153 ∧ k_ ≠ gb154 ∧ k_ ≠ gb155)) k_ ∧ some k_ ≠ (u156000 : Value).ownBlock)) (HO_154001.out) (fun k_ hk => ⟨⟨hk.1, ⟨hk.2.2.1, ⟨hk.2.2.2.1, ⟨hk.2.2.2.2.1, hk.2.2.2.2.2⟩⟩⟩⟩, hk.2.1⟩))).2.1 (V_F (V_mono (ok' := (fun k_ => ((fun k_ => ((P0_0_ k_ ∨ P1_1_ k_ ∨ P1_2_ k_) ∨ w.heap.size ≤ k_) ∧ k_ ≠ gb152 ∧ k_ ≠ gb153 ∧ k_ ≠ gb154 ∧ k_ ≠ gb155)) k_ ∧ some k_ ≠ (u156000 : Value).ownBlock)) (HO_154001.out) (fun k_ hk => ⟨⟨hk.1, ⟨hk.2.2.1, ⟨hk.2.2.2.1, ⟨hk.2.2.2.2.1, hk.2.2.2.2.2⟩⟩⟩⟩, hk.2.1⟩))) (V_reads' (V_mono (ok' := (fun k_ => ((fun k_ => ((P0_0_ k_ ∨ P1_1_ k_ ∨ P1_2_ k_) ∨ w.heap.size ≤ k_) ∧ k_ ≠ gb152 ∧ k_ ≠ gb153 ∧ k_ ≠ gb154 ∧ k_ ≠ gb155)) k_ ∧ some k_ ≠ (u156000 : Value).ownBlock)) (HO_154002.out) (fun k_ hk => ⟨⟨hk.1, ⟨hk.2.2.1, ⟨hk.2.2.2.1, ⟨hk.2.2.2.2.1, hk.2.2.2.2.2⟩⟩⟩⟩, hk.2.1⟩))).2.1 (V_F (V_mono (ok' := (fun k_ => ((fun k_ => ((P0_0_ k_ ∨ P1_1_ k_ ∨ P1_2_ k_) ∨ w.heap.size ≤ k_) ∧ k_ ≠ gb152 ∧ k_ ≠ gb153 ∧ k_ ≠ gb154 ∧ k_ ≠ gb155)) k_ ∧ some k_ ≠ (u156000 : Value).ownBlock)) (HO_154002.out) (fun k_ hk => ⟨⟨hk.1, ⟨hk.2.2.1, ⟨hk.2.2.2.1, ⟨hk.2.2.2.2.1, hk.2.2.2.2.2⟩⟩⟩⟩, hk.2.1⟩))))); (case aB => exact (by repeat (first | (with_reducible first | exact HB.out | apply below_alloc | apply pw_below_drewN | apply below_drew1 | refine below_set ?_ GE152.out | refine below_set ?_ GE153.out | refine below_set ?_ GE154.out | refine below_set ?_ GE155.out) | exact HB.out))); (case aF => exact (fun k_ hk => ⟨(.inr (Nat.le_trans (below_size (by repeat (first | (with_reducible first | exact HB.out | apply below_alloc | apply pw_below_drewN | apply below_drew1 | refine below_set ?_ GE152.out | refine below_set ?_ GE153.out | refine below_set ?_ GE154.out | refine below_set ?_ GE155.out) | exact HB.out))) hk)), Kd.freshB (g := gb152) (o := .cells #[.slice A0_0 l0_0.length c0_0] 28 (0, 0)) (by (with_reducible repeat (first | refine blk_drewN ?_ _ | refine blk_drew ?_ | refine blk_alloc ?_ _)); exact BK152.out) k_ hk, Kd.freshB (g := gb153) (o := .cells #[.string a1_0, .slice A1_1 l1_1.length c1_1, .slice A1_2 l1_2.length c1_2] 55 (0, 0)) (by (with_reducible repeat (first | refine blk_drewN ?_ _ | refine blk_drew ?_ | refine blk_alloc ?_ _)); exact BK153.out) k_ hk, Kd.freshB (g := gb154) (o := .cells #[.slice none 0 0] 28 (0, 0)) (by (with_reducible repeat (first | refine blk_drewN ?_ _ | refine blk_drew ?_ | refine blk_alloc ?_ _)); exact BK154.out) k_ hk, Kd.freshB (g := gb155) (o := .cells #[u156000] 28 (0, 0)) (by (with_reducible repeat (first | refine blk_drewN ?_ _ | refine blk_drew ?_ | refine blk_alloc ?_ _)); exact BK155.out) k_ hk⟩)); (case aO => exact (by (with_reducible repeat (first | apply N_alloc | apply N_drewN | apply N_drew)); exact HO_156000.out)); (case aS => exact (below_size (by repeat (first | (with_reducible first | exact HB.out | apply below_alloc | apply pw_below_drewN | apply below_drew1 | refine below_set ?_ GE152.out | refine below_set ?_ GE153.out | refine below_set ?_ GE154.out | refine below_set ?_ GE155.out) | exact HB.out)))); (case aL => have := LMc22.out; omega); intro v167 w46 ho hb hg hat; rw [← Ny166.out] at ho; have n0_ := Aside0.mk (V_afterv (ok := (fun k_ => ((P0_0_ k_ ∨ P1_1_ k_ ∨ P1_2_ k_) ∨ w.heap.size ≤ k_) ∧ k_ ≠ gb152 ∧ k_ ≠ gb153 ∧ k_ ≠ gb154 ∧ k_ ≠ gb155)) (by (with_reducible repeat (first | apply V_alloc | apply V_drewN | apply V_drew)); exact V_mono HO_153000.out (fun _ hk => ⟨⟨hk.1, ⟨hk.2.2.1, ⟨hk.2.2.2.1, ⟨hk.2.2.2.2.1, hk.2.2.2.2.2⟩⟩⟩⟩, hk.2.1⟩)) hg hat); have n1_ := Aside0.mk (V_afterv (ok := (fun k_ => ((P0_0_ k_ ∨ P1_1_ k_ ∨ P1_2_ k_) ∨ w.heap.size ≤ k_) ∧ k_ ≠ gb152 ∧ k_ ≠ gb153 ∧ k_ ≠ gb154 ∧ k_ ≠ gb155)) (by (with_reducible repeat (first | apply V_alloc | apply V_drewN | apply V_drew)); exact V_mono HO_154001.out (fun _ hk => ⟨⟨hk.1, ⟨hk.2.2.1, ⟨hk.2.2.2.1, ⟨hk.2.2.2.2.1, hk.2.2.2.2.2⟩⟩⟩⟩, hk.2.1⟩)) hg hat); have n2_ := Aside0.mk (V_afterv (ok := (fun k_ => ((P0_0_ k_ ∨ P1_1_ k_ ∨ P1_2_ k_) ∨ w.heap.size ≤ k_) ∧ k_ ≠ gb152 ∧ k_ ≠ gb153 ∧ k_ ≠ gb154 ∧ k_ ≠ gb155)) (by (with_reducible repeat (first | apply V_alloc | apply V_drewN | apply V_drew)); exact V_mono HO_154002.out (fun _ hk => ⟨⟨hk.1, ⟨hk.2.2.1, ⟨hk.2.2.2.1, ⟨hk.2.2.2.2.1, hk.2.2.2.2.2⟩⟩⟩⟩, hk.2.1⟩)) hg hat); have n3_ := Aside0.mk (blk_grown (g := gb152) (o := .cells #[.slice A0_0 l0_0.length c0_0] 28 (0, 0)) (by (with_reducible repeat (first | refine blk_drewN ?_ _ | refine blk_drew ?_ | refine blk_alloc ?_ _)); exact BK152.out) hg (N_ne HO_156000.out BK152.out (by decide))); have n4_ := Aside0.mk (blk_grown (g := gb153) (o := .cells #[.string a1_0, .slice A1_1 l1_1.length c1_1, .slice A1_2 l1_2.length c1_2] 55 (0, 0)) (by (with_reducible repeat (first | refine blk_drewN ?_ _ | refine blk_drew ?_ | refine blk_alloc ?_ _)); exact BK153.out) hg (N_away HO_156000.out (fun _ hk => hk.2.2.1))); have n5_ := Aside0.mk (blk_grown (g := gb154) (o := .cells #[.slice none 0 0] 28 (0, 0)) (by (with_reducible repeat (first | refine blk_drewN ?_ _ | refine blk_drew ?_ | refine blk_alloc ?_ _)); exact BK154.out) hg (N_ne HO_156000.out BK154.out (by decide))); have n6_ := Aside0.mk (blk_grown (g := gb155) (o := .cells #[u156000] 28 (0, 0)) (by (with_reducible repeat (first | refine blk_drewN ?_ _ | refine blk_drew ?_ | refine blk_alloc ?_ _)); exact BK155.out) hg (N_ne HO_156000.out BK155.out (by decide))); have n7_ := Aside0.mk (hb); have n8_ := Aside0.mk (ho); clear HO_153000; clear HO_154001; clear HO_154002; clear BK152; clear BK153; clear BK154; clear BK155; clear HB; clear HO_156000; have HO_153000 := n0_; have HO_154001 := n1_; have HO_154002 := n2_; have BK152 := n3_; have BK153 := n4_; have BK154 := n5_; have BK155 := n6_; have HB := n7_; have HO168 := n8_; clear n0_ n1_ n2_ n3_ n4_ n5_ n6_ n7_ n8_; clear ho hb hg hat; obtain ⟨Ao47, co47, eo47⟩ := N_slice HO168.out; subst eo47; have hcz48_0 : w46.cell? ⟨gb155, 0, none⟩ = some (u156000) := (blk_cell BK155.out 0).trans rfl; have hfz48_0 := blk_frozen BK155.out 0))
            have n0_ : Aside0 (Kd.V k55 55 (w46.setCell ⟨gb155, 0, none⟩ (.slice Ao47 y166.length co47)) w.heap.size (fun k_ => ((P0_0_ k_ ∨ P1_1_ k_ ∨ P1_2_ k_) ∨ w.heap.size ≤ k_) ∧ some k_ ≠ (.slice Ao47 y166.length co47 : Value).ownBlock ∧ k_ ≠ gb152 ∧ k_ ≠ gb153 ∧ k_ ≠ gb154 ∧ k_ ≠ gb155) (.slice A0_0 l0_0.length c0_0) l0_0) := ⟨by (with_reducible repeat (first | apply V_alloc | apply V_drewN | apply V_drew)); exact V_mono (V_far (p := ⟨gb155, 0, none⟩) (V_mono HO_153000.out (fun k_ hk => (⟨hk, hk.1.2.2.2.2⟩ : _ ∧ k_ ≠ gb155))) (fun _ hk => hk.2) (.slice Ao47 y166.length co47)) (fun _ hk => ⟨hk.1.1.1, ⟨hk.1.2, ⟨hk.1.1.2.1, ⟨hk.1.1.2.2.1, ⟨hk.1.1.2.2.2.1, hk.1.1.2.2.2.2⟩⟩⟩⟩⟩)⟩
            have n1_ : Aside0 (Kd.V (Kd.int .u8) 5 (w46.setCell ⟨gb155, 0, none⟩ (.slice Ao47 y166.length co47)) w.heap.size (fun k_ => ((P0_0_ k_ ∨ P1_1_ k_ ∨ P1_2_ k_) ∨ w.heap.size ≤ k_) ∧ some k_ ≠ (.slice Ao47 y166.length co47 : Value).ownBlock ∧ k_ ≠ gb152 ∧ k_ ≠ gb153 ∧ k_ ≠ gb154 ∧ k_ ≠ gb155) (.slice A1_1 l1_1.length c1_1) l1_1) := ⟨by (with_reducible repeat (first | apply V_alloc | apply V_drewN | apply V_drew)); exact V_mono (V_far (p := ⟨gb155, 0, none⟩) (V_mono HO_154001.out (fun k_ hk => (⟨hk, hk.1.2.2.2.2⟩ : _ ∧ k_ ≠ gb155))) (fun _ hk => hk.2) (.slice Ao47 y166.length co47)) (fun _ hk => ⟨hk.1.1.1, ⟨hk.1.2, ⟨hk.1.1.2.1, ⟨hk.1.1.2.2.1, ⟨hk.1.1.2.2.2.1, hk.1.1.2.2.2.2⟩⟩⟩⟩⟩)⟩
            have n2_ : Aside0 (Kd.V (Kd.int .u8) 5 (w46.setCell ⟨gb155, 0, none⟩ (.slice Ao47 y166.length co47)) w.heap.size (fun k_ => ((P0_0_ k_ ∨ P1_1_ k_ ∨ P1_2_ k_) ∨ w.heap.size ≤ k_) ∧ some k_ ≠ (.slice Ao47 y166.length co47 : Value).ownBlock ∧ k_ ≠ gb152 ∧ k_ ≠ gb153 ∧ k_ ≠ gb154 ∧ k_ ≠ gb155) (.slice A1_2 l1_2.length c1_2) l1_2) := ⟨by (with_reducible repeat (first | apply V_alloc | apply V_drewN | apply V_drew)); exact V_mono (V_far (p := ⟨gb155, 0, none⟩) (V_mono HO_154002.out (fun k_ hk => (⟨hk, hk.1.2.2.2.2⟩ : _ ∧ k_ ≠ gb155))) (fun _ hk => hk.2) (.slice Ao47 y166.length co47)) (fun _ hk => ⟨hk.1.1.1, ⟨hk.1.2, ⟨hk.1.1.2.1, ⟨hk.1.1.2.2.1, ⟨hk.1.1.2.2.2.1, hk.1.1.2.2.2.2⟩⟩⟩⟩⟩)⟩
            have n3_ : Aside0 (Kd.N k55 55 (w46.setCell ⟨gb155, 0, none⟩ (.slice Ao47 y166.length co47)) w.heap.size (fun k_ => ((P0_0_ k_ ∨ P1_1_ k_ ∨ P1_2_ k_) ∨ w.heap.size ≤ k_) ∧ k_ ≠ gb152 ∧ k_ ≠ gb153 ∧ k_ ≠ gb154 ∧ k_ ≠ gb155) (.slice Ao47 y166.length co47) y166) := ⟨by (with_reducible repeat (first | apply N_alloc | apply N_drewN | apply N_drew)); exact N_mono (N_far (p := ⟨gb155, 0, none⟩) (N_mono HO168.out (fun k_ hk => (⟨hk, hk.2.2.2.2⟩ : _ ∧ k_ ≠ gb155))) (fun _ hk => hk.2) (.slice Ao47 y166.length co47)) (fun _ hk => ⟨hk.1.1, ⟨hk.1.2.1, ⟨hk.1.2.2.1, ⟨hk.1.2.2.2.1, hk.1.2.2.2.2⟩⟩⟩⟩)⟩
            have n4_ : Aside0 ((w46.setCell ⟨gb155, 0, none⟩ (.slice Ao47 y166.length co47)).heap[gb152]? = some (.cells #[.slice A0_0 l0_0.length c0_0] 28 (0, 0))) := ⟨by (with_reducible repeat (first | refine blk_drewN ?_ _ | refine blk_drew ?_ | refine blk_alloc ?_ _)); refine blk_far ?_ NB152_155.out _; (with_reducible repeat (first | refine blk_drewN ?_ _ | refine blk_drew ?_ | refine blk_alloc ?_ _)); exact BK152.out⟩
            have n5_ : Aside0 ((w46.setCell ⟨gb155, 0, none⟩ (.slice Ao47 y166.length co47)).heap[gb153]? = some (.cells #[.string a1_0, .slice A1_1 l1_1.length c1_1, .slice A1_2 l1_2.length c1_2] 55 (0, 0))) := ⟨by (with_reducible repeat (first | refine blk_drewN ?_ _ | refine blk_drew ?_ | refine blk_alloc ?_ _)); refine blk_far ?_ NB153_155.out _; (with_reducible repeat (first | refine blk_drewN ?_ _ | refine blk_drew ?_ | refine blk_alloc ?_ _)); exact BK153.out⟩
            have n6_ : Aside0 ((w46.setCell ⟨gb155, 0, none⟩ (.slice Ao47 y166.length co47)).heap[gb154]? = some (.cells #[.slice none 0 0] 28 (0, 0))) := ⟨by (with_reducible repeat (first | refine blk_drewN ?_ _ | refine blk_drew ?_ | refine blk_alloc ?_ _)); refine blk_far ?_ NB154_155.out _; (with_reducible repeat (first | refine blk_drewN ?_ _ | refine blk_drew ?_ | refine blk_alloc ?_ _)); exact BK154.out⟩
            have n7_ : Aside0 ((w46.setCell ⟨gb155, 0, none⟩ (.slice Ao47 y166.length co47)).heap[gb155]? = some (.cells #[.slice Ao47 y166.length co47] 28 (0, 0))) := ⟨by (with_reducible repeat (first | refine blk_drewN ?_ _ | refine blk_drew ?_ | refine blk_alloc ?_ _)); refine blk_put (cs := #[u156000]) ?_ 0 _ rfl; (with_reducible repeat (first | refine blk_drewN ?_ _ | refine blk_drew ?_ | refine blk_alloc ?_ _)); exact BK155.out⟩
            have n8_ : Aside0 (Below w.heap.size w (w46.setCell ⟨gb155, 0, none⟩ (.slice Ao47 y166.length co47))) := ⟨by repeat (first | (with_reducible first | exact HB.out | apply below_alloc | apply pw_below_drewN | apply below_drew1 | refine below_set ?_ GE152.out | refine below_set ?_ GE153.out | refine below_set ?_ GE154.out | refine below_set ?_ GE155.out) | exact HB.out)⟩
            (try clear HO_153000)
            (try clear HO_154001)
            (try clear HO_154002)
            (try clear HO168)
            (try clear BK152)
            (try clear BK153)
            (try clear BK154)
            (try clear BK155)
            (try clear HB)
            generalize (w46.setCell ⟨gb155, 0, none⟩ (.slice Ao47 y166.length co47)) = w49 at n0_ n1_ n2_ n3_ n4_ n5_ n6_ n7_ n8_ ⊢
            have HO_153000 := n0_
            have HO_154001 := n1_
            have HO_154002 := n2_
            have HO168 := n3_
            have BK152 := n4_
            have BK153 := n5_
            have BK154 := n6_
            have BK155 := n7_
            have HB := n8_
            clear n0_ n1_ n2_ n3_ n4_ n5_ n6_ n7_ n8_
            have n0_ := Aside0.mk (V_drew HO_153000.out)
            have n1_ := Aside0.mk (V_drew HO_154001.out)
            have n2_ := Aside0.mk (V_drew HO_154002.out)
            have n3_ := Aside0.mk (N_drew HO168.out)
            have n4_ := Aside0.mk (blk_drew BK152.out)
            have n5_ := Aside0.mk (blk_drew BK153.out)
            have n6_ := Aside0.mk (blk_drew BK154.out)
            have n7_ := Aside0.mk (blk_drew BK155.out)
            have n8_ := Aside0.mk (below_drew1 HB.out)
            clear HO_153000
            clear HO_154001
            clear HO_154002
            clear HO168
            clear BK152
            clear BK153
            clear BK154
            clear BK155
            clear HB
            have HO_153000 := n0_
            have HO_154001 := n1_
            have HO_154002 := n2_
            have HO168 := n3_
            have BK152 := n4_
            have BK153 := n5_
            have BK154 := n6_
            have BK155 := n7_
            have HB := n8_
            clear n0_ n1_ n2_ n3_ n4_ n5_ n6_ n7_ n8_
            have p169 : 0 ≤ (x7_1 : Int) := of_decide_eq_true (by first | (with_reducible assumption) | assumption)
            have q169 : x7_1 < (l0_0.length : Int) := of_decide_eq_true (by first | (with_reducible assumption) | assumption)
            obtain ⟨ad169, A169_1, c169_1, A169_2, c169_2, e169, hx169_0, hx169_1, hx169_2, hl169_1, hi169_1, hl169_2, hi169_2⟩ := at_T55 (V_reads' HO_153000.out).2.2 x7_1 p169 q169
            cases e169
            obtain ⟨ce169, hce169, hMe169, hcc169⟩ := V_get HO_153000.out z55 x7_1 p169 (by first | exact q169 | exact of_decide_eq_true (by first | (with_reducible assumption) | assumption) | (have e_ := (V_reads' HO_153000.out).1; omega))
            obtain ⟨ua169_1, uc169_1, ua169_2, uc169_2, rfl, ul169_1, ge169_1, ul169_2, ge169_2⟩ := k55_openF hMe169
            have hv169_1 := hcc169 1 _ rfl
            rw [add_field _ _ 1 (by omega)] at hv169_1
            replace hv169_1 := Option.some.inj (hv169_1.symm.trans hx169_1)
            injection hv169_1 with hva_ hvn_ hvc_
            rw [hva_] at ge169_1
            rw [hvc_] at ul169_1
            have HL169_1 := Aside0.mk (show Kd.V (Kd.int .u8) 5 _ w.heap.size _ _ ((rd_T55 l0_0 x7_1).f1) from V_mk ul169_1 ge169_1)
            clear hva_ hvn_ hvc_ ge169_1 ul169_1
            have hv169_2 := hcc169 2 _ rfl
            rw [add_field _ _ 2 (by omega)] at hv169_2
            replace hv169_2 := Option.some.inj (hv169_2.symm.trans hx169_2)
            injection hv169_2 with hva_ hvn_ hvc_
            rw [hva_] at ge169_2
            rw [hvc_] at ul169_2
            have HL169_2 := Aside0.mk (show Kd.V (Kd.int .u8) 5 _ w.heap.size _ _ ((rd_T55 l0_0 x7_1).f2) from V_mk ul169_2 ge169_2)
            clear hva_ hvn_ hvc_ ge169_2 ul169_2
            clear hcc169 hce169
            have HR169_1 := Aside0.mk hi169_1
            have HC169_1 := Aside0.mk hl169_1
            clear hi169_1 hl169_1
            have HR169_2 := Aside0.mk hi169_2
            have HC169_2 := Aside0.mk hl169_2
            clear hi169_2 hl169_2
            replace p169 := eq_true p169
            replace q169 := eq_true q169
            refine start_ (n := 9) (S := fun w' => w'.cell? ⟨gb152, 0, none⟩ = some (.slice (some ad169) l0_0.length c0_0) ∧ w'.cell? ⟨gb153, 0, none⟩ = some (.string a1_0) ∧ w'.cell? ⟨gb153, 1, none⟩ = some (.slice A1_1 l1_1.length c1_1) ∧ w'.cell? ⟨gb153, 2, none⟩ = some (.slice A1_2 l1_2.length c1_2) ∧ w'.cell? (ad169.add ((x7_1).toNat * 3)) = some (.string ((rd_T55 l0_0 x7_1).f0)) ∧ w'.cell? ⟨(ad169.add ((x7_1).toNat * 3)).block, (ad169.add ((x7_1).toNat * 3)).off + 1, none⟩ = some (.slice A169_1 ((rd_T55 l0_0 x7_1).f1).length c169_1) ∧ w'.cell? ⟨(ad169.add ((x7_1).toNat * 3)).block, (ad169.add ((x7_1).toNat * 3)).off + 2, none⟩ = some (.slice A169_2 ((rd_T55 l0_0 x7_1).f2).length c169_2)) (ds := []) #[false, false, false, false, false, false, false, false, false] (by kernel_rfl) rfl rfl ⟨(blk_cell BK152.out 0).trans rfl, (blk_cell BK153.out 0).trans rfl, (blk_cell BK153.out 1).trans rfl, (blk_cell BK153.out 2).trans rfl, hx169_0, hx169_1, hx169_2⟩ (fun hHeld => ?_); refine with_tabW spec_l03Put.tab9 spec_l03Put.bits9 (fun HT_ HW_ => ?_)
            generalize w49.drew = w50 at HO_153000 HO_154001 HO_154002 HO168 BK152 BK153 BK154 BK155 HB HL169_1 HL169_2 HR169_1 HR169_2 hx169_0 hx169_1 hx169_2 hHeld ⊢
            refine SQ.pu 0 35 HT_ ?_
            refine SQ.pu 2 37 HT_ ?_
            refine SQ.pu 6 41 HT_ ?_
            refine SQ.tk 1 36 HT_ HW_ hHeld ?_
            refine SQ.pu 3 38 HT_ ?_
            refine SQ.pu 4 39 HT_ ?_
            refine SQ.tk 5 40 HT_ HW_ hHeld ?_
            refine SQ.tk 7 42 HT_ HW_ hHeld ?_
            refine SQ.pu 8 43 HT_ ?_
            refine done_ (done_of HT_.out (by kernel_rfl)) ?_
            try go_wp2
            have n0_ := Aside0.mk (V_drew HO_153000.out)
            have n1_ := Aside0.mk (V_drew HO_154001.out)
            have n2_ := Aside0.mk (V_drew HO_154002.out)
            have n3_ := Aside0.mk (N_drew HO168.out)
            have n4_ := Aside0.mk (V_drew HL169_1.out)
            have n5_ := Aside0.mk (V_drew HL169_2.out)
            have n6_ := Aside0.mk (blk_drew BK152.out)
            have n7_ := Aside0.mk (blk_drew BK153.out)
            have n8_ := Aside0.mk (blk_drew BK154.out)
            have n9_ := Aside0.mk (blk_drew BK155.out)
            have n10_ := Aside0.mk (C_drew HR169_1.out)
            have n11_ := Aside0.mk (C_drew HR169_2.out)
            have n12_ := Aside0.mk (below_drew1 HB.out)
            clear HO_153000
            clear HO_154001
            clear HO_154002
            clear HO168
            clear HL169_1
            clear HL169_2
            clear BK152
            clear BK153
            clear BK154
            clear BK155
            clear HR169_1
            clear HR169_2
            clear HB
            have HO_153000 := n0_
            have HO_154001 := n1_
            have HO_154002 := n2_
            have HO168 := n3_
            have HL169_1 := n4_
            have HL169_2 := n5_
            have BK152 := n6_
            have BK153 := n7_
            have BK154 := n8_
            have BK155 := n9_
            have HR169_1 := n10_
            have HR169_2 := n11_
            have HB := n12_
            clear n0_ n1_ n2_ n3_ n4_ n5_ n6_ n7_ n8_ n9_ n10_ n11_ n12_
            have p170 : 0 ≤ (x7_1 : Int) := of_decide_eq_true (by first | (with_reducible assumption) | assumption)
            have q170 : x7_1 < (l0_0.length : Int) := of_decide_eq_true (by first | (with_reducible assumption) | assumption)
            obtain ⟨ad170, A170_1, c170_1, A170_2, c170_2, e170, hx170_0, hx170_1, hx170_2, hl170_1, hi170_1, hl170_2, hi170_2⟩ := at_T55 (V_reads' HO_153000.out).2.2 x7_1 p170 q170
            obtain rfl : ad169 = ad170 := (by injection e170)
            obtain ⟨ce170, hce170, hMe170, hcc170⟩ := V_get HO_153000.out z55 x7_1 p170 (by first | exact q170 | exact of_decide_eq_true (by first | (with_reducible assumption) | assumption) | (have e_ := (V_reads' HO_153000.out).1; omega))
            obtain ⟨ua170_1, uc170_1, ua170_2, uc170_2, rfl, ul170_1, ge170_1, ul170_2, ge170_2⟩ := k55_openF hMe170
            have hv170_1 := hcc170 1 _ rfl
            rw [add_field _ _ 1 (by omega)] at hv170_1
            replace hv170_1 := Option.some.inj (hv170_1.symm.trans hx170_1)
            injection hv170_1 with hva_ hvn_ hvc_
            rw [hva_] at ge170_1
            rw [hvc_] at ul170_1
            have HL170_1 := Aside0.mk (show Kd.V (Kd.int .u8) 5 _ w.heap.size _ _ ((rd_T55 l0_0 x7_1).f1) from V_mk ul170_1 ge170_1)
            clear hva_ hvn_ hvc_ ge170_1 ul170_1
            have hv170_2 := hcc170 2 _ rfl
            rw [add_field _ _ 2 (by omega)] at hv170_2
            replace hv170_2 := Option.some.inj (hv170_2.symm.trans hx170_2)
            injection hv170_2 with hva_ hvn_ hvc_
            rw [hva_] at ge170_2
            rw [hvc_] at ul170_2
            have HL170_2 := Aside0.mk (show Kd.V (Kd.int .u8) 5 _ w.heap.size _ _ ((rd_T55 l0_0 x7_1).f2) from V_mk ul170_2 ge170_2)
            clear hva_ hvn_ hvc_ ge170_2 ul170_2
            clear hcc170 hce170
            have HR170_1 := Aside0.mk hi170_1
            have HC170_1 := Aside0.mk hl170_1
            clear hi170_1 hl170_1
            have HR170_2 := Aside0.mk hi170_2
            have HC170_2 := Aside0.mk hl170_2
            clear hi170_2 hl170_2
            replace p170 := eq_true p170
            replace q170 := eq_true q170
            refine start_ (n := 11) (S := fun w' => w'.cell? ⟨gb155, 0, none⟩ = some (.slice Ao47 y166.length co47) ∧ w'.cell? ⟨gb152, 0, none⟩ = some (.slice (some ad169) l0_0.length c0_0) ∧ w'.cell? (ad169.add ((x7_1).toNat * 3)) = some (.string ((rd_T55 l0_0 x7_1).f0)) ∧ w'.cell? ⟨(ad169.add ((x7_1).toNat * 3)).block, (ad169.add ((x7_1).toNat * 3)).off + 1, none⟩ = some (.slice A170_1 ((rd_T55 l0_0 x7_1).f1).length c170_1) ∧ w'.cell? ⟨(ad169.add ((x7_1).toNat * 3)).block, (ad169.add ((x7_1).toNat * 3)).off + 2, none⟩ = some (.slice A170_2 ((rd_T55 l0_0 x7_1).f2).length c170_2)) (ds := [8, 10]) #[false, false, false, false, false, false, false, false, false, false, false] (by kernel_rfl) rfl rfl ⟨(blk_cell BK155.out 0).trans rfl, (blk_cell BK152.out 0).trans rfl, hx170_0, hx170_1, hx170_2⟩ (fun hHeld => ?_); refine with_tabW spec_l03Put.tab10 spec_l03Put.bits10 (fun HT_ HW_ => ?_)
            generalize w50.drew = w51 at HO_153000 HO_154001 HO_154002 HO168 HL169_1 HL169_2 BK152 BK153 BK154 BK155 HR169_1 HR169_2 HB HL170_1 HL170_2 HR170_1 HR170_2 hx170_0 hx170_1 hx170_2 hHeld ⊢
            refine SQ.pu 0 44 HT_ ?_
            refine SQ.pu 2 46 HT_ ?_
            refine SQ.pu 4 48 HT_ ?_
            refine SQ.tk 1 45 HT_ HW_ hHeld ?_
            refine SQ.tk 3 47 HT_ HW_ hHeld ?_
            refine SQ.pu 5 49 HT_ ?_
            refine SQ.tk 6 50 HT_ HW_ hHeld ?_
            refine one_ (i := 7) (N := some 51) #[true, true, true, true, true, true, true, true, false, false, false] rfl rfl (one_of HT_.out (by kernel_rfl)) (by decide) (fun K hK => ?_)
            refine value_ (w1 := ?_) (v := ?_) (by rfl) rfl ?_ ?_
            rotate_left 2
            ·
             go_simp
             constructor
             ·
              rfl
             ·
              rfl
            refine hK.out _ _ ⟨(blk_cell (blk_alloc BK155.out _) 0).trans rfl, (blk_cell (blk_alloc BK152.out _) 0).trans rfl, (World.cell?_alloc_lt _ _ _ (World.block_lt_of_cell? _ _ (hHeld.2.2.1))).trans (hHeld.2.2.1), (World.cell?_alloc_lt _ _ _ (World.block_lt_of_cell? _ _ (hHeld.2.2.2.1))).trans (hHeld.2.2.2.1), (World.cell?_alloc_lt _ _ _ (World.block_lt_of_cell? _ _ (hHeld.2.2.2.2))).trans (hHeld.2.2.2.2)⟩ (fun hHeld => ?_)
            clear hK K
            refine norm_ (a' := ?_) ?_ ?_
            rotate_left
            ·
             show Act.put _ (some 51) _ = _
             simp only [Act.put, List.setIfInBounds_toArray, List.set_cons_zero, List.set_cons_succ, i64_w, i32_w]
             rfl
            refine last_ (i := 8) (N := some 52) #[true, true, true, true, true, true, true, true, true, false, false] rfl rfl (one_of HT_.out (by kernel_rfl)) (by decide) (fun K hK => ?_)
            refine N_append_step k55 (w0 := w) w.heap.size (by rfl) (.tmp 45) (.tmp 51) 26 55 (.agg #[(.string ⟨#[]⟩), (.slice none 0 0), (.slice none 0 0)]) 64 rfl Tryd.underlying26 info55 rfl (by decide) (by omega) (.slice Ao47 y166.length co47) y166 (⟨(rd_T55 l0_0 x7_1).f0, (rd_T55 l0_0 x7_1).f1, (rd_T55 l0_0 x7_1).f2⟩ : S55) [.string ((rd_T55 l0_0 x7_1).f0), .slice A170_1 ((rd_T55 l0_0 x7_1).f1).length c170_1, .slice A170_2 ((rd_T55 l0_0 x7_1).f2).length c170_2] (fun k_ => ((P0_0_ k_ ∨ P1_1_ k_ ∨ P1_2_ k_) ∨ w.heap.size ≤ k_) ∧ k_ ≠ gb152 ∧ k_ ≠ gb153 ∧ k_ ≠ gb154 ∧ k_ ≠ gb155) (fun k_ => ((fun k_ => ((P0_0_ k_ ∨ P1_1_ k_ ∨ P1_2_ k_) ∨ w.heap.size ≤ k_) ∧ k_ ≠ gb152 ∧ k_ ≠ gb153 ∧ k_ ≠ gb154 ∧ k_ ≠ gb155)) k_ ∧ some k_ ≠ (.slice Ao47 y166.length co47 : Value).ownBlock) rfl rfl ?aP (fun _ hk => hk) ?aF ?aO ?aB ?aS ?aL ?_
            (case aP => exact (k55_mkF _ _ (⟨(rd_T55 l0_0 x7_1).f0, (rd_T55 l0_0 x7_1).f1, (rd_T55 l0_0 x7_1).f2⟩ : S55) (V_reads' (V_mono (ok' := (fun k_ => ((fun k_ => ((P0_0_ k_ ∨ P1_1_ k_ ∨ P1_2_ k_) ∨ w.heap.size ≤ k_) ∧ k_ ≠ gb152 ∧ k_ ≠ gb153 ∧ k_ ≠ gb154 ∧ k_ ≠ gb155)) k_ ∧ some k_ ≠ (.slice Ao47 y166.length co47 : Value).ownBlock)) (HL170_1.out) (fun k_ hk => ⟨⟨hk.1, ⟨hk.2.2.1, ⟨hk.2.2.2.1, ⟨hk.2.2.2.2.1, hk.2.2.2.2.2⟩⟩⟩⟩, hk.2.1⟩))).2.1 (V_F (V_mono (ok' := (fun k_ => ((fun k_ => ((P0_0_ k_ ∨ P1_1_ k_ ∨ P1_2_ k_) ∨ w.heap.size ≤ k_) ∧ k_ ≠ gb152 ∧ k_ ≠ gb153 ∧ k_ ≠ gb154 ∧ k_ ≠ gb155)) k_ ∧ some k_ ≠ (.slice Ao47 y166.length co47 : Value).ownBlock)) (HL170_1.out) (fun k_ hk => ⟨⟨hk.1, ⟨hk.2.2.1, ⟨hk.2.2.2.1, ⟨hk.2.2.2.2.1, hk.2.2.2.2.2⟩⟩⟩⟩, hk.2.1⟩))) (V_reads' (V_mono (ok' := (fun k_ => ((fun k_ => ((P0_0_ k_ ∨ P1_1_ k_ ∨ P1_2_ k_) ∨ w.heap.size ≤ k_) ∧ k_ ≠ gb152 ∧ k_ ≠ gb153 ∧ k_ ≠ gb154 ∧ k_ ≠ gb155)) k_ ∧ some k_ ≠ (.slice Ao47 y166.length co47 : Value).ownBlock)) (HL170_2.out) (fun k_ hk => ⟨⟨hk.1, ⟨hk.2.2.1, ⟨hk.2.2.2.1, ⟨hk.2.2.2.2.1, hk.2.2.2.2.2⟩⟩⟩⟩, hk.2.1⟩))).2.1 (V_F (V_mono (ok' := (fun k_ => ((fun k_ => ((P0_0_ k_ ∨ P1_1_ k_ ∨ P1_2_ k_) ∨ w.heap.size ≤ k_) ∧ k_ ≠ gb152 ∧ k_ ≠ gb153 ∧ k_ ≠ gb154 ∧ k_ ≠ gb155)) k_ ∧ some k_ ≠ (.slice Ao47 y166.length co47 : Value).ownBlock)) (HL170_2.out) (fun k_ hk => ⟨⟨hk.1, ⟨hk.2.2.1, ⟨hk.2.2.2.1, ⟨hk.2.2.2.2.1, hk.2.2.2.2.2⟩⟩⟩⟩, hk.2.1⟩)))))
            (case aB => exact (by repeat (first | (with_reducible first | exact HB.out | apply below_alloc | apply pw_below_drewN | apply below_drew1 | refine below_set ?_ GE152.out | refine below_set ?_ GE153.out | refine below_set ?_ GE154.out | refine below_set ?_ GE155.out) | exact HB.out)))
            (case aF => exact (fun k_ hk => ⟨(.inr (Nat.le_trans (below_size (by repeat (first | (with_reducible first | exact HB.out | apply below_alloc | apply pw_below_drewN | apply below_drew1 | refine below_set ?_ GE152.out | refine below_set ?_ GE153.out | refine below_set ?_ GE154.out | refine below_set ?_ GE155.out) | exact HB.out))) hk)), Kd.freshB (g := gb152) (o := .cells #[.slice (some ad169) l0_0.length c0_0] 28 (0, 0)) (by (with_reducible repeat (first | refine blk_drewN ?_ _ | refine blk_drew ?_ | refine blk_alloc ?_ _)); exact BK152.out) k_ hk, Kd.freshB (g := gb153) (o := .cells #[.string a1_0, .slice A1_1 l1_1.length c1_1, .slice A1_2 l1_2.length c1_2] 55 (0, 0)) (by (with_reducible repeat (first | refine blk_drewN ?_ _ | refine blk_drew ?_ | refine blk_alloc ?_ _)); exact BK153.out) k_ hk, Kd.freshB (g := gb154) (o := .cells #[.slice none 0 0] 28 (0, 0)) (by (with_reducible repeat (first | refine blk_drewN ?_ _ | refine blk_drew ?_ | refine blk_alloc ?_ _)); exact BK154.out) k_ hk, Kd.freshB (g := gb155) (o := .cells #[.slice Ao47 y166.length co47] 28 (0, 0)) (by (with_reducible repeat (first | refine blk_drewN ?_ _ | refine blk_drew ?_ | refine blk_alloc ?_ _)); exact BK155.out) k_ hk⟩))
            (case aO => exact (by (with_reducible repeat (first | apply N_alloc | apply N_drewN | apply N_drew)); exact HO168.out))
            (case aS => exact (below_size (by repeat (first | (with_reducible first | exact HB.out | apply below_alloc | apply pw_below_drewN | apply below_drew1 | refine below_set ?_ GE152.out | refine below_set ?_ GE153.out | refine below_set ?_ GE154.out | refine below_set ?_ GE155.out) | exact HB.out))))
            (case aL => have := LMc38.out; omega)
            intro v172 w52 ho hb hg hat
            rw [← Ny171.out] at ho
            have n0_ := Aside0.mk (V_afterv (ok := (fun k_ => ((P0_0_ k_ ∨ P1_1_ k_ ∨ P1_2_ k_) ∨ w.heap.size ≤ k_) ∧ k_ ≠ gb152 ∧ k_ ≠ gb153 ∧ k_ ≠ gb154 ∧ k_ ≠ gb155)) (by (with_reducible repeat (first | apply V_alloc | apply V_drewN | apply V_drew)); exact V_mono HO_153000.out (fun _ hk => ⟨⟨hk.1, ⟨hk.2.2.1, ⟨hk.2.2.2.1, ⟨hk.2.2.2.2.1, hk.2.2.2.2.2⟩⟩⟩⟩, hk.2.1⟩)) hg hat)
            have n1_ := Aside0.mk (V_afterv (ok := (fun k_ => ((P0_0_ k_ ∨ P1_1_ k_ ∨ P1_2_ k_) ∨ w.heap.size ≤ k_) ∧ k_ ≠ gb152 ∧ k_ ≠ gb153 ∧ k_ ≠ gb154 ∧ k_ ≠ gb155)) (by (with_reducible repeat (first | apply V_alloc | apply V_drewN | apply V_drew)); exact V_mono HO_154001.out (fun _ hk => ⟨⟨hk.1, ⟨hk.2.2.1, ⟨hk.2.2.2.1, ⟨hk.2.2.2.2.1, hk.2.2.2.2.2⟩⟩⟩⟩, hk.2.1⟩)) hg hat)
            have n2_ := Aside0.mk (V_afterv (ok := (fun k_ => ((P0_0_ k_ ∨ P1_1_ k_ ∨ P1_2_ k_) ∨ w.heap.size ≤ k_) ∧ k_ ≠ gb152 ∧ k_ ≠ gb153 ∧ k_ ≠ gb154 ∧ k_ ≠ gb155)) (by (with_reducible repeat (first | apply V_alloc | apply V_drewN | apply V_drew)); exact V_mono HO_154002.out (fun _ hk => ⟨⟨hk.1, ⟨hk.2.2.1, ⟨hk.2.2.2.1, ⟨hk.2.2.2.2.1, hk.2.2.2.2.2⟩⟩⟩⟩, hk.2.1⟩)) hg hat)
            have n3_ := Aside0.mk (blk_grown (g := gb152) (o := .cells #[.slice (some ad169) l0_0.length c0_0] 28 (0, 0)) (by (with_reducible repeat (first | refine blk_drewN ?_ _ | refine blk_drew ?_ | refine blk_alloc ?_ _)); exact BK152.out) hg (N_ne HO168.out BK152.out (by decide)))
            have n4_ := Aside0.mk (blk_grown (g := gb153) (o := .cells #[.string a1_0, .slice A1_1 l1_1.length c1_1, .slice A1_2 l1_2.length c1_2] 55 (0, 0)) (by (with_reducible repeat (first | refine blk_drewN ?_ _ | refine blk_drew ?_ | refine blk_alloc ?_ _)); exact BK153.out) hg (N_away HO168.out (fun _ hk => hk.2.2.1)))
            have n5_ := Aside0.mk (blk_grown (g := gb154) (o := .cells #[.slice none 0 0] 28 (0, 0)) (by (with_reducible repeat (first | refine blk_drewN ?_ _ | refine blk_drew ?_ | refine blk_alloc ?_ _)); exact BK154.out) hg (N_ne HO168.out BK154.out (by decide)))
            have n6_ := Aside0.mk (blk_grown (g := gb155) (o := .cells #[.slice Ao47 y166.length co47] 28 (0, 0)) (by (with_reducible repeat (first | refine blk_drewN ?_ _ | refine blk_drew ?_ | refine blk_alloc ?_ _)); exact BK155.out) hg (N_ne HO168.out BK155.out (by decide)))
            have n7_ := Aside0.mk (V_afterv (ok := (fun k_ => ((P0_0_ k_ ∨ P1_1_ k_ ∨ P1_2_ k_) ∨ w.heap.size ≤ k_) ∧ k_ ≠ gb152 ∧ k_ ≠ gb153 ∧ k_ ≠ gb154 ∧ k_ ≠ gb155)) (by (with_reducible repeat (first | apply V_alloc | apply V_drewN | apply V_drew)); exact V_mono HL169_1.out (fun _ hk => ⟨⟨hk.1, ⟨hk.2.2.1, ⟨hk.2.2.2.1, ⟨hk.2.2.2.2.1, hk.2.2.2.2.2⟩⟩⟩⟩, hk.2.1⟩)) hg hat)
            have n8_ := Aside0.mk (V_afterv (ok := (fun k_ => ((P0_0_ k_ ∨ P1_1_ k_ ∨ P1_2_ k_) ∨ w.heap.size ≤ k_) ∧ k_ ≠ gb152 ∧ k_ ≠ gb153 ∧ k_ ≠ gb154 ∧ k_ ≠ gb155)) (by (with_reducible repeat (first | apply V_alloc | apply V_drewN | apply V_drew)); exact V_mono HL169_2.out (fun _ hk => ⟨⟨hk.1, ⟨hk.2.2.1, ⟨hk.2.2.2.1, ⟨hk.2.2.2.2.1, hk.2.2.2.2.2⟩⟩⟩⟩, hk.2.1⟩)) hg hat)
            have n9_ := Aside0.mk (V_afterv (ok := (fun k_ => ((P0_0_ k_ ∨ P1_1_ k_ ∨ P1_2_ k_) ∨ w.heap.size ≤ k_) ∧ k_ ≠ gb152 ∧ k_ ≠ gb153 ∧ k_ ≠ gb154 ∧ k_ ≠ gb155)) (by (with_reducible repeat (first | apply V_alloc | apply V_drewN | apply V_drew)); exact V_mono HL170_1.out (fun _ hk => ⟨⟨hk.1, ⟨hk.2.2.1, ⟨hk.2.2.2.1, ⟨hk.2.2.2.2.1, hk.2.2.2.2.2⟩⟩⟩⟩, hk.2.1⟩)) hg hat)
            have n10_ := Aside0.mk (V_afterv (ok := (fun k_ => ((P0_0_ k_ ∨ P1_1_ k_ ∨ P1_2_ k_) ∨ w.heap.size ≤ k_) ∧ k_ ≠ gb152 ∧ k_ ≠ gb153 ∧ k_ ≠ gb154 ∧ k_ ≠ gb155)) (by (with_reducible repeat (first | apply V_alloc | apply V_drewN | apply V_drew)); exact V_mono HL170_2.out (fun _ hk => ⟨⟨hk.1, ⟨hk.2.2.1, ⟨hk.2.2.2.1, ⟨hk.2.2.2.2.1, hk.2.2.2.2.2⟩⟩⟩⟩, hk.2.1⟩)) hg hat)
            have n11_ := Aside0.mk (hb)
            have n12_ := Aside0.mk (ho)
            clear HO_153000
            clear HO_154001
            clear HO_154002
            clear BK152
            clear BK153
            clear BK154
            clear BK155
            clear HL169_1
            clear HL169_2
            clear HL170_1
            clear HL170_2
            clear HB
            clear HO168
            have HO_153000 := n0_
            have HO_154001 := n1_
            have HO_154002 := n2_
            have BK152 := n3_
            have BK153 := n4_
            have BK154 := n5_
            have BK155 := n6_
            have HL169_1 := n7_
            have HL169_2 := n8_
            have HL170_1 := n9_
            have HL170_2 := n10_
            have HB := n11_
            have HO173 := n12_
            clear n0_ n1_ n2_ n3_ n4_ n5_ n6_ n7_ n8_ n9_ n10_ n11_ n12_
            clear ho hb hg hat
            obtain ⟨Ao53, co53, eo53⟩ := N_slice HO173.out
            (first | subst eo53 | (injection eo53 with f1_ f2_ f3_; have f4_ := f1_.symm; have f5_ := f3_.symm; clear f1_ f2_ f3_; subst f4_; subst f5_))
            refine hK.out _ _ ?_
            clear hK K
            refine norm_ (a' := ?_) ?_ ?_
            rotate_left
            ·
             show Act.put _ (some 52) _ = _
             simp only [Act.put, List.setIfInBounds_toArray, List.set_cons_zero, List.set_cons_succ, i64_w, i32_w]
             rfl
            refine SQ.pu 9 53 HT_ ?_
            refine last_ (i := 10) (N := none) #[true, true, true, true, true, true, true, true, true, true, true] rfl rfl (one_of HT_.out (by kernel_rfl)) (by decide) (fun K hK => ?_)
            have hs54 : w52.cell? ⟨gb155, 0, none⟩ = some (.slice Ao47 y166.length co47) := (blk_cell BK155.out 0).trans rfl
            have hfs54 := blk_frozen BK155.out 0
            have hns54_0 := NB152_155.out
            have hns54_1 := NB153_155.out
            have hns54_2 := NB154_155.out
            have hms54_0 := NB155_152.out
            have hms54_1 := NB155_153.out
            have hms54_2 := NB155_154.out
            refine skip_ (w1 := ?_) (by rfl) rfl ?_ ?_
            rotate_left
            ·
             go_simp
             rfl
            refine hK.out _ _ ?_
            clear hK K
            refine done_ (done_of HT_.out (by kernel_rfl)) ?_
            try go_wp2
            go_roundg kj11
            case measure => have := HK1.out; have := HJ11.out; omega
            case rel => exact ⟨(true), (wrap64 (x7_1 + 1)), (y171), (.slice Ao53 y171.length co53), (by first | rfl | (simp; done) | (simp [*]; done)), (by first | rfl | (simp; done) | (simp [*]; done)), H', ⟨by have := HK1.out; have := HJ11.out; omega⟩, ⟨by (with_reducible repeat (first | apply V_alloc | apply V_drewN | apply V_drew)); exact V_mono (V_far (p := ⟨gb155, 0, none⟩) (V_mono HO_153000.out (fun k_ hk => (⟨hk, hk.1.2.2.2.2⟩ : _ ∧ k_ ≠ gb155))) (fun _ hk => hk.2) (.slice Ao53 y171.length co53)) (fun _ hk => ⟨hk.1.1.1, ⟨hk.1.2, ⟨hk.1.1.2.1, ⟨hk.1.1.2.2.1, ⟨hk.1.1.2.2.2.1, hk.1.1.2.2.2.2⟩⟩⟩⟩⟩)⟩, ⟨by (with_reducible repeat (first | apply V_alloc | apply V_drewN | apply V_drew)); exact V_mono (V_far (p := ⟨gb155, 0, none⟩) (V_mono HO_154001.out (fun k_ hk => (⟨hk, hk.1.2.2.2.2⟩ : _ ∧ k_ ≠ gb155))) (fun _ hk => hk.2) (.slice Ao53 y171.length co53)) (fun _ hk => ⟨hk.1.1.1, ⟨hk.1.2, ⟨hk.1.1.2.1, ⟨hk.1.1.2.2.1, ⟨hk.1.1.2.2.2.1, hk.1.1.2.2.2.2⟩⟩⟩⟩⟩)⟩, ⟨by (with_reducible repeat (first | apply V_alloc | apply V_drewN | apply V_drew)); exact V_mono (V_far (p := ⟨gb155, 0, none⟩) (V_mono HO_154002.out (fun k_ hk => (⟨hk, hk.1.2.2.2.2⟩ : _ ∧ k_ ≠ gb155))) (fun _ hk => hk.2) (.slice Ao53 y171.length co53)) (fun _ hk => ⟨hk.1.1.1, ⟨hk.1.2, ⟨hk.1.1.2.1, ⟨hk.1.1.2.2.1, ⟨hk.1.1.2.2.2.1, hk.1.1.2.2.2.2⟩⟩⟩⟩⟩)⟩, ⟨by (with_reducible repeat (first | apply N_alloc | apply N_drewN | apply N_drew)); exact N_mono (N_far (p := ⟨gb155, 0, none⟩) (N_mono HO173.out (fun k_ hk => (⟨hk, hk.2.2.2.2⟩ : _ ∧ k_ ≠ gb155))) (fun _ hk => hk.2) (.slice Ao53 y171.length co53)) (fun _ hk => ⟨hk.1.1, ⟨hk.1.2.1, ⟨hk.1.2.2.1, ⟨hk.1.2.2.2.1, hk.1.2.2.2.2⟩⟩⟩⟩)⟩, ⟨by (with_reducible repeat (first | refine blk_drewN ?_ _ | refine blk_drew ?_ | refine blk_alloc ?_ _)); refine blk_far ?_ NB152_155.out _; (with_reducible repeat (first | refine blk_drewN ?_ _ | refine blk_drew ?_ | refine blk_alloc ?_ _)); exact BK152.out⟩, ⟨by (with_reducible repeat (first | refine blk_drewN ?_ _ | refine blk_drew ?_ | refine blk_alloc ?_ _)); refine blk_far ?_ NB153_155.out _; (with_reducible repeat (first | refine blk_drewN ?_ _ | refine blk_drew ?_ | refine blk_alloc ?_ _)); exact BK153.out⟩, ⟨by (with_reducible repeat (first | refine blk_drewN ?_ _ | refine blk_drew ?_ | refine blk_alloc ?_ _)); refine blk_far ?_ NB154_155.out _; (with_reducible repeat (first | refine blk_drewN ?_ _ | refine blk_drew ?_ | refine blk_alloc ?_ _)); exact BK154.out⟩, ⟨by (with_reducible repeat (first | refine blk_drewN ?_ _ | refine blk_drew ?_ | refine blk_alloc ?_ _)); refine blk_put (cs := #[.slice Ao47 y166.length co47]) ?_ 0 _ rfl; (with_reducible repeat (first | refine blk_drewN ?_ _ | refine blk_drew ?_ | refine blk_alloc ?_ _)); exact BK155.out⟩, ⟨by repeat (first | (with_reducible first | exact HB.out | apply below_alloc | apply pw_below_drewN | apply below_drew1 | refine below_set ?_ GE152.out | refine below_set ?_ GE153.out | refine below_set ?_ GE154.out | refine below_set ?_ GE155.out) | exact HB.out)⟩⟩
           ·
            rw [if_neg c38] at H
            exact absurd H (by simp)
         ·
          rw [if_neg c24] at H
          exact absurd H (by simp)
        ·
         rw [if_neg c23] at H
         exact absurd H (by simp)
       ·
        rw [if_neg c22] at H
        exact absurd H (by simp)
      ·
       replace c21 := Bool.eq_false_iff.mpr c21
       subst c21
       have H1 : (if 0 ≤ x7_1 then (if x7_1 < (l0_0.length : Int) then (if ((rd_T55 l0_0 x7_1).f0).toList = a1_0.toList then (spec_l03Put.l0 kj11 x6_1 (wrap64 (x7_1 + 1)) l0_0 a1_0 l1_1 l1_2 x156000_1) else (if x156000_1.length < 2199023255552 then (spec_l03Put.l0 kj11 x6_1 (wrap64 (x7_1 + 1)) l0_0 a1_0 l1_1 l1_2 (x156000_1 ++ [(⟨(rd_T55 l0_0 x7_1).f0, (rd_T55 l0_0 x7_1).f1, (rd_T55 l0_0 x7_1).f2⟩ : S55)])) else (none))) else (none)) else (none)) = some r := by rw [if_neg (show ¬ (false = true) by decide)] at H; exact H
       clear H
       have H := H1
       clear H1
       by_cases c55 : 0 ≤ x7_1
       ·
        rw [if_pos c55] at H
        have c55b0 : decide (0 ≤ x7_1) = true := decide_eq_true c55
        clear c55
        by_cases c56 : x7_1 < (l0_0.length : Int)
        ·
         rw [if_pos c56] at H
         have c56b0 : decide (x7_1 < (l0_0.length : Int)) = true := decide_eq_true c56
         clear c56
         by_cases c57 : ((rd_T55 l0_0 x7_1).f0).toList = a1_0.toList
         ·
          rw [if_pos c57] at H
          have c57b0 : (((rd_T55 l0_0 x7_1).f0).toList == a1_0.toList) = true := beq_iff_eq.mpr c57
          have c57b1 : (((rd_T55 l0_0 x7_1).f0).toList != a1_0.toList) = false := bne_eq_false_iff_eq.mpr c57
          clear c57
          have H' := Aside0.mk H
          clear H
          try go_wp2
          have n0_ := Aside0.mk (V_drew HO_153000.out)
          have n1_ := Aside0.mk (V_drew HO_154001.out)
          have n2_ := Aside0.mk (V_drew HO_154002.out)
          have n3_ := Aside0.mk (N_drew HO_156000.out)
          have n4_ := Aside0.mk (blk_drew BK152.out)
          have n5_ := Aside0.mk (blk_drew BK153.out)
          have n6_ := Aside0.mk (blk_drew BK154.out)
          have n7_ := Aside0.mk (blk_drew BK155.out)
          have n8_ := Aside0.mk (below_drew1 HB.out)
          clear HO_153000
          clear HO_154001
          clear HO_154002
          clear HO_156000
          clear BK152
          clear BK153
          clear BK154
          clear BK155
          clear HB
          have HO_153000 := n0_
          have HO_154001 := n1_
          have HO_154002 := n2_
          have HO_156000 := n3_
          have BK152 := n4_
          have BK153 := n5_
          have BK154 := n6_
          have BK155 := n7_
          have HB := n8_
          clear n0_ n1_ n2_ n3_ n4_ n5_ n6_ n7_ n8_
          have p174 : 0 ≤ (x7_1 : Int) := of_decide_eq_true (by first | (with_reducible assumption) | assumption)
          have q174 : x7_1 < (l0_0.length : Int) := of_decide_eq_true (by first | (with_reducible assumption) | assumption)
          obtain ⟨ad174, A174_1, c174_1, A174_2, c174_2, e174, hx174_0, hx174_1, hx174_2, hl174_1, hi174_1, hl174_2, hi174_2⟩ := at_T55 (V_reads' HO_153000.out).2.2 x7_1 p174 q174
          cases e174
          obtain ⟨ce174, hce174, hMe174, hcc174⟩ := V_get HO_153000.out z55 x7_1 p174 (by first | exact q174 | exact of_decide_eq_true (by first | (with_reducible assumption) | assumption) | (have e_ := (V_reads' HO_153000.out).1; omega))
          obtain ⟨ua174_1, uc174_1, ua174_2, uc174_2, rfl, ul174_1, ge174_1, ul174_2, ge174_2⟩ := k55_openF hMe174
          have hv174_1 := hcc174 1 _ rfl
          rw [add_field _ _ 1 (by omega)] at hv174_1
          replace hv174_1 := Option.some.inj (hv174_1.symm.trans hx174_1)
          injection hv174_1 with hva_ hvn_ hvc_
          rw [hva_] at ge174_1
          rw [hvc_] at ul174_1
          have HL174_1 := Aside0.mk (show Kd.V (Kd.int .u8) 5 _ w.heap.size _ _ ((rd_T55 l0_0 x7_1).f1) from V_mk ul174_1 ge174_1)
          clear hva_ hvn_ hvc_ ge174_1 ul174_1
          have hv174_2 := hcc174 2 _ rfl
          rw [add_field _ _ 2 (by omega)] at hv174_2
          replace hv174_2 := Option.some.inj (hv174_2.symm.trans hx174_2)
          injection hv174_2 with hva_ hvn_ hvc_
          rw [hva_] at ge174_2
          rw [hvc_] at ul174_2
          have HL174_2 := Aside0.mk (show Kd.V (Kd.int .u8) 5 _ w.heap.size _ _ ((rd_T55 l0_0 x7_1).f2) from V_mk ul174_2 ge174_2)
          clear hva_ hvn_ hvc_ ge174_2 ul174_2
          clear hcc174 hce174
          have HR174_1 := Aside0.mk hi174_1
          have HC174_1 := Aside0.mk hl174_1
          clear hi174_1 hl174_1
          have HR174_2 := Aside0.mk hi174_2
          have HC174_2 := Aside0.mk hl174_2
          clear hi174_2 hl174_2
          replace p174 := eq_true p174
          replace q174 := eq_true q174
          refine start_ (n := 9) (S := fun w' => w'.cell? ⟨gb152, 0, none⟩ = some (.slice (some ad174) l0_0.length c0_0) ∧ w'.cell? ⟨gb153, 0, none⟩ = some (.string a1_0) ∧ w'.cell? ⟨gb153, 1, none⟩ = some (.slice A1_1 l1_1.length c1_1) ∧ w'.cell? ⟨gb153, 2, none⟩ = some (.slice A1_2 l1_2.length c1_2) ∧ w'.cell? (ad174.add ((x7_1).toNat * 3)) = some (.string ((rd_T55 l0_0 x7_1).f0)) ∧ w'.cell? ⟨(ad174.add ((x7_1).toNat * 3)).block, (ad174.add ((x7_1).toNat * 3)).off + 1, none⟩ = some (.slice A174_1 ((rd_T55 l0_0 x7_1).f1).length c174_1) ∧ w'.cell? ⟨(ad174.add ((x7_1).toNat * 3)).block, (ad174.add ((x7_1).toNat * 3)).off + 2, none⟩ = some (.slice A174_2 ((rd_T55 l0_0 x7_1).f2).length c174_2)) (ds := []) #[false, false, false, false, false, false, false, false, false] (by kernel_rfl) rfl rfl ⟨(blk_cell BK152.out 0).trans rfl, (blk_cell BK153.out 0).trans rfl, (blk_cell BK153.out 1).trans rfl, (blk_cell BK153.out 2).trans rfl, hx174_0, hx174_1, hx174_2⟩ (fun hHeld => ?_); refine with_tabW spec_l03Put.tab9 spec_l03Put.bits9 (fun HT_ HW_ => ?_)
          generalize wc.drew = w58 at HO_153000 HO_154001 HO_154002 HO_156000 BK152 BK153 BK154 BK155 HB HL174_1 HL174_2 HR174_1 HR174_2 hx174_0 hx174_1 hx174_2 hHeld ⊢
          refine SQ.pu 0 35 HT_ ?_
          refine SQ.pu 2 37 HT_ ?_
          refine SQ.pu 6 41 HT_ ?_
          refine SQ.tk 1 36 HT_ HW_ hHeld ?_
          refine SQ.pu 3 38 HT_ ?_
          refine SQ.pu 4 39 HT_ ?_
          refine SQ.tk 5 40 HT_ HW_ hHeld ?_
          refine SQ.tk 7 42 HT_ HW_ hHeld ?_
          refine SQ.pu 8 43 HT_ ?_
          refine done_ (done_of HT_.out (by kernel_rfl)) ?_
          try go_wp2
          go_roundg kj11
          case measure => have := HK1.out; have := HJ11.out; omega
          case rel => exact ⟨(x6_1), (wrap64 (x7_1 + 1)), (x156000_1), (u156000), (by first | rfl | (simp; done) | (simp [*]; done)), (by first | rfl | (simp; done) | (simp [*]; done)), H', ⟨by have := HK1.out; have := HJ11.out; omega⟩, ⟨by (with_reducible repeat (first | apply V_alloc | apply V_drewN | apply V_drew)); exact HO_153000.out⟩, ⟨by (with_reducible repeat (first | apply V_alloc | apply V_drewN | apply V_drew)); exact HO_154001.out⟩, ⟨by (with_reducible repeat (first | apply V_alloc | apply V_drewN | apply V_drew)); exact HO_154002.out⟩, ⟨by (with_reducible repeat (first | apply N_alloc | apply N_drewN | apply N_drew)); exact HO_156000.out⟩, ⟨by (with_reducible repeat (first | refine blk_drewN ?_ _ | refine blk_drew ?_ | refine blk_alloc ?_ _)); exact BK152.out⟩, ⟨by (with_reducible repeat (first | refine blk_drewN ?_ _ | refine blk_drew ?_ | refine blk_alloc ?_ _)); exact BK153.out⟩, ⟨by (with_reducible repeat (first | refine blk_drewN ?_ _ | refine blk_drew ?_ | refine blk_alloc ?_ _)); exact BK154.out⟩, ⟨by (with_reducible repeat (first | refine blk_drewN ?_ _ | refine blk_drew ?_ | refine blk_alloc ?_ _)); exact BK155.out⟩, ⟨by repeat (first | (with_reducible first | exact HB.out | apply below_alloc | apply pw_below_drewN | apply below_drew1 | refine below_set ?_ GE152.out | refine below_set ?_ GE153.out | refine below_set ?_ GE154.out | refine below_set ?_ GE155.out) | exact HB.out)⟩⟩
         ·
          rw [if_neg c57] at H
          have c57b0 : (((rd_T55 l0_0 x7_1).f0).toList == a1_0.toList) = false := beq_eq_false_iff_ne.mpr c57
          have c57b1 : (((rd_T55 l0_0 x7_1).f0).toList != a1_0.toList) = true := bne_iff_ne.mpr c57
          by_cases c59 : x156000_1.length < 2199023255552
          ·
           rw [if_pos c59] at H
           have LMc59 := Aside0.mk c59
           clear c59
           obtain ⟨y176, hy176⟩ : ∃ y_ : List (S55), y_ = (x156000_1 ++ [(⟨(rd_T55 l0_0 x7_1).f0, (rd_T55 l0_0 x7_1).f1, (rd_T55 l0_0 x7_1).f2⟩ : S55)]) := ⟨_, rfl⟩
           replace H : (spec_l03Put.l0 kj11 x6_1 (wrap64 (x7_1 + 1)) l0_0 a1_0 l1_1 l1_2 y176) = some r := by first | (rw [hy176]; with_reducible exact H) | (have H2_ := (Option.bind_some _ _).symm.trans H; rw [hy176]; with_reducible exact H2_) | (have H2_ := (Option.bind_some _ _).symm.trans H; with_reducible exact H2_) | with_reducible exact H | (rw [hy176]; exact H) | exact H
           have Ny176 := Aside0.mk hy176
           clear hy176
           have H' := Aside0.mk H
           clear H
           try go_wp2
           have n0_ := Aside0.mk (V_drew HO_153000.out)
           have n1_ := Aside0.mk (V_drew HO_154001.out)
           have n2_ := Aside0.mk (V_drew HO_154002.out)
           have n3_ := Aside0.mk (N_drew HO_156000.out)
           have n4_ := Aside0.mk (blk_drew BK152.out)
           have n5_ := Aside0.mk (blk_drew BK153.out)
           have n6_ := Aside0.mk (blk_drew BK154.out)
           have n7_ := Aside0.mk (blk_drew BK155.out)
           have n8_ := Aside0.mk (below_drew1 HB.out)
           clear HO_153000
           clear HO_154001
           clear HO_154002
           clear HO_156000
           clear BK152
           clear BK153
           clear BK154
           clear BK155
           clear HB
           have HO_153000 := n0_
           have HO_154001 := n1_
           have HO_154002 := n2_
           have HO_156000 := n3_
           have BK152 := n4_
           have BK153 := n5_
           have BK154 := n6_
           have BK155 := n7_
           have HB := n8_
           clear n0_ n1_ n2_ n3_ n4_ n5_ n6_ n7_ n8_
           have p174 : 0 ≤ (x7_1 : Int) := of_decide_eq_true (by first | (with_reducible assumption) | assumption)
           have q174 : x7_1 < (l0_0.length : Int) := of_decide_eq_true (by first | (with_reducible assumption) | assumption)
           obtain ⟨ad174, A174_1, c174_1, A174_2, c174_2, e174, hx174_0, hx174_1, hx174_2, hl174_1, hi174_1, hl174_2, hi174_2⟩ := at_T55 (V_reads' HO_153000.out).2.2 x7_1 p174 q174
           cases e174
           obtain ⟨ce174, hce174, hMe174, hcc174⟩ := V_get HO_153000.out z55 x7_1 p174 (by first | exact q174 | exact of_decide_eq_true (by first | (with_reducible assumption) | assumption) | (have e_ := (V_reads' HO_153000.out).1; omega))
           obtain ⟨ua174_1, uc174_1, ua174_2, uc174_2, rfl, ul174_1, ge174_1, ul174_2, ge174_2⟩ := k55_openF hMe174
           have hv174_1 := hcc174 1 _ rfl
           rw [add_field _ _ 1 (by omega)] at hv174_1
           replace hv174_1 := Option.some.inj (hv174_1.symm.trans hx174_1)
           injection hv174_1 with hva_ hvn_ hvc_
           rw [hva_] at ge174_1
           rw [hvc_] at ul174_1
           have HL174_1 := Aside0.mk (show Kd.V (Kd.int .u8) 5 _ w.heap.size _ _ ((rd_T55 l0_0 x7_1).f1) from V_mk ul174_1 ge174_1)
           clear hva_ hvn_ hvc_ ge174_1 ul174_1
           have hv174_2 := hcc174 2 _ rfl
           rw [add_field _ _ 2 (by omega)] at hv174_2
           replace hv174_2 := Option.some.inj (hv174_2.symm.trans hx174_2)
           injection hv174_2 with hva_ hvn_ hvc_
           rw [hva_] at ge174_2
           rw [hvc_] at ul174_2
           have HL174_2 := Aside0.mk (show Kd.V (Kd.int .u8) 5 _ w.heap.size _ _ ((rd_T55 l0_0 x7_1).f2) from V_mk ul174_2 ge174_2)
           clear hva_ hvn_ hvc_ ge174_2 ul174_2
           clear hcc174 hce174
           have HR174_1 := Aside0.mk hi174_1
           have HC174_1 := Aside0.mk hl174_1
           clear hi174_1 hl174_1
           have HR174_2 := Aside0.mk hi174_2
           have HC174_2 := Aside0.mk hl174_2
           clear hi174_2 hl174_2
           replace p174 := eq_true p174
           replace q174 := eq_true q174
           refine start_ (n := 9) (S := fun w' => w'.cell? ⟨gb152, 0, none⟩ = some (.slice (some ad174) l0_0.length c0_0) ∧ w'.cell? ⟨gb153, 0, none⟩ = some (.string a1_0) ∧ w'.cell? ⟨gb153, 1, none⟩ = some (.slice A1_1 l1_1.length c1_1) ∧ w'.cell? ⟨gb153, 2, none⟩ = some (.slice A1_2 l1_2.length c1_2) ∧ w'.cell? (ad174.add ((x7_1).toNat * 3)) = some (.string ((rd_T55 l0_0 x7_1).f0)) ∧ w'.cell? ⟨(ad174.add ((x7_1).toNat * 3)).block, (ad174.add ((x7_1).toNat * 3)).off + 1, none⟩ = some (.slice A174_1 ((rd_T55 l0_0 x7_1).f1).length c174_1) ∧ w'.cell? ⟨(ad174.add ((x7_1).toNat * 3)).block, (ad174.add ((x7_1).toNat * 3)).off + 2, none⟩ = some (.slice A174_2 ((rd_T55 l0_0 x7_1).f2).length c174_2)) (ds := []) #[false, false, false, false, false, false, false, false, false] (by kernel_rfl) rfl rfl ⟨(blk_cell BK152.out 0).trans rfl, (blk_cell BK153.out 0).trans rfl, (blk_cell BK153.out 1).trans rfl, (blk_cell BK153.out 2).trans rfl, hx174_0, hx174_1, hx174_2⟩ (fun hHeld => ?_); refine with_tabW spec_l03Put.tab9 spec_l03Put.bits9 (fun HT_ HW_ => ?_)
           generalize wc.drew = w60 at HO_153000 HO_154001 HO_154002 HO_156000 BK152 BK153 BK154 BK155 HB HL174_1 HL174_2 HR174_1 HR174_2 hx174_0 hx174_1 hx174_2 hHeld ⊢
           refine SQ.pu 0 35 HT_ ?_
           refine SQ.pu 2 37 HT_ ?_
           refine SQ.pu 6 41 HT_ ?_
           refine SQ.tk 1 36 HT_ HW_ hHeld ?_
           refine SQ.pu 3 38 HT_ ?_
           refine SQ.pu 4 39 HT_ ?_
           refine SQ.tk 5 40 HT_ HW_ hHeld ?_
           refine SQ.tk 7 42 HT_ HW_ hHeld ?_
           refine SQ.pu 8 43 HT_ ?_
           refine done_ (done_of HT_.out (by kernel_rfl)) ?_
           try go_wp2
           have n0_ := Aside0.mk (V_drew HO_153000.out)
           have n1_ := Aside0.mk (V_drew HO_154001.out)
           have n2_ := Aside0.mk (V_drew HO_154002.out)
           have n3_ := Aside0.mk (N_drew HO_156000.out)
           have n4_ := Aside0.mk (V_drew HL174_1.out)
           have n5_ := Aside0.mk (V_drew HL174_2.out)
           have n6_ := Aside0.mk (blk_drew BK152.out)
           have n7_ := Aside0.mk (blk_drew BK153.out)
           have n8_ := Aside0.mk (blk_drew BK154.out)
           have n9_ := Aside0.mk (blk_drew BK155.out)
           have n10_ := Aside0.mk (C_drew HR174_1.out)
           have n11_ := Aside0.mk (C_drew HR174_2.out)
           have n12_ := Aside0.mk (below_drew1 HB.out)
           clear HO_153000
           clear HO_154001
           clear HO_154002
           clear HO_156000
           clear HL174_1
           clear HL174_2
           clear BK152
           clear BK153
           clear BK154
           clear BK155
           clear HR174_1
           clear HR174_2
           clear HB
           have HO_153000 := n0_
           have HO_154001 := n1_
           have HO_154002 := n2_
           have HO_156000 := n3_
           have HL174_1 := n4_
           have HL174_2 := n5_
           have BK152 := n6_
           have BK153 := n7_
           have BK154 := n8_
           have BK155 := n9_
           have HR174_1 := n10_
           have HR174_2 := n11_
           have HB := n12_
           clear n0_ n1_ n2_ n3_ n4_ n5_ n6_ n7_ n8_ n9_ n10_ n11_ n12_
           have p175 : 0 ≤ (x7_1 : Int) := of_decide_eq_true (by first | (with_reducible assumption) | assumption)
           have q175 : x7_1 < (l0_0.length : Int) := of_decide_eq_true (by first | (with_reducible assumption) | assumption)
           obtain ⟨ad175, A175_1, c175_1, A175_2, c175_2, e175, hx175_0, hx175_1, hx175_2, hl175_1, hi175_1, hl175_2, hi175_2⟩ := at_T55 (V_reads' HO_153000.out).2.2 x7_1 p175 q175
           obtain rfl : ad174 = ad175 := (by injection e175)
           obtain ⟨ce175, hce175, hMe175, hcc175⟩ := V_get HO_153000.out z55 x7_1 p175 (by first | exact q175 | exact of_decide_eq_true (by first | (with_reducible assumption) | assumption) | (have e_ := (V_reads' HO_153000.out).1; omega))
           obtain ⟨ua175_1, uc175_1, ua175_2, uc175_2, rfl, ul175_1, ge175_1, ul175_2, ge175_2⟩ := k55_openF hMe175
           have hv175_1 := hcc175 1 _ rfl
           rw [add_field _ _ 1 (by omega)] at hv175_1
           replace hv175_1 := Option.some.inj (hv175_1.symm.trans hx175_1)
           injection hv175_1 with hva_ hvn_ hvc_
           rw [hva_] at ge175_1
           rw [hvc_] at ul175_1
           have HL175_1 := Aside0.mk (show Kd.V (Kd.int .u8) 5 _ w.heap.size _ _ ((rd_T55 l0_0 x7_1).f1) from V_mk ul175_1 ge175_1)
           clear hva_ hvn_ hvc_ ge175_1 ul175_1
           have hv175_2 := hcc175 2 _ rfl
           rw [add_field _ _ 2 (by omega)] at hv175_2
           replace hv175_2 := Option.some.inj (hv175_2.symm.trans hx175_2)
           injection hv175_2 with hva_ hvn_ hvc_
           rw [hva_] at ge175_2
           rw [hvc_] at ul175_2
           have HL175_2 := Aside0.mk (show Kd.V (Kd.int .u8) 5 _ w.heap.size _ _ ((rd_T55 l0_0 x7_1).f2) from V_mk ul175_2 ge175_2)
           clear hva_ hvn_ hvc_ ge175_2 ul175_2
           clear hcc175 hce175
           have HR175_1 := Aside0.mk hi175_1
           have HC175_1 := Aside0.mk hl175_1
           clear hi175_1 hl175_1
           have HR175_2 := Aside0.mk hi175_2
           have HC175_2 := Aside0.mk hl175_2
           clear hi175_2 hl175_2
           replace p175 := eq_true p175
           replace q175 := eq_true q175
           refine start_ (n := 11) (S := fun w' => w'.cell? ⟨gb155, 0, none⟩ = some (u156000) ∧ w'.cell? ⟨gb152, 0, none⟩ = some (.slice (some ad174) l0_0.length c0_0) ∧ w'.cell? (ad174.add ((x7_1).toNat * 3)) = some (.string ((rd_T55 l0_0 x7_1).f0)) ∧ w'.cell? ⟨(ad174.add ((x7_1).toNat * 3)).block, (ad174.add ((x7_1).toNat * 3)).off + 1, none⟩ = some (.slice A175_1 ((rd_T55 l0_0 x7_1).f1).length c175_1) ∧ w'.cell? ⟨(ad174.add ((x7_1).toNat * 3)).block, (ad174.add ((x7_1).toNat * 3)).off + 2, none⟩ = some (.slice A175_2 ((rd_T55 l0_0 x7_1).f2).length c175_2)) (ds := [8, 10]) #[false, false, false, false, false, false, false, false, false, false, false] (by kernel_rfl) rfl rfl ⟨(blk_cell BK155.out 0).trans rfl, (blk_cell BK152.out 0).trans rfl, hx175_0, hx175_1, hx175_2⟩ (fun hHeld => ?_); refine with_tabW spec_l03Put.tab10 spec_l03Put.bits10 (fun HT_ HW_ => ?_)
           generalize w60.drew = w61 at HO_153000 HO_154001 HO_154002 HO_156000 HL174_1 HL174_2 BK152 BK153 BK154 BK155 HR174_1 HR174_2 HB HL175_1 HL175_2 HR175_1 HR175_2 hx175_0 hx175_1 hx175_2 hHeld ⊢
           refine SQ.pu 0 44 HT_ ?_
           refine SQ.pu 2 46 HT_ ?_
           refine SQ.pu 4 48 HT_ ?_
           refine SQ.tk 1 45 HT_ HW_ hHeld ?_
           refine SQ.tk 3 47 HT_ HW_ hHeld ?_
           refine SQ.pu 5 49 HT_ ?_
           refine SQ.tk 6 50 HT_ HW_ hHeld ?_
           refine one_ (i := 7) (N := some 51) #[true, true, true, true, true, true, true, true, false, false, false] rfl rfl (one_of HT_.out (by kernel_rfl)) (by decide) (fun K hK => ?_)
           refine value_ (w1 := ?_) (v := ?_) (by rfl) rfl ?_ ?_
           rotate_left 2
           ·
            go_simp
            constructor
            ·
             rfl
            ·
             rfl
           refine hK.out _ _ ⟨(blk_cell (blk_alloc BK155.out _) 0).trans rfl, (blk_cell (blk_alloc BK152.out _) 0).trans rfl, (World.cell?_alloc_lt _ _ _ (World.block_lt_of_cell? _ _ (hHeld.2.2.1))).trans (hHeld.2.2.1), (World.cell?_alloc_lt _ _ _ (World.block_lt_of_cell? _ _ (hHeld.2.2.2.1))).trans (hHeld.2.2.2.1), (World.cell?_alloc_lt _ _ _ (World.block_lt_of_cell? _ _ (hHeld.2.2.2.2))).trans (hHeld.2.2.2.2)⟩ (fun hHeld => ?_)
           clear hK K
           refine norm_ (a' := ?_) ?_ ?_
           rotate_left
           ·
            show Act.put _ (some 51) _ = _
            simp only [Act.put, List.setIfInBounds_toArray, List.set_cons_zero, List.set_cons_succ, i64_w, i32_w]
            rfl
           refine last_ (i := 8) (N := some 52) #[true, true, true, true, true, true, true, true, true, false, false] rfl rfl (one_of HT_.out (by kernel_rfl)) (by decide) (fun K hK => ?_)
           refine N_append_step k55 (w0 := w) w.heap.size (by rfl) (.tmp 45) (.tmp 51) 26 55 (.agg #[(.string ⟨#[]⟩), (.slice none 0 0), (.slice none 0 0)]) 64 rfl Tryd.underlying26 info55 rfl (by decide) (by omega) u156000 x156000_1 (⟨(rd_T55 l0_0 x7_1).f0, (rd_T55 l0_0 x7_1).f1, (rd_T55 l0_0 x7_1).f2⟩ : S55) [.string ((rd_T55 l0_0 x7_1).f0), .slice A175_1 ((rd_T55 l0_0 x7_1).f1).length c175_1, .slice A175_2 ((rd_T55 l0_0 x7_1).f2).length c175_2] (fun k_ => ((P0_0_ k_ ∨ P1_1_ k_ ∨ P1_2_ k_) ∨ w.heap.size ≤ k_) ∧ k_ ≠ gb152 ∧ k_ ≠ gb153 ∧ k_ ≠ gb154 ∧ k_ ≠ gb155) (fun k_ => ((fun k_ => ((P0_0_ k_ ∨ P1_1_ k_ ∨ P1_2_ k_) ∨ w.heap.size ≤ k_) ∧ k_ ≠ gb152 ∧ k_ ≠ gb153 ∧ k_ ≠ gb154 ∧ k_ ≠ gb155)) k_ ∧ some k_ ≠ (u156000 : Value).ownBlock) rfl rfl ?aP (fun _ hk => hk) ?aF ?aO ?aB ?aS ?aL ?_
           (case aP => exact (k55_mkF _ _ (⟨(rd_T55 l0_0 x7_1).f0, (rd_T55 l0_0 x7_1).f1, (rd_T55 l0_0 x7_1).f2⟩ : S55) (V_reads' (V_mono (ok' := (fun k_ => ((fun k_ => ((P0_0_ k_ ∨ P1_1_ k_ ∨ P1_2_ k_) ∨ w.heap.size ≤ k_) ∧ k_ ≠ gb152 ∧ k_ ≠ gb153 ∧ k_ ≠ gb154 ∧ k_ ≠ gb155)) k_ ∧ some k_ ≠ (u156000 : Value).ownBlock)) (HL175_1.out) (fun k_ hk => ⟨⟨hk.1, ⟨hk.2.2.1, ⟨hk.2.2.2.1, ⟨hk.2.2.2.2.1, hk.2.2.2.2.2⟩⟩⟩⟩, hk.2.1⟩))).2.1 (V_F (V_mono (ok' := (fun k_ => ((fun k_ => ((P0_0_ k_ ∨ P1_1_ k_ ∨ P1_2_ k_) ∨ w.heap.size ≤ k_) ∧ k_ ≠ gb152 ∧ k_ ≠ gb153 ∧ k_ ≠ gb154 ∧ k_ ≠ gb155)) k_ ∧ some k_ ≠ (u156000 : Value).ownBlock)) (HL175_1.out) (fun k_ hk => ⟨⟨hk.1, ⟨hk.2.2.1, ⟨hk.2.2.2.1, ⟨hk.2.2.2.2.1, hk.2.2.2.2.2⟩⟩⟩⟩, hk.2.1⟩))) (V_reads' (V_mono (ok' := (fun k_ => ((fun k_ => ((P0_0_ k_ ∨ P1_1_ k_ ∨ P1_2_ k_) ∨ w.heap.size ≤ k_) ∧ k_ ≠ gb152 ∧ k_ ≠ gb153 ∧ k_ ≠ gb154 ∧ k_ ≠ gb155)) k_ ∧ some k_ ≠ (u156000 : Value).ownBlock)) (HL175_2.out) (fun k_ hk => ⟨⟨hk.1, ⟨hk.2.2.1, ⟨hk.2.2.2.1, ⟨hk.2.2.2.2.1, hk.2.2.2.2.2⟩⟩⟩⟩, hk.2.1⟩))).2.1 (V_F (V_mono (ok' := (fun k_ => ((fun k_ => ((P0_0_ k_ ∨ P1_1_ k_ ∨ P1_2_ k_) ∨ w.heap.size ≤ k_) ∧ k_ ≠ gb152 ∧ k_ ≠ gb153 ∧ k_ ≠ gb154 ∧ k_ ≠ gb155)) k_ ∧ some k_ ≠ (u156000 : Value).ownBlock)) (HL175_2.out) (fun k_ hk => ⟨⟨hk.1, ⟨hk.2.2.1, ⟨hk.2.2.2.1, ⟨hk.2.2.2.2.1, hk.2.2.2.2.2⟩⟩⟩⟩, hk.2.1⟩)))))
           (case aB => exact (by repeat (first | (with_reducible first | exact HB.out | apply below_alloc | apply pw_below_drewN | apply below_drew1 | refine below_set ?_ GE152.out | refine below_set ?_ GE153.out | refine below_set ?_ GE154.out | refine below_set ?_ GE155.out) | exact HB.out)))
           (case aF => exact (fun k_ hk => ⟨(.inr (Nat.le_trans (below_size (by repeat (first | (with_reducible first | exact HB.out | apply below_alloc | apply pw_below_drewN | apply below_drew1 | refine below_set ?_ GE152.out | refine below_set ?_ GE153.out | refine below_set ?_ GE154.out | refine below_set ?_ GE155.out) | exact HB.out))) hk)), Kd.freshB (g := gb152) (o := .cells #[.slice (some ad174) l0_0.length c0_0] 28 (0, 0)) (by (with_reducible repeat (first | refine blk_drewN ?_ _ | refine blk_drew ?_ | refine blk_alloc ?_ _)); exact BK152.out) k_ hk, Kd.freshB (g := gb153) (o := .cells #[.string a1_0, .slice A1_1 l1_1.length c1_1, .slice A1_2 l1_2.length c1_2] 55 (0, 0)) (by (with_reducible repeat (first | refine blk_drewN ?_ _ | refine blk_drew ?_ | refine blk_alloc ?_ _)); exact BK153.out) k_ hk, Kd.freshB (g := gb154) (o := .cells #[.slice none 0 0] 28 (0, 0)) (by (with_reducible repeat (first | refine blk_drewN ?_ _ | refine blk_drew ?_ | refine blk_alloc ?_ _)); exact BK154.out) k_ hk, Kd.freshB (g := gb155) (o := .cells #[u156000] 28 (0, 0)) (by (with_reducible repeat (first | refine blk_drewN ?_ _ | refine blk_drew ?_ | refine blk_alloc ?_ _)); exact BK155.out) k_ hk⟩))
           (case aO => exact (by (with_reducible repeat (first | apply N_alloc | apply N_drewN | apply N_drew)); exact HO_156000.out))
           (case aS => exact (below_size (by repeat (first | (with_reducible first | exact HB.out | apply below_alloc | apply pw_below_drewN | apply below_drew1 | refine below_set ?_ GE152.out | refine below_set ?_ GE153.out | refine below_set ?_ GE154.out | refine below_set ?_ GE155.out) | exact HB.out))))
           (case aL => have := LMc59.out; omega)
           intro v177 w62 ho hb hg hat
           rw [← Ny176.out] at ho
           have n0_ := Aside0.mk (V_afterv (ok := (fun k_ => ((P0_0_ k_ ∨ P1_1_ k_ ∨ P1_2_ k_) ∨ w.heap.size ≤ k_) ∧ k_ ≠ gb152 ∧ k_ ≠ gb153 ∧ k_ ≠ gb154 ∧ k_ ≠ gb155)) (by (with_reducible repeat (first | apply V_alloc | apply V_drewN | apply V_drew)); exact V_mono HO_153000.out (fun _ hk => ⟨⟨hk.1, ⟨hk.2.2.1, ⟨hk.2.2.2.1, ⟨hk.2.2.2.2.1, hk.2.2.2.2.2⟩⟩⟩⟩, hk.2.1⟩)) hg hat)
           have n1_ := Aside0.mk (V_afterv (ok := (fun k_ => ((P0_0_ k_ ∨ P1_1_ k_ ∨ P1_2_ k_) ∨ w.heap.size ≤ k_) ∧ k_ ≠ gb152 ∧ k_ ≠ gb153 ∧ k_ ≠ gb154 ∧ k_ ≠ gb155)) (by (with_reducible repeat (first | apply V_alloc | apply V_drewN | apply V_drew)); exact V_mono HO_154001.out (fun _ hk => ⟨⟨hk.1, ⟨hk.2.2.1, ⟨hk.2.2.2.1, ⟨hk.2.2.2.2.1, hk.2.2.2.2.2⟩⟩⟩⟩, hk.2.1⟩)) hg hat)
           have n2_ := Aside0.mk (V_afterv (ok := (fun k_ => ((P0_0_ k_ ∨ P1_1_ k_ ∨ P1_2_ k_) ∨ w.heap.size ≤ k_) ∧ k_ ≠ gb152 ∧ k_ ≠ gb153 ∧ k_ ≠ gb154 ∧ k_ ≠ gb155)) (by (with_reducible repeat (first | apply V_alloc | apply V_drewN | apply V_drew)); exact V_mono HO_154002.out (fun _ hk => ⟨⟨hk.1, ⟨hk.2.2.1, ⟨hk.2.2.2.1, ⟨hk.2.2.2.2.1, hk.2.2.2.2.2⟩⟩⟩⟩, hk.2.1⟩)) hg hat)
           have n3_ := Aside0.mk (blk_grown (g := gb152) (o := .cells #[.slice (some ad174) l0_0.length c0_0] 28 (0, 0)) (by (with_reducible repeat (first | refine blk_drewN ?_ _ | refine blk_drew ?_ | refine blk_alloc ?_ _)); exact BK152.out) hg (N_ne HO_156000.out BK152.out (by decide)))
           have n4_ := Aside0.mk (blk_grown (g := gb153) (o := .cells #[.string a1_0, .slice A1_1 l1_1.length c1_1, .slice A1_2 l1_2.length c1_2] 55 (0, 0)) (by (with_reducible repeat (first | refine blk_drewN ?_ _ | refine blk_drew ?_ | refine blk_alloc ?_ _)); exact BK153.out) hg (N_away HO_156000.out (fun _ hk => hk.2.2.1)))
           have n5_ := Aside0.mk (blk_grown (g := gb154) (o := .cells #[.slice none 0 0] 28 (0, 0)) (by (with_reducible repeat (first | refine blk_drewN ?_ _ | refine blk_drew ?_ | refine blk_alloc ?_ _)); exact BK154.out) hg (N_ne HO_156000.out BK154.out (by decide)))
           have n6_ := Aside0.mk (blk_grown (g := gb155) (o := .cells #[u156000] 28 (0, 0)) (by (with_reducible repeat (first | refine blk_drewN ?_ _ | refine blk_drew ?_ | refine blk_alloc ?_ _)); exact BK155.out) hg (N_ne HO_156000.out BK155.out (by decide)))
           have n7_ := Aside0.mk (V_afterv (ok := (fun k_ => ((P0_0_ k_ ∨ P1_1_ k_ ∨ P1_2_ k_) ∨ w.heap.size ≤ k_) ∧ k_ ≠ gb152 ∧ k_ ≠ gb153 ∧ k_ ≠ gb154 ∧ k_ ≠ gb155)) (by (with_reducible repeat (first | apply V_alloc | apply V_drewN | apply V_drew)); exact V_mono HL174_1.out (fun _ hk => ⟨⟨hk.1, ⟨hk.2.2.1, ⟨hk.2.2.2.1, ⟨hk.2.2.2.2.1, hk.2.2.2.2.2⟩⟩⟩⟩, hk.2.1⟩)) hg hat)
           have n8_ := Aside0.mk (V_afterv (ok := (fun k_ => ((P0_0_ k_ ∨ P1_1_ k_ ∨ P1_2_ k_) ∨ w.heap.size ≤ k_) ∧ k_ ≠ gb152 ∧ k_ ≠ gb153 ∧ k_ ≠ gb154 ∧ k_ ≠ gb155)) (by (with_reducible repeat (first | apply V_alloc | apply V_drewN | apply V_drew)); exact V_mono HL174_2.out (fun _ hk => ⟨⟨hk.1, ⟨hk.2.2.1, ⟨hk.2.2.2.1, ⟨hk.2.2.2.2.1, hk.2.2.2.2.2⟩⟩⟩⟩, hk.2.1⟩)) hg hat)
           have n9_ := Aside0.mk (V_afterv (ok := (fun k_ => ((P0_0_ k_ ∨ P1_1_ k_ ∨ P1_2_ k_) ∨ w.heap.size ≤ k_) ∧ k_ ≠ gb152 ∧ k_ ≠ gb153 ∧ k_ ≠ gb154 ∧ k_ ≠ gb155)) (by (with_reducible repeat (first | apply V_alloc | apply V_drewN | apply V_drew)); exact V_mono HL175_1.out (fun _ hk => ⟨⟨hk.1, ⟨hk.2.2.1, ⟨hk.2.2.2.1, ⟨hk.2.2.2.2.1, hk.2.2.2.2.2⟩⟩⟩⟩, hk.2.1⟩)) hg hat)
           have n10_ := Aside0.mk (V_afterv (ok := (fun k_ => ((P0_0_ k_ ∨ P1_1_ k_ ∨ P1_2_ k_) ∨ w.heap.size ≤ k_) ∧ k_ ≠ gb152 ∧ k_ ≠ gb153 ∧ k_ ≠ gb154 ∧ k_ ≠ gb155)) (by (with_reducible repeat (first | apply V_alloc | apply V_drewN | apply V_drew)); exact V_mono HL175_2.out (fun _ hk => ⟨⟨hk.1, ⟨hk.2.2.1, ⟨hk.2.2.2.1, ⟨hk.2.2.2.2.1, hk.2.2.2.2.2⟩⟩⟩⟩, hk.2.1⟩)) hg hat)
           have n11_ := Aside0.mk (hb)
           have n12_ := Aside0.mk (ho)
           clear HO_153000
           clear HO_154001
           clear HO_154002
           clear BK152
           clear BK153
           clear BK154
           clear BK155
           clear HL174_1
           clear HL174_2
           clear HL175_1
           clear HL175_2
           clear HB
           clear HO_156000
           have HO_153000 := n0_
           have HO_154001 := n1_
           have HO_154002 := n2_
           have BK152 := n3_
           have BK153 := n4_
           have BK154 := n5_
           have BK155 := n6_
           have HL174_1 := n7_
           have HL174_2 := n8_
           have HL175_1 := n9_
           have HL175_2 := n10_
           have HB := n11_
           have HO178 := n12_
           clear n0_ n1_ n2_ n3_ n4_ n5_ n6_ n7_ n8_ n9_ n10_ n11_ n12_
           clear ho hb hg hat
           obtain ⟨Ao63, co63, eo63⟩ := N_slice HO178.out
           (first | subst eo63 | (injection eo63 with f1_ f2_ f3_; have f4_ := f1_.symm; have f5_ := f3_.symm; clear f1_ f2_ f3_; subst f4_; subst f5_))
           refine hK.out _ _ ?_
           clear hK K
           refine norm_ (a' := ?_) ?_ ?_
           rotate_left
           ·
            show Act.put _ (some 52) _ = _
            simp only [Act.put, List.setIfInBounds_toArray, List.set_cons_zero, List.set_cons_succ, i64_w, i32_w]
            rfl
           refine SQ.pu 9 53 HT_ ?_
           refine last_ (i := 10) (N := none) #[true, true, true, true, true, true, true, true, true, true, true] rfl rfl (one_of HT_.out (by kernel_rfl)) (by decide) (fun K hK => ?_)
           have hs64 : w62.cell? ⟨gb155, 0, none⟩ = some (u156000) := (blk_cell BK155.out 0).trans rfl
           have hfs64 := blk_frozen BK155.out 0
           have hns64_0 := NB152_155.out
           have hns64_1 := NB153_155.out
           have hns64_2 := NB154_155.out
           have hms64_0 := NB155_152.out
           have hms64_1 := NB155_153.out
           have hms64_2 := NB155_154.out
           refine skip_ (w1 := ?_) (by rfl) rfl ?_ ?_
           rotate_left
           ·
            go_simp
            rfl
           refine hK.out _ _ ?_
           clear hK K
           refine done_ (done_of HT_.out (by kernel_rfl)) ?_
           try go_wp2
           go_roundg kj11
           case measure => have := HK1.out; have := HJ11.out; omega
           case rel => exact ⟨(x6_1), (wrap64 (x7_1 + 1)), (y176), (.slice Ao63 y176.length co63), (by first | rfl | (simp; done) | (simp [*]; done)), (by first | rfl | (simp; done) | (simp [*]; done)), H', ⟨by have := HK1.out; have := HJ11.out; omega⟩, ⟨by (with_reducible repeat (first | apply V_alloc | apply V_drewN | apply V_drew)); exact V_mono (V_far (p := ⟨gb155, 0, none⟩) (V_mono HO_153000.out (fun k_ hk => (⟨hk, hk.1.2.2.2.2⟩ : _ ∧ k_ ≠ gb155))) (fun _ hk => hk.2) (.slice Ao63 y176.length co63)) (fun _ hk => ⟨hk.1.1.1, ⟨hk.1.2, ⟨hk.1.1.2.1, ⟨hk.1.1.2.2.1, ⟨hk.1.1.2.2.2.1, hk.1.1.2.2.2.2⟩⟩⟩⟩⟩)⟩, ⟨by (with_reducible repeat (first | apply V_alloc | apply V_drewN | apply V_drew)); exact V_mono (V_far (p := ⟨gb155, 0, none⟩) (V_mono HO_154001.out (fun k_ hk => (⟨hk, hk.1.2.2.2.2⟩ : _ ∧ k_ ≠ gb155))) (fun _ hk => hk.2) (.slice Ao63 y176.length co63)) (fun _ hk => ⟨hk.1.1.1, ⟨hk.1.2, ⟨hk.1.1.2.1, ⟨hk.1.1.2.2.1, ⟨hk.1.1.2.2.2.1, hk.1.1.2.2.2.2⟩⟩⟩⟩⟩)⟩, ⟨by (with_reducible repeat (first | apply V_alloc | apply V_drewN | apply V_drew)); exact V_mono (V_far (p := ⟨gb155, 0, none⟩) (V_mono HO_154002.out (fun k_ hk => (⟨hk, hk.1.2.2.2.2⟩ : _ ∧ k_ ≠ gb155))) (fun _ hk => hk.2) (.slice Ao63 y176.length co63)) (fun _ hk => ⟨hk.1.1.1, ⟨hk.1.2, ⟨hk.1.1.2.1, ⟨hk.1.1.2.2.1, ⟨hk.1.1.2.2.2.1, hk.1.1.2.2.2.2⟩⟩⟩⟩⟩)⟩, ⟨by (with_reducible repeat (first | apply N_alloc | apply N_drewN | apply N_drew)); exact N_mono (N_far (p := ⟨gb155, 0, none⟩) (N_mono HO178.out (fun k_ hk => (⟨hk, hk.2.2.2.2⟩ : _ ∧ k_ ≠ gb155))) (fun _ hk => hk.2) (.slice Ao63 y176.length co63)) (fun _ hk => ⟨hk.1.1, ⟨hk.1.2.1, ⟨hk.1.2.2.1, ⟨hk.1.2.2.2.1, hk.1.2.2.2.2⟩⟩⟩⟩)⟩, ⟨by (with_reducible repeat (first | refine blk_drewN ?_ _ | refine blk_drew ?_ | refine blk_alloc ?_ _)); refine blk_far ?_ NB152_155.out _; (with_reducible repeat (first | refine blk_drewN ?_ _ | refine blk_drew ?_ | refine blk_alloc ?_ _)); exact BK152.out⟩, ⟨by (with_reducible repeat (first | refine blk_drewN ?_ _ | refine blk_drew ?_ | refine blk_alloc ?_ _)); refine blk_far ?_ NB153_155.out _; (with_reducible repeat (first | refine blk_drewN ?_ _ | refine blk_drew ?_ | refine blk_alloc ?_ _)); exact BK153.out⟩, ⟨by (with_reducible repeat (first | refine blk_drewN ?_ _ | refine blk_drew ?_ | refine blk_alloc ?_ _)); refine blk_far ?_ NB154_155.out _; (with_reducible repeat (first | refine blk_drewN ?_ _ | refine blk_drew ?_ | refine blk_alloc ?_ _)); exact BK154.out⟩, ⟨by (with_reducible repeat (first | refine blk_drewN ?_ _ | refine blk_drew ?_ | refine blk_alloc ?_ _)); refine blk_put (cs := #[u156000]) ?_ 0 _ rfl; (with_reducible repeat (first | refine blk_drewN ?_ _ | refine blk_drew ?_ | refine blk_alloc ?_ _)); exact BK155.out⟩, ⟨by repeat (first | (with_reducible first | exact HB.out | apply below_alloc | apply pw_below_drewN | apply below_drew1 | refine below_set ?_ GE152.out | refine below_set ?_ GE153.out | refine below_set ?_ GE154.out | refine below_set ?_ GE155.out) | exact HB.out)⟩⟩
          ·
           rw [if_neg c59] at H
           exact absurd H (by simp)
        ·
         rw [if_neg c56] at H
         exact absurd H (by simp)
       ·
        rw [if_neg c55] at H
        exact absurd H (by simp)
   ·
    rw [if_neg c11] at H
    have c11b0 : decide (x7_1 < (l0_0.length : Int)) = false := decide_eq_false c11
    clear c11
    by_cases c65 : x6_1 = true
    ·
     subst c65
     have H1 : ((spec_l03Copy.f k1 x156000_1).bind fun t156 => (some t156)) = some r := by rw [if_pos rfl] at H; exact H
     clear H
     have H := H1
     clear H1
     replace H := Option.bind_eq_some_iff.mp H
     obtain ⟨t156, A660, H⟩ := H
     replace H : (some t156) = some r := H
     have A66 := Aside0.mk A660
     clear A660
     obtain rfl := Option.some.inj H
     have hnb67 := NB152_153.out
     have hnc67 := NB153_152.out
     have hnb68 := NB152_154.out
     have hnc68 := NB154_152.out
     have hnb69 := NB152_155.out
     have hnc69 := NB155_152.out
     have hcz70_0 : wr.cell? ⟨gb152, 0, none⟩ = some (.slice A0_0 l0_0.length c0_0) := (blk_cell BK152.out 0).trans rfl
     have hfz70_0 := blk_frozen BK152.out 0
     have hnb71 := NB155_153.out
     have hnc71 := NB153_155.out
     have hnb72 := NB155_154.out
     have hnc72 := NB154_155.out
     have hcz73_0 : wr.cell? ⟨gb155, 0, none⟩ = some (u156000) := (blk_cell BK155.out 0).trans rfl
     have hfz73_0 := blk_frozen BK155.out 0
     obtain ⟨Ao74, co74, eo74⟩ := N_slice HO_156000.out
     subst eo74
     go_wp2_with (first | ((with_reducible refine gate_callee (f := 54) rfl ?_); refine goesL_ (some 63) rfl rfl Tryd.func54 (by kernel_rfl) rfl #[.agg #[.slice Ao74 x156000_1.length co74]] rfl (by (try simp only [List.map_toArray, List.map_cons, List.map_nil]); first | done | rfl | (simp only [List.length_drop, List.length_take]; rfl)) ?_; (with_reducible refine (spec_l03Copy.calls k1 _ _ x156000_1 t156 _ ?side1 ?side2 A66.out).mono ?_); (case side1 => repeat (first | exact (N_reads' HO_156000.out).2.2 | (with_reducible refine C_alloc ?_ _) | (with_reducible refine C_drewN ?_ _) | (with_reducible refine C_drew ?_))); (case side2 => exact (N_reads' HO_156000.out).2.1); rintro e w75 ⟨v157, rfl, ho0, hb⟩; refine ⟨_, rfl, ?_⟩; have n0_ := Aside0.mk (V_elder' (by (with_reducible repeat (first | apply V_alloc | apply V_drewN | apply V_drew)); exact HO_153000.out) (S_base ho0) hb); have n1_ := Aside0.mk (V_elder' (by (with_reducible repeat (first | apply V_alloc | apply V_drewN | apply V_drew)); exact HO_154001.out) (S_base ho0) hb); have n2_ := Aside0.mk (V_elder' (by (with_reducible repeat (first | apply V_alloc | apply V_drewN | apply V_drew)); exact HO_154002.out) (S_base ho0) hb); have n3_ := Aside0.mk (N_elder' (by (with_reducible repeat (first | apply N_alloc | apply N_drewN | apply N_drew)); exact HO_156000.out) (S_base ho0) hb); have n4_ := Aside0.mk (N_lower (N_mono (ok' := fun k_ => ((P0_0_ k_ ∨ P1_1_ k_ ∨ P1_2_ k_) ∨ w.heap.size ≤ k_) ∧ some k_ ≠ (.slice Ao74 x156000_1.length co74 : Value).ownBlock ∧ k_ ≠ gb152 ∧ k_ ≠ gb153 ∧ k_ ≠ gb154 ∧ k_ ≠ gb155) (S_N (S_bound ho0)) (fun k_ hk_ => ⟨(.inr (Nat.le_trans (below_size (by repeat (first | (with_reducible first | exact HB.out | apply below_alloc | apply pw_below_drewN | apply below_drew1 | refine below_set ?_ GE152.out | refine below_set ?_ GE153.out | refine below_set ?_ GE154.out | refine below_set ?_ GE155.out) | exact HB.out))) hk_.2.1)), (Kd.fresh' (N_lt (by (with_reducible repeat (first | apply N_alloc | apply N_drewN | apply N_drew)); exact HO_156000.out)) k_ hk_.2.1), (Kd.freshB (g := gb152) (o := .cells #[.slice A0_0 l0_0.length c0_0] 28 (0, 0)) (by (with_reducible repeat (first | refine blk_drewN ?_ _ | refine blk_drew ?_ | refine blk_alloc ?_ _)); exact BK152.out) k_ hk_.2.1), (Kd.freshB (g := gb153) (o := .cells #[.string a1_0, .slice A1_1 l1_1.length c1_1, .slice A1_2 l1_2.length c1_2] 55 (0, 0)) (by (with_reducible repeat (first | refine blk_drewN ?_ _ | refine blk_drew ?_ | refine blk_alloc ?_ _)); exact BK153.out) k_ hk_.2.1), (Kd.freshB (g := gb154) (o := .cells #[.slice none 0 0] 28 (0, 0)) (by (with_reducible repeat (first | refine blk_drewN ?_ _ | refine blk_drew ?_ | refine blk_alloc ?_ _)); exact BK154.out) k_ hk_.2.1), (Kd.freshB (g := gb155) (o := .cells #[.slice Ao74 x156000_1.length co74] 28 (0, 0)) (by (with_reducible repeat (first | refine blk_drewN ?_ _ | refine blk_drew ?_ | refine blk_alloc ?_ _)); exact BK155.out) k_ hk_.2.1)⟩)) (below_size (by repeat (first | (with_reducible first | exact HB.out | apply below_alloc | apply pw_below_drewN | apply below_drew1 | refine below_set ?_ GE152.out | refine below_set ?_ GE153.out | refine below_set ?_ GE154.out | refine below_set ?_ GE155.out) | exact HB.out)))); have n5_ := Aside0.mk (blk_below (g := gb152) (o := .cells #[.slice A0_0 l0_0.length c0_0] 28 (0, 0)) (by (with_reducible repeat (first | refine blk_drewN ?_ _ | refine blk_drew ?_ | refine blk_alloc ?_ _)); exact BK152.out) hb); have n6_ := Aside0.mk (blk_below (g := gb153) (o := .cells #[.string a1_0, .slice A1_1 l1_1.length c1_1, .slice A1_2 l1_2.length c1_2] 55 (0, 0)) (by (with_reducible repeat (first | refine blk_drewN ?_ _ | refine blk_drew ?_ | refine blk_alloc ?_ _)); exact BK153.out) hb); have n7_ := Aside0.mk (blk_below (g := gb154) (o := .cells #[.slice none 0 0] 28 (0, 0)) (by (with_reducible repeat (first | refine blk_drewN ?_ _ | refine blk_drew ?_ | refine blk_alloc ?_ _)); exact BK154.out) hb); have n8_ := Aside0.mk (blk_below (g := gb155) (o := .cells #[.slice Ao74 x156000_1.length co74] 28 (0, 0)) (by (with_reducible repeat (first | refine blk_drewN ?_ _ | refine blk_drew ?_ | refine blk_alloc ?_ _)); exact BK155.out) hb); have n9_ := Aside0.mk (below_step (by repeat (first | (with_reducible first | exact HB.out | apply below_alloc | apply pw_below_drewN | apply below_drew1 | refine below_set ?_ GE152.out | refine below_set ?_ GE153.out | refine below_set ?_ GE154.out | refine below_set ?_ GE155.out) | exact HB.out)) hb); clear HO_153000; clear HO_154001; clear HO_154002; clear HO_156000; clear BK152; clear BK153; clear BK154; clear BK155; clear HB; have HO_153000 := n0_; have HO_154001 := n1_; have HO_154002 := n2_; have HO_156000 := n3_; have HO158 := n4_; have BK152 := n5_; have BK153 := n6_; have BK154 := n7_; have BK155 := n8_; have HB := n9_; clear n0_ n1_ n2_ n3_ n4_ n5_ n6_ n7_ n8_ n9_; (try clear hb); (try clear hb2); (try clear hk); (try clear hi); (try clear ho0); obtain ⟨Ao76, co76, eo76⟩ := N_slice HO158.out; subst eo76; have hnb77 := NB154_153.out; have hnc77 := NB153_154.out; have hcz78_0 : w75.cell? ⟨gb154, 0, none⟩ = some (.slice none 0 0) := (blk_cell BK154.out 0).trans rfl; have hfz78_0 := blk_frozen BK154.out 0))
     refine bodyPost_ret (results_cell_row rfl _ _ gb154 28 #[.slice Ao76 t156.length co76] (0, 0) _ rfl (by (with_reducible repeat (first | refine blk_drewN ?_ _ | refine blk_drew ?_ | refine blk_alloc ?_ _)); refine blk_put (cs := #[.slice none 0 0]) ?_ 0 _ rfl; (with_reducible repeat (first | refine blk_drewN ?_ _ | refine blk_drew ?_ | refine blk_alloc ?_ _)); exact BK154.out) Tryd.underlying28 rfl (by kernel_rfl)) rfl ?_
     exact ⟨_, by first | rfl | (simp [errW_none, errW_some] <;> rfl) | (simp [*, errW_none, errW_some] <;> rfl), by (with_reducible repeat (first | apply N_alloc | apply N_drewN | apply N_drew)); exact N_mono (N_far (p := ⟨gb154, 0, none⟩) (N_mono HO158.out (fun k_ hk => (⟨hk, hk.2.2.2.2.1⟩ : _ ∧ k_ ≠ gb154))) (fun _ hk => hk.2) (.slice Ao76 t156.length co76)) (fun _ hk => hk.1.1), by repeat (first | (with_reducible first | exact HB.out | apply below_alloc | apply pw_below_drewN | apply below_drew1 | refine below_set ?_ GE152.out | refine below_set ?_ GE153.out | refine below_set ?_ GE154.out | refine below_set ?_ GE155.out) | exact HB.out)⟩
    ·
     replace c65 := Bool.eq_false_iff.mpr c65
     subst c65
     have H1 : (if x156000_1.length < 2199023255552 then ((spec_l03Copy.f k1 (x156000_1 ++ [(⟨a1_0, l1_1, l1_2⟩ : S55)])).bind fun t162 => (some t162)) else (none)) = some r := by rw [if_neg (show ¬ (false = true) by decide)] at H; exact H
     clear H
     have H := H1
     clear H1
     by_cases c79 : x156000_1.length < 2199023255552
     ·
      rw [if_pos c79] at H
      have LMc79 := Aside0.mk c79
      clear c79
      obtain ⟨y159, hy159⟩ : ∃ y_ : List (S55), y_ = (x156000_1 ++ [(⟨a1_0, l1_1, l1_2⟩ : S55)]) := ⟨_, rfl⟩
      replace H : ((spec_l03Copy.f k1 y159).bind fun t162 => (some t162)) = some r := by first | (rw [hy159]; with_reducible exact H) | (have H2_ := (Option.bind_some _ _).symm.trans H; rw [hy159]; with_reducible exact H2_) | (have H2_ := (Option.bind_some _ _).symm.trans H; with_reducible exact H2_) | with_reducible exact H | (rw [hy159]; exact H) | exact H
      have Ny159 := Aside0.mk hy159
      clear hy159
      replace H := Option.bind_eq_some_iff.mp H
      obtain ⟨t162, A800, H⟩ := H
      replace H : (some t162) = some r := H
      have A80 := Aside0.mk A800
      clear A800
      obtain rfl := Option.some.inj H
      have hnb81 := NB152_153.out
      have hnc81 := NB153_152.out
      have hnb82 := NB152_154.out
      have hnc82 := NB154_152.out
      have hnb83 := NB152_155.out
      have hnc83 := NB155_152.out
      have hcz84_0 : wr.cell? ⟨gb152, 0, none⟩ = some (.slice A0_0 l0_0.length c0_0) := (blk_cell BK152.out 0).trans rfl
      have hfz84_0 := blk_frozen BK152.out 0
      have hnb85 := NB155_153.out
      have hnc85 := NB153_155.out
      have hnb86 := NB155_154.out
      have hnc86 := NB154_155.out
      have hcz87_0 : wr.cell? ⟨gb155, 0, none⟩ = some (u156000) := (blk_cell BK155.out 0).trans rfl
      have hfz87_0 := blk_frozen BK155.out 0
      have hnb88 := NB153_154.out
      have hnc88 := NB154_153.out
      have hcz89_0 : wr.cell? ⟨gb153, 0, none⟩ = some (.string a1_0) := (blk_cell BK153.out 0).trans rfl
      have hcz89_1 : wr.cell? ⟨gb153, 1, none⟩ = some (.slice A1_1 l1_1.length c1_1) := (blk_cell BK153.out 1).trans rfl
      have hcz89_2 : wr.cell? ⟨gb153, 2, none⟩ = some (.slice A1_2 l1_2.length c1_2) := (blk_cell BK153.out 2).trans rfl
      have hfz89_0 := blk_frozen BK153.out 0
      have hfz89_1 := blk_frozen BK153.out 1
      have hfz89_2 := blk_frozen BK153.out 2
      go_wp2_with (first | ((with_reducible refine gate_builtin (b := .append) (xs := #[.tmp 57, .tmp 59]) rfl ?_); at_builtin; refine N_append k55 (w0 := w) w.heap.size rfl (.tmp 57) (.tmp 59) 26 55 (.agg #[(.string ⟨#[]⟩), (.slice none 0 0), (.slice none 0 0)]) 64 rfl Tryd.underlying26 info55 rfl (by decide) (by omega) u156000 x156000_1 (⟨a1_0, l1_1, l1_2⟩ : S55) [.string a1_0, .slice A1_1 l1_1.length c1_1, .slice A1_2 l1_2.length c1_2] (fun k_ => ((P0_0_ k_ ∨ P1_1_ k_ ∨ P1_2_ k_) ∨ w.heap.size ≤ k_) ∧ k_ ≠ gb152 ∧ k_ ≠ gb153 ∧ k_ ≠ gb154 ∧ k_ ≠ gb155) (fun k_ => ((fun k_ => ((P0_0_ k_ ∨ P1_1_ k_ ∨ P1_2_ k_) ∨ w.heap.size ≤ k_) ∧ k_ ≠ gb152 ∧ k_ ≠ gb153 ∧ k_ ≠ gb154 ∧ k_ ≠ gb155)) k_ ∧ some k_ ≠ (u156000 : Value).ownBlock) rfl rfl ?aP (fun _ hk => hk) ?aF ?aO ?aB ?aS ?aL ?_; (case aP => exact (k55_mkF _ _ (⟨a1_0, l1_1, l1_2⟩ : S55) (V_reads' (V_mono (ok' := (fun k_ => ((fun k_ => ((P0_0_ k_ ∨ P1_1_ k_ ∨ P1_2_ k_) ∨ w.heap.size ≤ k_) ∧ k_ ≠ gb152 ∧ k_ ≠ gb153 ∧ k_ ≠ gb154 ∧ k_ ≠ gb155)) k_ ∧ some k_ ≠ (u156000 : Value).ownBlock)) (HO_154001.out) (fun k_ hk => ⟨⟨hk.1, ⟨hk.2.2.1, ⟨hk.2.2.2.1, ⟨hk.2.2.2.2.1, hk.2.2.2.2.2⟩⟩⟩⟩, hk.2.1⟩))).2.1 (V_F (V_mono (ok' := (fun k_ => ((fun k_ => ((P0_0_ k_ ∨ P1_1_ k_ ∨ P1_2_ k_) ∨ w.heap.size ≤ k_) ∧ k_ ≠ gb152 ∧ k_ ≠ gb153 ∧ k_ ≠ gb154 ∧ k_ ≠ gb155)) k_ ∧ some k_ ≠ (u156000 : Value).ownBlock)) (HO_154001.out) (fun k_ hk => ⟨⟨hk.1, ⟨hk.2.2.1, ⟨hk.2.2.2.1, ⟨hk.2.2.2.2.1, hk.2.2.2.2.2⟩⟩⟩⟩, hk.2.1⟩))) (V_reads' (V_mono (ok' := (fun k_ => ((fun k_ => ((P0_0_ k_ ∨ P1_1_ k_ ∨ P1_2_ k_) ∨ w.heap.size ≤ k_) ∧ k_ ≠ gb152 ∧ k_ ≠ gb153 ∧ k_ ≠ gb154 ∧ k_ ≠ gb155)) k_ ∧ some k_ ≠ (u156000 : Value).ownBlock)) (HO_154002.out) (fun k_ hk => ⟨⟨hk.1, ⟨hk.2.2.1, ⟨hk.2.2.2.1, ⟨hk.2.2.2.2.1, hk.2.2.2.2.2⟩⟩⟩⟩, hk.2.1⟩))).2.1 (V_F (V_mono (ok' := (fun k_ => ((fun k_ => ((P0_0_ k_ ∨ P1_1_ k_ ∨ P1_2_ k_) ∨ w.heap.size ≤ k_) ∧ k_ ≠ gb152 ∧ k_ ≠ gb153 ∧ k_ ≠ gb154 ∧ k_ ≠ gb155)) k_ ∧ some k_ ≠ (u156000 : Value).ownBlock)) (HO_154002.out) (fun k_ hk => ⟨⟨hk.1, ⟨hk.2.2.1, ⟨hk.2.2.2.1, ⟨hk.2.2.2.2.1, hk.2.2.2.2.2⟩⟩⟩⟩, hk.2.1⟩))))); (case aB => exact (by repeat (first | (with_reducible first | exact HB.out | apply below_alloc | apply pw_below_drewN | apply below_drew1 | refine below_set ?_ GE152.out | refine below_set ?_ GE153.out | refine below_set ?_ GE154.out | refine below_set ?_ GE155.out) | exact HB.out))); (case aF => exact (fun k_ hk => ⟨(.inr (Nat.le_trans (below_size (by repeat (first | (with_reducible first | exact HB.out | apply below_alloc | apply pw_below_drewN | apply below_drew1 | refine below_set ?_ GE152.out | refine below_set ?_ GE153.out | refine below_set ?_ GE154.out | refine below_set ?_ GE155.out) | exact HB.out))) hk)), Kd.freshB (g := gb152) (o := .cells #[.slice A0_0 l0_0.length c0_0] 28 (0, 0)) (by (with_reducible repeat (first | refine blk_drewN ?_ _ | refine blk_drew ?_ | refine blk_alloc ?_ _)); exact BK152.out) k_ hk, Kd.freshB (g := gb153) (o := .cells #[.string a1_0, .slice A1_1 l1_1.length c1_1, .slice A1_2 l1_2.length c1_2] 55 (0, 0)) (by (with_reducible repeat (first | refine blk_drewN ?_ _ | refine blk_drew ?_ | refine blk_alloc ?_ _)); exact BK153.out) k_ hk, Kd.freshB (g := gb154) (o := .cells #[.slice none 0 0] 28 (0, 0)) (by (with_reducible repeat (first | refine blk_drewN ?_ _ | refine blk_drew ?_ | refine blk_alloc ?_ _)); exact BK154.out) k_ hk, Kd.freshB (g := gb155) (o := .cells #[u156000] 28 (0, 0)) (by (with_reducible repeat (first | refine blk_drewN ?_ _ | refine blk_drew ?_ | refine blk_alloc ?_ _)); exact BK155.out) k_ hk⟩)); (case aO => exact (by (with_reducible repeat (first | apply N_alloc | apply N_drewN | apply N_drew)); exact HO_156000.out)); (case aS => exact (below_size (by repeat (first | (with_reducible first | exact HB.out | apply below_alloc | apply pw_below_drewN | apply below_drew1 | refine below_set ?_ GE152.out | refine below_set ?_ GE153.out | refine below_set ?_ GE154.out | refine below_set ?_ GE155.out) | exact HB.out)))); (case aL => have := LMc79.out; omega); intro v160 w90 ho hb hg hat; rw [← Ny159.out] at ho; have n0_ := Aside0.mk (V_afterv (ok := (fun k_ => ((P0_0_ k_ ∨ P1_1_ k_ ∨ P1_2_ k_) ∨ w.heap.size ≤ k_) ∧ k_ ≠ gb152 ∧ k_ ≠ gb153 ∧ k_ ≠ gb154 ∧ k_ ≠ gb155)) (by (with_reducible repeat (first | apply V_alloc | apply V_drewN | apply V_drew)); exact V_mono HO_153000.out (fun _ hk => ⟨⟨hk.1, ⟨hk.2.2.1, ⟨hk.2.2.2.1, ⟨hk.2.2.2.2.1, hk.2.2.2.2.2⟩⟩⟩⟩, hk.2.1⟩)) hg hat); have n1_ := Aside0.mk (V_afterv (ok := (fun k_ => ((P0_0_ k_ ∨ P1_1_ k_ ∨ P1_2_ k_) ∨ w.heap.size ≤ k_) ∧ k_ ≠ gb152 ∧ k_ ≠ gb153 ∧ k_ ≠ gb154 ∧ k_ ≠ gb155)) (by (with_reducible repeat (first | apply V_alloc | apply V_drewN | apply V_drew)); exact V_mono HO_154001.out (fun _ hk => ⟨⟨hk.1, ⟨hk.2.2.1, ⟨hk.2.2.2.1, ⟨hk.2.2.2.2.1, hk.2.2.2.2.2⟩⟩⟩⟩, hk.2.1⟩)) hg hat); have n2_ := Aside0.mk (V_afterv (ok := (fun k_ => ((P0_0_ k_ ∨ P1_1_ k_ ∨ P1_2_ k_) ∨ w.heap.size ≤ k_) ∧ k_ ≠ gb152 ∧ k_ ≠ gb153 ∧ k_ ≠ gb154 ∧ k_ ≠ gb155)) (by (with_reducible repeat (first | apply V_alloc | apply V_drewN | apply V_drew)); exact V_mono HO_154002.out (fun _ hk => ⟨⟨hk.1, ⟨hk.2.2.1, ⟨hk.2.2.2.1, ⟨hk.2.2.2.2.1, hk.2.2.2.2.2⟩⟩⟩⟩, hk.2.1⟩)) hg hat); have n3_ := Aside0.mk (blk_grown (g := gb152) (o := .cells #[.slice A0_0 l0_0.length c0_0] 28 (0, 0)) (by (with_reducible repeat (first | refine blk_drewN ?_ _ | refine blk_drew ?_ | refine blk_alloc ?_ _)); exact BK152.out) hg (N_ne HO_156000.out BK152.out (by decide))); have n4_ := Aside0.mk (blk_grown (g := gb153) (o := .cells #[.string a1_0, .slice A1_1 l1_1.length c1_1, .slice A1_2 l1_2.length c1_2] 55 (0, 0)) (by (with_reducible repeat (first | refine blk_drewN ?_ _ | refine blk_drew ?_ | refine blk_alloc ?_ _)); exact BK153.out) hg (N_away HO_156000.out (fun _ hk => hk.2.2.1))); have n5_ := Aside0.mk (blk_grown (g := gb154) (o := .cells #[.slice none 0 0] 28 (0, 0)) (by (with_reducible repeat (first | refine blk_drewN ?_ _ | refine blk_drew ?_ | refine blk_alloc ?_ _)); exact BK154.out) hg (N_ne HO_156000.out BK154.out (by decide))); have n6_ := Aside0.mk (blk_grown (g := gb155) (o := .cells #[u156000] 28 (0, 0)) (by (with_reducible repeat (first | refine blk_drewN ?_ _ | refine blk_drew ?_ | refine blk_alloc ?_ _)); exact BK155.out) hg (N_ne HO_156000.out BK155.out (by decide))); have n7_ := Aside0.mk (hb); have n8_ := Aside0.mk (ho); clear HO_153000; clear HO_154001; clear HO_154002; clear BK152; clear BK153; clear BK154; clear BK155; clear HB; clear HO_156000; have HO_153000 := n0_; have HO_154001 := n1_; have HO_154002 := n2_; have BK152 := n3_; have BK153 := n4_; have BK154 := n5_; have BK155 := n6_; have HB := n7_; have HO161 := n8_; clear n0_ n1_ n2_ n3_ n4_ n5_ n6_ n7_ n8_; clear ho hb hg hat; obtain ⟨Ao91, co91, eo91⟩ := N_slice HO161.out; subst eo91; have hcz92_0 : w90.cell? ⟨gb155, 0, none⟩ = some (u156000) := (blk_cell BK155.out 0).trans rfl; have hfz92_0 := blk_frozen BK155.out 0) | ((with_reducible refine gate_callee (f := 54) rfl ?_); refine goesL_ (some 63) rfl rfl Tryd.func54 (by kernel_rfl) rfl #[.agg #[.slice Ao91 y159.length co91]] rfl (by (try simp only [List.map_toArray, List.map_cons, List.map_nil]); first | done | rfl | (simp only [List.length_drop, List.length_take]; rfl)) ?_; (with_reducible refine (spec_l03Copy.calls k1 _ _ y159 t162 _ ?side1 ?side2 A80.out).mono ?_); (case side1 => refine (N_reads' (e := 55) (base := w.heap.size) (ok := fun k_ => (((P0_0_ k_ ∨ P1_1_ k_ ∨ P1_2_ k_) ∨ w.heap.size ≤ k_) ∧ (k_ ≠ gb152 ∧ (k_ ≠ gb153 ∧ (k_ ≠ gb154 ∧ k_ ≠ gb155))))) (n := y159.length) (c := co91) ?_).2.2; exact (by (with_reducible repeat (first | apply N_alloc | apply N_drewN | apply N_drew)); exact (N_mono (N_far (p := ⟨gb155, 0, none⟩) (N_mono HO161.out (fun k_ hk => (⟨hk, hk.2.2.2.2⟩ : _ ∧ k_ ≠ gb155))) (fun _ hk => hk.2) (.slice Ao91 y159.length co91)) (fun _ h_ => h_.1)))); (case side2 => exact (N_reads' HO161.out).2.1); rintro e w93 ⟨v163, rfl, ho0, hb⟩; refine ⟨_, rfl, ?_⟩; have n0_ := Aside0.mk (V_elder' (by (with_reducible repeat (first | apply V_alloc | apply V_drewN | apply V_drew)); exact (V_mono (V_far (p := ⟨gb155, 0, none⟩) (V_mono HO_153000.out (fun k_ hk => (⟨hk, hk.1.2.2.2.2⟩ : _ ∧ k_ ≠ gb155))) (fun _ hk => hk.2) (.slice Ao91 y159.length co91)) (fun _ h_ => h_.1))) (S_base ho0) hb); have n1_ := Aside0.mk (V_elder' (by (with_reducible repeat (first | apply V_alloc | apply V_drewN | apply V_drew)); exact (V_mono (V_far (p := ⟨gb155, 0, none⟩) (V_mono HO_154001.out (fun k_ hk => (⟨hk, hk.1.2.2.2.2⟩ : _ ∧ k_ ≠ gb155))) (fun _ hk => hk.2) (.slice Ao91 y159.length co91)) (fun _ h_ => h_.1))) (S_base ho0) hb); have n2_ := Aside0.mk (V_elder' (by (with_reducible repeat (first | apply V_alloc | apply V_drewN | apply V_drew)); exact (V_mono (V_far (p := ⟨gb155, 0, none⟩) (V_mono HO_154002.out (fun k_ hk => (⟨hk, hk.1.2.2.2.2⟩ : _ ∧ k_ ≠ gb155))) (fun _ hk => hk.2) (.slice Ao91 y159.length co91)) (fun _ h_ => h_.1))) (S_base ho0) hb); have n3_ := Aside0.mk (N_elder' (by (with_reducible repeat (first | apply N_alloc | apply N_drewN | apply N_drew)); exact (N_mono (N_far (p := ⟨gb155, 0, none⟩) (N_mono HO161.out (fun k_ hk => (⟨hk, hk.2.2.2.2⟩ : _ ∧ k_ ≠ gb155))) (fun _ hk => hk.2) (.slice Ao91 y159.length co91)) (fun _ h_ => h_.1))) (S_base ho0) hb); have n4_ := Aside0.mk (N_lower (N_mono (ok' := fun k_ => ((P0_0_ k_ ∨ P1_1_ k_ ∨ P1_2_ k_) ∨ w.heap.size ≤ k_) ∧ some k_ ≠ (.slice Ao91 y159.length co91 : Value).ownBlock ∧ k_ ≠ gb152 ∧ k_ ≠ gb153 ∧ k_ ≠ gb154 ∧ k_ ≠ gb155) (S_N (S_bound ho0)) (fun k_ hk_ => ⟨(.inr (Nat.le_trans (below_size (by repeat (first | (with_reducible first | exact HB.out | apply below_alloc | apply pw_below_drewN | apply below_drew1 | refine below_set ?_ GE152.out | refine below_set ?_ GE153.out | refine below_set ?_ GE154.out | refine below_set ?_ GE155.out) | exact HB.out))) hk_.2.1)), (Kd.fresh' (N_lt (by (with_reducible repeat (first | apply N_alloc | apply N_drewN | apply N_drew)); exact (N_mono (N_far (p := ⟨gb155, 0, none⟩) (N_mono HO161.out (fun k_ hk => (⟨hk, hk.2.2.2.2⟩ : _ ∧ k_ ≠ gb155))) (fun _ hk => hk.2) (.slice Ao91 y159.length co91)) (fun _ h_ => h_.1)))) k_ hk_.2.1), (Kd.freshB (g := gb152) (o := .cells #[.slice A0_0 l0_0.length c0_0] 28 (0, 0)) (by (with_reducible repeat (first | refine blk_drewN ?_ _ | refine blk_drew ?_ | refine blk_alloc ?_ _)); refine blk_far ?_ NB152_155.out _; (with_reducible repeat (first | refine blk_drewN ?_ _ | refine blk_drew ?_ | refine blk_alloc ?_ _)); exact BK152.out) k_ hk_.2.1), (Kd.freshB (g := gb153) (o := .cells #[.string a1_0, .slice A1_1 l1_1.length c1_1, .slice A1_2 l1_2.length c1_2] 55 (0, 0)) (by (with_reducible repeat (first | refine blk_drewN ?_ _ | refine blk_drew ?_ | refine blk_alloc ?_ _)); refine blk_far ?_ NB153_155.out _; (with_reducible repeat (first | refine blk_drewN ?_ _ | refine blk_drew ?_ | refine blk_alloc ?_ _)); exact BK153.out) k_ hk_.2.1), (Kd.freshB (g := gb154) (o := .cells #[.slice none 0 0] 28 (0, 0)) (by (with_reducible repeat (first | refine blk_drewN ?_ _ | refine blk_drew ?_ | refine blk_alloc ?_ _)); refine blk_far ?_ NB154_155.out _; (with_reducible repeat (first | refine blk_drewN ?_ _ | refine blk_drew ?_ | refine blk_alloc ?_ _)); exact BK154.out) k_ hk_.2.1), (Kd.freshB (g := gb155) (o := .cells #[.slice Ao91 y159.length co91] 28 (0, 0)) (by (with_reducible repeat (first | refine blk_drewN ?_ _ | refine blk_drew ?_ | refine blk_alloc ?_ _)); refine blk_put (cs := #[u156000]) ?_ 0 _ rfl; (with_reducible repeat (first | refine blk_drewN ?_ _ | refine blk_drew ?_ | refine blk_alloc ?_ _)); exact BK155.out) k_ hk_.2.1)⟩)) (below_size (by repeat (first | (with_reducible first | exact HB.out | apply below_alloc | apply pw_below_drewN | apply below_drew1 | refine below_set ?_ GE152.out | refine below_set ?_ GE153.out | refine below_set ?_ GE154.out | refine below_set ?_ GE155.out) | exact HB.out)))); have n5_ := Aside0.mk (blk_below (g := gb152) (o := .cells #[.slice A0_0 l0_0.length c0_0] 28 (0, 0)) (by (with_reducible repeat (first | refine blk_drewN ?_ _ | refine blk_drew ?_ | refine blk_alloc ?_ _)); refine blk_far ?_ NB152_155.out _; (with_reducible repeat (first | refine blk_drewN ?_ _ | refine blk_drew ?_ | refine blk_alloc ?_ _)); exact BK152.out) hb); have n6_ := Aside0.mk (blk_below (g := gb153) (o := .cells #[.string a1_0, .slice A1_1 l1_1.length c1_1, .slice A1_2 l1_2.length c1_2] 55 (0, 0)) (by (with_reducible repeat (first | refine blk_drewN ?_ _ | refine blk_drew ?_ | refine blk_alloc ?_ _)); refine blk_far ?_ NB153_155.out _; (with_reducible repeat (first | refine blk_drewN ?_ _ | refine blk_drew ?_ | refine blk_alloc ?_ _)); exact BK153.out) hb); have n7_ := Aside0.mk (blk_below (g := gb154) (o := .cells #[.slice none 0 0] 28 (0, 0)) (by (with_reducible repeat (first | refine blk_drewN ?_ _ | refine blk_drew ?_ | refine blk_alloc ?_ _)); refine blk_far ?_ NB154_155.out _; (with_reducible repeat (first | refine blk_drewN ?_ _ | refine blk_drew ?_ | refine blk_alloc ?_ _)); exact BK154.out) hb); have n8_ := Aside0.mk (blk_below (g := gb155) (o := .cells #[.slice Ao91 y159.length co91] 28 (0, 0)) (by (with_reducible repeat (first | refine blk_drewN ?_ _ | refine blk_drew ?_ | refine blk_alloc ?_ _)); refine blk_put (cs := #[u156000]) ?_ 0 _ rfl; (with_reducible repeat (first | refine blk_drewN ?_ _ | refine blk_drew ?_ | refine blk_alloc ?_ _)); exact BK155.out) hb); have n9_ := Aside0.mk (below_step (by repeat (first | (with_reducible first | exact HB.out | apply below_alloc | apply pw_below_drewN | apply below_drew1 | refine below_set ?_ GE152.out | refine below_set ?_ GE153.out | refine below_set ?_ GE154.out | refine below_set ?_ GE155.out) | exact HB.out)) hb); clear HO_153000; clear HO_154001; clear HO_154002; clear HO161; clear BK152; clear BK153; clear BK154; clear BK155; clear HB; have HO_153000 := n0_; have HO_154001 := n1_; have HO_154002 := n2_; have HO161 := n3_; have HO164 := n4_; have BK152 := n5_; have BK153 := n6_; have BK154 := n7_; have BK155 := n8_; have HB := n9_; clear n0_ n1_ n2_ n3_ n4_ n5_ n6_ n7_ n8_ n9_; (try clear hb); (try clear hb2); (try clear hk); (try clear hi); (try clear ho0); obtain ⟨Ao94, co94, eo94⟩ := N_slice HO164.out; subst eo94; have hcz95_0 : w93.cell? ⟨gb154, 0, none⟩ = some (.slice none 0 0) := (blk_cell BK154.out 0).trans rfl; have hfz95_0 := blk_frozen BK154.out 0))
      refine bodyPost_ret (results_cell_row rfl _ _ gb154 28 #[.slice Ao94 t162.length co94] (0, 0) _ rfl (by (with_reducible repeat (first | refine blk_drewN ?_ _ | refine blk_drew ?_ | refine blk_alloc ?_ _)); refine blk_put (cs := #[.slice none 0 0]) ?_ 0 _ rfl; (with_reducible repeat (first | refine blk_drewN ?_ _ | refine blk_drew ?_ | refine blk_alloc ?_ _)); exact BK154.out) Tryd.underlying28 rfl (by kernel_rfl)) rfl ?_
      exact ⟨_, by first | rfl | (simp [errW_none, errW_some] <;> rfl) | (simp [*, errW_none, errW_some] <;> rfl), by (with_reducible repeat (first | apply N_alloc | apply N_drewN | apply N_drew)); exact N_mono (N_far (p := ⟨gb154, 0, none⟩) (N_mono HO164.out (fun k_ hk => (⟨hk, hk.2.2.2.2.1⟩ : _ ∧ k_ ≠ gb154))) (fun _ hk => hk.2) (.slice Ao94 t162.length co94)) (fun _ hk => hk.1.1), by repeat (first | (with_reducible first | exact HB.out | apply below_alloc | apply pw_below_drewN | apply below_drew1 | refine below_set ?_ GE152.out | refine below_set ?_ GE153.out | refine below_set ?_ GE154.out | refine below_set ?_ GE155.out) | exact HB.out)⟩
     ·
      rw [if_neg c79] at H
      exact absurd H (by simp)
end Go.Proofs.YtcgojdhbphocgaaDoor.F

namespace Go.Proofs.YtcgojdhbphocgaaDoor.F
open Go.RowKit Go.Proofs.YtcgojdhbphocgaaDoorW.PrintWords Go.Proofs.YtcgojdhbphocgaaDoorW.PrintWords.Kd Go.Proofs.YtcgojdhbphocgaaDoorW.PrintMore.Kd Go.Proofs.YtcgojdhbphocgaaDoorW.PrintLast Go.Proofs.YtcgojdhbphocgaaDoorW.PrintMore
attribute [local go_sem] max2_int min2_int max_two min_two max_three min_three max_four min_four   -- for this text's walks alone
set_option linter.unusedVariables false
set_option linter.unusedSimpArgs false
def spec_SyncFile.f (k : Nat) (l0_0 : List (S55)) (a1 : ByteArray) : Option ((List (S55)) × Bool) := (spec_Content.f k l0_0 a1).bind fun bt181 => (if bt181.2 = true then ((spec_l03Put.f k l0_0 a1 bt181.1 ([] : List Int)).bind fun t185 => (some (t185, true))) else ((spec_l03Copy.f k l0_0).bind fun t188 => (some (t188, false))))
set_option maxHeartbeats 8000000 in
set_option maxRecDepth 100000 in
theorem spec_SyncFile.calls (k : Nat) (P0_0_ : Nat → Prop) (A0_0 : Option Addr) (c0_0 : Nat) (l0_0 : List (S55)) (a1 : ByteArray) (r1 : List (S55)) (r2 : Bool) (w : World) (hs0_0 : Kd.V k55 55 w w.heap.size (fun k_ => P0_0_ k_) (.slice A0_0 l0_0.length c0_0) l0_0) (h : spec_SyncFile.f k l0_0 a1 = some (r1, r2)) :
  Calls Tryd.prog 43 #[.agg #[.slice A0_0 l0_0.length c0_0], .string a1] w fun e w' => ∃ v0_ : Value, e = .returned (.tuple #[.agg #[v0_], .bool r2]) ∧ Kd.N k55 55 w' w.heap.size (fun k_ => (P0_0_ k_ ∨ w.heap.size ≤ k_)) v0_ r1 ∧ Below w.heap.size w w' := by
 have hu28 := Tryd.underlying28
 have hu55 := Tryd.underlying55
 have HO0_0 := Aside0.mk (show Kd.V k55 55 w w.heap.size (fun k_ => (P0_0_ k_ ∨ w.heap.size ≤ k_)) (.slice A0_0 l0_0.length c0_0) l0_0 from V_mono hs0_0 (fun k_ hk => .inl hk))
 have HB := Aside0.mk (Below.refl w.heap.size w)
 have H : ((spec_Content.f k l0_0 a1).bind fun bt181 => (if bt181.2 = true then ((spec_l03Put.f k l0_0 a1 bt181.1 ([] : List Int)).bind fun t185 => (some (t185, true))) else ((spec_l03Copy.f k l0_0).bind fun t188 => (some (t188, false))))) = some (r1, r2) := h
 clear h
 replace H := Option.bind_eq_some_iff.mp H
 obtain ⟨⟨t181, t184⟩, A30, H⟩ := H
 replace H : (if t184 = true then ((spec_l03Put.f k l0_0 a1 t181 ([] : List Int)).bind fun t185 => (some (t185, true))) else ((spec_l03Copy.f k l0_0).bind fun t188 => (some (t188, false)))) = some (r1, r2) := H
 have A3 := Aside0.mk A30
 clear A30
 by_cases c4 : t184 = true
 ·
  subst c4
  have H1 : ((spec_l03Put.f k l0_0 a1 t181 ([] : List Int)).bind fun t185 => (some (t185, true))) = some (r1, r2) := by rw [if_pos rfl] at H; exact H
  clear H
  have H := H1
  clear H1
  replace H := Option.bind_eq_some_iff.mp H
  obtain ⟨t185, A50, H⟩ := H
  replace H : (some (t185, true)) = some (r1, r2) := H
  have A5 := Aside0.mk A50
  clear A50
  simp only [Option.some.injEq, Prod.mk.injEq] at H
  obtain ⟨rfl, rfl⟩ := H
  go_enter Tryd.func43, Tryd.ntmps43
  go_wp2_with (first | ((with_reducible refine gate_dst (N := 2) rfl ?_); refine box_event ?hg (N := 2) ?hd (cs := #[.slice A0_0 l0_0.length c0_0]) (t := 28) ?hr ?_; (case hd => rfl); (case hg => rfl); (case hr => first | (go_simp; done) | (go_simp; rfl)); intro gb179 hg w6 hbox hb; have n0_ := Aside0.mk (V_below (V_elderB (by (with_reducible repeat (first | apply V_alloc | apply V_drewN | apply V_drew)); exact HO0_0.out) gb179 (Nat.le_of_eq hg.symm)) hb); have n1_ := Aside0.mk (below_step (by repeat (first | (with_reducible first | exact HB.out | apply below_alloc | apply pw_below_drewN | apply below_drew1) | exact HB.out)) hb); have n2_ := Aside0.mk (hbox); have n3_ := Aside0.mk ((by rw [hg]; exact (below_size (by repeat (first | (with_reducible first | exact HB.out | apply below_alloc | apply pw_below_drewN | apply below_drew1) | exact HB.out))) : w.heap.size ≤ gb179)); have n4_ := Aside0.mk ((by rw [hg]; exact (below_size (by repeat (first | (with_reducible first | exact HB.out | apply below_alloc | apply pw_below_drewN | apply below_drew1) | exact HB.out))) : w.heap.size ≤ gb179)); clear HO0_0; clear HB; have HO0_0 := n0_; have HB := n1_; have BK179 := n2_; have GW179 := n3_; have GE179 := n4_; clear n0_ n1_ n2_ n3_ n4_; clear hb hbox hg) | ((with_reducible refine gate_dst (N := 4) rfl ?_); refine box_event ?hg (N := 4) ?hd (cs := #[.slice none 0 0]) (t := 28) ?hr ?_; (case hd => rfl); (case hg => rfl); (case hr => first | (go_simp; done) | (go_simp; rfl)); intro gb180 hg w7 hbox hb; have n0_ := Aside0.mk (V_below (V_elderB (by (with_reducible repeat (first | apply V_alloc | apply V_drewN | apply V_drew)); exact HO0_0.out) gb180 (Nat.le_of_eq hg.symm)) hb); have n1_ := Aside0.mk (blk_below (g := gb179) (o := .cells #[.slice A0_0 l0_0.length c0_0] 28 (0, 0)) (by (with_reducible repeat (first | refine blk_drewN ?_ _ | refine blk_drew ?_ | refine blk_alloc ?_ _)); exact BK179.out) hb); have n2_ := Aside0.mk (below_step (by repeat (first | (with_reducible first | exact HB.out | apply below_alloc | apply pw_below_drewN | apply below_drew1 | refine below_set ?_ GE179.out) | exact HB.out)) hb); have n3_ := Aside0.mk (hbox); have n4_ := Aside0.mk ((by rw [hg]; exact (below_size (by repeat (first | (with_reducible first | exact HB.out | apply below_alloc | apply pw_below_drewN | apply below_drew1 | refine below_set ?_ GE179.out) | exact HB.out))) : w.heap.size ≤ gb180)); have n5_ := Aside0.mk ((by rw [hg]; exact (below_size (by repeat (first | (with_reducible first | exact HB.out | apply below_alloc | apply pw_below_drewN | apply below_drew1 | refine below_set ?_ GE179.out) | exact HB.out))) : w.heap.size ≤ gb180)); have n6_ := Aside0.mk ((by rw [hg]; exact Nat.ne_of_lt (blk_lt (g := gb179) (o := .cells #[.slice A0_0 l0_0.length c0_0] 28 (0, 0)) (by (with_reducible repeat (first | refine blk_drewN ?_ _ | refine blk_drew ?_ | refine blk_alloc ?_ _)); exact BK179.out)) : gb179 ≠ gb180)); have n7_ := Aside0.mk ((by rw [hg]; exact Nat.ne_of_gt (blk_lt (g := gb179) (o := .cells #[.slice A0_0 l0_0.length c0_0] 28 (0, 0)) (by (with_reducible repeat (first | refine blk_drewN ?_ _ | refine blk_drew ?_ | refine blk_alloc ?_ _)); exact BK179.out)) : gb180 ≠ gb179)); clear HO0_0; clear BK179; clear HB; have HO0_0 := n0_; have BK179 := n1_; have HB := n2_; have BK180 := n3_; have GW180 := n4_; have GE180 := n5_; have NB179_180 := n6_; have NB180_179 := n7_; clear n0_ n1_ n2_ n3_ n4_ n5_ n6_ n7_; clear hb hbox hg; have hnb8 := NB179_180.out; have hnc8 := NB180_179.out; have hcz9_0 : w7.cell? ⟨gb179, 0, none⟩ = some (.slice A0_0 l0_0.length c0_0) := (blk_cell BK179.out 0).trans rfl; have hfz9_0 := blk_frozen BK179.out 0) | ((with_reducible refine gate_callee (f := 50) rfl ?_); refine goesL_ (some 11) rfl rfl Tryd.func50 (by kernel_rfl) rfl #[.agg #[.slice A0_0 l0_0.length c0_0], .string a1] rfl (by (try simp only [List.map_toArray, List.map_cons, List.map_nil]); first | done | rfl | (simp only [List.length_drop, List.length_take]; rfl)) ?_; (with_reducible refine (spec_Content.calls k _ _ l0_0 a1 t181 true _ ?side1 ?side2 A3.out).mono ?_); (case side1 => repeat (first | exact (V_reads' HO0_0.out).2.2 | (with_reducible refine C_alloc ?_ _) | (with_reducible refine C_drewN ?_ _) | (with_reducible refine C_drew ?_))); (case side2 => exact (V_reads' HO0_0.out).2.1); rintro e w10 ⟨v182, rfl, ho0, hb⟩; refine ⟨_, rfl, ?_⟩; have n0_ := Aside0.mk (V_elder' (by (with_reducible repeat (first | apply V_alloc | apply V_drewN | apply V_drew)); exact HO0_0.out) (R_base ho0) hb); have n1_ := Aside0.mk (R_lower (R_newM (M := fun k_ => (w.heap.size ≤ k_)) ho0 (below_size (by repeat (first | (with_reducible first | exact HB.out | apply below_alloc | apply pw_below_drewN | apply below_drew1 | refine below_set ?_ GE179.out | refine below_set ?_ GE180.out) | exact HB.out))) (fun k_ h_ => h_)) (below_size (by repeat (first | (with_reducible first | exact HB.out | apply below_alloc | apply pw_below_drewN | apply below_drew1 | refine below_set ?_ GE179.out | refine below_set ?_ GE180.out) | exact HB.out)))); have n2_ := Aside0.mk (blk_below (g := gb179) (o := .cells #[.slice A0_0 l0_0.length c0_0] 28 (0, 0)) (by (with_reducible repeat (first | refine blk_drewN ?_ _ | refine blk_drew ?_ | refine blk_alloc ?_ _)); exact BK179.out) hb); have n3_ := Aside0.mk (blk_below (g := gb180) (o := .cells #[.slice none 0 0] 28 (0, 0)) (by (with_reducible repeat (first | refine blk_drewN ?_ _ | refine blk_drew ?_ | refine blk_alloc ?_ _)); exact BK180.out) hb); have n4_ := Aside0.mk (below_step (by repeat (first | (with_reducible first | exact HB.out | apply below_alloc | apply pw_below_drewN | apply below_drew1 | refine below_set ?_ GE179.out | refine below_set ?_ GE180.out) | exact HB.out)) hb); clear HO0_0; clear BK179; clear BK180; clear HB; have HO0_0 := n0_; have HO183 := n1_; have BK179 := n2_; have BK180 := n3_; have HB := n4_; clear n0_ n1_ n2_ n3_ n4_; (try clear hb); (try clear hb2); (try clear hk); (try clear hi); (try clear ho0); have hcz11_0 : w10.cell? ⟨gb179, 0, none⟩ = some (.slice A0_0 l0_0.length c0_0) := (blk_cell BK179.out 0).trans rfl; have hfz11_0 := blk_frozen BK179.out 0; obtain ⟨Ao12, co12, eo12⟩ := R_slice HO183.out; subst eo12) | ((with_reducible refine gate_callee (f := 77) rfl ?_); refine goesL_ (some 22) rfl rfl Tryd.func77 (by kernel_rfl) rfl #[.agg #[.slice A0_0 l0_0.length c0_0], .agg #[.string a1, .slice Ao12 t181.length co12, .slice none 0 0]] rfl (by (try simp only [List.map_toArray, List.map_cons, List.map_nil]); first | done | rfl | (simp only [List.length_drop, List.length_take]; rfl)) ?_; (refine (spec_l03Put.calls k (fun k_ => ((((P0_0_ k_ ∨ w.heap.size ≤ k_) ∧ k_ ≠ gb179) ∧ k_ ≠ gb180) ∧ some k_ ≠ (.slice Ao12 t181.length co12 : Value).ownBlock)) _ _ l0_0 a1 (fun k_ => some k_ = (.slice Ao12 t181.length co12 : Value).ownBlock) _ _ t181 (fun k_ => False) _ _ ([] : List Int) t185 _ ?side1 ?side2 ?side3 A5.out).mono ?_); (case side1 => exact HO0_0.out); (case side2 => exact R_V (R_tight rfl (R_types (R_types (HO183.out) BK179.out (by decide)) BK180.out (by decide)))); (case side3 => exact V_nil _ _ _ _ _); rintro e w13 ⟨v186, rfl, ho0, hb⟩; refine ⟨_, rfl, ?_⟩; have n0_ := Aside0.mk (V_elder' (by (with_reducible repeat (first | apply V_alloc | apply V_drewN | apply V_drew)); exact HO0_0.out) (N_base ho0) hb); have n1_ := Aside0.mk (R_below (by (with_reducible repeat (first | apply R_alloc | apply R_drewN | apply R_drew)); exact HO183.out) hb); have n2_ := Aside0.mk (N_lower (N_mono (ok' := fun k_ => (P0_0_ k_ ∨ w.heap.size ≤ k_) ∧ k_ ≠ gb179 ∧ k_ ≠ gb180) ho0 (fun k_ hk_ => ⟨Or.elim hk_ (fun hs_ => Or.elim hs_ (fun hs_ => hs_.1.1.1) (fun hs_ => Or.elim hs_ (fun hs_ => (.inr (((R_types (R_types (HO183.out) BK179.out (by decide)) BK180.out (by decide)).1 k_ hs_.symm).1.1.1))) (fun hs_ => (hs_).elim))) (fun hn_ => (.inr (Nat.le_trans (below_size (by repeat (first | (with_reducible first | exact HB.out | apply below_alloc | apply pw_below_drewN | apply below_drew1 | refine below_set ?_ GE179.out | refine below_set ?_ GE180.out) | exact HB.out))) hn_))), Or.elim hk_ (fun hs_ => Or.elim hs_ (fun hs_ => hs_.1.1.2) (fun hs_ => Or.elim hs_ (fun hs_ => ((R_types (R_types (HO183.out) BK179.out (by decide)) BK180.out (by decide)).1 k_ hs_.symm).1.2) (fun hs_ => (hs_).elim))) (fun hn_ => (Kd.freshB (g := gb179) (o := .cells #[.slice A0_0 l0_0.length c0_0] 28 (0, 0)) (by (with_reducible repeat (first | refine blk_drewN ?_ _ | refine blk_drew ?_ | refine blk_alloc ?_ _)); exact BK179.out) k_ hn_)), Or.elim hk_ (fun hs_ => Or.elim hs_ (fun hs_ => hs_.1.2) (fun hs_ => Or.elim hs_ (fun hs_ => ((R_types (R_types (HO183.out) BK179.out (by decide)) BK180.out (by decide)).1 k_ hs_.symm).2) (fun hs_ => (hs_).elim))) (fun hn_ => (Kd.freshB (g := gb180) (o := .cells #[.slice none 0 0] 28 (0, 0)) (by (with_reducible repeat (first | refine blk_drewN ?_ _ | refine blk_drew ?_ | refine blk_alloc ?_ _)); exact BK180.out) k_ hn_))⟩)) (below_size (by repeat (first | (with_reducible first | exact HB.out | apply below_alloc | apply pw_below_drewN | apply below_drew1 | refine below_set ?_ GE179.out | refine below_set ?_ GE180.out) | exact HB.out)))); have n3_ := Aside0.mk (blk_below (g := gb179) (o := .cells #[.slice A0_0 l0_0.length c0_0] 28 (0, 0)) (by (with_reducible repeat (first | refine blk_drewN ?_ _ | refine blk_drew ?_ | refine blk_alloc ?_ _)); exact BK179.out) hb); have n4_ := Aside0.mk (blk_below (g := gb180) (o := .cells #[.slice none 0 0] 28 (0, 0)) (by (with_reducible repeat (first | refine blk_drewN ?_ _ | refine blk_drew ?_ | refine blk_alloc ?_ _)); exact BK180.out) hb); have n5_ := Aside0.mk (below_step (by repeat (first | (with_reducible first | exact HB.out | apply below_alloc | apply pw_below_drewN | apply below_drew1 | refine below_set ?_ GE179.out | refine below_set ?_ GE180.out) | exact HB.out)) hb); clear HO0_0; clear HO183; clear BK179; clear BK180; clear HB; have HO0_0 := n0_; have HO183 := n1_; have HO187 := n2_; have BK179 := n3_; have BK180 := n4_; have HB := n5_; clear n0_ n1_ n2_ n3_ n4_ n5_; (try clear hb); (try clear hb2); (try clear hk); (try clear hi); (try clear ho0); obtain ⟨Ao14, co14, eo14⟩ := N_slice HO187.out; subst eo14; have hcz15_0 : w13.cell? ⟨gb180, 0, none⟩ = some (.slice none 0 0) := (blk_cell BK180.out 0).trans rfl; have hfz15_0 := blk_frozen BK180.out 0))
  refine bodyPost_ret (results_ct rfl _ _ gb180 28 #[.slice Ao14 t185.length co14] (0, 0) _ rfl (by (with_reducible repeat (first | refine blk_drewN ?_ _ | refine blk_drew ?_ | refine blk_alloc ?_ _)); refine blk_put (cs := #[.slice none 0 0]) ?_ 0 _ rfl; (with_reducible repeat (first | refine blk_drewN ?_ _ | refine blk_drew ?_ | refine blk_alloc ?_ _)); exact BK180.out) Tryd.underlying28 rfl (by kernel_rfl)) rfl ?_
  exact ⟨_, by first | rfl | (simp [errW_none, errW_some] <;> rfl) | (simp [*, errW_none, errW_some] <;> rfl), by (with_reducible repeat (first | apply N_alloc | apply N_drewN | apply N_drew)); exact N_mono (N_far (p := ⟨gb180, 0, none⟩) (N_mono HO187.out (fun k_ hk => (⟨hk, hk.2.2⟩ : _ ∧ k_ ≠ gb180))) (fun _ hk => hk.2) (.slice Ao14 t185.length co14)) (fun _ hk => hk.1.1), by repeat (first | (with_reducible first | exact HB.out | apply below_alloc | apply pw_below_drewN | apply below_drew1 | refine below_set ?_ GE179.out | refine below_set ?_ GE180.out) | exact HB.out)⟩
 ·
  replace c4 := Bool.eq_false_iff.mpr c4
  subst c4
  have H1 : ((spec_l03Copy.f k l0_0).bind fun t188 => (some (t188, false))) = some (r1, r2) := by rw [if_neg (show ¬ (false = true) by decide)] at H; exact H
  clear H
  have H := H1
  clear H1
  replace H := Option.bind_eq_some_iff.mp H
  obtain ⟨t188, A160, H⟩ := H
  replace H : (some (t188, false)) = some (r1, r2) := H
  have A16 := Aside0.mk A160
  clear A160
  simp only [Option.some.injEq, Prod.mk.injEq] at H
  obtain ⟨rfl, rfl⟩ := H
  go_enter Tryd.func43, Tryd.ntmps43
  go_wp2_with (first | ((with_reducible refine gate_dst (N := 2) rfl ?_); refine box_event ?hg (N := 2) ?hd (cs := #[.slice A0_0 l0_0.length c0_0]) (t := 28) ?hr ?_; (case hd => rfl); (case hg => rfl); (case hr => first | (go_simp; done) | (go_simp; rfl)); intro gb179 hg w17 hbox hb; have n0_ := Aside0.mk (V_below (V_elderB (by (with_reducible repeat (first | apply V_alloc | apply V_drewN | apply V_drew)); exact HO0_0.out) gb179 (Nat.le_of_eq hg.symm)) hb); have n1_ := Aside0.mk (below_step (by repeat (first | (with_reducible first | exact HB.out | apply below_alloc | apply pw_below_drewN | apply below_drew1) | exact HB.out)) hb); have n2_ := Aside0.mk (hbox); have n3_ := Aside0.mk ((by rw [hg]; exact (below_size (by repeat (first | (with_reducible first | exact HB.out | apply below_alloc | apply pw_below_drewN | apply below_drew1) | exact HB.out))) : w.heap.size ≤ gb179)); have n4_ := Aside0.mk ((by rw [hg]; exact (below_size (by repeat (first | (with_reducible first | exact HB.out | apply below_alloc | apply pw_below_drewN | apply below_drew1) | exact HB.out))) : w.heap.size ≤ gb179)); clear HO0_0; clear HB; have HO0_0 := n0_; have HB := n1_; have BK179 := n2_; have GW179 := n3_; have GE179 := n4_; clear n0_ n1_ n2_ n3_ n4_; clear hb hbox hg) | ((with_reducible refine gate_dst (N := 4) rfl ?_); refine box_event ?hg (N := 4) ?hd (cs := #[.slice none 0 0]) (t := 28) ?hr ?_; (case hd => rfl); (case hg => rfl); (case hr => first | (go_simp; done) | (go_simp; rfl)); intro gb180 hg w18 hbox hb; have n0_ := Aside0.mk (V_below (V_elderB (by (with_reducible repeat (first | apply V_alloc | apply V_drewN | apply V_drew)); exact HO0_0.out) gb180 (Nat.le_of_eq hg.symm)) hb); have n1_ := Aside0.mk (blk_below (g := gb179) (o := .cells #[.slice A0_0 l0_0.length c0_0] 28 (0, 0)) (by (with_reducible repeat (first | refine blk_drewN ?_ _ | refine blk_drew ?_ | refine blk_alloc ?_ _)); exact BK179.out) hb); have n2_ := Aside0.mk (below_step (by repeat (first | (with_reducible first | exact HB.out | apply below_alloc | apply pw_below_drewN | apply below_drew1 | refine below_set ?_ GE179.out) | exact HB.out)) hb); have n3_ := Aside0.mk (hbox); have n4_ := Aside0.mk ((by rw [hg]; exact (below_size (by repeat (first | (with_reducible first | exact HB.out | apply below_alloc | apply pw_below_drewN | apply below_drew1 | refine below_set ?_ GE179.out) | exact HB.out))) : w.heap.size ≤ gb180)); have n5_ := Aside0.mk ((by rw [hg]; exact (below_size (by repeat (first | (with_reducible first | exact HB.out | apply below_alloc | apply pw_below_drewN | apply below_drew1 | refine below_set ?_ GE179.out) | exact HB.out))) : w.heap.size ≤ gb180)); have n6_ := Aside0.mk ((by rw [hg]; exact Nat.ne_of_lt (blk_lt (g := gb179) (o := .cells #[.slice A0_0 l0_0.length c0_0] 28 (0, 0)) (by (with_reducible repeat (first | refine blk_drewN ?_ _ | refine blk_drew ?_ | refine blk_alloc ?_ _)); exact BK179.out)) : gb179 ≠ gb180)); have n7_ := Aside0.mk ((by rw [hg]; exact Nat.ne_of_gt (blk_lt (g := gb179) (o := .cells #[.slice A0_0 l0_0.length c0_0] 28 (0, 0)) (by (with_reducible repeat (first | refine blk_drewN ?_ _ | refine blk_drew ?_ | refine blk_alloc ?_ _)); exact BK179.out)) : gb180 ≠ gb179)); clear HO0_0; clear BK179; clear HB; have HO0_0 := n0_; have BK179 := n1_; have HB := n2_; have BK180 := n3_; have GW180 := n4_; have GE180 := n5_; have NB179_180 := n6_; have NB180_179 := n7_; clear n0_ n1_ n2_ n3_ n4_ n5_ n6_ n7_; clear hb hbox hg; have hnb19 := NB179_180.out; have hnc19 := NB180_179.out; have hcz20_0 : w18.cell? ⟨gb179, 0, none⟩ = some (.slice A0_0 l0_0.length c0_0) := (blk_cell BK179.out 0).trans rfl; have hfz20_0 := blk_frozen BK179.out 0) | ((with_reducible refine gate_callee (f := 50) rfl ?_); refine goesL_ (some 11) rfl rfl Tryd.func50 (by kernel_rfl) rfl #[.agg #[.slice A0_0 l0_0.length c0_0], .string a1] rfl (by (try simp only [List.map_toArray, List.map_cons, List.map_nil]); first | done | rfl | (simp only [List.length_drop, List.length_take]; rfl)) ?_; (with_reducible refine (spec_Content.calls k _ _ l0_0 a1 t181 false _ ?side1 ?side2 A3.out).mono ?_); (case side1 => repeat (first | exact (V_reads' HO0_0.out).2.2 | (with_reducible refine C_alloc ?_ _) | (with_reducible refine C_drewN ?_ _) | (with_reducible refine C_drew ?_))); (case side2 => exact (V_reads' HO0_0.out).2.1); rintro e w21 ⟨v182, rfl, ho0, hb⟩; refine ⟨_, rfl, ?_⟩; have n0_ := Aside0.mk (V_elder' (by (with_reducible repeat (first | apply V_alloc | apply V_drewN | apply V_drew)); exact HO0_0.out) (R_base ho0) hb); have n1_ := Aside0.mk (R_lower (R_newM (M := fun k_ => (w.heap.size ≤ k_)) ho0 (below_size (by repeat (first | (with_reducible first | exact HB.out | apply below_alloc | apply pw_below_drewN | apply below_drew1 | refine below_set ?_ GE179.out | refine below_set ?_ GE180.out) | exact HB.out))) (fun k_ h_ => h_)) (below_size (by repeat (first | (with_reducible first | exact HB.out | apply below_alloc | apply pw_below_drewN | apply below_drew1 | refine below_set ?_ GE179.out | refine below_set ?_ GE180.out) | exact HB.out)))); have n2_ := Aside0.mk (blk_below (g := gb179) (o := .cells #[.slice A0_0 l0_0.length c0_0] 28 (0, 0)) (by (with_reducible repeat (first | refine blk_drewN ?_ _ | refine blk_drew ?_ | refine blk_alloc ?_ _)); exact BK179.out) hb); have n3_ := Aside0.mk (blk_below (g := gb180) (o := .cells #[.slice none 0 0] 28 (0, 0)) (by (with_reducible repeat (first | refine blk_drewN ?_ _ | refine blk_drew ?_ | refine blk_alloc ?_ _)); exact BK180.out) hb); have n4_ := Aside0.mk (below_step (by repeat (first | (with_reducible first | exact HB.out | apply below_alloc | apply pw_below_drewN | apply below_drew1 | refine below_set ?_ GE179.out | refine below_set ?_ GE180.out) | exact HB.out)) hb); clear HO0_0; clear BK179; clear BK180; clear HB; have HO0_0 := n0_; have HO183 := n1_; have BK179 := n2_; have BK180 := n3_; have HB := n4_; clear n0_ n1_ n2_ n3_ n4_; (try clear hb); (try clear hb2); (try clear hk); (try clear hi); (try clear ho0); have hcz22_0 : w21.cell? ⟨gb179, 0, none⟩ = some (.slice A0_0 l0_0.length c0_0) := (blk_cell BK179.out 0).trans rfl; have hfz22_0 := blk_frozen BK179.out 0) | ((with_reducible refine gate_callee (f := 54) rfl ?_); refine goesL_ (some 17) rfl rfl Tryd.func54 (by kernel_rfl) rfl #[.agg #[.slice A0_0 l0_0.length c0_0]] rfl (by (try simp only [List.map_toArray, List.map_cons, List.map_nil]); first | done | rfl | (simp only [List.length_drop, List.length_take]; rfl)) ?_; (with_reducible refine (spec_l03Copy.calls k _ _ l0_0 t188 _ ?side1 ?side2 A16.out).mono ?_); (case side1 => repeat (first | exact (V_reads' HO0_0.out).2.2 | (with_reducible refine C_alloc ?_ _) | (with_reducible refine C_drewN ?_ _) | (with_reducible refine C_drew ?_))); (case side2 => exact (V_reads' HO0_0.out).2.1); rintro e w23 ⟨v189, rfl, ho0, hb⟩; refine ⟨_, rfl, ?_⟩; have n0_ := Aside0.mk (V_elder' (by (with_reducible repeat (first | apply V_alloc | apply V_drewN | apply V_drew)); exact HO0_0.out) (S_base ho0) hb); have n1_ := Aside0.mk (R_below (by (with_reducible repeat (first | apply R_alloc | apply R_drewN | apply R_drew)); exact HO183.out) hb); have n2_ := Aside0.mk (N_lower (N_mono (ok' := fun k_ => (P0_0_ k_ ∨ w.heap.size ≤ k_) ∧ some k_ ≠ (v182 : Value).ownBlock ∧ k_ ≠ gb179 ∧ k_ ≠ gb180) (S_N (S_bound ho0)) (fun k_ hk_ => ⟨(.inr (Nat.le_trans (below_size (by repeat (first | (with_reducible first | exact HB.out | apply below_alloc | apply pw_below_drewN | apply below_drew1 | refine below_set ?_ GE179.out | refine below_set ?_ GE180.out) | exact HB.out))) hk_.2.1)), (Kd.fresh' (R_lt (by (with_reducible repeat (first | apply R_alloc | apply R_drewN | apply R_drew)); exact HO183.out)) k_ hk_.2.1), (Kd.freshB (g := gb179) (o := .cells #[.slice A0_0 l0_0.length c0_0] 28 (0, 0)) (by (with_reducible repeat (first | refine blk_drewN ?_ _ | refine blk_drew ?_ | refine blk_alloc ?_ _)); exact BK179.out) k_ hk_.2.1), (Kd.freshB (g := gb180) (o := .cells #[.slice none 0 0] 28 (0, 0)) (by (with_reducible repeat (first | refine blk_drewN ?_ _ | refine blk_drew ?_ | refine blk_alloc ?_ _)); exact BK180.out) k_ hk_.2.1)⟩)) (below_size (by repeat (first | (with_reducible first | exact HB.out | apply below_alloc | apply pw_below_drewN | apply below_drew1 | refine below_set ?_ GE179.out | refine below_set ?_ GE180.out) | exact HB.out)))); have n3_ := Aside0.mk (blk_below (g := gb179) (o := .cells #[.slice A0_0 l0_0.length c0_0] 28 (0, 0)) (by (with_reducible repeat (first | refine blk_drewN ?_ _ | refine blk_drew ?_ | refine blk_alloc ?_ _)); exact BK179.out) hb); have n4_ := Aside0.mk (blk_below (g := gb180) (o := .cells #[.slice none 0 0] 28 (0, 0)) (by (with_reducible repeat (first | refine blk_drewN ?_ _ | refine blk_drew ?_ | refine blk_alloc ?_ _)); exact BK180.out) hb); have n5_ := Aside0.mk (below_step (by repeat (first | (with_reducible first | exact HB.out | apply below_alloc | apply pw_below_drewN | apply below_drew1 | refine below_set ?_ GE179.out | refine below_set ?_ GE180.out) | exact HB.out)) hb); clear HO0_0; clear HO183; clear BK179; clear BK180; clear HB; have HO0_0 := n0_; have HO183 := n1_; have HO190 := n2_; have BK179 := n3_; have BK180 := n4_; have HB := n5_; clear n0_ n1_ n2_ n3_ n4_ n5_; (try clear hb); (try clear hb2); (try clear hk); (try clear hi); (try clear ho0); obtain ⟨Ao24, co24, eo24⟩ := N_slice HO190.out; subst eo24; have hcz25_0 : w23.cell? ⟨gb180, 0, none⟩ = some (.slice none 0 0) := (blk_cell BK180.out 0).trans rfl; have hfz25_0 := blk_frozen BK180.out 0))
  refine bodyPost_ret (results_ct rfl _ _ gb180 28 #[.slice Ao24 t188.length co24] (0, 0) _ rfl (by (with_reducible repeat (first | refine blk_drewN ?_ _ | refine blk_drew ?_ | refine blk_alloc ?_ _)); refine blk_put (cs := #[.slice none 0 0]) ?_ 0 _ rfl; (with_reducible repeat (first | refine blk_drewN ?_ _ | refine blk_drew ?_ | refine blk_alloc ?_ _)); exact BK180.out) Tryd.underlying28 rfl (by kernel_rfl)) rfl ?_
  exact ⟨_, by first | rfl | (simp [errW_none, errW_some] <;> rfl) | (simp [*, errW_none, errW_some] <;> rfl), by (with_reducible repeat (first | apply N_alloc | apply N_drewN | apply N_drew)); exact N_mono (N_far (p := ⟨gb180, 0, none⟩) (N_mono HO190.out (fun k_ hk => (⟨hk, hk.2.2.2⟩ : _ ∧ k_ ≠ gb180))) (fun _ hk => hk.2) (.slice Ao24 t188.length co24)) (fun _ hk => hk.1.1), by repeat (first | (with_reducible first | exact HB.out | apply below_alloc | apply pw_below_drewN | apply below_drew1 | refine below_set ?_ GE179.out | refine below_set ?_ GE180.out) | exact HB.out)⟩
end Go.Proofs.YtcgojdhbphocgaaDoor.F

namespace Go.Proofs.YtcgojdhbphocgaaDoor.F
open Go.RowKit Go.Proofs.YtcgojdhbphocgaaDoorW.PrintWords Go.Proofs.YtcgojdhbphocgaaDoorW.PrintWords.Kd Go.Proofs.YtcgojdhbphocgaaDoorW.PrintMore.Kd Go.Proofs.YtcgojdhbphocgaaDoorW.PrintLast Go.Proofs.YtcgojdhbphocgaaDoorW.PrintMore
attribute [local go_sem] max2_int min2_int max_two min_two max_three min_three max_four min_four   -- for this text's walks alone
set_option linter.unusedVariables false
set_option linter.unusedSimpArgs false
def spec_WalSync.f (k : Nat) (l0_0 : List (S55)) : Option ((List (S55)) × Bool) := (spec_SyncFile.f k l0_0 (⟨#[108, 111, 103]⟩ : ByteArray)).bind fun bt193 => (some (bt193.1, bt193.2))
set_option maxHeartbeats 8000000 in
set_option maxRecDepth 100000 in
theorem spec_WalSync.calls (k : Nat) (P0_0_ : Nat → Prop) (A0_0 : Option Addr) (c0_0 : Nat) (l0_0 : List (S55)) (r1 : List (S55)) (r2 : Bool) (w : World) (hs0_0 : Kd.V k55 55 w w.heap.size (fun k_ => P0_0_ k_) (.slice A0_0 l0_0.length c0_0) l0_0) (h : spec_WalSync.f k l0_0 = some (r1, r2)) :
  Calls Tryd.prog 12 #[.agg #[.slice A0_0 l0_0.length c0_0]] w fun e w' => ∃ v0_ : Value, e = .returned (.tuple #[.agg #[v0_], .bool r2]) ∧ Kd.N k55 55 w' w.heap.size (fun k_ => (P0_0_ k_ ∨ w.heap.size ≤ k_)) v0_ r1 ∧ Below w.heap.size w w' := by
 have hu28 := Tryd.underlying28
 have HO0_0 := Aside0.mk (show Kd.V k55 55 w w.heap.size (fun k_ => (P0_0_ k_ ∨ w.heap.size ≤ k_)) (.slice A0_0 l0_0.length c0_0) l0_0 from V_mono hs0_0 (fun k_ hk => .inl hk))
 have HB := Aside0.mk (Below.refl w.heap.size w)
 have H : ((spec_SyncFile.f k l0_0 (⟨#[108, 111, 103]⟩ : ByteArray)).bind fun bt193 => (some (bt193.1, bt193.2))) = some (r1, r2) := h
 clear h
 replace H := Option.bind_eq_some_iff.mp H
 obtain ⟨⟨t193, t196⟩, A20, H⟩ := H
 replace H : (some (t193, t196)) = some (r1, r2) := H
 have A2 := Aside0.mk A20
 clear A20
 simp only [Option.some.injEq, Prod.mk.injEq] at H
 obtain ⟨rfl, rfl⟩ := H
 go_enter Tryd.func12, Tryd.ntmps12
 go_wp2_with (first | ((with_reducible refine gate_dst (N := 1) rfl ?_); refine box_event ?hg (N := 1) ?hd (cs := #[.slice A0_0 l0_0.length c0_0]) (t := 28) ?hr ?_; (case hd => rfl); (case hg => rfl); (case hr => first | (go_simp; done) | (go_simp; rfl)); intro gb191 hg w3 hbox hb; have n0_ := Aside0.mk (V_below (V_elderB (by (with_reducible repeat (first | apply V_alloc | apply V_drewN | apply V_drew)); exact HO0_0.out) gb191 (Nat.le_of_eq hg.symm)) hb); have n1_ := Aside0.mk (below_step (by repeat (first | (with_reducible first | exact HB.out | apply below_alloc | apply pw_below_drewN | apply below_drew1) | exact HB.out)) hb); have n2_ := Aside0.mk (hbox); have n3_ := Aside0.mk ((by rw [hg]; exact (below_size (by repeat (first | (with_reducible first | exact HB.out | apply below_alloc | apply pw_below_drewN | apply below_drew1) | exact HB.out))) : w.heap.size ≤ gb191)); have n4_ := Aside0.mk ((by rw [hg]; exact (below_size (by repeat (first | (with_reducible first | exact HB.out | apply below_alloc | apply pw_below_drewN | apply below_drew1) | exact HB.out))) : w.heap.size ≤ gb191)); clear HO0_0; clear HB; have HO0_0 := n0_; have HB := n1_; have BK191 := n2_; have GW191 := n3_; have GE191 := n4_; clear n0_ n1_ n2_ n3_ n4_; clear hb hbox hg) | ((with_reducible refine gate_dst (N := 2) rfl ?_); refine box_event ?hg (N := 2) ?hd (cs := #[.slice none 0 0]) (t := 28) ?hr ?_; (case hd => rfl); (case hg => rfl); (case hr => first | (go_simp; done) | (go_simp; rfl)); intro gb192 hg w4 hbox hb; have n0_ := Aside0.mk (V_below (V_elderB (by (with_reducible repeat (first | apply V_alloc | apply V_drewN | apply V_drew)); exact HO0_0.out) gb192 (Nat.le_of_eq hg.symm)) hb); have n1_ := Aside0.mk (blk_below (g := gb191) (o := .cells #[.slice A0_0 l0_0.length c0_0] 28 (0, 0)) (by (with_reducible repeat (first | refine blk_drewN ?_ _ | refine blk_drew ?_ | refine blk_alloc ?_ _)); exact BK191.out) hb); have n2_ := Aside0.mk (below_step (by repeat (first | (with_reducible first | exact HB.out | apply below_alloc | apply pw_below_drewN | apply below_drew1 | refine below_set ?_ GE191.out) | exact HB.out)) hb); have n3_ := Aside0.mk (hbox); have n4_ := Aside0.mk ((by rw [hg]; exact (below_size (by repeat (first | (with_reducible first | exact HB.out | apply below_alloc | apply pw_below_drewN | apply below_drew1 | refine below_set ?_ GE191.out) | exact HB.out))) : w.heap.size ≤ gb192)); have n5_ := Aside0.mk ((by rw [hg]; exact (below_size (by repeat (first | (with_reducible first | exact HB.out | apply below_alloc | apply pw_below_drewN | apply below_drew1 | refine below_set ?_ GE191.out) | exact HB.out))) : w.heap.size ≤ gb192)); have n6_ := Aside0.mk ((by rw [hg]; exact Nat.ne_of_lt (blk_lt (g := gb191) (o := .cells #[.slice A0_0 l0_0.length c0_0] 28 (0, 0)) (by (with_reducible repeat (first | refine blk_drewN ?_ _ | refine blk_drew ?_ | refine blk_alloc ?_ _)); exact BK191.out)) : gb191 ≠ gb192)); have n7_ := Aside0.mk ((by rw [hg]; exact Nat.ne_of_gt (blk_lt (g := gb191) (o := .cells #[.slice A0_0 l0_0.length c0_0] 28 (0, 0)) (by (with_reducible repeat (first | refine blk_drewN ?_ _ | refine blk_drew ?_ | refine blk_alloc ?_ _)); exact BK191.out)) : gb192 ≠ gb191)); clear HO0_0; clear BK191; clear HB; have HO0_0 := n0_; have BK191 := n1_; have HB := n2_; have BK192 := n3_; have GW192 := n4_; have GE192 := n5_; have NB191_192 := n6_; have NB192_191 := n7_; clear n0_ n1_ n2_ n3_ n4_ n5_ n6_ n7_; clear hb hbox hg; have hnb5 := NB191_192.out; have hnc5 := NB192_191.out; have hcz6_0 : w4.cell? ⟨gb191, 0, none⟩ = some (.slice A0_0 l0_0.length c0_0) := (blk_cell BK191.out 0).trans rfl; have hfz6_0 := blk_frozen BK191.out 0) | ((with_reducible refine gate_callee (f := 43) rfl ?_); refine goesL_ (some 8) rfl rfl Tryd.func43 (by kernel_rfl) rfl #[.agg #[.slice A0_0 l0_0.length c0_0], .string (⟨#[108, 111, 103]⟩ : ByteArray)] rfl (by (try simp only [List.map_toArray, List.map_cons, List.map_nil]); first | done | rfl | (simp only [List.length_drop, List.length_take]; rfl)) ?_; (with_reducible refine (spec_SyncFile.calls k (fun k_ => (((P0_0_ k_ ∨ w.heap.size ≤ k_) ∧ k_ ≠ gb191) ∧ k_ ≠ gb192)) _ _ l0_0 (⟨#[108, 111, 103]⟩ : ByteArray) t193 t196 _ ?side1 A2.out).mono ?_); (case side1 => exact HO0_0.out); rintro e w7 ⟨v194, rfl, ho0, hb⟩; refine ⟨_, rfl, ?_⟩; have n0_ := Aside0.mk (V_elder' (by (with_reducible repeat (first | apply V_alloc | apply V_drewN | apply V_drew)); exact HO0_0.out) (N_base ho0) hb); have n1_ := Aside0.mk (N_lower (N_mono (ok' := fun k_ => (P0_0_ k_ ∨ w.heap.size ≤ k_) ∧ k_ ≠ gb191 ∧ k_ ≠ gb192) ho0 (fun k_ hk_ => ⟨Or.elim hk_ (fun hs_ => hs_.1.1) (fun hn_ => (.inr (Nat.le_trans (below_size (by repeat (first | (with_reducible first | exact HB.out | apply below_alloc | apply pw_below_drewN | apply below_drew1 | refine below_set ?_ GE191.out | refine below_set ?_ GE192.out) | exact HB.out))) hn_))), Or.elim hk_ (fun hs_ => hs_.1.2) (fun hn_ => (Kd.freshB (g := gb191) (o := .cells #[.slice A0_0 l0_0.length c0_0] 28 (0, 0)) (by (with_reducible repeat (first | refine blk_drewN ?_ _ | refine blk_drew ?_ | refine blk_alloc ?_ _)); exact BK191.out) k_ hn_)), Or.elim hk_ (fun hs_ => hs_.2) (fun hn_ => (Kd.freshB (g := gb192) (o := .cells #[.slice none 0 0] 28 (0, 0)) (by (with_reducible repeat (first | refine blk_drewN ?_ _ | refine blk_drew ?_ | refine blk_alloc ?_ _)); exact BK192.out) k_ hn_))⟩)) (below_size (by repeat (first | (with_reducible first | exact HB.out | apply below_alloc | apply pw_below_drewN | apply below_drew1 | refine below_set ?_ GE191.out | refine below_set ?_ GE192.out) | exact HB.out)))); have n2_ := Aside0.mk (blk_below (g := gb191) (o := .cells #[.slice A0_0 l0_0.length c0_0] 28 (0, 0)) (by (with_reducible repeat (first | refine blk_drewN ?_ _ | refine blk_drew ?_ | refine blk_alloc ?_ _)); exact BK191.out) hb); have n3_ := Aside0.mk (blk_below (g := gb192) (o := .cells #[.slice none 0 0] 28 (0, 0)) (by (with_reducible repeat (first | refine blk_drewN ?_ _ | refine blk_drew ?_ | refine blk_alloc ?_ _)); exact BK192.out) hb); have n4_ := Aside0.mk (below_step (by repeat (first | (with_reducible first | exact HB.out | apply below_alloc | apply pw_below_drewN | apply below_drew1 | refine below_set ?_ GE191.out | refine below_set ?_ GE192.out) | exact HB.out)) hb); clear HO0_0; clear BK191; clear BK192; clear HB; have HO0_0 := n0_; have HO195 := n1_; have BK191 := n2_; have BK192 := n3_; have HB := n4_; clear n0_ n1_ n2_ n3_ n4_; (try clear hb); (try clear hb2); (try clear hk); (try clear hi); (try clear ho0)) | ((with_reducible refine gate_dst (N := 4) rfl ?_); refine box_event ?hg (N := 4) ?hd (cs := #[.slice none 0 0]) (t := 28) ?hr ?_; (case hd => rfl); (case hg => rfl); (case hr => first | (go_simp; done) | (go_simp; rfl)); intro gb197 hg w8 hbox hb; have n0_ := Aside0.mk (V_below (V_elderB (by (with_reducible repeat (first | apply V_alloc | apply V_drewN | apply V_drew)); exact HO0_0.out) gb197 (Nat.le_of_eq hg.symm)) hb); have n1_ := Aside0.mk (N_below (N_elderB (by (with_reducible repeat (first | apply N_alloc | apply N_drewN | apply N_drew)); exact HO195.out) gb197 (Nat.le_of_eq hg.symm)) hb); have n2_ := Aside0.mk (blk_below (g := gb191) (o := .cells #[.slice A0_0 l0_0.length c0_0] 28 (0, 0)) (by (with_reducible repeat (first | refine blk_drewN ?_ _ | refine blk_drew ?_ | refine blk_alloc ?_ _)); exact BK191.out) hb); have n3_ := Aside0.mk (blk_below (g := gb192) (o := .cells #[.slice none 0 0] 28 (0, 0)) (by (with_reducible repeat (first | refine blk_drewN ?_ _ | refine blk_drew ?_ | refine blk_alloc ?_ _)); exact BK192.out) hb); have n4_ := Aside0.mk (below_step (by repeat (first | (with_reducible first | exact HB.out | apply below_alloc | apply pw_below_drewN | apply below_drew1 | refine below_set ?_ GE191.out | refine below_set ?_ GE192.out) | exact HB.out)) hb); have n5_ := Aside0.mk (hbox); have n6_ := Aside0.mk ((by rw [hg]; exact (below_size (by repeat (first | (with_reducible first | exact HB.out | apply below_alloc | apply pw_below_drewN | apply below_drew1 | refine below_set ?_ GE191.out | refine below_set ?_ GE192.out) | exact HB.out))) : w.heap.size ≤ gb197)); have n7_ := Aside0.mk ((by rw [hg]; exact (below_size (by repeat (first | (with_reducible first | exact HB.out | apply below_alloc | apply pw_below_drewN | apply below_drew1 | refine below_set ?_ GE191.out | refine below_set ?_ GE192.out) | exact HB.out))) : w.heap.size ≤ gb197)); have n8_ := Aside0.mk ((by rw [hg]; exact Nat.ne_of_lt (blk_lt (g := gb191) (o := .cells #[.slice A0_0 l0_0.length c0_0] 28 (0, 0)) (by (with_reducible repeat (first | refine blk_drewN ?_ _ | refine blk_drew ?_ | refine blk_alloc ?_ _)); exact BK191.out)) : gb191 ≠ gb197)); have n9_ := Aside0.mk ((by rw [hg]; exact Nat.ne_of_gt (blk_lt (g := gb191) (o := .cells #[.slice A0_0 l0_0.length c0_0] 28 (0, 0)) (by (with_reducible repeat (first | refine blk_drewN ?_ _ | refine blk_drew ?_ | refine blk_alloc ?_ _)); exact BK191.out)) : gb197 ≠ gb191)); have n10_ := Aside0.mk ((by rw [hg]; exact Nat.ne_of_lt (blk_lt (g := gb192) (o := .cells #[.slice none 0 0] 28 (0, 0)) (by (with_reducible repeat (first | refine blk_drewN ?_ _ | refine blk_drew ?_ | refine blk_alloc ?_ _)); exact BK192.out)) : gb192 ≠ gb197)); have n11_ := Aside0.mk ((by rw [hg]; exact Nat.ne_of_gt (blk_lt (g := gb192) (o := .cells #[.slice none 0 0] 28 (0, 0)) (by (with_reducible repeat (first | refine blk_drewN ?_ _ | refine blk_drew ?_ | refine blk_alloc ?_ _)); exact BK192.out)) : gb197 ≠ gb192)); clear HO0_0; clear HO195; clear BK191; clear BK192; clear HB; have HO0_0 := n0_; have HO195 := n1_; have BK191 := n2_; have BK192 := n3_; have HB := n4_; have BK197 := n5_; have GW197 := n6_; have GE197 := n7_; have NB191_197 := n8_; have NB197_191 := n9_; have NB192_197 := n10_; have NB197_192 := n11_; clear n0_ n1_ n2_ n3_ n4_ n5_ n6_ n7_ n8_ n9_ n10_ n11_; clear hb hbox hg; obtain ⟨Ao9, co9, eo9⟩ := N_slice HO195.out; subst eo9; have hnb10 := NB197_191.out; have hnc10 := NB191_197.out; have hnb11 := NB197_192.out; have hnc11 := NB192_197.out; have hcz12_0 : w8.cell? ⟨gb197, 0, none⟩ = some (.slice none 0 0) := (blk_cell BK197.out 0).trans rfl; have hfz12_0 := blk_frozen BK197.out 0; have hcz13_0 : w8.cell? ⟨gb192, 0, none⟩ = some (.slice none 0 0) := (blk_cell BK192.out 0).trans rfl; have hfz13_0 := blk_frozen BK192.out 0))
 refine bodyPost_ret (results_ct rfl _ _ gb192 28 #[.slice Ao9 t193.length co9] (0, 0) _ rfl (by (with_reducible repeat (first | refine blk_drewN ?_ _ | refine blk_drew ?_ | refine blk_alloc ?_ _)); refine blk_put (cs := #[.slice none 0 0]) ?_ 0 _ rfl; (with_reducible repeat (first | refine blk_drewN ?_ _ | refine blk_drew ?_ | refine blk_alloc ?_ _)); refine blk_far ?_ NB192_197.out _; (with_reducible repeat (first | refine blk_drewN ?_ _ | refine blk_drew ?_ | refine blk_alloc ?_ _)); exact BK192.out) Tryd.underlying28 rfl (by kernel_rfl)) rfl ?_
 exact ⟨_, by first | rfl | (simp [errW_none, errW_some] <;> rfl) | (simp [*, errW_none, errW_some] <;> rfl), by (with_reducible repeat (first | apply N_alloc | apply N_drewN | apply N_drew)); exact N_mono (N_far (p := ⟨gb192, 0, none⟩) (N_far (p := ⟨gb197, 0, none⟩) (N_mono (N_mono HO195.out (fun k_ hk => (⟨hk, hk.2⟩ : _ ∧ k_ ≠ gb197))) (fun k_ hk => (⟨hk, hk.1.1.2.2⟩ : _ ∧ k_ ≠ gb192))) (fun _ hk => hk.1.2) (.slice Ao9 t193.length co9)) (fun _ hk => hk.2) (.slice Ao9 t193.length co9)) (fun _ hk => hk.1.1.1.1), by repeat (first | (with_reducible first | exact HB.out | apply below_alloc | apply pw_below_drewN | apply below_drew1 | refine below_set ?_ GE191.out | refine below_set ?_ GE192.out | refine below_set ?_ GE197.out) | exact HB.out)⟩
end Go.Proofs.YtcgojdhbphocgaaDoor.F

namespace Go.Proofs.YtcgojdhbphocgaaDoor.F
open Go.RowKit Go.Proofs.YtcgojdhbphocgaaDoorW.PrintWords Go.Proofs.YtcgojdhbphocgaaDoorW.PrintWords.Kd Go.Proofs.YtcgojdhbphocgaaDoorW.PrintMore.Kd Go.Proofs.YtcgojdhbphocgaaDoorW.PrintLast Go.Proofs.YtcgojdhbphocgaaDoorW.PrintMore
attribute [local go_sem] max2_int min2_int max_two min_two max_three min_three max_four min_four   -- for this text's walks alone
set_option linter.unusedVariables false
set_option linter.unusedSimpArgs false
def laws_toByteS.l0 : Nat → List Int → List Int → Int → Option (List Int)
 | 0, _, _, _ => none
 | k + 1, x0, x3, x4 => if x4 < (x0.length : Int) then (if 0 ≤ x4 then (if x4 < (x3.length : Int) then (laws_toByteS.l0 k x0 (x3.set (x4 : Int).toNat (rd x0 x4)) (wrap64 (x4 + 1))) else (none)) else (none)) else (some x3)
def laws_toByteS.f (k : Nat) (l0 : List Int) : Option (List Int) := if 0 ≤ (l0.length : Int) then (if ((l0.length : Int) : Int).toNat ≤ 281474976710656 then (laws_toByteS.l0 k l0 (List.replicate ((l0.length : Int) : Int).toNat 0) 0) else (none)) else (none)
set_option maxHeartbeats 8000000 in
set_option maxRecDepth 100000 in
theorem laws_toByteS.calls (k : Nat) (A0 : Option Addr) (c0 : Nat) (l0 : List Int) (r : List Int) (w : World) (hr0 : Kd.C (Kd.int .u8) w A0 l0.length l0) (hc0 : l0.length ≤ c0) (h : laws_toByteS.f k l0 = some r) :
  Calls Tryd.prog 28 #[.slice A0 l0.length c0] w fun e w' => ∃ v0_ : Value, e = .returned (v0_) ∧ Kd.R (Kd.int .u8) 5 w' w.heap.size (fun _ => True) v0_ r ∧ Below w.heap.size w w' := by
 have HR0 := Aside0.mk hr0
 have HC0 := Aside0.mk hc0
 clear hr0 hc0
 have HB := Aside0.mk (Below.refl w.heap.size w)
 have H : (if 0 ≤ (l0.length : Int) then (if ((l0.length : Int) : Int).toNat ≤ 281474976710656 then (laws_toByteS.l0 k l0 (List.replicate ((l0.length : Int) : Int).toNat 0) 0) else (none)) else (none)) = some r := h
 clear h
 by_cases c2 : 0 ≤ (l0.length : Int)
 ·
  rw [if_pos c2] at H
  have c2b0 := eq_true c2
  have c2b1 : decide (0 ≤ (l0.length : Int)) = true := decide_eq_true c2
  clear c2
  by_cases c3 : ((l0.length : Int) : Int).toNat ≤ 281474976710656
  ·
   rw [if_pos c3] at H
   have c3b0 := eq_true c3
   have c3b1 : decide (((l0.length : Int) : Int).toNat ≤ 281474976710656) = true := decide_eq_true c3
   clear c3
   obtain ⟨y198, hy198⟩ : ∃ y_ : List Int, y_ = (List.replicate ((l0.length : Int) : Int).toNat 0) := ⟨_, rfl⟩
   replace H : (laws_toByteS.l0 k l0 y198 0) = some r := by first | (rw [hy198]; with_reducible exact H) | (have H2_ := (Option.bind_some _ _).symm.trans H; rw [hy198]; with_reducible exact H2_) | (have H2_ := (Option.bind_some _ _).symm.trans H; with_reducible exact H2_) | with_reducible exact H | (rw [hy198]; exact H) | exact H
   have Ny198 := Aside0.mk hy198
   clear hy198
   have H' := Aside0.mk H
   clear H
   go_enter Tryd.func28, Tryd.ntmps28
   go_wp2_with (first | ((with_reducible refine gate_dst (N := 7) rfl ?_); refine R_make (Kd.int .u8) _ 5 rfl (N := 7) rfl 41 _ _ rfl (l0.length : Int) rfl rfl Tryd.underlying41 (.int .u8 0) 1 info5 rfl (by decide) (by omega) 0 (ok := fun _ => True) (okp := fun _ => True) rfl (fun _ hk => hk) trivial (of_decide_eq_true (by first | (with_reducible assumption) | assumption)) (Nat.le_trans (Nat.mul_le_mul_right _ (of_decide_eq_true (by first | (with_reducible assumption) | assumption) : (l0.length : Int).toNat ≤ 281474976710656)) (by omega)) (Below.refl _ _) (Nat.le_refl _) ?_; intro v199 w4 ho5 hb hg_ hnew_; clear hg_ hnew_; (first | rw [← Ny198.out] at ho5 | (simp only [Int.reduceToNat] at ho5; rw [← Ny198.out] at ho5)); have n0_ := Aside0.mk (R_lower ho5 (below_size (by repeat (first | (with_reducible first | exact HB.out | apply below_alloc | apply pw_below_drewN | apply below_drew1) | exact HB.out)))); have n1_ := Aside0.mk (below_step (by repeat (first | (with_reducible first | exact HB.out | apply below_alloc | apply pw_below_drewN | apply below_drew1) | exact HB.out)) hb); clear HB; have HO200 := n0_; have HB := n1_; clear n0_ n1_; clear hb ho5))
   go_loopg [4] k (fun kq v4 w' => ∃ (x3_1 : List Int) (x4_1 : Int), v4 = .int .i64 x4_1 ∧ Aside0 (laws_toByteS.l0 kq l0 x3_1 x4_1 = some r) ∧ Aside0 (kq ≤ k) ∧ Aside0 (Kd.R (Kd.int .u8) 5 w' w.heap.size (fun _ => True) v199 x3_1) ∧ Aside0 (Below w.heap.size w w'))
   case atStart => exact ⟨(y198), (0), (by first | rfl | (simp; done) | (simp [*]; done)), H', ⟨Nat.le_refl _⟩, ⟨by (with_reducible repeat (first | apply R_alloc | apply R_drewN | apply R_drew)); exact HO200.out⟩, ⟨by repeat (first | (with_reducible first | exact HB.out | apply below_alloc | apply pw_below_drewN | apply below_drew1) | exact HB.out)⟩⟩
   case round =>
    clear H'
    try clear c2
    try clear c2b0
    try clear c2b1
    try clear p2
    try clear c3
    try clear c3b0
    try clear c3b1
    obtain ⟨x3_1, x4_1, rfl, HA, HK1, HO_3, HB⟩ := hrel
    cases gk with
    | zero => exact absurd HA.out (by simp [laws_toByteS.l0])
    | succ k1 =>
     have H := HA.out
     clear HA
     simp only [laws_toByteS.l0] at H
     by_cases c6 : x4_1 < (l0.length : Int)
     ·
      rw [if_pos c6] at H
      have c6b0 : decide (x4_1 < (l0.length : Int)) = true := decide_eq_true c6
      clear c6
      by_cases c7 : 0 ≤ x4_1
      ·
       rw [if_pos c7] at H
       have c7b0 : decide (0 ≤ x4_1) = true := decide_eq_true c7
       clear c7
       by_cases c8 : x4_1 < (x3_1.length : Int)
       ·
        rw [if_pos c8] at H
        have c8b0 : decide (x4_1 < (x3_1.length : Int)) = true := decide_eq_true c8
        clear c8
        obtain ⟨y202, hy202⟩ : ∃ y_ : List Int, y_ = (x3_1.set (x4_1 : Int).toNat (rd l0 x4_1)) := ⟨_, rfl⟩
        replace H : (laws_toByteS.l0 k1 l0 y202 (wrap64 (x4_1 + 1))) = some r := by first | (rw [hy202]; with_reducible exact H) | (have H2_ := (Option.bind_some _ _).symm.trans H; rw [hy202]; with_reducible exact H2_) | (have H2_ := (Option.bind_some _ _).symm.trans H; with_reducible exact H2_) | with_reducible exact H | (rw [hy202]; exact H) | exact H
        have Ny202 := Aside0.mk hy202
        clear hy202
        have H' := Aside0.mk H
        clear H
        have p201 : 0 ≤ (x4_1 : Int) := of_decide_eq_true (by first | (with_reducible assumption) | assumption)
        have q201 : x4_1 < (l0.length : Int) := of_decide_eq_true (by first | (with_reducible assumption) | assumption)
        obtain ⟨ad201, e201, hx201_0⟩ := Kd.at_int HR0.out x4_1 p201 q201
        cases e201
        replace hx201_0 := (HB.out.cell (World.block_lt_of_cell? w _ hx201_0)).trans hx201_0
        replace p201 := eq_true p201
        replace q201 := eq_true q201
        have p9 : 0 ≤ (x4_1 : Int) := of_decide_eq_true (by first | (with_reducible assumption) | assumption)
        have q9 : (x4_1 : Int) < ((x3_1.length : Int) : Int) := of_decide_eq_true (by first | (with_reducible assumption) | assumption)
        obtain ⟨go9, co9, eo9, gb9, gl9, cl9, HG9⟩ := R_form HO_3.out (by omega)
        (first | cases eo9 | (injection eo9 with ea_ en_ ec_; (first | subst ea_ | (injection ea_ with ea_; subst ea_)); subst ec_; clear en_))
        have GB9 := Aside0.mk gb9
        have GG9 := Aside0.mk HG9
        clear gb9 gl9 HG9
        obtain ⟨hx9_0, hf9_0⟩ := R_celln 0 HO_3.out (x4_1 : Int) p9 q9
        replace p9 := eq_true p9
        replace q9 := eq_true q9
        have HP10 := R_putg HO_3.out (x4_1 : Int) (rd l0 x4_1)
        go_wp2_with (first | ((with_reducible refine gate_store (t := 5) (p := 20) rfl ?_); refine store_event (t := 5) (p := 20) (v := ?vo_w11) (w1 := (wr.setCell ⟨go9, (x4_1 : Int).toNat, none⟩ (.int .u8 (rd l0 x4_1)))) ?hg ?ho ?hn ?hr ?_; (case ho => rfl); (case hg => rfl); (case hn => rfl); (case hr => first | (go_simp; done) | (go_simp; rfl)); intro w11 hw; have hg : wr.grownBy w11 (some go9) := (by rw [hw]; exact HP10.2); have hp_ : Kd.R (Kd.int .u8) 5 w11 w.heap.size (fun _ => True) (.slice (some ⟨go9, 0, none⟩) x3_1.length co9) y202 := (by rw [hw, Ny202.out]; exact HP10.1); clear HP10; have n0_ := Aside0.mk (hp_); have n1_ := Aside0.mk ((by rw [hw]; exact below_set (HB.out) GB9.out : Below w.heap.size w w11)); clear HO_3; clear HB; have HO_3 := n0_; have HB := n1_; clear n0_ n1_; clear hg hw hp_))
        go_roundg k1
        case measure => have := HK1.out; omega
        case rel => exact ⟨(y202), (wrap64 (x4_1 + 1)), (by first | rfl | (simp; done) | (simp [*]; done)), H', ⟨by have := HK1.out; omega⟩, ⟨by (with_reducible repeat (first | apply R_alloc | apply R_drewN | apply R_drew)); exact HO_3.out⟩, ⟨by repeat (first | (with_reducible first | exact HB.out | apply below_alloc | apply pw_below_drewN | apply below_drew1) | exact HB.out)⟩⟩
       ·
        rw [if_neg c8] at H
        exact absurd H (by simp)
      ·
       rw [if_neg c7] at H
       exact absurd H (by simp)
     ·
      rw [if_neg c6] at H
      have c6b0 : decide (x4_1 < (l0.length : Int)) = false := decide_eq_false c6
      clear c6
      obtain rfl := Option.some.inj H
      go_wp2
      go_ret
      exact ⟨_, by first | rfl | (simp [errW_none, errW_some] <;> rfl) | (simp [*, errW_none, errW_some] <;> rfl), by (with_reducible repeat (first | apply R_alloc | apply R_drewN | apply R_drew)); exact HO_3.out, by repeat (first | (with_reducible first | exact HB.out | apply below_alloc | apply pw_below_drewN | apply below_drew1) | exact HB.out)⟩
  ·
   rw [if_neg c3] at H
   exact absurd H (by simp)
 ·
  rw [if_neg c2] at H
  exact absurd H (by simp)
end Go.Proofs.YtcgojdhbphocgaaDoor.F

namespace Go.Proofs.YtcgojdhbphocgaaDoor.F
open Go.RowKit Go.Proofs.YtcgojdhbphocgaaDoorW.PrintWords Go.Proofs.YtcgojdhbphocgaaDoorW.PrintWords.Kd Go.Proofs.YtcgojdhbphocgaaDoorW.PrintMore.Kd Go.Proofs.YtcgojdhbphocgaaDoorW.PrintLast Go.Proofs.YtcgojdhbphocgaaDoorW.PrintMore
attribute [local go_sem] max2_int min2_int max_two min_two max_three min_three max_four min_four   -- for this text's walks alone
set_option linter.unusedVariables false
set_option linter.unusedSimpArgs false
def laws_toFile.f (k : Nat) (a0_0 : ByteArray) (l0_1 : List Int) (l0_2 : List Int) : Option (ByteArray × List Int × List Int) := (laws_toByteS.f k l0_1).bind fun t206 => ((laws_toByteS.f k l0_2).bind fun t209 => (some (a0_0, t206, t209)))
set_option maxHeartbeats 8000000 in
set_option maxRecDepth 100000 in
theorem laws_toFile.calls (k : Nat) (a0_0 : ByteArray) (A0_1 : Option Addr) (c0_1 : Nat) (l0_1 : List Int) (A0_2 : Option Addr) (c0_2 : Nat) (l0_2 : List Int) (r1 : ByteArray) (r2 : List Int) (r3 : List Int) (w : World) (hr0_1 : Kd.C (Kd.int .u8) w A0_1 l0_1.length l0_1) (hc0_1 : l0_1.length ≤ c0_1) (hr0_2 : Kd.C (Kd.int .u8) w A0_2 l0_2.length l0_2) (hc0_2 : l0_2.length ≤ c0_2) (h : laws_toFile.f k a0_0 l0_1 l0_2 = some (r1, r2, r3)) :
  Calls Tryd.prog 78 #[.agg #[.string a0_0, .slice A0_1 l0_1.length c0_1, .slice A0_2 l0_2.length c0_2]] w fun e w' => ∃ v1_ v2_ : Value, e = .returned (.agg #[.string r1, v1_, v2_]) ∧ Kd.R (Kd.int .u8) 5 w' w.heap.size (fun k_ => some k_ ≠ (v2_ : Value).ownBlock) v1_ r2 ∧ Kd.R (Kd.int .u8) 5 w' w.heap.size (fun k_ => some k_ ≠ (v1_ : Value).ownBlock) v2_ r3 ∧ Below w.heap.size w w' := by
 have hu83 := Tryd.underlying83
 have hu55 := Tryd.underlying55
 have HR0_1 := Aside0.mk hr0_1
 have HC0_1 := Aside0.mk hc0_1
 clear hr0_1 hc0_1
 have HR0_2 := Aside0.mk hr0_2
 have HC0_2 := Aside0.mk hc0_2
 clear hr0_2 hc0_2
 have HB := Aside0.mk (Below.refl w.heap.size w)
 have H : ((laws_toByteS.f k l0_1).bind fun t206 => ((laws_toByteS.f k l0_2).bind fun t209 => (some (a0_0, t206, t209)))) = some (r1, r2, r3) := h
 clear h
 replace H := Option.bind_eq_some_iff.mp H
 obtain ⟨t206, A20, H⟩ := H
 replace H : ((laws_toByteS.f k l0_2).bind fun t209 => (some (a0_0, t206, t209))) = some (r1, r2, r3) := H
 have A2 := Aside0.mk A20
 clear A20
 replace H := Option.bind_eq_some_iff.mp H
 obtain ⟨t209, A30, H⟩ := H
 replace H : (some (a0_0, t206, t209)) = some (r1, r2, r3) := H
 have A3 := Aside0.mk A30
 clear A30
 simp only [Option.some.injEq, Prod.mk.injEq] at H
 obtain ⟨rfl, rfl, rfl⟩ := H
 go_enter Tryd.func78, Tryd.ntmps78
 go_wp2_with (first | ((with_reducible refine gate_dst (N := 1) rfl ?_); refine box_event ?hg (N := 1) ?hd (cs := #[.string a0_0, .slice A0_1 l0_1.length c0_1, .slice A0_2 l0_2.length c0_2]) (t := 83) ?hr ?_; (case hd => rfl); (case hg => rfl); (case hr => first | (go_simp; done) | (go_simp; rfl)); intro gb203 hg w4 hbox hb; have n0_ := Aside0.mk (below_step (by repeat (first | (with_reducible first | exact HB.out | apply below_alloc | apply pw_below_drewN | apply below_drew1) | exact HB.out)) hb); have n1_ := Aside0.mk (hbox); have n2_ := Aside0.mk ((by rw [hg]; exact (below_size (by repeat (first | (with_reducible first | exact HB.out | apply below_alloc | apply pw_below_drewN | apply below_drew1) | exact HB.out))) : w.heap.size ≤ gb203)); have n3_ := Aside0.mk ((by rw [hg]; exact (below_size (by repeat (first | (with_reducible first | exact HB.out | apply below_alloc | apply pw_below_drewN | apply below_drew1) | exact HB.out))) : w.heap.size ≤ gb203)); clear HB; have HB := n0_; have BK203 := n1_; have GW203 := n2_; have GE203 := n3_; clear n0_ n1_ n2_ n3_; clear hb hbox hg) | ((with_reducible refine gate_dst (N := 2) rfl ?_); refine box_event ?hg (N := 2) ?hd (cs := #[.string (⟨#[]⟩ : ByteArray), .slice none 0 0, .slice none 0 0]) (t := 55) ?hr ?_; (case hd => rfl); (case hg => rfl); (case hr => first | (go_simp; done) | (go_simp; rfl)); intro gb204 hg w5 hbox hb; have n0_ := Aside0.mk (blk_below (g := gb203) (o := .cells #[.string a0_0, .slice A0_1 l0_1.length c0_1, .slice A0_2 l0_2.length c0_2] 83 (0, 0)) (by (with_reducible repeat (first | refine blk_drewN ?_ _ | refine blk_drew ?_ | refine blk_alloc ?_ _)); exact BK203.out) hb); have n1_ := Aside0.mk (below_step (by repeat (first | (with_reducible first | exact HB.out | apply below_alloc | apply pw_below_drewN | apply below_drew1 | refine below_set ?_ GE203.out) | exact HB.out)) hb); have n2_ := Aside0.mk (hbox); have n3_ := Aside0.mk ((by rw [hg]; exact (below_size (by repeat (first | (with_reducible first | exact HB.out | apply below_alloc | apply pw_below_drewN | apply below_drew1 | refine below_set ?_ GE203.out) | exact HB.out))) : w.heap.size ≤ gb204)); have n4_ := Aside0.mk ((by rw [hg]; exact (below_size (by repeat (first | (with_reducible first | exact HB.out | apply below_alloc | apply pw_below_drewN | apply below_drew1 | refine below_set ?_ GE203.out) | exact HB.out))) : w.heap.size ≤ gb204)); have n5_ := Aside0.mk ((by rw [hg]; exact Nat.ne_of_lt (blk_lt (g := gb203) (o := .cells #[.string a0_0, .slice A0_1 l0_1.length c0_1, .slice A0_2 l0_2.length c0_2] 83 (0, 0)) (by (with_reducible repeat (first | refine blk_drewN ?_ _ | refine blk_drew ?_ | refine blk_alloc ?_ _)); exact BK203.out)) : gb203 ≠ gb204)); have n6_ := Aside0.mk ((by rw [hg]; exact Nat.ne_of_gt (blk_lt (g := gb203) (o := .cells #[.string a0_0, .slice A0_1 l0_1.length c0_1, .slice A0_2 l0_2.length c0_2] 83 (0, 0)) (by (with_reducible repeat (first | refine blk_drewN ?_ _ | refine blk_drew ?_ | refine blk_alloc ?_ _)); exact BK203.out)) : gb204 ≠ gb203)); clear BK203; clear HB; have BK203 := n0_; have HB := n1_; have BK204 := n2_; have GW204 := n3_; have GE204 := n4_; have NB203_204 := n5_; have NB204_203 := n6_; clear n0_ n1_ n2_ n3_ n4_ n5_ n6_; clear hb hbox hg) | ((with_reducible refine gate_dst (N := 3) rfl ?_); refine box_event ?hg (N := 3) ?hd (cs := #[.string (⟨#[]⟩ : ByteArray), .slice none 0 0, .slice none 0 0]) (t := 55) ?hr ?_; (case hd => rfl); (case hg => rfl); (case hr => first | (go_simp; done) | (go_simp; rfl)); intro gb205 hg w6 hbox hb; have n0_ := Aside0.mk (blk_below (g := gb203) (o := .cells #[.string a0_0, .slice A0_1 l0_1.length c0_1, .slice A0_2 l0_2.length c0_2] 83 (0, 0)) (by (with_reducible repeat (first | refine blk_drewN ?_ _ | refine blk_drew ?_ | refine blk_alloc ?_ _)); exact BK203.out) hb); have n1_ := Aside0.mk (blk_below (g := gb204) (o := .cells #[.string (⟨#[]⟩ : ByteArray), .slice none 0 0, .slice none 0 0] 55 (0, 0)) (by (with_reducible repeat (first | refine blk_drewN ?_ _ | refine blk_drew ?_ | refine blk_alloc ?_ _)); exact BK204.out) hb); have n2_ := Aside0.mk (below_step (by repeat (first | (with_reducible first | exact HB.out | apply below_alloc | apply pw_below_drewN | apply below_drew1 | refine below_set ?_ GE203.out | refine below_set ?_ GE204.out) | exact HB.out)) hb); have n3_ := Aside0.mk (hbox); have n4_ := Aside0.mk ((by rw [hg]; exact (below_size (by repeat (first | (with_reducible first | exact HB.out | apply below_alloc | apply pw_below_drewN | apply below_drew1 | refine below_set ?_ GE203.out | refine below_set ?_ GE204.out) | exact HB.out))) : w.heap.size ≤ gb205)); have n5_ := Aside0.mk ((by rw [hg]; exact (below_size (by repeat (first | (with_reducible first | exact HB.out | apply below_alloc | apply pw_below_drewN | apply below_drew1 | refine below_set ?_ GE203.out | refine below_set ?_ GE204.out) | exact HB.out))) : w.heap.size ≤ gb205)); have n6_ := Aside0.mk ((by rw [hg]; exact Nat.ne_of_lt (blk_lt (g := gb203) (o := .cells #[.string a0_0, .slice A0_1 l0_1.length c0_1, .slice A0_2 l0_2.length c0_2] 83 (0, 0)) (by (with_reducible repeat (first | refine blk_drewN ?_ _ | refine blk_drew ?_ | refine blk_alloc ?_ _)); exact BK203.out)) : gb203 ≠ gb205)); have n7_ := Aside0.mk ((by rw [hg]; exact Nat.ne_of_gt (blk_lt (g := gb203) (o := .cells #[.string a0_0, .slice A0_1 l0_1.length c0_1, .slice A0_2 l0_2.length c0_2] 83 (0, 0)) (by (with_reducible repeat (first | refine blk_drewN ?_ _ | refine blk_drew ?_ | refine blk_alloc ?_ _)); exact BK203.out)) : gb205 ≠ gb203)); have n8_ := Aside0.mk ((by rw [hg]; exact Nat.ne_of_lt (blk_lt (g := gb204) (o := .cells #[.string (⟨#[]⟩ : ByteArray), .slice none 0 0, .slice none 0 0] 55 (0, 0)) (by (with_reducible repeat (first | refine blk_drewN ?_ _ | refine blk_drew ?_ | refine blk_alloc ?_ _)); exact BK204.out)) : gb204 ≠ gb205)); have n9_ := Aside0.mk ((by rw [hg]; exact Nat.ne_of_gt (blk_lt (g := gb204) (o := .cells #[.string (⟨#[]⟩ : ByteArray), .slice none 0 0, .slice none 0 0] 55 (0, 0)) (by (with_reducible repeat (first | refine blk_drewN ?_ _ | refine blk_drew ?_ | refine blk_alloc ?_ _)); exact BK204.out)) : gb205 ≠ gb204)); clear BK203; clear BK204; clear HB; have BK203 := n0_; have BK204 := n1_; have HB := n2_; have BK205 := n3_; have GW205 := n4_; have GE205 := n5_; have NB203_205 := n6_; have NB205_203 := n7_; have NB204_205 := n8_; have NB205_204 := n9_; clear n0_ n1_ n2_ n3_ n4_ n5_ n6_ n7_ n8_ n9_; clear hb hbox hg; have hnb7 := NB203_204.out; have hnc7 := NB204_203.out; have hnb8 := NB203_205.out; have hnc8 := NB205_203.out; have hcz9_0 : w6.cell? ⟨gb203, 0, none⟩ = some (.string a0_0) := (blk_cell BK203.out 0).trans rfl; have hcz9_1 : w6.cell? ⟨gb203, 1, none⟩ = some (.slice A0_1 l0_1.length c0_1) := (blk_cell BK203.out 1).trans rfl; have hcz9_2 : w6.cell? ⟨gb203, 2, none⟩ = some (.slice A0_2 l0_2.length c0_2) := (blk_cell BK203.out 2).trans rfl; have hfz9_0 := blk_frozen BK203.out 0; have hfz9_1 := blk_frozen BK203.out 1; have hfz9_2 := blk_frozen BK203.out 2; have hnb10 := NB205_204.out; have hnc10 := NB204_205.out; have hcz11_0 : w6.cell? ⟨gb205, 0, none⟩ = some (.string (⟨#[]⟩ : ByteArray)) := (blk_cell BK205.out 0).trans rfl; have hcz11_1 : w6.cell? ⟨gb205, 1, none⟩ = some (.slice none 0 0) := (blk_cell BK205.out 1).trans rfl; have hcz11_2 : w6.cell? ⟨gb205, 2, none⟩ = some (.slice none 0 0) := (blk_cell BK205.out 2).trans rfl; have hfz11_0 := blk_frozen BK205.out 0; have hfz11_1 := blk_frozen BK205.out 1; have hfz11_2 := blk_frozen BK205.out 2) | ((with_reducible refine gate_callee (f := 28) rfl ?_); refine goesL_ (some 9) rfl rfl Tryd.func28 (by kernel_rfl) rfl #[.slice A0_1 l0_1.length c0_1] rfl (by (try simp only [List.map_toArray, List.map_cons, List.map_nil]); first | done | rfl | (simp only [List.length_drop, List.length_take]; rfl)) ?_; (with_reducible refine (laws_toByteS.calls k _ _ l0_1 t206 _ ?side1 ?side2 A2.out).mono ?_); (case side1 => exact C_below HR0_1.out (by repeat (first | (with_reducible first | exact HB.out | apply below_alloc | apply pw_below_drewN | apply below_drew1 | refine below_set ?_ GE203.out | refine below_set ?_ GE204.out | refine below_set ?_ GE205.out) | exact HB.out))); (case side2 => exact HC0_1.out); rintro e w12 ⟨v207, rfl, ho0, hb⟩; refine ⟨_, rfl, ?_⟩; have n0_ := Aside0.mk (R_lower ho0 (below_size (by repeat (first | (with_reducible first | exact HB.out | apply below_alloc | apply pw_below_drewN | apply below_drew1 | refine below_set ?_ GE203.out | refine below_set ?_ GE204.out | refine below_set ?_ GE205.out) | exact HB.out)))); have n1_ := Aside0.mk (blk_below (g := gb203) (o := .cells #[.string a0_0, .slice A0_1 l0_1.length c0_1, .slice A0_2 l0_2.length c0_2] 83 (0, 0)) (by (with_reducible repeat (first | refine blk_drewN ?_ _ | refine blk_drew ?_ | refine blk_alloc ?_ _)); refine blk_far ?_ NB203_205.out _; (with_reducible repeat (first | refine blk_drewN ?_ _ | refine blk_drew ?_ | refine blk_alloc ?_ _)); exact BK203.out) hb); have n2_ := Aside0.mk (blk_below (g := gb204) (o := .cells #[.string (⟨#[]⟩ : ByteArray), .slice none 0 0, .slice none 0 0] 55 (0, 0)) (by (with_reducible repeat (first | refine blk_drewN ?_ _ | refine blk_drew ?_ | refine blk_alloc ?_ _)); refine blk_far ?_ NB204_205.out _; (with_reducible repeat (first | refine blk_drewN ?_ _ | refine blk_drew ?_ | refine blk_alloc ?_ _)); exact BK204.out) hb); have n3_ := Aside0.mk (blk_below (g := gb205) (o := .cells #[.string a0_0, .slice none 0 0, .slice none 0 0] 55 (0, 0)) (by (with_reducible repeat (first | refine blk_drewN ?_ _ | refine blk_drew ?_ | refine blk_alloc ?_ _)); refine blk_put (cs := #[.string (⟨#[]⟩ : ByteArray), .slice none 0 0, .slice none 0 0]) ?_ 0 _ rfl; (with_reducible repeat (first | refine blk_drewN ?_ _ | refine blk_drew ?_ | refine blk_alloc ?_ _)); exact BK205.out) hb); have n4_ := Aside0.mk (below_step (by repeat (first | (with_reducible first | exact HB.out | apply below_alloc | apply pw_below_drewN | apply below_drew1 | refine below_set ?_ GE203.out | refine below_set ?_ GE204.out | refine below_set ?_ GE205.out) | exact HB.out)) hb); clear BK203; clear BK204; clear BK205; clear HB; have HO208 := n0_; have BK203 := n1_; have BK204 := n2_; have BK205 := n3_; have HB := n4_; clear n0_ n1_ n2_ n3_ n4_; (try clear hb); (try clear hb2); (try clear hk); (try clear hi); (try clear ho0); obtain ⟨Ao13, co13, eo13⟩ := R_slice HO208.out; subst eo13; have hcz14_0 : w12.cell? ⟨gb205, 0, none⟩ = some (.string a0_0) := (blk_cell BK205.out 0).trans rfl; have hcz14_1 : w12.cell? ⟨gb205, 1, none⟩ = some (.slice none 0 0) := (blk_cell BK205.out 1).trans rfl; have hcz14_2 : w12.cell? ⟨gb205, 2, none⟩ = some (.slice none 0 0) := (blk_cell BK205.out 2).trans rfl; have hfz14_0 := blk_frozen BK205.out 0; have hfz14_1 := blk_frozen BK205.out 1; have hfz14_2 := blk_frozen BK205.out 2; have hcz15_0 : w12.cell? ⟨gb203, 0, none⟩ = some (.string a0_0) := (blk_cell BK203.out 0).trans rfl; have hcz15_1 : w12.cell? ⟨gb203, 1, none⟩ = some (.slice A0_1 l0_1.length c0_1) := (blk_cell BK203.out 1).trans rfl; have hcz15_2 : w12.cell? ⟨gb203, 2, none⟩ = some (.slice A0_2 l0_2.length c0_2) := (blk_cell BK203.out 2).trans rfl; have hfz15_0 := blk_frozen BK203.out 0; have hfz15_1 := blk_frozen BK203.out 1; have hfz15_2 := blk_frozen BK203.out 2) | ((with_reducible refine gate_callee (f := 28) rfl ?_); refine goesL_ (some 13) rfl rfl Tryd.func28 (by kernel_rfl) rfl #[.slice A0_2 l0_2.length c0_2] rfl (by (try simp only [List.map_toArray, List.map_cons, List.map_nil]); first | done | rfl | (simp only [List.length_drop, List.length_take]; rfl)) ?_; (with_reducible refine (laws_toByteS.calls k _ _ l0_2 t209 _ ?side1 ?side2 A3.out).mono ?_); (case side1 => exact C_below HR0_2.out (by repeat (first | (with_reducible first | exact HB.out | apply below_alloc | apply pw_below_drewN | apply below_drew1 | refine below_set ?_ GE203.out | refine below_set ?_ GE204.out | refine below_set ?_ GE205.out) | exact HB.out))); (case side2 => exact HC0_2.out); rintro e w16 ⟨v210, rfl, ho0, hb⟩; refine ⟨_, rfl, ?_⟩; have n0_ := Aside0.mk (R_elder' (by (with_reducible repeat (first | apply R_alloc | apply R_drewN | apply R_drew)); exact (R_mono (R_far (p := ⟨gb205, 1, none⟩) (R_types HO208.out BK205.out (by decide)) (fun _ hk => hk.2) (.slice Ao13 t206.length co13)) (fun _ h_ => h_.1))) (R_base ho0) hb); have n1_ := Aside0.mk (R_lower (R_new' ho0 (R_lt (by (with_reducible repeat (first | apply R_alloc | apply R_drewN | apply R_drew)); exact (R_mono (R_far (p := ⟨gb205, 1, none⟩) (R_types HO208.out BK205.out (by decide)) (fun _ hk => hk.2) (.slice Ao13 t206.length co13)) (fun _ h_ => h_.1))))) (below_size (by repeat (first | (with_reducible first | exact HB.out | apply below_alloc | apply pw_below_drewN | apply below_drew1 | refine below_set ?_ GE203.out | refine below_set ?_ GE204.out | refine below_set ?_ GE205.out) | exact HB.out)))); have n2_ := Aside0.mk (blk_below (g := gb203) (o := .cells #[.string a0_0, .slice A0_1 l0_1.length c0_1, .slice A0_2 l0_2.length c0_2] 83 (0, 0)) (by (with_reducible repeat (first | refine blk_drewN ?_ _ | refine blk_drew ?_ | refine blk_alloc ?_ _)); refine blk_far ?_ NB203_205.out _; (with_reducible repeat (first | refine blk_drewN ?_ _ | refine blk_drew ?_ | refine blk_alloc ?_ _)); exact BK203.out) hb); have n3_ := Aside0.mk (blk_below (g := gb204) (o := .cells #[.string (⟨#[]⟩ : ByteArray), .slice none 0 0, .slice none 0 0] 55 (0, 0)) (by (with_reducible repeat (first | refine blk_drewN ?_ _ | refine blk_drew ?_ | refine blk_alloc ?_ _)); refine blk_far ?_ NB204_205.out _; (with_reducible repeat (first | refine blk_drewN ?_ _ | refine blk_drew ?_ | refine blk_alloc ?_ _)); exact BK204.out) hb); have n4_ := Aside0.mk (blk_below (g := gb205) (o := .cells #[.string a0_0, .slice Ao13 t206.length co13, .slice none 0 0] 55 (0, 0)) (by (with_reducible repeat (first | refine blk_drewN ?_ _ | refine blk_drew ?_ | refine blk_alloc ?_ _)); refine blk_put (cs := #[.string a0_0, .slice none 0 0, .slice none 0 0]) ?_ 1 _ rfl; (with_reducible repeat (first | refine blk_drewN ?_ _ | refine blk_drew ?_ | refine blk_alloc ?_ _)); exact BK205.out) hb); have n5_ := Aside0.mk (below_step (by repeat (first | (with_reducible first | exact HB.out | apply below_alloc | apply pw_below_drewN | apply below_drew1 | refine below_set ?_ GE203.out | refine below_set ?_ GE204.out | refine below_set ?_ GE205.out) | exact HB.out)) hb); clear HO208; clear BK203; clear BK204; clear BK205; clear HB; have HO208 := n0_; have HO211 := n1_; have BK203 := n2_; have BK204 := n3_; have BK205 := n4_; have HB := n5_; clear n0_ n1_ n2_ n3_ n4_ n5_; (try clear hb); (try clear hb2); (try clear hk); (try clear hi); (try clear ho0); obtain ⟨Ao17, co17, eo17⟩ := R_slice HO211.out; subst eo17; have hcz18_0 : w16.cell? ⟨gb205, 0, none⟩ = some (.string a0_0) := (blk_cell BK205.out 0).trans rfl; have hcz18_1 : w16.cell? ⟨gb205, 1, none⟩ = some (.slice Ao13 t206.length co13) := (blk_cell BK205.out 1).trans rfl; have hcz18_2 : w16.cell? ⟨gb205, 2, none⟩ = some (.slice none 0 0) := (blk_cell BK205.out 2).trans rfl; have hfz18_0 := blk_frozen BK205.out 0; have hfz18_1 := blk_frozen BK205.out 1; have hfz18_2 := blk_frozen BK205.out 2; have hcz19_0 : w16.cell? ⟨gb204, 0, none⟩ = some (.string (⟨#[]⟩ : ByteArray)) := (blk_cell BK204.out 0).trans rfl; have hcz19_1 : w16.cell? ⟨gb204, 1, none⟩ = some (.slice none 0 0) := (blk_cell BK204.out 1).trans rfl; have hcz19_2 : w16.cell? ⟨gb204, 2, none⟩ = some (.slice none 0 0) := (blk_cell BK204.out 2).trans rfl; have hfz19_0 := blk_frozen BK204.out 0; have hfz19_1 := blk_frozen BK204.out 1; have hfz19_2 := blk_frozen BK204.out 2))
 refine bodyPost_ret (results_cell_row rfl _ _ gb204 55 #[.string a0_0, .slice Ao13 t206.length co13, .slice Ao17 t209.length co17] (0, 0) _ rfl (by (with_reducible repeat (first | refine blk_drewN ?_ _ | refine blk_drew ?_ | refine blk_alloc ?_ _)); refine blk_put (cs := #[.string a0_0, .slice Ao13 t206.length co13, .slice none 0 0]) ?_ 2 _ rfl; (with_reducible repeat (first | refine blk_drewN ?_ _ | refine blk_drew ?_ | refine blk_alloc ?_ _)); refine blk_put (cs := #[.string a0_0, .slice none 0 0, .slice none 0 0]) ?_ 1 _ rfl; (with_reducible repeat (first | refine blk_drewN ?_ _ | refine blk_drew ?_ | refine blk_alloc ?_ _)); refine blk_put (cs := #[.string (⟨#[]⟩ : ByteArray), .slice none 0 0, .slice none 0 0]) ?_ 0 _ rfl; (with_reducible repeat (first | refine blk_drewN ?_ _ | refine blk_drew ?_ | refine blk_alloc ?_ _)); refine blk_far ?_ NB204_205.out _; (with_reducible repeat (first | refine blk_drewN ?_ _ | refine blk_drew ?_ | refine blk_alloc ?_ _)); exact BK204.out) Tryd.underlying55 rfl (by kernel_rfl)) rfl ?_
 exact ⟨_, _, by first | rfl | (simp [errW_none, errW_some] <;> rfl) | (simp [*, errW_none, errW_some] <;> rfl), by (with_reducible repeat (first | apply R_alloc | apply R_drewN | apply R_drew)); exact R_mono (R_far (p := ⟨gb204, 2, none⟩) (R_far (p := ⟨gb204, 1, none⟩) (R_far (p := ⟨gb204, 0, none⟩) (R_far (p := ⟨gb205, 2, none⟩) (R_types (R_types HO208.out BK205.out (by decide)) BK204.out (by decide)) (fun _ hk => hk.1.2) (.slice Ao17 t209.length co17)) (fun _ hk => hk.2) (.string a0_0)) (fun _ hk => hk.2) (.slice Ao13 t206.length co13)) (fun _ hk => hk.2) (.slice Ao17 t209.length co17)) (fun _ hk => hk.1.1.2), by (with_reducible repeat (first | apply R_alloc | apply R_drewN | apply R_drew)); exact R_mono (R_far (p := ⟨gb204, 2, none⟩) (R_far (p := ⟨gb204, 1, none⟩) (R_far (p := ⟨gb204, 0, none⟩) (R_far (p := ⟨gb205, 2, none⟩) (R_types (R_types HO211.out BK205.out (by decide)) BK204.out (by decide)) (fun _ hk => hk.1.2) (.slice Ao17 t209.length co17)) (fun _ hk => hk.2) (.string a0_0)) (fun _ hk => hk.2) (.slice Ao13 t206.length co13)) (fun _ hk => hk.2) (.slice Ao17 t209.length co17)) (fun _ hk => hk.1.1.2), by repeat (first | (with_reducible first | exact HB.out | apply below_alloc | apply pw_below_drewN | apply below_drew1 | refine below_set ?_ GE203.out | refine below_set ?_ GE204.out | refine below_set ?_ GE205.out) | exact HB.out)⟩
end Go.Proofs.YtcgojdhbphocgaaDoor.F

namespace Go.Proofs.YtcgojdhbphocgaaDoor.F
open Go.RowKit Go.Proofs.YtcgojdhbphocgaaDoorW.PrintWords Go.Proofs.YtcgojdhbphocgaaDoorW.PrintWords.Kd Go.Proofs.YtcgojdhbphocgaaDoorW.PrintMore.Kd Go.Proofs.YtcgojdhbphocgaaDoorW.PrintLast Go.Proofs.YtcgojdhbphocgaaDoorW.PrintMore
attribute [local go_sem] max2_int min2_int max_two min_two max_three min_three max_four min_four   -- for this text's walks alone
set_option linter.unusedVariables false
set_option linter.unusedSimpArgs false
def laws_toFileS.l0 : Nat → List (S83) → List (S55) → Int → Option ((List (S55)))
 | 0, _, _, _ => none
 | k + 1, x0, x3, x4 => if x4 < (x0.length : Int) then (if 0 ≤ x4 then ((laws_toFile.f k ((rd_T83 x0 x4).f0) ((rd_T83 x0 x4).f1) ((rd_T83 x0 x4).f2)).bind fun bt216 => (if x4 < (x3.length : Int) then (laws_toFileS.l0 k x0 (x3.set (x4 : Int).toNat (⟨bt216.1, bt216.2.1, bt216.2.2⟩ : S55)) (wrap64 (x4 + 1))) else (none))) else (none)) else (some x3)
def laws_toFileS.f (k : Nat) (l0 : List (S83)) : Option ((List (S55))) := if 0 ≤ (l0.length : Int) then (if ((l0.length : Int) : Int).toNat ≤ 4398046511104 then (laws_toFileS.l0 k l0 (List.replicate ((l0.length : Int) : Int).toNat z55) 0) else (none)) else (none)
set_option maxHeartbeats 8000000 in
set_option maxRecDepth 100000 in
theorem laws_toFileS.calls (k : Nat) (A0 : Option Addr) (c0 : Nat) (l0 : List (S83)) (r : List (S55)) (w : World) (hr0 : Kd.C k83 w A0 l0.length l0) (hc0 : l0.length ≤ c0) (h : laws_toFileS.f k l0 = some r) :
  Calls Tryd.prog 44 #[.slice A0 l0.length c0] w fun e w' => ∃ v0_ : Value, e = .returned (v0_) ∧ Kd.S k55 55 w' w.heap.size (fun _ => True) v0_ r ∧ Below w.heap.size w w' := by
 have hu83 := Tryd.underlying83
 have hu55 := Tryd.underlying55
 have HR0 := Aside0.mk hr0
 have HC0 := Aside0.mk hc0
 clear hr0 hc0
 have HB := Aside0.mk (Below.refl w.heap.size w)
 have H : (if 0 ≤ (l0.length : Int) then (if ((l0.length : Int) : Int).toNat ≤ 4398046511104 then (laws_toFileS.l0 k l0 (List.replicate ((l0.length : Int) : Int).toNat z55) 0) else (none)) else (none)) = some r := h
 clear h
 by_cases c2 : 0 ≤ (l0.length : Int)
 ·
  rw [if_pos c2] at H
  have c2b0 := eq_true c2
  have c2b1 : decide (0 ≤ (l0.length : Int)) = true := decide_eq_true c2
  clear c2
  by_cases c3 : ((l0.length : Int) : Int).toNat ≤ 4398046511104
  ·
   rw [if_pos c3] at H
   have c3b0 := eq_true c3
   have c3b1 : decide (((l0.length : Int) : Int).toNat ≤ 4398046511104) = true := decide_eq_true c3
   clear c3
   obtain ⟨y212, hy212⟩ : ∃ y_ : List (S55), y_ = (List.replicate ((l0.length : Int) : Int).toNat z55) := ⟨_, rfl⟩
   replace H : (laws_toFileS.l0 k l0 y212 0) = some r := by first | (rw [hy212]; with_reducible exact H) | (have H2_ := (Option.bind_some _ _).symm.trans H; rw [hy212]; with_reducible exact H2_) | (have H2_ := (Option.bind_some _ _).symm.trans H; with_reducible exact H2_) | with_reducible exact H | (rw [hy212]; exact H) | exact H
   have Ny212 := Aside0.mk hy212
   clear hy212
   have H' := Aside0.mk H
   clear H
   go_enter Tryd.func44, Tryd.ntmps44
   go_wp2_with (first | ((with_reducible refine gate_dst (N := 7) rfl ?_); refine S_make k55 _ 55 rfl (N := 7) rfl 26 _ _ rfl (l0.length : Int) rfl rfl Tryd.underlying26 (.agg #[(.string ⟨#[]⟩), (.slice none 0 0), (.slice none 0 0)]) 64 info55 rfl (by decide) (by omega) z55 (ok := fun _ => True) (okp := fun _ => True) (k55_mkM _ _ _ z55 (R_nil _ _ _ _ _) (R_nil _ _ _ _ _) AP.ne_nil) (fun _ hk => hk) trivial (of_decide_eq_true (by first | (with_reducible assumption) | assumption)) (Nat.le_trans (Nat.mul_le_mul_right _ (of_decide_eq_true (by first | (with_reducible assumption) | assumption) : (l0.length : Int).toNat ≤ 4398046511104)) (by omega)) (Below.refl _ _) (Nat.le_refl _) ?_; intro v213 w4 ho5 hb hg_ hnew_; clear hg_ hnew_; (first | rw [← Ny212.out] at ho5 | (simp only [Int.reduceToNat] at ho5; rw [← Ny212.out] at ho5)); have n0_ := Aside0.mk (S_lower ho5 (below_size (by repeat (first | (with_reducible first | exact HB.out | apply below_alloc | apply pw_below_drewN | apply below_drew1) | exact HB.out)))); have n1_ := Aside0.mk (below_step (by repeat (first | (with_reducible first | exact HB.out | apply below_alloc | apply pw_below_drewN | apply below_drew1) | exact HB.out)) hb); clear HB; have HO214 := n0_; have HB := n1_; clear n0_ n1_; clear hb ho5))
   go_loopg [4] k (fun kq v4 w' => ∃ (x3_1 : List (S55)) (x4_1 : Int), v4 = .int .i64 x4_1 ∧ Aside0 (laws_toFileS.l0 kq l0 x3_1 x4_1 = some r) ∧ Aside0 (kq ≤ k) ∧ Aside0 (Kd.S k55 55 w' w.heap.size (fun _ => True) v213 x3_1) ∧ Aside0 (Below w.heap.size w w'))
   case atStart => exact ⟨(y212), (0), (by first | rfl | (simp; done) | (simp [*]; done)), H', ⟨Nat.le_refl _⟩, ⟨by (with_reducible repeat (first | apply S_alloc | apply S_drewN | apply S_drew)); exact HO214.out⟩, ⟨by repeat (first | (with_reducible first | exact HB.out | apply below_alloc | apply pw_below_drewN | apply below_drew1) | exact HB.out)⟩⟩
   case round =>
    clear H'
    try clear c2
    try clear c2b0
    try clear c2b1
    try clear p2
    try clear c3
    try clear c3b0
    try clear c3b1
    try clear c4
    obtain ⟨x3_1, x4_1, rfl, HA, HK1, HO_3, HB⟩ := hrel
    cases gk with
    | zero => exact absurd HA.out (by simp [laws_toFileS.l0])
    | succ k1 =>
     have H := HA.out
     clear HA
     simp only [laws_toFileS.l0] at H
     by_cases c6 : x4_1 < (l0.length : Int)
     ·
      rw [if_pos c6] at H
      have c6b0 : decide (x4_1 < (l0.length : Int)) = true := decide_eq_true c6
      clear c6
      by_cases c7 : 0 ≤ x4_1
      ·
       rw [if_pos c7] at H
       have c7b0 : decide (0 ≤ x4_1) = true := decide_eq_true c7
       clear c7
       replace H := Option.bind_eq_some_iff.mp H
       obtain ⟨⟨t216, t217, t220⟩, A80, H⟩ := H
       replace H : (if x4_1 < (x3_1.length : Int) then (laws_toFileS.l0 k1 l0 (x3_1.set (x4_1 : Int).toNat (⟨t216, t217, t220⟩ : S55)) (wrap64 (x4_1 + 1))) else (none)) = some r := H
       have A8 := Aside0.mk A80
       clear A80
       by_cases c9 : x4_1 < (x3_1.length : Int)
       ·
        rw [if_pos c9] at H
        have c9b0 : decide (x4_1 < (x3_1.length : Int)) = true := decide_eq_true c9
        clear c9
        obtain ⟨y223, hy223⟩ : ∃ y_ : List (S55), y_ = (x3_1.set (x4_1 : Int).toNat (⟨t216, t217, t220⟩ : S55)) := ⟨_, rfl⟩
        replace H : (laws_toFileS.l0 k1 l0 y223 (wrap64 (x4_1 + 1))) = some r := by first | (rw [hy223]; with_reducible exact H) | (have H2_ := (Option.bind_some _ _).symm.trans H; rw [hy223]; with_reducible exact H2_) | (have H2_ := (Option.bind_some _ _).symm.trans H; with_reducible exact H2_) | with_reducible exact H | (rw [hy223]; exact H) | exact H
        have Ny223 := Aside0.mk hy223
        clear hy223
        have H' := Aside0.mk H
        clear H
        have p215 : 0 ≤ (x4_1 : Int) := of_decide_eq_true (by first | (with_reducible assumption) | assumption)
        have q215 : x4_1 < (l0.length : Int) := of_decide_eq_true (by first | (with_reducible assumption) | assumption)
        obtain ⟨ad215, A215_1, c215_1, A215_2, c215_2, e215, hx215_0, hx215_1, hx215_2, hl215_1, hi215_1, hl215_2, hi215_2⟩ := at_T83 HR0.out x4_1 p215 q215
        cases e215
        replace hx215_0 := (HB.out.cell (World.block_lt_of_cell? w _ hx215_0)).trans hx215_0
        replace hx215_1 := (HB.out.cell (World.block_lt_of_cell? w _ hx215_1)).trans hx215_1
        replace hx215_2 := (HB.out.cell (World.block_lt_of_cell? w _ hx215_2)).trans hx215_2
        have HR215_1 := Aside0.mk hi215_1
        have HC215_1 := Aside0.mk hl215_1
        clear hi215_1 hl215_1
        have HR215_2 := Aside0.mk hi215_2
        have HC215_2 := Aside0.mk hl215_2
        clear hi215_2 hl215_2
        replace p215 := eq_true p215
        replace q215 := eq_true q215
        go_wp2_with (first | ((with_reducible refine gate_callee (f := 78) rfl ?_); refine goesL_ (some 20) rfl rfl Tryd.func78 (by kernel_rfl) rfl #[.agg #[.string ((rd_T83 l0 x4_1).f0), .slice A215_1 ((rd_T83 l0 x4_1).f1).length c215_1, .slice A215_2 ((rd_T83 l0 x4_1).f2).length c215_2]] rfl (by (try simp only [List.map_toArray, List.map_cons, List.map_nil]); first | done | rfl | (simp only [List.length_drop, List.length_take]; rfl)) ?_; (with_reducible refine (laws_toFile.calls k1 ((rd_T83 l0 x4_1).f0) _ _ ((rd_T83 l0 x4_1).f1) _ _ ((rd_T83 l0 x4_1).f2) t216 t217 t220 _ ?side1 ?side2 ?side3 ?side4 A8.out).mono ?_); (case side1 => repeat (first | exact (C_below HR215_1.out HB.out) | (with_reducible refine C_alloc ?_ _) | (with_reducible refine C_drewN ?_ _) | (with_reducible refine C_drew ?_))); (case side2 => exact HC215_1.out); (case side3 => repeat (first | exact (C_below HR215_2.out HB.out) | (with_reducible refine C_alloc ?_ _) | (with_reducible refine C_drewN ?_ _) | (with_reducible refine C_drew ?_))); (case side4 => exact HC215_2.out); rintro e w11 ⟨v218, v221, rfl, ho0, ho1, hb⟩; refine ⟨_, rfl, ?_⟩; have n0_ := Aside0.mk (S_mono (S_told (S_told (S_old (by (with_reducible repeat (first | apply S_alloc | apply S_drewN | apply S_drew)); exact HO_3.out) hb) (R_base ho0)) (R_base ho1)) (fun _ h_ => h_.1)); have n1_ := Aside0.mk (R_lower ho0 (below_size (by repeat (first | (with_reducible first | exact HB.out | apply below_alloc | apply pw_below_drewN | apply below_drew1) | exact HB.out)))); have n2_ := Aside0.mk (R_lower ho1 (below_size (by repeat (first | (with_reducible first | exact HB.out | apply below_alloc | apply pw_below_drewN | apply below_drew1) | exact HB.out)))); have n3_ := Aside0.mk (below_step (by repeat (first | (with_reducible first | exact HB.out | apply below_alloc | apply pw_below_drewN | apply below_drew1) | exact HB.out)) hb); clear HO_3; clear HB; have HO_3 := n0_; have HO219 := n1_; have HO222 := n2_; have HB := n3_; clear n0_ n1_ n2_ n3_; (try clear hb); (try clear hb2); (try clear hk); (try clear hi); (try clear ho0); (try clear ho1); have p10 : 0 ≤ (x4_1 : Int) := of_decide_eq_true (by first | (with_reducible assumption) | assumption); have q10 : (x4_1 : Int) < ((x3_1.length : Int) : Int) := of_decide_eq_true (by first | (with_reducible assumption) | assumption); obtain ⟨go10, co10, eo10, gb10, gl10, cl10, HG10⟩ := S_form HO_3.out (by omega); (first | cases eo10 | (injection eo10 with ea_ en_ ec_; (first | subst ea_ | (injection ea_ with ea_; subst ea_)); subst ec_; clear en_)); have GB10 := Aside0.mk gb10; have GG10 := Aside0.mk HG10; clear gb10 gl10 HG10; obtain ⟨_, ce10, hcl10, hM10, hcc10, hfr10, _, _⟩ := S_elem HO_3.out z55 (x4_1 : Int) p10 q10; obtain ⟨ve10_1, ve10_2, rfl, ge10_1, ge10_2⟩ := k55_openM hM10; have hx10_0 : w11.cell? ⟨go10, (x4_1 : Int).toNat * 3, none⟩ = some (.string ((rd_T55 x3_1 x4_1).f0)) := hcc10 0 _ rfl; have hx10_1 : w11.cell? ⟨go10, (x4_1 : Int).toNat * 3 + 1, none⟩ = some (ve10_1) := hcc10 1 _ rfl; have hx10_2 : w11.cell? ⟨go10, (x4_1 : Int).toNat * 3 + 2, none⟩ = some (ve10_2) := hcc10 2 _ rfl; have hf10_0 : w11.frozen? ⟨go10, (x4_1 : Int).toNat * 3, none⟩ = false := hfr10 0; have hf10_1 : w11.frozen? ⟨go10, (x4_1 : Int).toNat * 3 + 1, none⟩ = false := hfr10 1; have hf10_2 : w11.frozen? ⟨go10, (x4_1 : Int).toNat * 3 + 2, none⟩ = false := hfr10 2; clear hcl10 hcc10 hfr10; (try clear hM10); replace p10 := eq_true p10; replace q10 := eq_true q10; obtain ⟨Ao14, co14, eo14⟩ := R_slice HO219.out; subst eo14; obtain ⟨Ao15, co15, eo15⟩ := R_slice HO222.out; subst eo15; have n_ := Aside0.mk (S_mono (ok' := (fun k_ => some k_ ≠ (.slice Ao14 t217.length co14 : Value).ownBlock ∧ some k_ ≠ (.slice Ao15 t220.length co15 : Value).ownBlock)) HO_3.out (fun k_ hk => ⟨hk.1.2, hk.2⟩)); clear HO_3; have HO_3 := n_; clear n_; have HX12 := Aside0.mk (show Kd.S k55 55 w11 w.heap.size (fun k_ => ((fun _ => True)) k_ ∧ ¬ ((fun k_ => some k_ = (.slice Ao14 t217.length co14 : Value).ownBlock ∨ some k_ = (.slice Ao15 t220.length co15 : Value).ownBlock)) k_) (.slice (some ⟨go10, 0, none⟩) x3_1.length co10) x3_1 from (by (with_reducible repeat (first | apply S_alloc | apply S_drewN | apply S_drew)); exact S_mono HO_3.out (fun k_ hk => ⟨trivial, fun e_ => e_.elim (fun h_ => hk.1 h_) (fun h_ => hk.2 h_)⟩))); obtain ⟨oki12, ce12, hcl12, hM12, hcc12, hfr12, hoki12, hH12⟩ := S_elem HX12.out z55 (x4_1 : Int) (of_decide_eq_true (by first | (with_reducible assumption) | assumption)) (by have h_ : (x4_1 : Int) < ((x3_1.length : Int) : Int) := of_decide_eq_true (by first | (with_reducible assumption) | assumption); first | exact h_ | (have e_ := (S_reads' HO_3.out).1; omega) | simpa using h_); obtain ⟨ve12_1, ve12_2, rfl, ge12_1, ge12_2⟩ := k55_openM hM12; have HP12 := S_seg hH12 (of_decide_eq_true (by first | (with_reducible assumption) | assumption)) (by have h_ : (x4_1 : Int) < ((x3_1.length : Int) : Int) := of_decide_eq_true (by first | (with_reducible assumption) | assumption); first | exact h_ | (have e_ := (S_reads' HO_3.out).1; omega) | simpa using h_) (seg := [.string t216, .slice Ao14 t217.length co14, .slice Ao15 t220.length co15]) (j := 0) (show 3 ≤ 3 from by decide) (x' := (⟨t216, t217, t220⟩ : S55)) (k55_mkM _ _ _ (⟨t216, t217, t220⟩ : S55) (R_mono (R_tight rfl (R_mono (ok' := fun k_ => ((fun _ => True)) k_ ∧ k_ ≠ go10) (R_apart' (HO219.out) (S_typed HO_3.out) (by decide)) (fun k_ hk => ⟨trivial, fun e_ => (hk.2) (by rw [e_]; rfl)⟩))) (fun _ h_ => Or.inr (Or.inl h_))) (R_mono (R_tight rfl (R_mono (ok' := fun k_ => ((fun _ => True)) k_ ∧ k_ ≠ go10) (R_apart' (HO222.out) (S_typed HO_3.out) (by decide)) (fun k_ hk => ⟨trivial, fun e_ => (hk.2) (by rw [e_]; rfl)⟩))) (fun _ h_ => Or.inr (Or.inr (h_)))) (AP.ne_of (HO219.out) (HO222.out) (by first | exact .inl (fun k_ hk_ => by first | exact hk_ | exact hk_.1 | exact hk_.2 | exact hk_.1.1 | exact hk_.1.2 | exact hk_.2.1 | exact hk_.2.2) | exact .inr (fun k_ hk_ => by first | exact hk_ | exact hk_.1 | exact hk_.2 | exact hk_.1.1 | exact hk_.1.2 | exact hk_.2.1 | exact hk_.2.2)))) (fun _ hk => hk) (fun k_ hk_ => hk_.elim (fun h_ => ((R_mono (ok' := fun k_ => ((fun _ => True)) k_ ∧ k_ ≠ go10) (R_apart' (HO219.out) (S_typed HO_3.out) (by decide)) (fun k_ hk => ⟨trivial, fun e_ => (hk.2) (by rw [e_]; rfl)⟩))).1 k_ h_.symm) (fun h_ => ((R_mono (ok' := fun k_ => ((fun _ => True)) k_ ∧ k_ ≠ go10) (R_apart' (HO222.out) (S_typed HO_3.out) (by decide)) (fun k_ hk => ⟨trivial, fun e_ => (hk.2) (by rw [e_]; rfl)⟩))).1 k_ h_.symm)); have hx12_0 := hcc12 0 _ rfl; (try simp only [show (k55).sz = 3 from rfl, Nat.mul_one, Nat.add_zero] at hx12_0); have hf12_0 := hfr12 0; (try simp only [show (k55).sz = 3 from rfl, Nat.mul_one, Nat.add_zero] at hf12_0); have hx12_1 := hcc12 1 _ rfl; (try simp only [show (k55).sz = 3 from rfl, Nat.mul_one, Nat.add_zero] at hx12_1); have hf12_1 := hfr12 1; (try simp only [show (k55).sz = 3 from rfl, Nat.mul_one, Nat.add_zero] at hf12_1); have hx12_2 := hcc12 2 _ rfl; (try simp only [show (k55).sz = 3 from rfl, Nat.mul_one, Nat.add_zero] at hx12_2); have hf12_2 := hfr12 2; (try simp only [show (k55).sz = 3 from rfl, Nat.mul_one, Nat.add_zero] at hf12_2); clear hcl12 hcc12 hfr12; (try clear hM12); (try clear hoki12); (try clear hH12)) | ((with_reducible refine gate_store (t := 55) (p := 21) rfl ?_); refine store_event (t := 55) (p := 21) (v := ?vo_w13) (w1 := (((w11.setCell ⟨go10, (x4_1 : Int).toNat * 3, none⟩ (.string t216)).setCell ⟨go10, (x4_1 : Int).toNat * 3 + 1, none⟩ (.slice Ao14 t217.length co14)).setCell ⟨go10, (x4_1 : Int).toNat * 3 + 2, none⟩ (.slice Ao15 t220.length co15))) ?hg ?ho ?hn ?hr ?_; (case ho => rfl); (case hg => rfl); (case hn => rfl); (case hr => first | (go_simp; done) | (go_simp; rfl)); intro w13 hw; have hg : w11.grownBy w13 (some go10) := (by rw [hw]; exact HP12.2); have hp_ : Kd.S k55 55 w13 w.heap.size (fun _ => True) (.slice (some ⟨go10, 0, none⟩) x3_1.length co10) y223 := (by rw [hw, Ny223.out]; exact HP12.1); clear HP12; have n0_ := Aside0.mk (hp_); have n1_ := Aside0.mk ((by rw [hw]; exact below_set (below_set (below_set (HB.out) GB10.out) GB10.out) GB10.out : Below w.heap.size w w13)); clear HO_3; clear HB; clear HO219; clear HO222; have HO_3 := n0_; have HB := n1_; clear n0_ n1_; clear hg hw hp_))
        go_roundg k1
        case measure => have := HK1.out; omega
        case rel => exact ⟨(y223), (wrap64 (x4_1 + 1)), (by first | rfl | (simp; done) | (simp [*]; done)), H', ⟨by have := HK1.out; omega⟩, ⟨by (with_reducible repeat (first | apply S_alloc | apply S_drewN | apply S_drew)); exact HO_3.out⟩, ⟨by repeat (first | (with_reducible first | exact HB.out | apply below_alloc | apply pw_below_drewN | apply below_drew1) | exact HB.out)⟩⟩
       ·
        rw [if_neg c9] at H
        exact absurd H (by simp)
      ·
       rw [if_neg c7] at H
       exact absurd H (by simp)
     ·
      rw [if_neg c6] at H
      have c6b0 : decide (x4_1 < (l0.length : Int)) = false := decide_eq_false c6
      clear c6
      obtain rfl := Option.some.inj H
      go_wp2
      go_ret
      exact ⟨_, by first | rfl | (simp [errW_none, errW_some] <;> rfl) | (simp [*, errW_none, errW_some] <;> rfl), by (with_reducible repeat (first | apply S_alloc | apply S_drewN | apply S_drew)); exact HO_3.out, by repeat (first | (with_reducible first | exact HB.out | apply below_alloc | apply pw_below_drewN | apply below_drew1) | exact HB.out)⟩
  ·
   rw [if_neg c3] at H
   exact absurd H (by simp)
 ·
  rw [if_neg c2] at H
  exact absurd H (by simp)
end Go.Proofs.YtcgojdhbphocgaaDoor.F

namespace Go.Proofs.YtcgojdhbphocgaaDoor.F
open Go.RowKit Go.Proofs.YtcgojdhbphocgaaDoorW.PrintWords Go.Proofs.YtcgojdhbphocgaaDoorW.PrintWords.Kd Go.Proofs.YtcgojdhbphocgaaDoorW.PrintMore.Kd Go.Proofs.YtcgojdhbphocgaaDoorW.PrintLast Go.Proofs.YtcgojdhbphocgaaDoorW.PrintMore
attribute [local go_sem] max2_int min2_int max_two min_two max_three min_three max_four min_four   -- for this text's walks alone
set_option linter.unusedVariables false
set_option linter.unusedSimpArgs false
def laws_toDisk.f (k : Nat) (l0_0 : List (S83)) : Option ((List (S55))) := (laws_toFileS.f k l0_0).bind fun t227 => (some t227)
set_option maxHeartbeats 8000000 in
set_option maxRecDepth 100000 in
theorem laws_toDisk.calls (k : Nat) (A0_0 : Option Addr) (c0_0 : Nat) (l0_0 : List (S83)) (r : List (S55)) (w : World) (hr0_0 : Kd.C k83 w A0_0 l0_0.length l0_0) (hc0_0 : l0_0.length ≤ c0_0) (h : laws_toDisk.f k l0_0 = some r) :
  Calls Tryd.prog 13 #[.agg #[.slice A0_0 l0_0.length c0_0]] w fun e w' => ∃ v0_ : Value, e = .returned (.agg #[v0_]) ∧ Kd.S k55 55 w' w.heap.size (fun _ => True) v0_ r ∧ Below w.heap.size w w' := by
 have hu24 := Tryd.underlying24
 have hu28 := Tryd.underlying28
 have HR0_0 := Aside0.mk hr0_0
 have HC0_0 := Aside0.mk hc0_0
 clear hr0_0 hc0_0
 have HB := Aside0.mk (Below.refl w.heap.size w)
 have H : ((laws_toFileS.f k l0_0).bind fun t227 => (some t227)) = some r := h
 clear h
 replace H := Option.bind_eq_some_iff.mp H
 obtain ⟨t227, A20, H⟩ := H
 replace H : (some t227) = some r := H
 have A2 := Aside0.mk A20
 clear A20
 obtain rfl := Option.some.inj H
 go_enter Tryd.func13, Tryd.ntmps13
 go_wp2_with (first | ((with_reducible refine gate_dst (N := 1) rfl ?_); refine box_event ?hg (N := 1) ?hd (cs := #[.slice A0_0 l0_0.length c0_0]) (t := 24) ?hr ?_; (case hd => rfl); (case hg => rfl); (case hr => first | (go_simp; done) | (go_simp; rfl)); intro gb224 hg w3 hbox hb; have n0_ := Aside0.mk (below_step (by repeat (first | (with_reducible first | exact HB.out | apply below_alloc | apply pw_below_drewN | apply below_drew1) | exact HB.out)) hb); have n1_ := Aside0.mk (hbox); have n2_ := Aside0.mk ((by rw [hg]; exact (below_size (by repeat (first | (with_reducible first | exact HB.out | apply below_alloc | apply pw_below_drewN | apply below_drew1) | exact HB.out))) : w.heap.size ≤ gb224)); have n3_ := Aside0.mk ((by rw [hg]; exact (below_size (by repeat (first | (with_reducible first | exact HB.out | apply below_alloc | apply pw_below_drewN | apply below_drew1) | exact HB.out))) : w.heap.size ≤ gb224)); clear HB; have HB := n0_; have BK224 := n1_; have GW224 := n2_; have GE224 := n3_; clear n0_ n1_ n2_ n3_; clear hb hbox hg) | ((with_reducible refine gate_dst (N := 2) rfl ?_); refine box_event ?hg (N := 2) ?hd (cs := #[.slice none 0 0]) (t := 28) ?hr ?_; (case hd => rfl); (case hg => rfl); (case hr => first | (go_simp; done) | (go_simp; rfl)); intro gb225 hg w4 hbox hb; have n0_ := Aside0.mk (blk_below (g := gb224) (o := .cells #[.slice A0_0 l0_0.length c0_0] 24 (0, 0)) (by (with_reducible repeat (first | refine blk_drewN ?_ _ | refine blk_drew ?_ | refine blk_alloc ?_ _)); exact BK224.out) hb); have n1_ := Aside0.mk (below_step (by repeat (first | (with_reducible first | exact HB.out | apply below_alloc | apply pw_below_drewN | apply below_drew1 | refine below_set ?_ GE224.out) | exact HB.out)) hb); have n2_ := Aside0.mk (hbox); have n3_ := Aside0.mk ((by rw [hg]; exact (below_size (by repeat (first | (with_reducible first | exact HB.out | apply below_alloc | apply pw_below_drewN | apply below_drew1 | refine below_set ?_ GE224.out) | exact HB.out))) : w.heap.size ≤ gb225)); have n4_ := Aside0.mk ((by rw [hg]; exact (below_size (by repeat (first | (with_reducible first | exact HB.out | apply below_alloc | apply pw_below_drewN | apply below_drew1 | refine below_set ?_ GE224.out) | exact HB.out))) : w.heap.size ≤ gb225)); have n5_ := Aside0.mk ((by rw [hg]; exact Nat.ne_of_lt (blk_lt (g := gb224) (o := .cells #[.slice A0_0 l0_0.length c0_0] 24 (0, 0)) (by (with_reducible repeat (first | refine blk_drewN ?_ _ | refine blk_drew ?_ | refine blk_alloc ?_ _)); exact BK224.out)) : gb224 ≠ gb225)); have n6_ := Aside0.mk ((by rw [hg]; exact Nat.ne_of_gt (blk_lt (g := gb224) (o := .cells #[.slice A0_0 l0_0.length c0_0] 24 (0, 0)) (by (with_reducible repeat (first | refine blk_drewN ?_ _ | refine blk_drew ?_ | refine blk_alloc ?_ _)); exact BK224.out)) : gb225 ≠ gb224)); clear BK224; clear HB; have BK224 := n0_; have HB := n1_; have BK225 := n2_; have GW225 := n3_; have GE225 := n4_; have NB224_225 := n5_; have NB225_224 := n6_; clear n0_ n1_ n2_ n3_ n4_ n5_ n6_; clear hb hbox hg) | ((with_reducible refine gate_dst (N := 3) rfl ?_); refine box_event ?hg (N := 3) ?hd (cs := #[.slice none 0 0]) (t := 28) ?hr ?_; (case hd => rfl); (case hg => rfl); (case hr => first | (go_simp; done) | (go_simp; rfl)); intro gb226 hg w5 hbox hb; have n0_ := Aside0.mk (blk_below (g := gb224) (o := .cells #[.slice A0_0 l0_0.length c0_0] 24 (0, 0)) (by (with_reducible repeat (first | refine blk_drewN ?_ _ | refine blk_drew ?_ | refine blk_alloc ?_ _)); exact BK224.out) hb); have n1_ := Aside0.mk (blk_below (g := gb225) (o := .cells #[.slice none 0 0] 28 (0, 0)) (by (with_reducible repeat (first | refine blk_drewN ?_ _ | refine blk_drew ?_ | refine blk_alloc ?_ _)); exact BK225.out) hb); have n2_ := Aside0.mk (below_step (by repeat (first | (with_reducible first | exact HB.out | apply below_alloc | apply pw_below_drewN | apply below_drew1 | refine below_set ?_ GE224.out | refine below_set ?_ GE225.out) | exact HB.out)) hb); have n3_ := Aside0.mk (hbox); have n4_ := Aside0.mk ((by rw [hg]; exact (below_size (by repeat (first | (with_reducible first | exact HB.out | apply below_alloc | apply pw_below_drewN | apply below_drew1 | refine below_set ?_ GE224.out | refine below_set ?_ GE225.out) | exact HB.out))) : w.heap.size ≤ gb226)); have n5_ := Aside0.mk ((by rw [hg]; exact (below_size (by repeat (first | (with_reducible first | exact HB.out | apply below_alloc | apply pw_below_drewN | apply below_drew1 | refine below_set ?_ GE224.out | refine below_set ?_ GE225.out) | exact HB.out))) : w.heap.size ≤ gb226)); have n6_ := Aside0.mk ((by rw [hg]; exact Nat.ne_of_lt (blk_lt (g := gb224) (o := .cells #[.slice A0_0 l0_0.length c0_0] 24 (0, 0)) (by (with_reducible repeat (first | refine blk_drewN ?_ _ | refine blk_drew ?_ | refine blk_alloc ?_ _)); exact BK224.out)) : gb224 ≠ gb226)); have n7_ := Aside0.mk ((by rw [hg]; exact Nat.ne_of_gt (blk_lt (g := gb224) (o := .cells #[.slice A0_0 l0_0.length c0_0] 24 (0, 0)) (by (with_reducible repeat (first | refine blk_drewN ?_ _ | refine blk_drew ?_ | refine blk_alloc ?_ _)); exact BK224.out)) : gb226 ≠ gb224)); have n8_ := Aside0.mk ((by rw [hg]; exact Nat.ne_of_lt (blk_lt (g := gb225) (o := .cells #[.slice none 0 0] 28 (0, 0)) (by (with_reducible repeat (first | refine blk_drewN ?_ _ | refine blk_drew ?_ | refine blk_alloc ?_ _)); exact BK225.out)) : gb225 ≠ gb226)); have n9_ := Aside0.mk ((by rw [hg]; exact Nat.ne_of_gt (blk_lt (g := gb225) (o := .cells #[.slice none 0 0] 28 (0, 0)) (by (with_reducible repeat (first | refine blk_drewN ?_ _ | refine blk_drew ?_ | refine blk_alloc ?_ _)); exact BK225.out)) : gb226 ≠ gb225)); clear BK224; clear BK225; clear HB; have BK224 := n0_; have BK225 := n1_; have HB := n2_; have BK226 := n3_; have GW226 := n4_; have GE226 := n5_; have NB224_226 := n6_; have NB226_224 := n7_; have NB225_226 := n8_; have NB226_225 := n9_; clear n0_ n1_ n2_ n3_ n4_ n5_ n6_ n7_ n8_ n9_; clear hb hbox hg; have hnb6 := NB224_225.out; have hnc6 := NB225_224.out; have hnb7 := NB224_226.out; have hnc7 := NB226_224.out; have hcz8_0 : w5.cell? ⟨gb224, 0, none⟩ = some (.slice A0_0 l0_0.length c0_0) := (blk_cell BK224.out 0).trans rfl; have hfz8_0 := blk_frozen BK224.out 0) | ((with_reducible refine gate_callee (f := 44) rfl ?_); refine goesL_ (some 6) rfl rfl Tryd.func44 (by kernel_rfl) rfl #[.slice A0_0 l0_0.length c0_0] rfl (by (try simp only [List.map_toArray, List.map_cons, List.map_nil]); first | done | rfl | (simp only [List.length_drop, List.length_take]; rfl)) ?_; (with_reducible refine (laws_toFileS.calls k _ _ l0_0 t227 _ ?side1 ?side2 A2.out).mono ?_); (case side1 => repeat (first | exact (C_below HR0_0.out HB.out) | (with_reducible refine C_alloc ?_ _) | (with_reducible refine C_drewN ?_ _) | (with_reducible refine C_drew ?_))); (case side2 => exact HC0_0.out); rintro e w9 ⟨v228, rfl, ho0, hb⟩; refine ⟨_, rfl, ?_⟩; have n0_ := Aside0.mk (S_lower ho0 (below_size (by repeat (first | (with_reducible first | exact HB.out | apply below_alloc | apply pw_below_drewN | apply below_drew1 | refine below_set ?_ GE224.out | refine below_set ?_ GE225.out | refine below_set ?_ GE226.out) | exact HB.out)))); have n1_ := Aside0.mk (blk_below (g := gb224) (o := .cells #[.slice A0_0 l0_0.length c0_0] 24 (0, 0)) (by (with_reducible repeat (first | refine blk_drewN ?_ _ | refine blk_drew ?_ | refine blk_alloc ?_ _)); exact BK224.out) hb); have n2_ := Aside0.mk (blk_below (g := gb225) (o := .cells #[.slice none 0 0] 28 (0, 0)) (by (with_reducible repeat (first | refine blk_drewN ?_ _ | refine blk_drew ?_ | refine blk_alloc ?_ _)); exact BK225.out) hb); have n3_ := Aside0.mk (blk_below (g := gb226) (o := .cells #[.slice none 0 0] 28 (0, 0)) (by (with_reducible repeat (first | refine blk_drewN ?_ _ | refine blk_drew ?_ | refine blk_alloc ?_ _)); exact BK226.out) hb); have n4_ := Aside0.mk (below_step (by repeat (first | (with_reducible first | exact HB.out | apply below_alloc | apply pw_below_drewN | apply below_drew1 | refine below_set ?_ GE224.out | refine below_set ?_ GE225.out | refine below_set ?_ GE226.out) | exact HB.out)) hb); clear BK224; clear BK225; clear BK226; clear HB; have HO229 := n0_; have BK224 := n1_; have BK225 := n2_; have BK226 := n3_; have HB := n4_; clear n0_ n1_ n2_ n3_ n4_; (try clear hb); (try clear hb2); (try clear hk); (try clear hi); (try clear ho0); obtain ⟨Ao10, co10, eo10⟩ := S_slice HO229.out; subst eo10; have hnb11 := NB226_225.out; have hnc11 := NB225_226.out; have hcz12_0 : w9.cell? ⟨gb226, 0, none⟩ = some (.slice none 0 0) := (blk_cell BK226.out 0).trans rfl; have hfz12_0 := blk_frozen BK226.out 0; have hcz13_0 : w9.cell? ⟨gb225, 0, none⟩ = some (.slice none 0 0) := (blk_cell BK225.out 0).trans rfl; have hfz13_0 := blk_frozen BK225.out 0))
 refine bodyPost_ret (results_cell_row rfl _ _ gb225 28 #[.slice Ao10 t227.length co10] (0, 0) _ rfl (by (with_reducible repeat (first | refine blk_drewN ?_ _ | refine blk_drew ?_ | refine blk_alloc ?_ _)); refine blk_put (cs := #[.slice none 0 0]) ?_ 0 _ rfl; (with_reducible repeat (first | refine blk_drewN ?_ _ | refine blk_drew ?_ | refine blk_alloc ?_ _)); refine blk_far ?_ NB225_226.out _; (with_reducible repeat (first | refine blk_drewN ?_ _ | refine blk_drew ?_ | refine blk_alloc ?_ _)); exact BK225.out) Tryd.underlying28 rfl (by kernel_rfl)) rfl ?_
 exact ⟨_, by first | rfl | (simp [errW_none, errW_some] <;> rfl) | (simp [*, errW_none, errW_some] <;> rfl), by (with_reducible repeat (first | apply S_alloc | apply S_drewN | apply S_drew)); exact S_mono (S_far (p := ⟨gb225, 0, none⟩) (S_far (p := ⟨gb226, 0, none⟩) (S_types (S_types HO229.out BK226.out (by decide)) BK225.out (by decide)) (fun _ hk => hk.1.2) (.slice Ao10 t227.length co10)) (fun _ hk => hk.2) (.slice Ao10 t227.length co10)) (fun _ hk => trivial), by repeat (first | (with_reducible first | exact HB.out | apply below_alloc | apply pw_below_drewN | apply below_drew1 | refine below_set ?_ GE224.out | refine below_set ?_ GE225.out | refine below_set ?_ GE226.out) | exact HB.out)⟩
end Go.Proofs.YtcgojdhbphocgaaDoor.F
