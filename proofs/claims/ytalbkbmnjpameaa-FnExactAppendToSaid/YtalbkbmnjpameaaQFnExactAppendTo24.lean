/- Merged texts below the law FnExactAppendTo: Go functions as Lean functions, their contracts, and plain lemmas. -/
import Derived.Test.YtalbkbmnjpameaaQFnExactAppendTo22
import Derived.Test.YtalbkbmnjpameaaQFnExactAppendTo23
namespace Go.Proofs.Ytalbkbmnjpameaa.F
open Go.RowKit Go.Proofs.YtalbkbmnjpameaaW.PrintWords Go.Proofs.YtalbkbmnjpameaaW.PrintLast Go.Proofs.YtalbkbmnjpameaaW.PrintMore
attribute [local go_sem] max2_int min2_int max_two min_two max_three min_three max_four min_four   -- for this text's walks alone
set_option linter.unusedVariables false
set_option linter.unusedSimpArgs false
mutual
def impl_AppendTo.j0 : Nat → Int → List (S54) → Bool → Int → Int → List (S54) → Int → Int → List (S54) → Option (Int × Int × (List (S54)) × Bool)
  | 0, _, _, _, _, _, _, _, _, _ => none
  | k + 1, x1, x3, x42, x548000, x548001, x548002, x555000, x555001, x555002 => if x42 = true then (some (x555000, x555001, x555002, false)) else (impl_AppendTo.l0 k x1 x3 x3 (x3.length : Int) 0 x548000 x548001 x548002 x555000 x555001 x555002)
def impl_AppendTo.j2 : Nat → Int → Int → List (S54) → Int → Int → List (S54) → Option (Int × Int × (List (S54)) × Bool)
  | 0, _, _, _, _, _, _ => none
  | k + 1, x548000, x548001, x548002, x555000, x555001, x555002 => (impl_isRLog.f k x555000 x555001 x555002).bind fun t582 => (if t582 = true then (some (x555000, x555001, x555002, true)) else ((impl_copyRLog.f x548000 x548001 x548002).bind fun bt583 => (some (bt583.1, bt583.2.1, bt583.2.2, false))))
def impl_AppendTo.l0 : Nat → Int → List (S54) → List (S54) → Int → Int → Int → Int → List (S54) → Int → Int → List (S54) → Option (Int × Int × (List (S54)) × Bool)
  | 0, _, _, _, _, _, _, _, _, _, _, _ => none
  | k + 1, x1, x3, x44, x45, x46, x548000, x548001, x548002, x555000, x555001, x555002 => if x46 < x45 then (if 0 ≤ x46 then (if x46 < (x44.length : Int) then ((impl_RLog_last.f x548000 x548001 x548002).bind fun t560 => (if (wrap64 ((wrap64 (x1 + 1)) + x46)) ≤ t560 then ((impl_RLog_term.f x548000 x548001 x548002 (wrap64 ((wrap64 (x1 + 1)) + x46))).bind fun t561 => (if t561 = ((rd_T54 x44 x46).f0) then (impl_AppendTo.l0 k x1 x3 x44 x45 (wrap64 (x46 + 1)) x548000 x548001 x548002 x555000 x555001 x555002) else (if 0 ≤ (wrap64 ((wrap64 ((wrap64 ((wrap64 (x1 + 1)) + x46)) - x548000)) - 1)) then (if (wrap64 ((wrap64 ((wrap64 ((wrap64 (x1 + 1)) + x46)) - x548000)) - 1)) ≤ (x555002.length : Int) then ((some (x555002.take ((wrap64 ((wrap64 ((wrap64 ((wrap64 (x1 + 1)) + x46)) - x548000)) - 1)) : Int).toNat : List (S54))).bind fun y562 => (if x46 ≤ (x3.length : Int) then ((some (x3.drop (x46 : Int).toNat : List (S54))).bind fun y565 => (if y562.length + y565.length < 5864062014805 then (impl_AppendTo.j2 k x548000 x548001 x548002 x555000 x555001 (y562 ++ y565)) else (none))) else (none))) else (none)) else (none)))) else (if 0 ≤ (wrap64 ((wrap64 ((wrap64 ((wrap64 (x1 + 1)) + x46)) - x548000)) - 1)) then (if (wrap64 ((wrap64 ((wrap64 ((wrap64 (x1 + 1)) + x46)) - x548000)) - 1)) ≤ (x555002.length : Int) then ((some (x555002.take ((wrap64 ((wrap64 ((wrap64 ((wrap64 (x1 + 1)) + x46)) - x548000)) - 1)) : Int).toNat : List (S54))).bind fun y572 => (if x46 ≤ (x3.length : Int) then ((some (x3.drop (x46 : Int).toNat : List (S54))).bind fun y575 => (if y572.length + y575.length < 5864062014805 then (impl_AppendTo.j2 k x548000 x548001 x548002 x555000 x555001 (y572 ++ y575)) else (none))) else (none))) else (none)) else (none)))) else (none)) else (none)) else (impl_AppendTo.j2 k x548000 x548001 x548002 x555000 x555001 x555002)
end
def impl_AppendTo.f (k : Nat) (a0_0 : Int) (a0_1 : Int) (l0_2 : List (S54)) (a1 : Int) (a2 : Int) (l3 : List (S54)) : Option (Int × Int × (List (S54)) × Bool) := (impl_copyRLog.f a0_0 a0_1 l0_2).bind fun bt549 => ((impl_isRLog.f k a0_0 a0_1 l0_2).bind fun t555 => (if t555 = true then (if a1 < a0_0 then (impl_AppendTo.j0 k a1 l3 true a0_0 a0_1 l0_2 bt549.1 bt549.2.1 bt549.2.2) else ((impl_RLog_last.f a0_0 a0_1 l0_2).bind fun t556 => (if a1 > t556 then (impl_AppendTo.j0 k a1 l3 true a0_0 a0_1 l0_2 bt549.1 bt549.2.1 bt549.2.2) else ((impl_RLog_term.f a0_0 a0_1 l0_2 a1).bind fun t557 => (if t557 = a2 then (impl_AppendTo.j0 k a1 l3 (decide ((l3.length : Int) > 10)) a0_0 a0_1 l0_2 bt549.1 bt549.2.1 bt549.2.2) else (impl_AppendTo.j0 k a1 l3 true a0_0 a0_1 l0_2 bt549.1 bt549.2.1 bt549.2.2)))))) else (impl_AppendTo.j0 k a1 l3 true a0_0 a0_1 l0_2 bt549.1 bt549.2.1 bt549.2.2)))
def impl_AppendTo.T8 : Bool × List (List Nat × List Nat) := (true, [([], []), ([], []), ([1], [1]), ([0, 2], [0, 2]), ([3, 2], [3]), ([4], [4]), ([4], [4]), ([5, 6, 4, 4], [4, 5, 6]), ([4], [4]), ([8, 4], [4, 8]), ([7, 9, 4], [4, 7, 9]), ([4, 10], [4, 10])])
def impl_AppendTo.B8 : List Nat := [0, 0, 2, 7, 15, 31, 31, 127, 31, 287, 1023, 2047]
theorem impl_AppendTo.tab8 : rtab .any (opsOf Try.f38 8) = impl_AppendTo.T8 := by kernel_rfl
theorem impl_AppendTo.bits8 : waitsOk impl_AppendTo.T8.2 impl_AppendTo.B8 = true := by kernel_rfl
def impl_AppendTo.T9 : Bool × List (List Nat × List Nat) := (true, [([], []), ([0], [0]), ([], []), ([], []), ([3], [3]), ([2, 4], [2, 4]), ([5], [5]), ([1, 6], [1, 6]), ([], []), ([], []), ([8, 9], [8, 9]), ([7, 10], [7, 10]), ([0, 1, 2, 3, 4, 5, 6, 7, 8, 9, 10, 11], []), ([12, 11, 11, 0, 1, 2, 3, 4, 5, 6, 7, 8, 9, 10, 11], [11, 12])])
def impl_AppendTo.B9 : List Nat := [0, 1, 0, 0, 8, 28, 60, 127, 0, 0, 768, 2047, 4095, 8191]
theorem impl_AppendTo.tab9 : rtab .any (opsOf Try.f38 9) = impl_AppendTo.T9 := by kernel_rfl
theorem impl_AppendTo.bits9 : waitsOk impl_AppendTo.T9.2 impl_AppendTo.B9 = true := by kernel_rfl
set_option maxHeartbeats 8000000 in
set_option maxRecDepth 100000 in
theorem impl_AppendTo.calls (k : Nat) (a0_0 : Int) (a0_1 : Int) (A0_2 : Option Addr) (c0_2 : Nat) (l0_2 : List (S54)) (a1 : Int) (a2 : Int) (A3 : Option Addr) (c3 : Nat) (l3 : List (S54)) (r1 : Int) (r2 : Int) (r3 : List (S54)) (r4 : Bool) (w : World) (hr0_2 : Kd.C k54 w A0_2 l0_2.length l0_2) (hc0_2 : l0_2.length ≤ c0_2) (hr3 : Kd.C k54 w A3 l3.length l3) (hc3 : l3.length ≤ c3) (h : impl_AppendTo.f k a0_0 a0_1 l0_2 a1 a2 l3 = some (r1, r2, r3, r4)) :
    Calls Try.prog 38 #[.agg #[.int .i64 a0_0, .int .i64 a0_1, .slice A0_2 l0_2.length c0_2], .int .i64 a1, .int .i64 a2, .slice A3 l3.length c3] w fun e w' => ∃ v2_ : Value, e = .returned (.tuple #[.agg #[.int .i64 r1, .int .i64 r2, v2_], .bool r4]) ∧ Kd.R k54 54 w' w.heap.size (fun _ => True) v2_ r3 ∧ Below w.heap.size w w' := by
  have hu29 := Try.underlying29
  have hu54 := Try.underlying54
  have HR0_2 := Aside0.mk hr0_2
  have HC0_2 := Aside0.mk hc0_2
  clear hr0_2 hc0_2
  have HR3 := Aside0.mk hr3
  have HC3 := Aside0.mk hc3
  clear hr3 hc3
  have HB := Aside0.mk (Below.refl w.heap.size w)
  have H : ((impl_copyRLog.f a0_0 a0_1 l0_2).bind fun bt549 => ((impl_isRLog.f k a0_0 a0_1 l0_2).bind fun t555 => (if t555 = true then (if a1 < a0_0 then (impl_AppendTo.j0 k a1 l3 true a0_0 a0_1 l0_2 bt549.1 bt549.2.1 bt549.2.2) else ((impl_RLog_last.f a0_0 a0_1 l0_2).bind fun t556 => (if a1 > t556 then (impl_AppendTo.j0 k a1 l3 true a0_0 a0_1 l0_2 bt549.1 bt549.2.1 bt549.2.2) else ((impl_RLog_term.f a0_0 a0_1 l0_2 a1).bind fun t557 => (if t557 = a2 then (impl_AppendTo.j0 k a1 l3 (decide ((l3.length : Int) > 10)) a0_0 a0_1 l0_2 bt549.1 bt549.2.1 bt549.2.2) else (impl_AppendTo.j0 k a1 l3 true a0_0 a0_1 l0_2 bt549.1 bt549.2.1 bt549.2.2)))))) else (impl_AppendTo.j0 k a1 l3 true a0_0 a0_1 l0_2 bt549.1 bt549.2.1 bt549.2.2)))) = some (r1, r2, r3, r4) := h
  clear h
  replace H := Option.bind_eq_some_iff.mp H
  obtain ⟨⟨t549, t550, t551⟩, A50, H⟩ := H
  replace H : ((impl_isRLog.f k a0_0 a0_1 l0_2).bind fun t555 => (if t555 = true then (if a1 < a0_0 then (impl_AppendTo.j0 k a1 l3 true a0_0 a0_1 l0_2 t549 t550 t551) else ((impl_RLog_last.f a0_0 a0_1 l0_2).bind fun t556 => (if a1 > t556 then (impl_AppendTo.j0 k a1 l3 true a0_0 a0_1 l0_2 t549 t550 t551) else ((impl_RLog_term.f a0_0 a0_1 l0_2 a1).bind fun t557 => (if t557 = a2 then (impl_AppendTo.j0 k a1 l3 (decide ((l3.length : Int) > 10)) a0_0 a0_1 l0_2 t549 t550 t551) else (impl_AppendTo.j0 k a1 l3 true a0_0 a0_1 l0_2 t549 t550 t551)))))) else (impl_AppendTo.j0 k a1 l3 true a0_0 a0_1 l0_2 t549 t550 t551))) = some (r1, r2, r3, r4) := H
  have A5 := Aside0.mk A50
  clear A50
  have HC6 := Aside0.mk H
  clear H
  go_enter Try.func38, Try.ntmps38
  go_upto_region 2 with (first | ((with_reducible refine gate_dst (N := 4) rfl ?_); (try (refine gate_guard (by rfl) ?_; dsimp only)); refine box_event ?hg (N := 4) ?hd (cs := #[.int .i64 a0_0, .int .i64 a0_1, .slice A0_2 l0_2.length c0_2]) (t := 29) ?hr ?_; (case hd => rfl); (case hg => rfl); (case hr => first | (go_simp; done) | (go_simp; rfl)); intro gb547 hg w7 hbox hb; have n0_ := Aside0.mk (below_step (by repeat (first | (with_reducible first | exact HB.out | apply below_alloc | apply pw_below_drewN | apply below_drew1) | exact HB.out)) hb); have n1_ := Aside0.mk (hbox); have n2_ := Aside0.mk ((by rw [hg]; exact (below_size (by repeat (first | (with_reducible first | exact HB.out | apply below_alloc | apply pw_below_drewN | apply below_drew1) | exact HB.out))) : w.heap.size ≤ gb547)); have n3_ := Aside0.mk ((by rw [hg]; exact (below_size (by repeat (first | (with_reducible first | exact HB.out | apply below_alloc | apply pw_below_drewN | apply below_drew1) | exact HB.out))) : w.heap.size ≤ gb547)); clear HB; have HB := n0_; have BK547 := n1_; have GW547 := n2_; have GE547 := n3_; clear n0_ n1_ n2_ n3_; clear hb hbox hg) | ((with_reducible refine gate_dst (N := 8) rfl ?_); (try (refine gate_guard (by rfl) ?_; dsimp only)); refine box_event ?hg (N := 8) ?hd (cs := #[.int .i64 0, .int .i64 0, .slice none 0 0]) (t := 29) ?hr ?_; (case hd => rfl); (case hg => rfl); (case hr => first | (go_simp; done) | (go_simp; rfl)); intro gb548 hg w8 hbox hb; have n0_ := Aside0.mk (blk_below (g := gb547) (o := .cells #[.int .i64 a0_0, .int .i64 a0_1, .slice A0_2 l0_2.length c0_2] 29 (0, 0)) (by (with_reducible repeat (first | refine blk_drewN ?_ _ | refine blk_drew ?_ | refine blk_alloc ?_ _)); exact BK547.out) hb); have n1_ := Aside0.mk (below_step (by repeat (first | (with_reducible first | exact HB.out | apply below_alloc | apply pw_below_drewN | apply below_drew1 | refine below_set ?_ GE547.out) | exact HB.out)) hb); have n2_ := Aside0.mk (hbox); have n3_ := Aside0.mk ((by rw [hg]; exact (below_size (by repeat (first | (with_reducible first | exact HB.out | apply below_alloc | apply pw_below_drewN | apply below_drew1 | refine below_set ?_ GE547.out) | exact HB.out))) : w.heap.size ≤ gb548)); have n4_ := Aside0.mk ((by rw [hg]; exact (below_size (by repeat (first | (with_reducible first | exact HB.out | apply below_alloc | apply pw_below_drewN | apply below_drew1 | refine below_set ?_ GE547.out) | exact HB.out))) : w.heap.size ≤ gb548)); have n5_ := Aside0.mk ((by rw [hg]; exact Nat.ne_of_lt (blk_lt (g := gb547) (o := .cells #[.int .i64 a0_0, .int .i64 a0_1, .slice A0_2 l0_2.length c0_2] 29 (0, 0)) (by (with_reducible repeat (first | refine blk_drewN ?_ _ | refine blk_drew ?_ | refine blk_alloc ?_ _)); exact BK547.out)) : gb547 ≠ gb548)); have n6_ := Aside0.mk ((by rw [hg]; exact Nat.ne_of_gt (blk_lt (g := gb547) (o := .cells #[.int .i64 a0_0, .int .i64 a0_1, .slice A0_2 l0_2.length c0_2] 29 (0, 0)) (by (with_reducible repeat (first | refine blk_drewN ?_ _ | refine blk_drew ?_ | refine blk_alloc ?_ _)); exact BK547.out)) : gb548 ≠ gb547)); clear BK547; clear HB; have BK547 := n0_; have HB := n1_; have BK548 := n2_; have GW548 := n3_; have GE548 := n4_; have NB547_548 := n5_; have NB548_547 := n6_; clear n0_ n1_ n2_ n3_ n4_ n5_ n6_; clear hb hbox hg; have hnb9 := NB547_548.out; have hnc9 := NB548_547.out; have hcz10_0 : w8.cell? ⟨gb547, 0, none⟩ = some (.int .i64 a0_0) := (blk_cell BK547.out 0).trans rfl; have hcz10_1 : w8.cell? ⟨gb547, 1, none⟩ = some (.int .i64 a0_1) := (blk_cell BK547.out 1).trans rfl; have hcz10_2 : w8.cell? ⟨gb547, 2, none⟩ = some (.slice A0_2 l0_2.length c0_2) := (blk_cell BK547.out 2).trans rfl; have hfz10_0 := blk_frozen BK547.out 0; have hfz10_1 := blk_frozen BK547.out 1; have hfz10_2 := blk_frozen BK547.out 2) | ((with_reducible refine gate_callee (f := 52) rfl ?_); refine goesL_ (some 15) rfl rfl Try.func52 (by kernel_rfl) rfl #[.agg #[.int .i64 a0_0, .int .i64 a0_1, .slice A0_2 l0_2.length c0_2]] rfl (by (try simp only [List.map_toArray, List.map_cons, List.map_nil]); first | done | rfl | (simp only [List.length_drop, List.length_take]; rfl)) ?_; (with_reducible refine (impl_copyRLog.calls a0_0 a0_1 _ _ l0_2 t549 t550 t551 _ ?side1 ?side2 A5.out).mono ?_); (case side1 => repeat (first | exact (Kd.C_below HR0_2.out HB.out) | (with_reducible refine Kd.C_alloc ?_ _) | (with_reducible refine Kd.C_drewN ?_ _) | (with_reducible refine Kd.C_drew ?_))); (case side2 => exact HC0_2.out); rintro e w11 ⟨v552, rfl, ho0, hb⟩; refine ⟨_, rfl, ?_⟩; have n0_ := Aside0.mk (Kd.R_lower ho0 (below_size (by repeat (first | (with_reducible first | exact HB.out | apply below_alloc | apply pw_below_drewN | apply below_drew1 | refine below_set ?_ GE547.out | refine below_set ?_ GE548.out) | exact HB.out)))); have n1_ := Aside0.mk (blk_below (g := gb547) (o := .cells #[.int .i64 a0_0, .int .i64 a0_1, .slice A0_2 l0_2.length c0_2] 29 (0, 0)) (by (with_reducible repeat (first | refine blk_drewN ?_ _ | refine blk_drew ?_ | refine blk_alloc ?_ _)); exact BK547.out) hb); have n2_ := Aside0.mk (blk_below (g := gb548) (o := .cells #[.int .i64 0, .int .i64 0, .slice none 0 0] 29 (0, 0)) (by (with_reducible repeat (first | refine blk_drewN ?_ _ | refine blk_drew ?_ | refine blk_alloc ?_ _)); exact BK548.out) hb); have n3_ := Aside0.mk (below_step (by repeat (first | (with_reducible first | exact HB.out | apply below_alloc | apply pw_below_drewN | apply below_drew1 | refine below_set ?_ GE547.out | refine below_set ?_ GE548.out) | exact HB.out)) hb); clear BK547; clear BK548; clear HB; have HO553 := n0_; have BK547 := n1_; have BK548 := n2_; have HB := n3_; clear n0_ n1_ n2_ n3_; (try clear hb); (try clear hb2); (try clear hk); (try clear hi); (try clear ho0)) | ((with_reducible refine gate_dst (N := 10) rfl ?_); (try (refine gate_guard (by rfl) ?_; dsimp only)); refine box_event ?hg (N := 10) ?hd (cs := #[.int .i64 0, .int .i64 0, .slice none 0 0]) (t := 29) ?hr ?_; (case hd => rfl); (case hg => rfl); (case hr => first | (go_simp; done) | (go_simp; rfl)); intro gb554 hg w12 hbox hb; have n0_ := Aside0.mk (Kd.R_below (by (with_reducible repeat (first | apply Kd.R_alloc | apply Kd.R_drewN | apply Kd.R_drew)); exact HO553.out) hb); have n1_ := Aside0.mk (blk_below (g := gb547) (o := .cells #[.int .i64 a0_0, .int .i64 a0_1, .slice A0_2 l0_2.length c0_2] 29 (0, 0)) (by (with_reducible repeat (first | refine blk_drewN ?_ _ | refine blk_drew ?_ | refine blk_alloc ?_ _)); exact BK547.out) hb); have n2_ := Aside0.mk (blk_below (g := gb548) (o := .cells #[.int .i64 0, .int .i64 0, .slice none 0 0] 29 (0, 0)) (by (with_reducible repeat (first | refine blk_drewN ?_ _ | refine blk_drew ?_ | refine blk_alloc ?_ _)); exact BK548.out) hb); have n3_ := Aside0.mk (below_step (by repeat (first | (with_reducible first | exact HB.out | apply below_alloc | apply pw_below_drewN | apply below_drew1 | refine below_set ?_ GE547.out | refine below_set ?_ GE548.out) | exact HB.out)) hb); have n4_ := Aside0.mk (hbox); have n5_ := Aside0.mk ((by rw [hg]; exact (below_size (by repeat (first | (with_reducible first | exact HB.out | apply below_alloc | apply pw_below_drewN | apply below_drew1 | refine below_set ?_ GE547.out | refine below_set ?_ GE548.out) | exact HB.out))) : w.heap.size ≤ gb554)); have n6_ := Aside0.mk ((by rw [hg]; exact (below_size (by repeat (first | (with_reducible first | exact HB.out | apply below_alloc | apply pw_below_drewN | apply below_drew1 | refine below_set ?_ GE547.out | refine below_set ?_ GE548.out) | exact HB.out))) : w.heap.size ≤ gb554)); have n7_ := Aside0.mk ((by rw [hg]; exact Nat.ne_of_lt (blk_lt (g := gb547) (o := .cells #[.int .i64 a0_0, .int .i64 a0_1, .slice A0_2 l0_2.length c0_2] 29 (0, 0)) (by (with_reducible repeat (first | refine blk_drewN ?_ _ | refine blk_drew ?_ | refine blk_alloc ?_ _)); exact BK547.out)) : gb547 ≠ gb554)); have n8_ := Aside0.mk ((by rw [hg]; exact Nat.ne_of_gt (blk_lt (g := gb547) (o := .cells #[.int .i64 a0_0, .int .i64 a0_1, .slice A0_2 l0_2.length c0_2] 29 (0, 0)) (by (with_reducible repeat (first | refine blk_drewN ?_ _ | refine blk_drew ?_ | refine blk_alloc ?_ _)); exact BK547.out)) : gb554 ≠ gb547)); have n9_ := Aside0.mk ((by rw [hg]; exact Nat.ne_of_lt (blk_lt (g := gb548) (o := .cells #[.int .i64 0, .int .i64 0, .slice none 0 0] 29 (0, 0)) (by (with_reducible repeat (first | refine blk_drewN ?_ _ | refine blk_drew ?_ | refine blk_alloc ?_ _)); exact BK548.out)) : gb548 ≠ gb554)); have n10_ := Aside0.mk ((by rw [hg]; exact Nat.ne_of_gt (blk_lt (g := gb548) (o := .cells #[.int .i64 0, .int .i64 0, .slice none 0 0] 29 (0, 0)) (by (with_reducible repeat (first | refine blk_drewN ?_ _ | refine blk_drew ?_ | refine blk_alloc ?_ _)); exact BK548.out)) : gb554 ≠ gb548)); clear HO553; clear BK547; clear BK548; clear HB; have HO553 := n0_; have BK547 := n1_; have BK548 := n2_; have HB := n3_; have BK554 := n4_; have GW554 := n5_; have GE554 := n6_; have NB547_554 := n7_; have NB554_547 := n8_; have NB548_554 := n9_; have NB554_548 := n10_; clear n0_ n1_ n2_ n3_ n4_ n5_ n6_ n7_ n8_ n9_ n10_; clear hb hbox hg; have hnb13 := NB554_547.out; have hnc13 := NB547_554.out; have hnb14 := NB554_548.out; have hnc14 := NB548_554.out; have hcz15_0 : w12.cell? ⟨gb554, 0, none⟩ = some (.int .i64 0) := (blk_cell BK554.out 0).trans rfl; have hcz15_1 : w12.cell? ⟨gb554, 1, none⟩ = some (.int .i64 0) := (blk_cell BK554.out 1).trans rfl; have hcz15_2 : w12.cell? ⟨gb554, 2, none⟩ = some (.slice none 0 0) := (blk_cell BK554.out 2).trans rfl; have hfz15_0 := blk_frozen BK554.out 0; have hfz15_1 := blk_frozen BK554.out 1; have hfz15_2 := blk_frozen BK554.out 2; obtain ⟨Ao16, co16, eo16⟩ := Kd.R_slice HO553.out; subst eo16))
  (try simp only [Act.put, List.setIfInBounds_toArray, List.set_cons_zero, List.set_cons_succ])
  go_cut [42] (fun v42 wc => ∃ (kq : Nat) (x42_5 : Bool), v42 = .bool x42_5 ∧ Aside0 (impl_AppendTo.j0 kq a1 l3 x42_5 a0_0 a0_1 l0_2 t549 t550 t551 = some (r1, r2, r3, r4)) ∧ Aside0 (kq ≤ k) ∧ Aside0 (Kd.R k54 54 wc w.heap.size (fun _ => True) (.slice Ao16 t551.length co16) t551) ∧ Aside0 (wc.heap[gb547]? = some (.cells #[.int .i64 a0_0, .int .i64 a0_1, (.slice A0_2 l0_2.length c0_2)] 29 (0, 0))) ∧ Aside0 (wc.heap[gb548]? = some (.cells #[.int .i64 0, .int .i64 0, (.slice none 0 0)] 29 (0, 0))) ∧ Aside0 (wc.heap[gb554]? = some (.cells #[.int .i64 t549, .int .i64 t550, (.slice Ao16 t551.length co16)] 29 (0, 0))) ∧ Aside0 (Below w.heap.size w wc))
  case first =>
    have H := HC6.out
    clear HC6
    replace H := Option.bind_eq_some_iff.mp H
    obtain ⟨t555, A170, H⟩ := H
    replace H : (if t555 = true then (if a1 < a0_0 then (impl_AppendTo.j0 k a1 l3 true a0_0 a0_1 l0_2 t549 t550 t551) else ((impl_RLog_last.f a0_0 a0_1 l0_2).bind fun t556 => (if a1 > t556 then (impl_AppendTo.j0 k a1 l3 true a0_0 a0_1 l0_2 t549 t550 t551) else ((impl_RLog_term.f a0_0 a0_1 l0_2 a1).bind fun t557 => (if t557 = a2 then (impl_AppendTo.j0 k a1 l3 (decide ((l3.length : Int) > 10)) a0_0 a0_1 l0_2 t549 t550 t551) else (impl_AppendTo.j0 k a1 l3 true a0_0 a0_1 l0_2 t549 t550 t551)))))) else (impl_AppendTo.j0 k a1 l3 true a0_0 a0_1 l0_2 t549 t550 t551)) = some (r1, r2, r3, r4) := H
    have A17 := Aside0.mk A170
    clear A170
    by_cases c18 : t555 = true
    · subst c18
      have H1 : (if a1 < a0_0 then (impl_AppendTo.j0 k a1 l3 true a0_0 a0_1 l0_2 t549 t550 t551) else ((impl_RLog_last.f a0_0 a0_1 l0_2).bind fun t556 => (if a1 > t556 then (impl_AppendTo.j0 k a1 l3 true a0_0 a0_1 l0_2 t549 t550 t551) else ((impl_RLog_term.f a0_0 a0_1 l0_2 a1).bind fun t557 => (if t557 = a2 then (impl_AppendTo.j0 k a1 l3 (decide ((l3.length : Int) > 10)) a0_0 a0_1 l0_2 t549 t550 t551) else (impl_AppendTo.j0 k a1 l3 true a0_0 a0_1 l0_2 t549 t550 t551)))))) = some (r1, r2, r3, r4) := by rw [if_pos rfl] at H; exact H
      clear H
      have H := H1
      clear H1
      by_cases c19 : a1 < a0_0
      · rw [if_pos c19] at H
        have c19b0 : decide (a1 < a0_0) = true := decide_eq_true c19
        clear c19
        (first | rw [c19b0] | (simp only [i64_w, i32_w]; rw [c19b0]) | skip)
        have H' := Aside0.mk H
        clear H
        have hnb20 := NB547_548.out
        have hnc20 := NB548_547.out
        have hnb21 := NB547_554.out
        have hnc21 := NB554_547.out
        have hcz22_0 : w12.cell? ⟨gb547, 0, none⟩ = some (.int .i64 a0_0) := (blk_cell BK547.out 0).trans rfl
        have hcz22_1 : w12.cell? ⟨gb547, 1, none⟩ = some (.int .i64 a0_1) := (blk_cell BK547.out 1).trans rfl
        have hcz22_2 : w12.cell? ⟨gb547, 2, none⟩ = some (.slice A0_2 l0_2.length c0_2) := (blk_cell BK547.out 2).trans rfl
        have hfz22_0 := blk_frozen BK547.out 0
        have hfz22_1 := blk_frozen BK547.out 1
        have hfz22_2 := blk_frozen BK547.out 2
        go_wp2_with (first | ((with_reducible refine gate_callee (f := 45) rfl ?_); refine goesL_ (some 17) rfl rfl Try.func45 (by kernel_rfl) rfl #[.agg #[.int .i64 a0_0, .int .i64 a0_1, .slice A0_2 l0_2.length c0_2]] rfl (by (try simp only [List.map_toArray, List.map_cons, List.map_nil]); first | done | rfl | (simp only [List.length_drop, List.length_take]; rfl)) ?_; (with_reducible refine (impl_isRLog.calls k a0_0 a0_1 _ _ l0_2 true _ ?side1 ?side2 A17.out).mono ?_); (case side1 => exact Kd.C_below HR0_2.out (by repeat (first | (with_reducible first | exact HB.out | apply below_alloc | apply pw_below_drewN | apply below_drew1 | refine below_set ?_ GE547.out | refine below_set ?_ GE548.out | refine below_set ?_ GE554.out) | exact HB.out))); (case side2 => exact HC0_2.out); rintro e w23 ⟨rfl, hb⟩; refine ⟨_, rfl, ?_⟩; have n0_ := Aside0.mk (Kd.R_below (by (with_reducible repeat (first | apply Kd.R_alloc | apply Kd.R_drewN | apply Kd.R_drew)); exact (Kd.R_mono (Kd.R_far (p := ⟨gb554, 2, none⟩) (Kd.R_far (p := ⟨gb554, 1, none⟩) (Kd.R_far (p := ⟨gb554, 0, none⟩) (Kd.R_types HO553.out BK554.out (by decide)) (fun _ hk => hk.2) (.int .i64 t549)) (fun _ hk => hk.2) (.int .i64 t550)) (fun _ hk => hk.2) (.slice Ao16 t551.length co16)) (fun _ h_ => h_.1))) hb); have n1_ := Aside0.mk (blk_below (g := gb547) (o := .cells #[.int .i64 a0_0, .int .i64 a0_1, .slice A0_2 l0_2.length c0_2] 29 (0, 0)) (by (with_reducible repeat (first | refine blk_drewN ?_ _ | refine blk_drew ?_ | refine blk_alloc ?_ _)); refine blk_far ?_ NB547_554.out _; (with_reducible repeat (first | refine blk_drewN ?_ _ | refine blk_drew ?_ | refine blk_alloc ?_ _)); refine blk_far ?_ NB547_554.out _; (with_reducible repeat (first | refine blk_drewN ?_ _ | refine blk_drew ?_ | refine blk_alloc ?_ _)); refine blk_far ?_ NB547_554.out _; (with_reducible repeat (first | refine blk_drewN ?_ _ | refine blk_drew ?_ | refine blk_alloc ?_ _)); exact BK547.out) hb); have n2_ := Aside0.mk (blk_below (g := gb548) (o := .cells #[.int .i64 0, .int .i64 0, .slice none 0 0] 29 (0, 0)) (by (with_reducible repeat (first | refine blk_drewN ?_ _ | refine blk_drew ?_ | refine blk_alloc ?_ _)); refine blk_far ?_ NB548_554.out _; (with_reducible repeat (first | refine blk_drewN ?_ _ | refine blk_drew ?_ | refine blk_alloc ?_ _)); refine blk_far ?_ NB548_554.out _; (with_reducible repeat (first | refine blk_drewN ?_ _ | refine blk_drew ?_ | refine blk_alloc ?_ _)); refine blk_far ?_ NB548_554.out _; (with_reducible repeat (first | refine blk_drewN ?_ _ | refine blk_drew ?_ | refine blk_alloc ?_ _)); exact BK548.out) hb); have n3_ := Aside0.mk (blk_below (g := gb554) (o := .cells #[.int .i64 t549, .int .i64 t550, .slice Ao16 t551.length co16] 29 (0, 0)) (by (with_reducible repeat (first | refine blk_drewN ?_ _ | refine blk_drew ?_ | refine blk_alloc ?_ _)); refine blk_put (cs := #[.int .i64 t549, .int .i64 t550, .slice none 0 0]) ?_ 2 _ rfl; (with_reducible repeat (first | refine blk_drewN ?_ _ | refine blk_drew ?_ | refine blk_alloc ?_ _)); refine blk_put (cs := #[.int .i64 t549, .int .i64 0, .slice none 0 0]) ?_ 1 _ rfl; (with_reducible repeat (first | refine blk_drewN ?_ _ | refine blk_drew ?_ | refine blk_alloc ?_ _)); refine blk_put (cs := #[.int .i64 0, .int .i64 0, .slice none 0 0]) ?_ 0 _ rfl; (with_reducible repeat (first | refine blk_drewN ?_ _ | refine blk_drew ?_ | refine blk_alloc ?_ _)); exact BK554.out) hb); have n4_ := Aside0.mk (below_step (by repeat (first | (with_reducible first | exact HB.out | apply below_alloc | apply pw_below_drewN | apply below_drew1 | refine below_set ?_ GE547.out | refine below_set ?_ GE548.out | refine below_set ?_ GE554.out) | exact HB.out)) hb); clear HO553; clear BK547; clear BK548; clear BK554; clear HB; have HO553 := n0_; have BK547 := n1_; have BK548 := n2_; have BK554 := n3_; have HB := n4_; clear n0_ n1_ n2_ n3_ n4_; (try clear hb); (try clear hb2); (try clear hk); (try clear hi); have hcz24_0 : w23.cell? ⟨gb547, 0, none⟩ = some (.int .i64 a0_0) := (blk_cell BK547.out 0).trans rfl; have hcz24_1 : w23.cell? ⟨gb547, 1, none⟩ = some (.int .i64 a0_1) := (blk_cell BK547.out 1).trans rfl; have hcz24_2 : w23.cell? ⟨gb547, 2, none⟩ = some (.slice A0_2 l0_2.length c0_2) := (blk_cell BK547.out 2).trans rfl; have hfz24_0 := blk_frozen BK547.out 0; have hfz24_1 := blk_frozen BK547.out 1; have hfz24_2 := blk_frozen BK547.out 2))
        go_meet
        case rel => exact ⟨_, (true), (by first | rfl | (simp; done) | (simp [*]; done)), H', ⟨by first | omega | exact Nat.le_refl _⟩, ⟨by (with_reducible repeat (first | apply Kd.R_alloc | apply Kd.R_drewN | apply Kd.R_drew)); exact HO553.out⟩, ⟨by (with_reducible repeat (first | refine blk_drewN ?_ _ | refine blk_drew ?_ | refine blk_alloc ?_ _)); exact BK547.out⟩, ⟨by (with_reducible repeat (first | refine blk_drewN ?_ _ | refine blk_drew ?_ | refine blk_alloc ?_ _)); exact BK548.out⟩, ⟨by (with_reducible repeat (first | refine blk_drewN ?_ _ | refine blk_drew ?_ | refine blk_alloc ?_ _)); exact BK554.out⟩, ⟨by repeat (first | (with_reducible first | exact HB.out | apply below_alloc | apply pw_below_drewN | apply below_drew1 | refine below_set ?_ GE547.out | refine below_set ?_ GE548.out | refine below_set ?_ GE554.out) | exact HB.out)⟩⟩
      · rw [if_neg c19] at H
        have c19b0 : decide (a1 < a0_0) = false := decide_eq_false c19
        clear c19
        (first | rw [c19b0] | (simp only [i64_w, i32_w]; rw [c19b0]) | skip)
        replace H := Option.bind_eq_some_iff.mp H
        obtain ⟨t556, A250, H⟩ := H
        replace H : (if a1 > t556 then (impl_AppendTo.j0 k a1 l3 true a0_0 a0_1 l0_2 t549 t550 t551) else ((impl_RLog_term.f a0_0 a0_1 l0_2 a1).bind fun t557 => (if t557 = a2 then (impl_AppendTo.j0 k a1 l3 (decide ((l3.length : Int) > 10)) a0_0 a0_1 l0_2 t549 t550 t551) else (impl_AppendTo.j0 k a1 l3 true a0_0 a0_1 l0_2 t549 t550 t551)))) = some (r1, r2, r3, r4) := H
        have A25 := Aside0.mk A250
        clear A250
        by_cases c26 : a1 > t556
        · rw [if_pos c26] at H
          have c26b0 : decide (t556 < a1) = true := decide_eq_true c26
          clear c26
          have H' := Aside0.mk H
          clear H
          have hnb27 := NB547_548.out
          have hnc27 := NB548_547.out
          have hnb28 := NB547_554.out
          have hnc28 := NB554_547.out
          have hcz29_0 : w12.cell? ⟨gb547, 0, none⟩ = some (.int .i64 a0_0) := (blk_cell BK547.out 0).trans rfl
          have hcz29_1 : w12.cell? ⟨gb547, 1, none⟩ = some (.int .i64 a0_1) := (blk_cell BK547.out 1).trans rfl
          have hcz29_2 : w12.cell? ⟨gb547, 2, none⟩ = some (.slice A0_2 l0_2.length c0_2) := (blk_cell BK547.out 2).trans rfl
          have hfz29_0 := blk_frozen BK547.out 0
          have hfz29_1 := blk_frozen BK547.out 1
          have hfz29_2 := blk_frozen BK547.out 2
          go_wp2_with (first | ((with_reducible refine gate_callee (f := 45) rfl ?_); refine goesL_ (some 17) rfl rfl Try.func45 (by kernel_rfl) rfl #[.agg #[.int .i64 a0_0, .int .i64 a0_1, .slice A0_2 l0_2.length c0_2]] rfl (by (try simp only [List.map_toArray, List.map_cons, List.map_nil]); first | done | rfl | (simp only [List.length_drop, List.length_take]; rfl)) ?_; (with_reducible refine (impl_isRLog.calls k a0_0 a0_1 _ _ l0_2 true _ ?side1 ?side2 A17.out).mono ?_); (case side1 => exact Kd.C_below HR0_2.out (by repeat (first | (with_reducible first | exact HB.out | apply below_alloc | apply pw_below_drewN | apply below_drew1 | refine below_set ?_ GE547.out | refine below_set ?_ GE548.out | refine below_set ?_ GE554.out) | exact HB.out))); (case side2 => exact HC0_2.out); rintro e w30 ⟨rfl, hb⟩; refine ⟨_, rfl, ?_⟩; have n0_ := Aside0.mk (Kd.R_below (by (with_reducible repeat (first | apply Kd.R_alloc | apply Kd.R_drewN | apply Kd.R_drew)); exact (Kd.R_mono (Kd.R_far (p := ⟨gb554, 2, none⟩) (Kd.R_far (p := ⟨gb554, 1, none⟩) (Kd.R_far (p := ⟨gb554, 0, none⟩) (Kd.R_types HO553.out BK554.out (by decide)) (fun _ hk => hk.2) (.int .i64 t549)) (fun _ hk => hk.2) (.int .i64 t550)) (fun _ hk => hk.2) (.slice Ao16 t551.length co16)) (fun _ h_ => h_.1))) hb); have n1_ := Aside0.mk (blk_below (g := gb547) (o := .cells #[.int .i64 a0_0, .int .i64 a0_1, .slice A0_2 l0_2.length c0_2] 29 (0, 0)) (by (with_reducible repeat (first | refine blk_drewN ?_ _ | refine blk_drew ?_ | refine blk_alloc ?_ _)); refine blk_far ?_ NB547_554.out _; (with_reducible repeat (first | refine blk_drewN ?_ _ | refine blk_drew ?_ | refine blk_alloc ?_ _)); refine blk_far ?_ NB547_554.out _; (with_reducible repeat (first | refine blk_drewN ?_ _ | refine blk_drew ?_ | refine blk_alloc ?_ _)); refine blk_far ?_ NB547_554.out _; (with_reducible repeat (first | refine blk_drewN ?_ _ | refine blk_drew ?_ | refine blk_alloc ?_ _)); exact BK547.out) hb); have n2_ := Aside0.mk (blk_below (g := gb548) (o := .cells #[.int .i64 0, .int .i64 0, .slice none 0 0] 29 (0, 0)) (by (with_reducible repeat (first | refine blk_drewN ?_ _ | refine blk_drew ?_ | refine blk_alloc ?_ _)); refine blk_far ?_ NB548_554.out _; (with_reducible repeat (first | refine blk_drewN ?_ _ | refine blk_drew ?_ | refine blk_alloc ?_ _)); refine blk_far ?_ NB548_554.out _; (with_reducible repeat (first | refine blk_drewN ?_ _ | refine blk_drew ?_ | refine blk_alloc ?_ _)); refine blk_far ?_ NB548_554.out _; (with_reducible repeat (first | refine blk_drewN ?_ _ | refine blk_drew ?_ | refine blk_alloc ?_ _)); exact BK548.out) hb); have n3_ := Aside0.mk (blk_below (g := gb554) (o := .cells #[.int .i64 t549, .int .i64 t550, .slice Ao16 t551.length co16] 29 (0, 0)) (by (with_reducible repeat (first | refine blk_drewN ?_ _ | refine blk_drew ?_ | refine blk_alloc ?_ _)); refine blk_put (cs := #[.int .i64 t549, .int .i64 t550, .slice none 0 0]) ?_ 2 _ rfl; (with_reducible repeat (first | refine blk_drewN ?_ _ | refine blk_drew ?_ | refine blk_alloc ?_ _)); refine blk_put (cs := #[.int .i64 t549, .int .i64 0, .slice none 0 0]) ?_ 1 _ rfl; (with_reducible repeat (first | refine blk_drewN ?_ _ | refine blk_drew ?_ | refine blk_alloc ?_ _)); refine blk_put (cs := #[.int .i64 0, .int .i64 0, .slice none 0 0]) ?_ 0 _ rfl; (with_reducible repeat (first | refine blk_drewN ?_ _ | refine blk_drew ?_ | refine blk_alloc ?_ _)); exact BK554.out) hb); have n4_ := Aside0.mk (below_step (by repeat (first | (with_reducible first | exact HB.out | apply below_alloc | apply pw_below_drewN | apply below_drew1 | refine below_set ?_ GE547.out | refine below_set ?_ GE548.out | refine below_set ?_ GE554.out) | exact HB.out)) hb); clear HO553; clear BK547; clear BK548; clear BK554; clear HB; have HO553 := n0_; have BK547 := n1_; have BK548 := n2_; have BK554 := n3_; have HB := n4_; clear n0_ n1_ n2_ n3_ n4_; (try clear hb); (try clear hb2); (try clear hk); (try clear hi); have hcz31_0 : w30.cell? ⟨gb547, 0, none⟩ = some (.int .i64 a0_0) := (blk_cell BK547.out 0).trans rfl; have hcz31_1 : w30.cell? ⟨gb547, 1, none⟩ = some (.int .i64 a0_1) := (blk_cell BK547.out 1).trans rfl; have hcz31_2 : w30.cell? ⟨gb547, 2, none⟩ = some (.slice A0_2 l0_2.length c0_2) := (blk_cell BK547.out 2).trans rfl; have hfz31_0 := blk_frozen BK547.out 0; have hfz31_1 := blk_frozen BK547.out 1; have hfz31_2 := blk_frozen BK547.out 2) | (go_at_call 46; (with_reducible refine (impl_RLog_last.calls a0_0 a0_1 _ _ l0_2 t556 _ ?side1 ?side2 A25.out).mono ?_); (case side1 => repeat (first | exact (Kd.C_below HR0_2.out HB.out) | (with_reducible refine Kd.C_alloc ?_ _) | (with_reducible refine Kd.C_drewN ?_ _) | (with_reducible refine Kd.C_drew ?_))); (case side2 => exact HC0_2.out); rintro e w32 ⟨rfl, hb⟩; have n0_ := Aside0.mk (Kd.R_below (by (with_reducible repeat (first | apply Kd.R_alloc | apply Kd.R_drewN | apply Kd.R_drew)); exact HO553.out) hb); have n1_ := Aside0.mk (blk_below (g := gb547) (o := .cells #[.int .i64 a0_0, .int .i64 a0_1, .slice A0_2 l0_2.length c0_2] 29 (0, 0)) (by (with_reducible repeat (first | refine blk_drewN ?_ _ | refine blk_drew ?_ | refine blk_alloc ?_ _)); exact BK547.out) hb); have n2_ := Aside0.mk (blk_below (g := gb548) (o := .cells #[.int .i64 0, .int .i64 0, .slice none 0 0] 29 (0, 0)) (by (with_reducible repeat (first | refine blk_drewN ?_ _ | refine blk_drew ?_ | refine blk_alloc ?_ _)); exact BK548.out) hb); have n3_ := Aside0.mk (blk_below (g := gb554) (o := .cells #[.int .i64 t549, .int .i64 t550, .slice Ao16 t551.length co16] 29 (0, 0)) (by (with_reducible repeat (first | refine blk_drewN ?_ _ | refine blk_drew ?_ | refine blk_alloc ?_ _)); exact BK554.out) hb); have n4_ := Aside0.mk (below_step (by repeat (first | (with_reducible first | exact HB.out | apply below_alloc | apply pw_below_drewN | apply below_drew1 | refine below_set ?_ GE547.out | refine below_set ?_ GE548.out | refine below_set ?_ GE554.out) | exact HB.out)) hb); clear HO553; clear BK547; clear BK548; clear BK554; clear HB; have HO553 := n0_; have BK547 := n1_; have BK548 := n2_; have BK554 := n3_; have HB := n4_; clear n0_ n1_ n2_ n3_ n4_; (try clear hb); (try clear hb2); (try clear hk); (try clear hi)))
          go_meet
          case rel => exact ⟨_, (true), (by first | rfl | (simp; done) | (simp [*]; done)), H', ⟨by first | omega | exact Nat.le_refl _⟩, ⟨by (with_reducible repeat (first | apply Kd.R_alloc | apply Kd.R_drewN | apply Kd.R_drew)); exact HO553.out⟩, ⟨by (with_reducible repeat (first | refine blk_drewN ?_ _ | refine blk_drew ?_ | refine blk_alloc ?_ _)); exact BK547.out⟩, ⟨by (with_reducible repeat (first | refine blk_drewN ?_ _ | refine blk_drew ?_ | refine blk_alloc ?_ _)); exact BK548.out⟩, ⟨by (with_reducible repeat (first | refine blk_drewN ?_ _ | refine blk_drew ?_ | refine blk_alloc ?_ _)); exact BK554.out⟩, ⟨by repeat (first | (with_reducible first | exact HB.out | apply below_alloc | apply pw_below_drewN | apply below_drew1 | refine below_set ?_ GE547.out | refine below_set ?_ GE548.out | refine below_set ?_ GE554.out) | exact HB.out)⟩⟩
        · rw [if_neg c26] at H
          have c26b0 : decide (t556 < a1) = false := decide_eq_false c26
          clear c26
          replace H := Option.bind_eq_some_iff.mp H
          obtain ⟨t557, A330, H⟩ := H
          replace H : (if t557 = a2 then (impl_AppendTo.j0 k a1 l3 (decide ((l3.length : Int) > 10)) a0_0 a0_1 l0_2 t549 t550 t551) else (impl_AppendTo.j0 k a1 l3 true a0_0 a0_1 l0_2 t549 t550 t551)) = some (r1, r2, r3, r4) := H
          have A33 := Aside0.mk A330
          clear A330
          by_cases c34 : t557 = a2
          · rw [if_pos c34] at H
            have c34b0 : (t557 == a2) = true := beq_iff_eq.mpr c34
            have c34b1 : (t557 != a2) = false := bne_eq_false_iff_eq.mpr c34
            clear c34
            have H' := Aside0.mk H
            clear H
            have hnb35 := NB547_548.out
            have hnc35 := NB548_547.out
            have hnb36 := NB547_554.out
            have hnc36 := NB554_547.out
            have hcz37_0 : w12.cell? ⟨gb547, 0, none⟩ = some (.int .i64 a0_0) := (blk_cell BK547.out 0).trans rfl
            have hcz37_1 : w12.cell? ⟨gb547, 1, none⟩ = some (.int .i64 a0_1) := (blk_cell BK547.out 1).trans rfl
            have hcz37_2 : w12.cell? ⟨gb547, 2, none⟩ = some (.slice A0_2 l0_2.length c0_2) := (blk_cell BK547.out 2).trans rfl
            have hfz37_0 := blk_frozen BK547.out 0
            have hfz37_1 := blk_frozen BK547.out 1
            have hfz37_2 := blk_frozen BK547.out 2
            go_wp2_with (first | ((with_reducible refine gate_callee (f := 45) rfl ?_); refine goesL_ (some 17) rfl rfl Try.func45 (by kernel_rfl) rfl #[.agg #[.int .i64 a0_0, .int .i64 a0_1, .slice A0_2 l0_2.length c0_2]] rfl (by (try simp only [List.map_toArray, List.map_cons, List.map_nil]); first | done | rfl | (simp only [List.length_drop, List.length_take]; rfl)) ?_; (with_reducible refine (impl_isRLog.calls k a0_0 a0_1 _ _ l0_2 true _ ?side1 ?side2 A17.out).mono ?_); (case side1 => exact Kd.C_below HR0_2.out (by repeat (first | (with_reducible first | exact HB.out | apply below_alloc | apply pw_below_drewN | apply below_drew1 | refine below_set ?_ GE547.out | refine below_set ?_ GE548.out | refine below_set ?_ GE554.out) | exact HB.out))); (case side2 => exact HC0_2.out); rintro e w38 ⟨rfl, hb⟩; refine ⟨_, rfl, ?_⟩; have n0_ := Aside0.mk (Kd.R_below (by (with_reducible repeat (first | apply Kd.R_alloc | apply Kd.R_drewN | apply Kd.R_drew)); exact (Kd.R_mono (Kd.R_far (p := ⟨gb554, 2, none⟩) (Kd.R_far (p := ⟨gb554, 1, none⟩) (Kd.R_far (p := ⟨gb554, 0, none⟩) (Kd.R_types HO553.out BK554.out (by decide)) (fun _ hk => hk.2) (.int .i64 t549)) (fun _ hk => hk.2) (.int .i64 t550)) (fun _ hk => hk.2) (.slice Ao16 t551.length co16)) (fun _ h_ => h_.1))) hb); have n1_ := Aside0.mk (blk_below (g := gb547) (o := .cells #[.int .i64 a0_0, .int .i64 a0_1, .slice A0_2 l0_2.length c0_2] 29 (0, 0)) (by (with_reducible repeat (first | refine blk_drewN ?_ _ | refine blk_drew ?_ | refine blk_alloc ?_ _)); refine blk_far ?_ NB547_554.out _; (with_reducible repeat (first | refine blk_drewN ?_ _ | refine blk_drew ?_ | refine blk_alloc ?_ _)); refine blk_far ?_ NB547_554.out _; (with_reducible repeat (first | refine blk_drewN ?_ _ | refine blk_drew ?_ | refine blk_alloc ?_ _)); refine blk_far ?_ NB547_554.out _; (with_reducible repeat (first | refine blk_drewN ?_ _ | refine blk_drew ?_ | refine blk_alloc ?_ _)); exact BK547.out) hb); have n2_ := Aside0.mk (blk_below (g := gb548) (o := .cells #[.int .i64 0, .int .i64 0, .slice none 0 0] 29 (0, 0)) (by (with_reducible repeat (first | refine blk_drewN ?_ _ | refine blk_drew ?_ | refine blk_alloc ?_ _)); refine blk_far ?_ NB548_554.out _; (with_reducible repeat (first | refine blk_drewN ?_ _ | refine blk_drew ?_ | refine blk_alloc ?_ _)); refine blk_far ?_ NB548_554.out _; (with_reducible repeat (first | refine blk_drewN ?_ _ | refine blk_drew ?_ | refine blk_alloc ?_ _)); refine blk_far ?_ NB548_554.out _; (with_reducible repeat (first | refine blk_drewN ?_ _ | refine blk_drew ?_ | refine blk_alloc ?_ _)); exact BK548.out) hb); have n3_ := Aside0.mk (blk_below (g := gb554) (o := .cells #[.int .i64 t549, .int .i64 t550, .slice Ao16 t551.length co16] 29 (0, 0)) (by (with_reducible repeat (first | refine blk_drewN ?_ _ | refine blk_drew ?_ | refine blk_alloc ?_ _)); refine blk_put (cs := #[.int .i64 t549, .int .i64 t550, .slice none 0 0]) ?_ 2 _ rfl; (with_reducible repeat (first | refine blk_drewN ?_ _ | refine blk_drew ?_ | refine blk_alloc ?_ _)); refine blk_put (cs := #[.int .i64 t549, .int .i64 0, .slice none 0 0]) ?_ 1 _ rfl; (with_reducible repeat (first | refine blk_drewN ?_ _ | refine blk_drew ?_ | refine blk_alloc ?_ _)); refine blk_put (cs := #[.int .i64 0, .int .i64 0, .slice none 0 0]) ?_ 0 _ rfl; (with_reducible repeat (first | refine blk_drewN ?_ _ | refine blk_drew ?_ | refine blk_alloc ?_ _)); exact BK554.out) hb); have n4_ := Aside0.mk (below_step (by repeat (first | (with_reducible first | exact HB.out | apply below_alloc | apply pw_below_drewN | apply below_drew1 | refine below_set ?_ GE547.out | refine below_set ?_ GE548.out | refine below_set ?_ GE554.out) | exact HB.out)) hb); clear HO553; clear BK547; clear BK548; clear BK554; clear HB; have HO553 := n0_; have BK547 := n1_; have BK548 := n2_; have BK554 := n3_; have HB := n4_; clear n0_ n1_ n2_ n3_ n4_; (try clear hb); (try clear hb2); (try clear hk); (try clear hi); have hcz39_0 : w38.cell? ⟨gb547, 0, none⟩ = some (.int .i64 a0_0) := (blk_cell BK547.out 0).trans rfl; have hcz39_1 : w38.cell? ⟨gb547, 1, none⟩ = some (.int .i64 a0_1) := (blk_cell BK547.out 1).trans rfl; have hcz39_2 : w38.cell? ⟨gb547, 2, none⟩ = some (.slice A0_2 l0_2.length c0_2) := (blk_cell BK547.out 2).trans rfl; have hfz39_0 := blk_frozen BK547.out 0; have hfz39_1 := blk_frozen BK547.out 1; have hfz39_2 := blk_frozen BK547.out 2) | (go_at_call 46; (with_reducible refine (impl_RLog_last.calls a0_0 a0_1 _ _ l0_2 t556 _ ?side1 ?side2 A25.out).mono ?_); (case side1 => repeat (first | exact (Kd.C_below HR0_2.out HB.out) | (with_reducible refine Kd.C_alloc ?_ _) | (with_reducible refine Kd.C_drewN ?_ _) | (with_reducible refine Kd.C_drew ?_))); (case side2 => exact HC0_2.out); rintro e w40 ⟨rfl, hb⟩; have n0_ := Aside0.mk (Kd.R_below (by (with_reducible repeat (first | apply Kd.R_alloc | apply Kd.R_drewN | apply Kd.R_drew)); exact HO553.out) hb); have n1_ := Aside0.mk (blk_below (g := gb547) (o := .cells #[.int .i64 a0_0, .int .i64 a0_1, .slice A0_2 l0_2.length c0_2] 29 (0, 0)) (by (with_reducible repeat (first | refine blk_drewN ?_ _ | refine blk_drew ?_ | refine blk_alloc ?_ _)); exact BK547.out) hb); have n2_ := Aside0.mk (blk_below (g := gb548) (o := .cells #[.int .i64 0, .int .i64 0, .slice none 0 0] 29 (0, 0)) (by (with_reducible repeat (first | refine blk_drewN ?_ _ | refine blk_drew ?_ | refine blk_alloc ?_ _)); exact BK548.out) hb); have n3_ := Aside0.mk (blk_below (g := gb554) (o := .cells #[.int .i64 t549, .int .i64 t550, .slice Ao16 t551.length co16] 29 (0, 0)) (by (with_reducible repeat (first | refine blk_drewN ?_ _ | refine blk_drew ?_ | refine blk_alloc ?_ _)); exact BK554.out) hb); have n4_ := Aside0.mk (below_step (by repeat (first | (with_reducible first | exact HB.out | apply below_alloc | apply pw_below_drewN | apply below_drew1 | refine below_set ?_ GE547.out | refine below_set ?_ GE548.out | refine below_set ?_ GE554.out) | exact HB.out)) hb); clear HO553; clear BK547; clear BK548; clear BK554; clear HB; have HO553 := n0_; have BK547 := n1_; have BK548 := n2_; have BK554 := n3_; have HB := n4_; clear n0_ n1_ n2_ n3_ n4_; (try clear hb); (try clear hb2); (try clear hk); (try clear hi); have hcz41_0 : w40.cell? ⟨gb547, 0, none⟩ = some (.int .i64 a0_0) := (blk_cell BK547.out 0).trans rfl; have hcz41_1 : w40.cell? ⟨gb547, 1, none⟩ = some (.int .i64 a0_1) := (blk_cell BK547.out 1).trans rfl; have hcz41_2 : w40.cell? ⟨gb547, 2, none⟩ = some (.slice A0_2 l0_2.length c0_2) := (blk_cell BK547.out 2).trans rfl; have hfz41_0 := blk_frozen BK547.out 0; have hfz41_1 := blk_frozen BK547.out 1; have hfz41_2 := blk_frozen BK547.out 2) | (go_at_call 47; (with_reducible refine (impl_RLog_term.calls a0_0 a0_1 _ _ l0_2 a1 t557 _ ?side1 ?side2 A33.out).mono ?_); (case side1 => repeat (first | exact (Kd.C_below HR0_2.out HB.out) | (with_reducible refine Kd.C_alloc ?_ _) | (with_reducible refine Kd.C_drewN ?_ _) | (with_reducible refine Kd.C_drew ?_))); (case side2 => exact HC0_2.out); rintro e w42 ⟨rfl, hb⟩; have n0_ := Aside0.mk (Kd.R_below (by (with_reducible repeat (first | apply Kd.R_alloc | apply Kd.R_drewN | apply Kd.R_drew)); exact HO553.out) hb); have n1_ := Aside0.mk (blk_below (g := gb547) (o := .cells #[.int .i64 a0_0, .int .i64 a0_1, .slice A0_2 l0_2.length c0_2] 29 (0, 0)) (by (with_reducible repeat (first | refine blk_drewN ?_ _ | refine blk_drew ?_ | refine blk_alloc ?_ _)); exact BK547.out) hb); have n2_ := Aside0.mk (blk_below (g := gb548) (o := .cells #[.int .i64 0, .int .i64 0, .slice none 0 0] 29 (0, 0)) (by (with_reducible repeat (first | refine blk_drewN ?_ _ | refine blk_drew ?_ | refine blk_alloc ?_ _)); exact BK548.out) hb); have n3_ := Aside0.mk (blk_below (g := gb554) (o := .cells #[.int .i64 t549, .int .i64 t550, .slice Ao16 t551.length co16] 29 (0, 0)) (by (with_reducible repeat (first | refine blk_drewN ?_ _ | refine blk_drew ?_ | refine blk_alloc ?_ _)); exact BK554.out) hb); have n4_ := Aside0.mk (below_step (by repeat (first | (with_reducible first | exact HB.out | apply below_alloc | apply pw_below_drewN | apply below_drew1 | refine below_set ?_ GE547.out | refine below_set ?_ GE548.out | refine below_set ?_ GE554.out) | exact HB.out)) hb); clear HO553; clear BK547; clear BK548; clear BK554; clear HB; have HO553 := n0_; have BK547 := n1_; have BK548 := n2_; have BK554 := n3_; have HB := n4_; clear n0_ n1_ n2_ n3_ n4_; (try clear hb); (try clear hb2); (try clear hk); (try clear hi)))
            go_meet
            case rel => exact ⟨_, (decide ((l3.length : Int) > 10)), (by first | rfl | (simp; done) | (simp [*]; done)), H', ⟨by first | omega | exact Nat.le_refl _⟩, ⟨by (with_reducible repeat (first | apply Kd.R_alloc | apply Kd.R_drewN | apply Kd.R_drew)); exact HO553.out⟩, ⟨by (with_reducible repeat (first | refine blk_drewN ?_ _ | refine blk_drew ?_ | refine blk_alloc ?_ _)); exact BK547.out⟩, ⟨by (with_reducible repeat (first | refine blk_drewN ?_ _ | refine blk_drew ?_ | refine blk_alloc ?_ _)); exact BK548.out⟩, ⟨by (with_reducible repeat (first | refine blk_drewN ?_ _ | refine blk_drew ?_ | refine blk_alloc ?_ _)); exact BK554.out⟩, ⟨by repeat (first | (with_reducible first | exact HB.out | apply below_alloc | apply pw_below_drewN | apply below_drew1 | refine below_set ?_ GE547.out | refine below_set ?_ GE548.out | refine below_set ?_ GE554.out) | exact HB.out)⟩⟩
          · rw [if_neg c34] at H
            have c34b0 : (t557 == a2) = false := beq_eq_false_iff_ne.mpr c34
            have c34b1 : (t557 != a2) = true := bne_iff_ne.mpr c34
            have H' := Aside0.mk H
            clear H
            have hnb43 := NB547_548.out
            have hnc43 := NB548_547.out
            have hnb44 := NB547_554.out
            have hnc44 := NB554_547.out
            have hcz45_0 : w12.cell? ⟨gb547, 0, none⟩ = some (.int .i64 a0_0) := (blk_cell BK547.out 0).trans rfl
            have hcz45_1 : w12.cell? ⟨gb547, 1, none⟩ = some (.int .i64 a0_1) := (blk_cell BK547.out 1).trans rfl
            have hcz45_2 : w12.cell? ⟨gb547, 2, none⟩ = some (.slice A0_2 l0_2.length c0_2) := (blk_cell BK547.out 2).trans rfl
            have hfz45_0 := blk_frozen BK547.out 0
            have hfz45_1 := blk_frozen BK547.out 1
            have hfz45_2 := blk_frozen BK547.out 2
            go_wp2_with (first | ((with_reducible refine gate_callee (f := 45) rfl ?_); refine goesL_ (some 17) rfl rfl Try.func45 (by kernel_rfl) rfl #[.agg #[.int .i64 a0_0, .int .i64 a0_1, .slice A0_2 l0_2.length c0_2]] rfl (by (try simp only [List.map_toArray, List.map_cons, List.map_nil]); first | done | rfl | (simp only [List.length_drop, List.length_take]; rfl)) ?_; (with_reducible refine (impl_isRLog.calls k a0_0 a0_1 _ _ l0_2 true _ ?side1 ?side2 A17.out).mono ?_); (case side1 => exact Kd.C_below HR0_2.out (by repeat (first | (with_reducible first | exact HB.out | apply below_alloc | apply pw_below_drewN | apply below_drew1 | refine below_set ?_ GE547.out | refine below_set ?_ GE548.out | refine below_set ?_ GE554.out) | exact HB.out))); (case side2 => exact HC0_2.out); rintro e w46 ⟨rfl, hb⟩; refine ⟨_, rfl, ?_⟩; have n0_ := Aside0.mk (Kd.R_below (by (with_reducible repeat (first | apply Kd.R_alloc | apply Kd.R_drewN | apply Kd.R_drew)); exact (Kd.R_mono (Kd.R_far (p := ⟨gb554, 2, none⟩) (Kd.R_far (p := ⟨gb554, 1, none⟩) (Kd.R_far (p := ⟨gb554, 0, none⟩) (Kd.R_types HO553.out BK554.out (by decide)) (fun _ hk => hk.2) (.int .i64 t549)) (fun _ hk => hk.2) (.int .i64 t550)) (fun _ hk => hk.2) (.slice Ao16 t551.length co16)) (fun _ h_ => h_.1))) hb); have n1_ := Aside0.mk (blk_below (g := gb547) (o := .cells #[.int .i64 a0_0, .int .i64 a0_1, .slice A0_2 l0_2.length c0_2] 29 (0, 0)) (by (with_reducible repeat (first | refine blk_drewN ?_ _ | refine blk_drew ?_ | refine blk_alloc ?_ _)); refine blk_far ?_ NB547_554.out _; (with_reducible repeat (first | refine blk_drewN ?_ _ | refine blk_drew ?_ | refine blk_alloc ?_ _)); refine blk_far ?_ NB547_554.out _; (with_reducible repeat (first | refine blk_drewN ?_ _ | refine blk_drew ?_ | refine blk_alloc ?_ _)); refine blk_far ?_ NB547_554.out _; (with_reducible repeat (first | refine blk_drewN ?_ _ | refine blk_drew ?_ | refine blk_alloc ?_ _)); exact BK547.out) hb); have n2_ := Aside0.mk (blk_below (g := gb548) (o := .cells #[.int .i64 0, .int .i64 0, .slice none 0 0] 29 (0, 0)) (by (with_reducible repeat (first | refine blk_drewN ?_ _ | refine blk_drew ?_ | refine blk_alloc ?_ _)); refine blk_far ?_ NB548_554.out _; (with_reducible repeat (first | refine blk_drewN ?_ _ | refine blk_drew ?_ | refine blk_alloc ?_ _)); refine blk_far ?_ NB548_554.out _; (with_reducible repeat (first | refine blk_drewN ?_ _ | refine blk_drew ?_ | refine blk_alloc ?_ _)); refine blk_far ?_ NB548_554.out _; (with_reducible repeat (first | refine blk_drewN ?_ _ | refine blk_drew ?_ | refine blk_alloc ?_ _)); exact BK548.out) hb); have n3_ := Aside0.mk (blk_below (g := gb554) (o := .cells #[.int .i64 t549, .int .i64 t550, .slice Ao16 t551.length co16] 29 (0, 0)) (by (with_reducible repeat (first | refine blk_drewN ?_ _ | refine blk_drew ?_ | refine blk_alloc ?_ _)); refine blk_put (cs := #[.int .i64 t549, .int .i64 t550, .slice none 0 0]) ?_ 2 _ rfl; (with_reducible repeat (first | refine blk_drewN ?_ _ | refine blk_drew ?_ | refine blk_alloc ?_ _)); refine blk_put (cs := #[.int .i64 t549, .int .i64 0, .slice none 0 0]) ?_ 1 _ rfl; (with_reducible repeat (first | refine blk_drewN ?_ _ | refine blk_drew ?_ | refine blk_alloc ?_ _)); refine blk_put (cs := #[.int .i64 0, .int .i64 0, .slice none 0 0]) ?_ 0 _ rfl; (with_reducible repeat (first | refine blk_drewN ?_ _ | refine blk_drew ?_ | refine blk_alloc ?_ _)); exact BK554.out) hb); have n4_ := Aside0.mk (below_step (by repeat (first | (with_reducible first | exact HB.out | apply below_alloc | apply pw_below_drewN | apply below_drew1 | refine below_set ?_ GE547.out | refine below_set ?_ GE548.out | refine below_set ?_ GE554.out) | exact HB.out)) hb); clear HO553; clear BK547; clear BK548; clear BK554; clear HB; have HO553 := n0_; have BK547 := n1_; have BK548 := n2_; have BK554 := n3_; have HB := n4_; clear n0_ n1_ n2_ n3_ n4_; (try clear hb); (try clear hb2); (try clear hk); (try clear hi); have hcz47_0 : w46.cell? ⟨gb547, 0, none⟩ = some (.int .i64 a0_0) := (blk_cell BK547.out 0).trans rfl; have hcz47_1 : w46.cell? ⟨gb547, 1, none⟩ = some (.int .i64 a0_1) := (blk_cell BK547.out 1).trans rfl; have hcz47_2 : w46.cell? ⟨gb547, 2, none⟩ = some (.slice A0_2 l0_2.length c0_2) := (blk_cell BK547.out 2).trans rfl; have hfz47_0 := blk_frozen BK547.out 0; have hfz47_1 := blk_frozen BK547.out 1; have hfz47_2 := blk_frozen BK547.out 2) | (go_at_call 46; (with_reducible refine (impl_RLog_last.calls a0_0 a0_1 _ _ l0_2 t556 _ ?side1 ?side2 A25.out).mono ?_); (case side1 => repeat (first | exact (Kd.C_below HR0_2.out HB.out) | (with_reducible refine Kd.C_alloc ?_ _) | (with_reducible refine Kd.C_drewN ?_ _) | (with_reducible refine Kd.C_drew ?_))); (case side2 => exact HC0_2.out); rintro e w48 ⟨rfl, hb⟩; have n0_ := Aside0.mk (Kd.R_below (by (with_reducible repeat (first | apply Kd.R_alloc | apply Kd.R_drewN | apply Kd.R_drew)); exact HO553.out) hb); have n1_ := Aside0.mk (blk_below (g := gb547) (o := .cells #[.int .i64 a0_0, .int .i64 a0_1, .slice A0_2 l0_2.length c0_2] 29 (0, 0)) (by (with_reducible repeat (first | refine blk_drewN ?_ _ | refine blk_drew ?_ | refine blk_alloc ?_ _)); exact BK547.out) hb); have n2_ := Aside0.mk (blk_below (g := gb548) (o := .cells #[.int .i64 0, .int .i64 0, .slice none 0 0] 29 (0, 0)) (by (with_reducible repeat (first | refine blk_drewN ?_ _ | refine blk_drew ?_ | refine blk_alloc ?_ _)); exact BK548.out) hb); have n3_ := Aside0.mk (blk_below (g := gb554) (o := .cells #[.int .i64 t549, .int .i64 t550, .slice Ao16 t551.length co16] 29 (0, 0)) (by (with_reducible repeat (first | refine blk_drewN ?_ _ | refine blk_drew ?_ | refine blk_alloc ?_ _)); exact BK554.out) hb); have n4_ := Aside0.mk (below_step (by repeat (first | (with_reducible first | exact HB.out | apply below_alloc | apply pw_below_drewN | apply below_drew1 | refine below_set ?_ GE547.out | refine below_set ?_ GE548.out | refine below_set ?_ GE554.out) | exact HB.out)) hb); clear HO553; clear BK547; clear BK548; clear BK554; clear HB; have HO553 := n0_; have BK547 := n1_; have BK548 := n2_; have BK554 := n3_; have HB := n4_; clear n0_ n1_ n2_ n3_ n4_; (try clear hb); (try clear hb2); (try clear hk); (try clear hi); have hcz49_0 : w48.cell? ⟨gb547, 0, none⟩ = some (.int .i64 a0_0) := (blk_cell BK547.out 0).trans rfl; have hcz49_1 : w48.cell? ⟨gb547, 1, none⟩ = some (.int .i64 a0_1) := (blk_cell BK547.out 1).trans rfl; have hcz49_2 : w48.cell? ⟨gb547, 2, none⟩ = some (.slice A0_2 l0_2.length c0_2) := (blk_cell BK547.out 2).trans rfl; have hfz49_0 := blk_frozen BK547.out 0; have hfz49_1 := blk_frozen BK547.out 1; have hfz49_2 := blk_frozen BK547.out 2) | (go_at_call 47; (with_reducible refine (impl_RLog_term.calls a0_0 a0_1 _ _ l0_2 a1 t557 _ ?side1 ?side2 A33.out).mono ?_); (case side1 => repeat (first | exact (Kd.C_below HR0_2.out HB.out) | (with_reducible refine Kd.C_alloc ?_ _) | (with_reducible refine Kd.C_drewN ?_ _) | (with_reducible refine Kd.C_drew ?_))); (case side2 => exact HC0_2.out); rintro e w50 ⟨rfl, hb⟩; have n0_ := Aside0.mk (Kd.R_below (by (with_reducible repeat (first | apply Kd.R_alloc | apply Kd.R_drewN | apply Kd.R_drew)); exact HO553.out) hb); have n1_ := Aside0.mk (blk_below (g := gb547) (o := .cells #[.int .i64 a0_0, .int .i64 a0_1, .slice A0_2 l0_2.length c0_2] 29 (0, 0)) (by (with_reducible repeat (first | refine blk_drewN ?_ _ | refine blk_drew ?_ | refine blk_alloc ?_ _)); exact BK547.out) hb); have n2_ := Aside0.mk (blk_below (g := gb548) (o := .cells #[.int .i64 0, .int .i64 0, .slice none 0 0] 29 (0, 0)) (by (with_reducible repeat (first | refine blk_drewN ?_ _ | refine blk_drew ?_ | refine blk_alloc ?_ _)); exact BK548.out) hb); have n3_ := Aside0.mk (blk_below (g := gb554) (o := .cells #[.int .i64 t549, .int .i64 t550, .slice Ao16 t551.length co16] 29 (0, 0)) (by (with_reducible repeat (first | refine blk_drewN ?_ _ | refine blk_drew ?_ | refine blk_alloc ?_ _)); exact BK554.out) hb); have n4_ := Aside0.mk (below_step (by repeat (first | (with_reducible first | exact HB.out | apply below_alloc | apply pw_below_drewN | apply below_drew1 | refine below_set ?_ GE547.out | refine below_set ?_ GE548.out | refine below_set ?_ GE554.out) | exact HB.out)) hb); clear HO553; clear BK547; clear BK548; clear BK554; clear HB; have HO553 := n0_; have BK547 := n1_; have BK548 := n2_; have BK554 := n3_; have HB := n4_; clear n0_ n1_ n2_ n3_ n4_; (try clear hb); (try clear hb2); (try clear hk); (try clear hi)))
            go_meet
            case rel => exact ⟨_, (true), (by first | rfl | (simp; done) | (simp [*]; done)), H', ⟨by first | omega | exact Nat.le_refl _⟩, ⟨by (with_reducible repeat (first | apply Kd.R_alloc | apply Kd.R_drewN | apply Kd.R_drew)); exact HO553.out⟩, ⟨by (with_reducible repeat (first | refine blk_drewN ?_ _ | refine blk_drew ?_ | refine blk_alloc ?_ _)); exact BK547.out⟩, ⟨by (with_reducible repeat (first | refine blk_drewN ?_ _ | refine blk_drew ?_ | refine blk_alloc ?_ _)); exact BK548.out⟩, ⟨by (with_reducible repeat (first | refine blk_drewN ?_ _ | refine blk_drew ?_ | refine blk_alloc ?_ _)); exact BK554.out⟩, ⟨by repeat (first | (with_reducible first | exact HB.out | apply below_alloc | apply pw_below_drewN | apply below_drew1 | refine below_set ?_ GE547.out | refine below_set ?_ GE548.out | refine below_set ?_ GE554.out) | exact HB.out)⟩⟩
    · replace c18 := Bool.eq_false_iff.mpr c18
      subst c18
      have H1 : (impl_AppendTo.j0 k a1 l3 true a0_0 a0_1 l0_2 t549 t550 t551) = some (r1, r2, r3, r4) := by rw [if_neg (show ¬ (false = true) by decide)] at H; exact H
      clear H
      have H := H1
      clear H1
      have H' := Aside0.mk H
      clear H
      have hnb51 := NB547_548.out
      have hnc51 := NB548_547.out
      have hnb52 := NB547_554.out
      have hnc52 := NB554_547.out
      have hcz53_0 : w12.cell? ⟨gb547, 0, none⟩ = some (.int .i64 a0_0) := (blk_cell BK547.out 0).trans rfl
      have hcz53_1 : w12.cell? ⟨gb547, 1, none⟩ = some (.int .i64 a0_1) := (blk_cell BK547.out 1).trans rfl
      have hcz53_2 : w12.cell? ⟨gb547, 2, none⟩ = some (.slice A0_2 l0_2.length c0_2) := (blk_cell BK547.out 2).trans rfl
      have hfz53_0 := blk_frozen BK547.out 0
      have hfz53_1 := blk_frozen BK547.out 1
      have hfz53_2 := blk_frozen BK547.out 2
      go_wp2_with (first | ((with_reducible refine gate_callee (f := 45) rfl ?_); refine goesL_ (some 17) rfl rfl Try.func45 (by kernel_rfl) rfl #[.agg #[.int .i64 a0_0, .int .i64 a0_1, .slice A0_2 l0_2.length c0_2]] rfl (by (try simp only [List.map_toArray, List.map_cons, List.map_nil]); first | done | rfl | (simp only [List.length_drop, List.length_take]; rfl)) ?_; (with_reducible refine (impl_isRLog.calls k a0_0 a0_1 _ _ l0_2 false _ ?side1 ?side2 A17.out).mono ?_); (case side1 => exact Kd.C_below HR0_2.out (by repeat (first | (with_reducible first | exact HB.out | apply below_alloc | apply pw_below_drewN | apply below_drew1 | refine below_set ?_ GE547.out | refine below_set ?_ GE548.out | refine below_set ?_ GE554.out) | exact HB.out))); (case side2 => exact HC0_2.out); rintro e w54 ⟨rfl, hb⟩; refine ⟨_, rfl, ?_⟩; have n0_ := Aside0.mk (Kd.R_below (by (with_reducible repeat (first | apply Kd.R_alloc | apply Kd.R_drewN | apply Kd.R_drew)); exact (Kd.R_mono (Kd.R_far (p := ⟨gb554, 2, none⟩) (Kd.R_far (p := ⟨gb554, 1, none⟩) (Kd.R_far (p := ⟨gb554, 0, none⟩) (Kd.R_types HO553.out BK554.out (by decide)) (fun _ hk => hk.2) (.int .i64 t549)) (fun _ hk => hk.2) (.int .i64 t550)) (fun _ hk => hk.2) (.slice Ao16 t551.length co16)) (fun _ h_ => h_.1))) hb); have n1_ := Aside0.mk (blk_below (g := gb547) (o := .cells #[.int .i64 a0_0, .int .i64 a0_1, .slice A0_2 l0_2.length c0_2] 29 (0, 0)) (by (with_reducible repeat (first | refine blk_drewN ?_ _ | refine blk_drew ?_ | refine blk_alloc ?_ _)); refine blk_far ?_ NB547_554.out _; (with_reducible repeat (first | refine blk_drewN ?_ _ | refine blk_drew ?_ | refine blk_alloc ?_ _)); refine blk_far ?_ NB547_554.out _; (with_reducible repeat (first | refine blk_drewN ?_ _ | refine blk_drew ?_ | refine blk_alloc ?_ _)); refine blk_far ?_ NB547_554.out _; (with_reducible repeat (first | refine blk_drewN ?_ _ | refine blk_drew ?_ | refine blk_alloc ?_ _)); exact BK547.out) hb); have n2_ := Aside0.mk (blk_below (g := gb548) (o := .cells #[.int .i64 0, .int .i64 0, .slice none 0 0] 29 (0, 0)) (by (with_reducible repeat (first | refine blk_drewN ?_ _ | refine blk_drew ?_ | refine blk_alloc ?_ _)); refine blk_far ?_ NB548_554.out _; (with_reducible repeat (first | refine blk_drewN ?_ _ | refine blk_drew ?_ | refine blk_alloc ?_ _)); refine blk_far ?_ NB548_554.out _; (with_reducible repeat (first | refine blk_drewN ?_ _ | refine blk_drew ?_ | refine blk_alloc ?_ _)); refine blk_far ?_ NB548_554.out _; (with_reducible repeat (first | refine blk_drewN ?_ _ | refine blk_drew ?_ | refine blk_alloc ?_ _)); exact BK548.out) hb); have n3_ := Aside0.mk (blk_below (g := gb554) (o := .cells #[.int .i64 t549, .int .i64 t550, .slice Ao16 t551.length co16] 29 (0, 0)) (by (with_reducible repeat (first | refine blk_drewN ?_ _ | refine blk_drew ?_ | refine blk_alloc ?_ _)); refine blk_put (cs := #[.int .i64 t549, .int .i64 t550, .slice none 0 0]) ?_ 2 _ rfl; (with_reducible repeat (first | refine blk_drewN ?_ _ | refine blk_drew ?_ | refine blk_alloc ?_ _)); refine blk_put (cs := #[.int .i64 t549, .int .i64 0, .slice none 0 0]) ?_ 1 _ rfl; (with_reducible repeat (first | refine blk_drewN ?_ _ | refine blk_drew ?_ | refine blk_alloc ?_ _)); refine blk_put (cs := #[.int .i64 0, .int .i64 0, .slice none 0 0]) ?_ 0 _ rfl; (with_reducible repeat (first | refine blk_drewN ?_ _ | refine blk_drew ?_ | refine blk_alloc ?_ _)); exact BK554.out) hb); have n4_ := Aside0.mk (below_step (by repeat (first | (with_reducible first | exact HB.out | apply below_alloc | apply pw_below_drewN | apply below_drew1 | refine below_set ?_ GE547.out | refine below_set ?_ GE548.out | refine below_set ?_ GE554.out) | exact HB.out)) hb); clear HO553; clear BK547; clear BK548; clear BK554; clear HB; have HO553 := n0_; have BK547 := n1_; have BK548 := n2_; have BK554 := n3_; have HB := n4_; clear n0_ n1_ n2_ n3_ n4_; (try clear hb); (try clear hb2); (try clear hk); (try clear hi)))
      go_meet
      case rel => exact ⟨_, (true), (by first | rfl | (simp; done) | (simp [*]; done)), H', ⟨by first | omega | exact Nat.le_refl _⟩, ⟨by (with_reducible repeat (first | apply Kd.R_alloc | apply Kd.R_drewN | apply Kd.R_drew)); exact HO553.out⟩, ⟨by (with_reducible repeat (first | refine blk_drewN ?_ _ | refine blk_drew ?_ | refine blk_alloc ?_ _)); exact BK547.out⟩, ⟨by (with_reducible repeat (first | refine blk_drewN ?_ _ | refine blk_drew ?_ | refine blk_alloc ?_ _)); exact BK548.out⟩, ⟨by (with_reducible repeat (first | refine blk_drewN ?_ _ | refine blk_drew ?_ | refine blk_alloc ?_ _)); exact BK554.out⟩, ⟨by repeat (first | (with_reducible first | exact HB.out | apply below_alloc | apply pw_below_drewN | apply below_drew1 | refine below_set ?_ GE547.out | refine below_set ?_ GE548.out | refine below_set ?_ GE554.out) | exact HB.out)⟩⟩
  case rest =>
    clear HC6
    try clear c1
    try clear c2
    try clear p2
    try clear c3
    try clear c4
    try clear c5
    try clear c9
    try clear c13
    try clear c14
    try clear c18
    try clear c19
    try clear c19b0
    try clear c20
    try clear c21
    try clear c26
    try clear c26b0
    try clear c27
    try clear c28
    try clear c34
    try clear c34b0
    try clear c34b1
    try clear c35
    try clear c36
    try clear c38
    try clear c43
    try clear c44
    try clear c45
    try clear c51
    try clear c52
    try clear hcz10_0
    try clear hcz10_1
    try clear hcz10_2
    try clear hcz15_0
    try clear hcz15_1
    try clear hcz15_2
    try clear hcz22_0
    try clear hcz22_1
    try clear hcz22_2
    try clear hcz24_0
    try clear hcz24_1
    try clear hcz24_2
    try clear hcz29_0
    try clear hcz29_1
    try clear hcz29_2
    try clear hcz31_0
    try clear hcz31_1
    try clear hcz31_2
    try clear hcz37_0
    try clear hcz37_1
    try clear hcz37_2
    try clear hcz39_0
    try clear hcz39_1
    try clear hcz39_2
    try clear hcz41_0
    try clear hcz41_1
    try clear hcz41_2
    try clear hcz45_0
    try clear hcz45_1
    try clear hcz45_2
    try clear hcz47_0
    try clear hcz47_1
    try clear hcz47_2
    try clear hcz49_0
    try clear hcz49_1
    try clear hcz49_2
    try clear hcz53_0
    try clear hcz53_1
    try clear hcz53_2
    try clear hfz10_0
    try clear hfz10_1
    try clear hfz10_2
    try clear hfz15_0
    try clear hfz15_1
    try clear hfz15_2
    try clear hfz22_0
    try clear hfz22_1
    try clear hfz22_2
    try clear hfz24_0
    try clear hfz24_1
    try clear hfz24_2
    try clear hfz29_0
    try clear hfz29_1
    try clear hfz29_2
    try clear hfz31_0
    try clear hfz31_1
    try clear hfz31_2
    try clear hfz37_0
    try clear hfz37_1
    try clear hfz37_2
    try clear hfz39_0
    try clear hfz39_1
    try clear hfz39_2
    try clear hfz41_0
    try clear hfz41_1
    try clear hfz41_2
    try clear hfz45_0
    try clear hfz45_1
    try clear hfz45_2
    try clear hfz47_0
    try clear hfz47_1
    try clear hfz47_2
    try clear hfz49_0
    try clear hfz49_1
    try clear hfz49_2
    try clear hfz53_0
    try clear hfz53_1
    try clear hfz53_2
    obtain ⟨kq, x42_5, rfl, HA, HJ5, HO_555002, BK547, BK548, BK554, HB⟩ := hcut
    cases kq with
    | zero => exact absurd HA.out (by simp [impl_AppendTo.j0])
    | succ kj5 =>
      have H := HA.out
      clear HA
      simp only [impl_AppendTo.j0] at H
      by_cases c55 : x42_5 = true
      · subst c55
        have H1 : (some (t549, t550, t551, false)) = some (r1, r2, r3, r4) := by rw [if_pos rfl] at H; exact H
        clear H
        have H := H1
        clear H1
        simp only [Option.some.injEq, Prod.mk.injEq] at H
        obtain ⟨rfl, rfl, rfl, rfl⟩ := H
        have hnb56 := NB554_547.out
        have hnc56 := NB547_554.out
        have hnb57 := NB554_548.out
        have hnc57 := NB548_554.out
        have hcz58_0 : wc.cell? ⟨gb554, 0, none⟩ = some (.int .i64 t549) := (blk_cell BK554.out 0).trans rfl
        have hcz58_1 : wc.cell? ⟨gb554, 1, none⟩ = some (.int .i64 t550) := (blk_cell BK554.out 1).trans rfl
        have hcz58_2 : wc.cell? ⟨gb554, 2, none⟩ = some (.slice Ao16 t551.length co16) := (blk_cell BK554.out 2).trans rfl
        have hfz58_0 := blk_frozen BK554.out 0
        have hfz58_1 := blk_frozen BK554.out 1
        have hfz58_2 := blk_frozen BK554.out 2
        have hnb59 := NB548_547.out
        have hnc59 := NB547_548.out
        have hcz60_0 : wc.cell? ⟨gb548, 0, none⟩ = some (.int .i64 0) := (blk_cell BK548.out 0).trans rfl
        have hcz60_1 : wc.cell? ⟨gb548, 1, none⟩ = some (.int .i64 0) := (blk_cell BK548.out 1).trans rfl
        have hcz60_2 : wc.cell? ⟨gb548, 2, none⟩ = some (.slice none 0 0) := (blk_cell BK548.out 2).trans rfl
        have hfz60_0 := blk_frozen BK548.out 0
        have hfz60_1 := blk_frozen BK548.out 1
        have hfz60_2 := blk_frozen BK548.out 2
        go_wp2
        refine bodyPost_ret (results_ct rfl _ _ gb548 29 #[.int .i64 t549, .int .i64 t550, .slice Ao16 t551.length co16] (0, 0) _ rfl (by (with_reducible repeat (first | refine blk_drewN ?_ _ | refine blk_drew ?_ | refine blk_alloc ?_ _)); refine blk_put (cs := #[.int .i64 t549, .int .i64 t550, .slice none 0 0]) ?_ 2 _ rfl; (with_reducible repeat (first | refine blk_drewN ?_ _ | refine blk_drew ?_ | refine blk_alloc ?_ _)); refine blk_put (cs := #[.int .i64 t549, .int .i64 0, .slice none 0 0]) ?_ 1 _ rfl; (with_reducible repeat (first | refine blk_drewN ?_ _ | refine blk_drew ?_ | refine blk_alloc ?_ _)); refine blk_put (cs := #[.int .i64 0, .int .i64 0, .slice none 0 0]) ?_ 0 _ rfl; (with_reducible repeat (first | refine blk_drewN ?_ _ | refine blk_drew ?_ | refine blk_alloc ?_ _)); exact BK548.out) Try.underlying29 rfl (by kernel_rfl)) rfl ?_
        exact ⟨_, by first | rfl | (simp [errW_none, errW_some] <;> rfl) | (simp [*, errW_none, errW_some] <;> rfl), by (with_reducible repeat (first | apply Kd.R_alloc | apply Kd.R_drewN | apply Kd.R_drew)); exact Kd.R_mono (Kd.R_far (p := ⟨gb548, 2, none⟩) (Kd.R_far (p := ⟨gb548, 1, none⟩) (Kd.R_far (p := ⟨gb548, 0, none⟩) (Kd.R_types HO_555002.out BK548.out (by decide)) (fun _ hk => hk.2) (.int .i64 t549)) (fun _ hk => hk.2) (.int .i64 t550)) (fun _ hk => hk.2) (.slice Ao16 t551.length co16)) (fun _ hk => trivial), by repeat (first | (with_reducible first | exact HB.out | apply below_alloc | apply pw_below_drewN | apply below_drew1 | refine below_set ?_ GE547.out | refine below_set ?_ GE548.out | refine below_set ?_ GE554.out) | exact HB.out)⟩
      · replace c55 := Bool.eq_false_iff.mpr c55
        subst c55
        have H1 : (impl_AppendTo.l0 kj5 a1 l3 l3 (l3.length : Int) 0 a0_0 a0_1 l0_2 t549 t550 t551) = some (r1, r2, r3, r4) := by rw [if_neg (show ¬ (false = true) by decide)] at H; exact H
        clear H
        have H := H1
        clear H1
        have HC61 := Aside0.mk H
        clear H
        go_upto_block 0 with (fail)
        go_cut [] (fun wc => ∃ (kq : Nat) (x555002_60 : List (S54)) (u555002 : Value), Aside0 (impl_AppendTo.j2 kq a0_0 a0_1 l0_2 t549 t550 x555002_60 = some (r1, r2, r3, r4)) ∧ Aside0 (kq ≤ kj5) ∧ Aside0 (Kd.R k54 54 wc w.heap.size (fun _ => True) u555002 x555002_60) ∧ Aside0 (wc.heap[gb547]? = some (.cells #[.int .i64 a0_0, .int .i64 a0_1, (.slice A0_2 l0_2.length c0_2)] 29 (0, 0))) ∧ Aside0 (wc.heap[gb548]? = some (.cells #[.int .i64 0, .int .i64 0, (.slice none 0 0)] 29 (0, 0))) ∧ Aside0 (wc.heap[gb554]? = some (.cells #[.int .i64 t549, .int .i64 t550, u555002] 29 (0, 0))) ∧ Aside0 (Below w.heap.size w wc))
        case first =>
          have H := HC61.out
          clear HC61
          have H' := Aside0.mk H
          clear H
          go_wp2
          go_loopg [46] kj5 (fun kq v46 w' => ∃ (x46_2 : Int) (x555002_2 : List (S54)) (u555002 : Value), v46 = .int .i64 x46_2 ∧ Aside0 (impl_AppendTo.l0 kq a1 l3 l3 (l3.length : Int) x46_2 a0_0 a0_1 l0_2 t549 t550 x555002_2 = some (r1, r2, r3, r4)) ∧ Aside0 (kq ≤ kj5) ∧ Aside0 (Kd.R k54 54 w' w.heap.size (fun _ => True) u555002 x555002_2) ∧ Aside0 (w'.heap[gb547]? = some (.cells #[.int .i64 a0_0, .int .i64 a0_1, (.slice A0_2 l0_2.length c0_2)] 29 (0, 0))) ∧ Aside0 (w'.heap[gb548]? = some (.cells #[.int .i64 0, .int .i64 0, (.slice none 0 0)] 29 (0, 0))) ∧ Aside0 (w'.heap[gb554]? = some (.cells #[.int .i64 t549, .int .i64 t550, u555002] 29 (0, 0))) ∧ Aside0 (Below w.heap.size w w'))
          case atStart => exact ⟨(0), (t551), (.slice Ao16 t551.length co16), (by first | rfl | (simp; done) | (simp [*]; done)), H', ⟨Nat.le_refl _⟩, ⟨by (with_reducible repeat (first | apply Kd.R_alloc | apply Kd.R_drewN | apply Kd.R_drew)); exact HO_555002.out⟩, ⟨by (with_reducible repeat (first | refine blk_drewN ?_ _ | refine blk_drew ?_ | refine blk_alloc ?_ _)); exact BK547.out⟩, ⟨by (with_reducible repeat (first | refine blk_drewN ?_ _ | refine blk_drew ?_ | refine blk_alloc ?_ _)); exact BK548.out⟩, ⟨by (with_reducible repeat (first | refine blk_drewN ?_ _ | refine blk_drew ?_ | refine blk_alloc ?_ _)); exact BK554.out⟩, ⟨by repeat (first | (with_reducible first | exact HB.out | apply below_alloc | apply pw_below_drewN | apply below_drew1 | refine below_set ?_ GE547.out | refine below_set ?_ GE548.out | refine below_set ?_ GE554.out) | exact HB.out)⟩⟩
          case round =>
            clear H'
            try clear c1
            try clear c2
            try clear p2
            try clear c3
            try clear c4
            try clear c5
            try clear c9
            try clear c13
            try clear c14
            try clear c18
            try clear c19
            try clear c19b0
            try clear c20
            try clear c21
            try clear c26
            try clear c26b0
            try clear c27
            try clear c28
            try clear c34
            try clear c34b0
            try clear c34b1
            try clear c35
            try clear c36
            try clear c38
            try clear c43
            try clear c44
            try clear c45
            try clear c51
            try clear c52
            try clear c55
            try clear c56
            try clear c57
            try clear c59
            try clear hcz10_0
            try clear hcz10_1
            try clear hcz10_2
            try clear hcz15_0
            try clear hcz15_1
            try clear hcz15_2
            try clear hcz22_0
            try clear hcz22_1
            try clear hcz22_2
            try clear hcz24_0
            try clear hcz24_1
            try clear hcz24_2
            try clear hcz29_0
            try clear hcz29_1
            try clear hcz29_2
            try clear hcz31_0
            try clear hcz31_1
            try clear hcz31_2
            try clear hcz37_0
            try clear hcz37_1
            try clear hcz37_2
            try clear hcz39_0
            try clear hcz39_1
            try clear hcz39_2
            try clear hcz41_0
            try clear hcz41_1
            try clear hcz41_2
            try clear hcz45_0
            try clear hcz45_1
            try clear hcz45_2
            try clear hcz47_0
            try clear hcz47_1
            try clear hcz47_2
            try clear hcz49_0
            try clear hcz49_1
            try clear hcz49_2
            try clear hcz53_0
            try clear hcz53_1
            try clear hcz53_2
            try clear hcz58_0
            try clear hcz58_1
            try clear hcz58_2
            try clear hcz60_0
            try clear hcz60_1
            try clear hcz60_2
            try clear hfz10_0
            try clear hfz10_1
            try clear hfz10_2
            try clear hfz15_0
            try clear hfz15_1
            try clear hfz15_2
            try clear hfz22_0
            try clear hfz22_1
            try clear hfz22_2
            try clear hfz24_0
            try clear hfz24_1
            try clear hfz24_2
            try clear hfz29_0
            try clear hfz29_1
            try clear hfz29_2
            try clear hfz31_0
            try clear hfz31_1
            try clear hfz31_2
            try clear hfz37_0
            try clear hfz37_1
            try clear hfz37_2
            try clear hfz39_0
            try clear hfz39_1
            try clear hfz39_2
            try clear hfz41_0
            try clear hfz41_1
            try clear hfz41_2
            try clear hfz45_0
            try clear hfz45_1
            try clear hfz45_2
            try clear hfz47_0
            try clear hfz47_1
            try clear hfz47_2
            try clear hfz49_0
            try clear hfz49_1
            try clear hfz49_2
            try clear hfz53_0
            try clear hfz53_1
            try clear hfz53_2
            try clear hfz58_0
            try clear hfz58_1
            try clear hfz58_2
            try clear hfz60_0
            try clear hfz60_1
            try clear hfz60_2
            try clear p2
            obtain ⟨x46_2, x555002_2, u555002, rfl, HA, HK2, HO_555002, BK547, BK548, BK554, HB⟩ := hrel
            cases gk with
            | zero => exact absurd HA.out (by simp [impl_AppendTo.l0])
            | succ k2 =>
              have H := HA.out
              clear HA
              simp only [impl_AppendTo.l0] at H
              by_cases c62 : x46_2 < (l3.length : Int)
              · rw [if_pos c62] at H
                have c62b0 : decide (x46_2 < (l3.length : Int)) = true := decide_eq_true c62
                clear c62
                (first | rw [c62b0] | (simp only [i64_w, i32_w]; rw [c62b0]) | skip)
                by_cases c63 : 0 ≤ x46_2
                · rw [if_pos c63] at H
                  have c63b0 : decide (0 ≤ x46_2) = true := decide_eq_true c63
                  clear c63
                  by_cases c64 : x46_2 < (l3.length : Int)
                  · rw [if_pos c64] at H
                    have c64b0 : decide (x46_2 < (l3.length : Int)) = true := decide_eq_true c64
                    clear c64
                    replace H := Option.bind_eq_some_iff.mp H
                    obtain ⟨t560, A650, H⟩ := H
                    replace H : (if (wrap64 ((wrap64 (a1 + 1)) + x46_2)) ≤ t560 then ((impl_RLog_term.f a0_0 a0_1 l0_2 (wrap64 ((wrap64 (a1 + 1)) + x46_2))).bind fun t561 => (if t561 = ((rd_T54 l3 x46_2).f0) then (impl_AppendTo.l0 k2 a1 l3 l3 (l3.length : Int) (wrap64 (x46_2 + 1)) a0_0 a0_1 l0_2 t549 t550 x555002_2) else (if 0 ≤ (wrap64 ((wrap64 ((wrap64 ((wrap64 (a1 + 1)) + x46_2)) - a0_0)) - 1)) then (if (wrap64 ((wrap64 ((wrap64 ((wrap64 (a1 + 1)) + x46_2)) - a0_0)) - 1)) ≤ (x555002_2.length : Int) then ((some (x555002_2.take ((wrap64 ((wrap64 ((wrap64 ((wrap64 (a1 + 1)) + x46_2)) - a0_0)) - 1)) : Int).toNat : List (S54))).bind fun y562 => (if x46_2 ≤ (l3.length : Int) then ((some (l3.drop (x46_2 : Int).toNat : List (S54))).bind fun y565 => (if y562.length + y565.length < 5864062014805 then (impl_AppendTo.j2 k2 a0_0 a0_1 l0_2 t549 t550 (y562 ++ y565)) else (none))) else (none))) else (none)) else (none)))) else (if 0 ≤ (wrap64 ((wrap64 ((wrap64 ((wrap64 (a1 + 1)) + x46_2)) - a0_0)) - 1)) then (if (wrap64 ((wrap64 ((wrap64 ((wrap64 (a1 + 1)) + x46_2)) - a0_0)) - 1)) ≤ (x555002_2.length : Int) then ((some (x555002_2.take ((wrap64 ((wrap64 ((wrap64 ((wrap64 (a1 + 1)) + x46_2)) - a0_0)) - 1)) : Int).toNat : List (S54))).bind fun y572 => (if x46_2 ≤ (l3.length : Int) then ((some (l3.drop (x46_2 : Int).toNat : List (S54))).bind fun y575 => (if y572.length + y575.length < 5864062014805 then (impl_AppendTo.j2 k2 a0_0 a0_1 l0_2 t549 t550 (y572 ++ y575)) else (none))) else (none))) else (none)) else (none))) = some (r1, r2, r3, r4) := H
                    have A65 := Aside0.mk A650
                    clear A650
                    by_cases c66 : (wrap64 ((wrap64 (a1 + 1)) + x46_2)) ≤ t560
                    · rw [if_pos c66] at H
                      have c66b0 : decide ((wrap64 ((wrap64 (a1 + 1)) + x46_2)) ≤ t560) = true := decide_eq_true c66
                      clear c66
                      replace H := Option.bind_eq_some_iff.mp H
                      obtain ⟨t561, A670, H⟩ := H
                      replace H : (if t561 = ((rd_T54 l3 x46_2).f0) then (impl_AppendTo.l0 k2 a1 l3 l3 (l3.length : Int) (wrap64 (x46_2 + 1)) a0_0 a0_1 l0_2 t549 t550 x555002_2) else (if 0 ≤ (wrap64 ((wrap64 ((wrap64 ((wrap64 (a1 + 1)) + x46_2)) - a0_0)) - 1)) then (if (wrap64 ((wrap64 ((wrap64 ((wrap64 (a1 + 1)) + x46_2)) - a0_0)) - 1)) ≤ (x555002_2.length : Int) then ((some (x555002_2.take ((wrap64 ((wrap64 ((wrap64 ((wrap64 (a1 + 1)) + x46_2)) - a0_0)) - 1)) : Int).toNat : List (S54))).bind fun y562 => (if x46_2 ≤ (l3.length : Int) then ((some (l3.drop (x46_2 : Int).toNat : List (S54))).bind fun y565 => (if y562.length + y565.length < 5864062014805 then (impl_AppendTo.j2 k2 a0_0 a0_1 l0_2 t549 t550 (y562 ++ y565)) else (none))) else (none))) else (none)) else (none))) = some (r1, r2, r3, r4) := H
                      have A67 := Aside0.mk A670
                      clear A670
                      by_cases c68 : t561 = ((rd_T54 l3 x46_2).f0)
                      · rw [if_pos c68] at H
                        have c68b0 : (t561 == ((rd_T54 l3 x46_2).f0)) = true := beq_iff_eq.mpr c68
                        have c68b1 : (t561 != ((rd_T54 l3 x46_2).f0)) = false := bne_eq_false_iff_eq.mpr c68
                        clear c68
                        have H' := Aside0.mk H
                        clear H
                        have p558 : 0 ≤ (x46_2 : Int) := of_decide_eq_true (by first | (with_reducible assumption) | assumption)
                        have q558 : x46_2 < (l3.length : Int) := of_decide_eq_true (by first | (with_reducible assumption) | assumption)
                        obtain ⟨ad558, e558, hx558_0, hx558_1⟩ := at_T54 HR3.out x46_2 p558 q558
                        cases e558
                        replace hx558_0 := (HB.out.cell (World.block_lt_of_cell? w _ hx558_0)).trans hx558_0
                        replace hx558_1 := (HB.out.cell (World.block_lt_of_cell? w _ hx558_1)).trans hx558_1
                        replace p558 := eq_true p558
                        replace q558 := eq_true q558
                        try go_wp2_with (first | ((with_reducible refine gate_dst (N := 12) rfl ?_); (try (refine gate_guard (by rfl) ?_; dsimp only)); refine box_event ?hg (N := 12) ?hd (cs := #[.int .i64 0, .string (⟨#[]⟩ : ByteArray)]) (t := 54) ?hr ?_; (case hd => rfl); (case hg => rfl); (case hr => first | (go_simp; done) | (go_simp; rfl)); intro gb559 hg w69 hbox hb; have n0_ := Aside0.mk (Kd.R_below (Kd.R_elderB (by (with_reducible repeat (first | apply Kd.R_alloc | apply Kd.R_drewN | apply Kd.R_drew)); exact HO_555002.out) gb559 (Nat.le_of_eq hg.symm)) hb); have n1_ := Aside0.mk (blk_below (g := gb547) (o := .cells #[.int .i64 a0_0, .int .i64 a0_1, .slice A0_2 l0_2.length c0_2] 29 (0, 0)) (by (with_reducible repeat (first | refine blk_drewN ?_ _ | refine blk_drew ?_ | refine blk_alloc ?_ _)); exact BK547.out) hb); have n2_ := Aside0.mk (blk_below (g := gb548) (o := .cells #[.int .i64 0, .int .i64 0, .slice none 0 0] 29 (0, 0)) (by (with_reducible repeat (first | refine blk_drewN ?_ _ | refine blk_drew ?_ | refine blk_alloc ?_ _)); exact BK548.out) hb); have n3_ := Aside0.mk (blk_below (g := gb554) (o := .cells #[.int .i64 t549, .int .i64 t550, u555002] 29 (0, 0)) (by (with_reducible repeat (first | refine blk_drewN ?_ _ | refine blk_drew ?_ | refine blk_alloc ?_ _)); exact BK554.out) hb); have n4_ := Aside0.mk (below_step (by repeat (first | (with_reducible first | exact HB.out | apply below_alloc | apply pw_below_drewN | apply below_drew1 | refine below_set ?_ GE547.out | refine below_set ?_ GE548.out | refine below_set ?_ GE554.out) | exact HB.out)) hb); have n5_ := Aside0.mk (hbox); have n6_ := Aside0.mk ((by rw [hg]; exact (below_size (by repeat (first | (with_reducible first | exact HB.out | apply below_alloc | apply pw_below_drewN | apply below_drew1 | refine below_set ?_ GE547.out | refine below_set ?_ GE548.out | refine below_set ?_ GE554.out) | exact HB.out))) : w.heap.size ≤ gb559)); have n7_ := Aside0.mk ((by rw [hg]; exact (below_size (by repeat (first | (with_reducible first | exact HB.out | apply below_alloc | apply pw_below_drewN | apply below_drew1 | refine below_set ?_ GE547.out | refine below_set ?_ GE548.out | refine below_set ?_ GE554.out) | exact HB.out))) : w.heap.size ≤ gb559)); have n8_ := Aside0.mk ((by rw [hg]; exact Nat.ne_of_lt (blk_lt (g := gb547) (o := .cells #[.int .i64 a0_0, .int .i64 a0_1, .slice A0_2 l0_2.length c0_2] 29 (0, 0)) (by (with_reducible repeat (first | refine blk_drewN ?_ _ | refine blk_drew ?_ | refine blk_alloc ?_ _)); exact BK547.out)) : gb547 ≠ gb559)); have n9_ := Aside0.mk ((by rw [hg]; exact Nat.ne_of_gt (blk_lt (g := gb547) (o := .cells #[.int .i64 a0_0, .int .i64 a0_1, .slice A0_2 l0_2.length c0_2] 29 (0, 0)) (by (with_reducible repeat (first | refine blk_drewN ?_ _ | refine blk_drew ?_ | refine blk_alloc ?_ _)); exact BK547.out)) : gb559 ≠ gb547)); have n10_ := Aside0.mk ((by rw [hg]; exact Nat.ne_of_lt (blk_lt (g := gb548) (o := .cells #[.int .i64 0, .int .i64 0, .slice none 0 0] 29 (0, 0)) (by (with_reducible repeat (first | refine blk_drewN ?_ _ | refine blk_drew ?_ | refine blk_alloc ?_ _)); exact BK548.out)) : gb548 ≠ gb559)); have n11_ := Aside0.mk ((by rw [hg]; exact Nat.ne_of_gt (blk_lt (g := gb548) (o := .cells #[.int .i64 0, .int .i64 0, .slice none 0 0] 29 (0, 0)) (by (with_reducible repeat (first | refine blk_drewN ?_ _ | refine blk_drew ?_ | refine blk_alloc ?_ _)); exact BK548.out)) : gb559 ≠ gb548)); have n12_ := Aside0.mk ((by rw [hg]; exact Nat.ne_of_lt (blk_lt (g := gb554) (o := .cells #[.int .i64 t549, .int .i64 t550, u555002] 29 (0, 0)) (by (with_reducible repeat (first | refine blk_drewN ?_ _ | refine blk_drew ?_ | refine blk_alloc ?_ _)); exact BK554.out)) : gb554 ≠ gb559)); have n13_ := Aside0.mk ((by rw [hg]; exact Nat.ne_of_gt (blk_lt (g := gb554) (o := .cells #[.int .i64 t549, .int .i64 t550, u555002] 29 (0, 0)) (by (with_reducible repeat (first | refine blk_drewN ?_ _ | refine blk_drew ?_ | refine blk_alloc ?_ _)); exact BK554.out)) : gb559 ≠ gb554)); clear HO_555002; clear BK547; clear BK548; clear BK554; clear HB; have HO_555002 := n0_; have BK547 := n1_; have BK548 := n2_; have BK554 := n3_; have HB := n4_; have BK559 := n5_; have GW559 := n6_; have GE559 := n7_; have NB547_559 := n8_; have NB559_547 := n9_; have NB548_559 := n10_; have NB559_548 := n11_; have NB554_559 := n12_; have NB559_554 := n13_; clear n0_ n1_ n2_ n3_ n4_ n5_ n6_ n7_ n8_ n9_ n10_ n11_ n12_ n13_; clear hb hbox hg; have hnb70 := NB559_547.out; have hnc70 := NB547_559.out; have hnb71 := NB559_548.out; have hnc71 := NB548_559.out; have hnb72 := NB559_554.out; have hnc72 := NB554_559.out; have hcz73_0 : w69.cell? ⟨gb559, 0, none⟩ = some (.int .i64 0) := (blk_cell BK559.out 0).trans rfl; have hcz73_1 : w69.cell? ⟨gb559, 1, none⟩ = some (.string (⟨#[]⟩ : ByteArray)) := (blk_cell BK559.out 1).trans rfl; have hfz73_0 := blk_frozen BK559.out 0; have hfz73_1 := blk_frozen BK559.out 1))
                        have n0_ : Aside0 (Kd.R k54 54 ((w69.setCell ⟨gb559, 0, none⟩ (.int .i64 ((rd_T54 l3 x46_2).f0))).setCell ⟨gb559, 1, none⟩ (.string ((rd_T54 l3 x46_2).f1))) w.heap.size (fun k_ => k_ ≠ gb559) u555002 x555002_2) := ⟨by (with_reducible repeat (first | apply Kd.R_alloc | apply Kd.R_drewN | apply Kd.R_drew)); exact Kd.R_mono (Kd.R_far (p := ⟨gb559, 1, none⟩) (Kd.R_far (p := ⟨gb559, 0, none⟩) (Kd.R_mono HO_555002.out (fun k_ hk => (⟨hk, hk.2⟩ : _ ∧ k_ ≠ gb559))) (fun _ hk => hk.2) (.int .i64 ((rd_T54 l3 x46_2).f0))) (fun _ hk => hk.2) (.string ((rd_T54 l3 x46_2).f1))) (fun _ hk => hk.1.2)⟩
                        have n1_ : Aside0 (((w69.setCell ⟨gb559, 0, none⟩ (.int .i64 ((rd_T54 l3 x46_2).f0))).setCell ⟨gb559, 1, none⟩ (.string ((rd_T54 l3 x46_2).f1))).heap[gb547]? = some (.cells #[.int .i64 a0_0, .int .i64 a0_1, .slice A0_2 l0_2.length c0_2] 29 (0, 0))) := ⟨by (with_reducible repeat (first | refine blk_drewN ?_ _ | refine blk_drew ?_ | refine blk_alloc ?_ _)); refine blk_far ?_ NB547_559.out _; (with_reducible repeat (first | refine blk_drewN ?_ _ | refine blk_drew ?_ | refine blk_alloc ?_ _)); refine blk_far ?_ NB547_559.out _; (with_reducible repeat (first | refine blk_drewN ?_ _ | refine blk_drew ?_ | refine blk_alloc ?_ _)); exact BK547.out⟩
                        have n2_ : Aside0 (((w69.setCell ⟨gb559, 0, none⟩ (.int .i64 ((rd_T54 l3 x46_2).f0))).setCell ⟨gb559, 1, none⟩ (.string ((rd_T54 l3 x46_2).f1))).heap[gb548]? = some (.cells #[.int .i64 0, .int .i64 0, .slice none 0 0] 29 (0, 0))) := ⟨by (with_reducible repeat (first | refine blk_drewN ?_ _ | refine blk_drew ?_ | refine blk_alloc ?_ _)); refine blk_far ?_ NB548_559.out _; (with_reducible repeat (first | refine blk_drewN ?_ _ | refine blk_drew ?_ | refine blk_alloc ?_ _)); refine blk_far ?_ NB548_559.out _; (with_reducible repeat (first | refine blk_drewN ?_ _ | refine blk_drew ?_ | refine blk_alloc ?_ _)); exact BK548.out⟩
                        have n3_ : Aside0 (((w69.setCell ⟨gb559, 0, none⟩ (.int .i64 ((rd_T54 l3 x46_2).f0))).setCell ⟨gb559, 1, none⟩ (.string ((rd_T54 l3 x46_2).f1))).heap[gb554]? = some (.cells #[.int .i64 t549, .int .i64 t550, u555002] 29 (0, 0))) := ⟨by (with_reducible repeat (first | refine blk_drewN ?_ _ | refine blk_drew ?_ | refine blk_alloc ?_ _)); refine blk_far ?_ NB554_559.out _; (with_reducible repeat (first | refine blk_drewN ?_ _ | refine blk_drew ?_ | refine blk_alloc ?_ _)); refine blk_far ?_ NB554_559.out _; (with_reducible repeat (first | refine blk_drewN ?_ _ | refine blk_drew ?_ | refine blk_alloc ?_ _)); exact BK554.out⟩
                        have n4_ : Aside0 (((w69.setCell ⟨gb559, 0, none⟩ (.int .i64 ((rd_T54 l3 x46_2).f0))).setCell ⟨gb559, 1, none⟩ (.string ((rd_T54 l3 x46_2).f1))).heap[gb559]? = some (.cells #[.int .i64 ((rd_T54 l3 x46_2).f0), .string ((rd_T54 l3 x46_2).f1)] 54 (0, 0))) := ⟨by (with_reducible repeat (first | refine blk_drewN ?_ _ | refine blk_drew ?_ | refine blk_alloc ?_ _)); refine blk_put (cs := #[.int .i64 ((rd_T54 l3 x46_2).f0), .string (⟨#[]⟩ : ByteArray)]) ?_ 1 _ rfl; (with_reducible repeat (first | refine blk_drewN ?_ _ | refine blk_drew ?_ | refine blk_alloc ?_ _)); refine blk_put (cs := #[.int .i64 0, .string (⟨#[]⟩ : ByteArray)]) ?_ 0 _ rfl; (with_reducible repeat (first | refine blk_drewN ?_ _ | refine blk_drew ?_ | refine blk_alloc ?_ _)); exact BK559.out⟩
                        have n5_ : Aside0 (Below w.heap.size w ((w69.setCell ⟨gb559, 0, none⟩ (.int .i64 ((rd_T54 l3 x46_2).f0))).setCell ⟨gb559, 1, none⟩ (.string ((rd_T54 l3 x46_2).f1)))) := ⟨by repeat (first | (with_reducible first | exact HB.out | apply below_alloc | apply pw_below_drewN | apply below_drew1 | refine below_set ?_ GE547.out | refine below_set ?_ GE548.out | refine below_set ?_ GE554.out | refine below_set ?_ GE559.out) | exact HB.out)⟩
                        (try clear HO_555002)
                        (try clear BK547)
                        (try clear BK548)
                        (try clear BK554)
                        (try clear BK559)
                        (try clear HB)
                        generalize ((w69.setCell ⟨gb559, 0, none⟩ (.int .i64 ((rd_T54 l3 x46_2).f0))).setCell ⟨gb559, 1, none⟩ (.string ((rd_T54 l3 x46_2).f1))) = w74 at n0_ n1_ n2_ n3_ n4_ n5_ ⊢
                        have HO_555002 := n0_
                        have BK547 := n1_
                        have BK548 := n2_
                        have BK554 := n3_
                        have BK559 := n4_
                        have HB := n5_
                        clear n0_ n1_ n2_ n3_ n4_ n5_
                        have n0_ := Aside0.mk (Kd.R_drew HO_555002.out)
                        have n1_ := Aside0.mk (blk_drew BK547.out)
                        have n2_ := Aside0.mk (blk_drew BK548.out)
                        have n3_ := Aside0.mk (blk_drew BK554.out)
                        have n4_ := Aside0.mk (blk_drew BK559.out)
                        have n5_ := Aside0.mk (below_drew1 HB.out)
                        clear HO_555002
                        clear BK547
                        clear BK548
                        clear BK554
                        clear BK559
                        clear HB
                        have HO_555002 := n0_
                        have BK547 := n1_
                        have BK548 := n2_
                        have BK554 := n3_
                        have BK559 := n4_
                        have HB := n5_
                        clear n0_ n1_ n2_ n3_ n4_ n5_
                        refine start_ (n := 12) (S := fun w' => w'.cell? ⟨gb547, 0, none⟩ = some (.int .i64 a0_0) ∧ w'.cell? ⟨gb547, 1, none⟩ = some (.int .i64 a0_1) ∧ w'.cell? ⟨gb547, 2, none⟩ = some (.slice A0_2 l0_2.length c0_2) ∧ w'.cell? ⟨gb559, 0, none⟩ = some (.int .i64 ((rd_T54 l3 x46_2).f0)) ∧ w'.cell? ⟨gb559, 1, none⟩ = some (.string ((rd_T54 l3 x46_2).f1))) (ds := []) #[false, false, false, false, false, false, false, false, false, false, false, false] (by kernel_rfl) rfl rfl ⟨(blk_cell BK547.out 0).trans rfl, (blk_cell BK547.out 1).trans rfl, (blk_cell BK547.out 2).trans rfl, (blk_cell BK559.out 0).trans rfl, (blk_cell BK559.out 1).trans rfl⟩ (fun hHeld => ?_); refine with_tabW impl_AppendTo.tab8 impl_AppendTo.bits8 (fun HT_ HW_ => ?_)
                        generalize w74.drew = w75 at HO_555002 BK547 BK548 BK554 BK559 HB hHeld ⊢
                        refine pure_ (i := 0) (N := some 55) (v := ?_) (a' := ?_) #[true, false, false, false, false, false, false, false, false, false, false, false] rfl rfl (any_of HT_.out (by kernel_rfl)) (fun _ _ _ h => h) (Or.inl ⟨by rfl, ?_⟩) ?_ ?_
                        rotate_left
                        · intro w'
                          go_simp
                          with_reducible rfl
                        rotate_left
                        · simp only [Act.put, List.setIfInBounds_toArray, List.set_cons_zero, List.set_cons_succ, i64_w, i32_w]
                          rfl
                        refine take_ (i := 1) (N := some 56) (v := ?_) (a' := ?_) #[true, true, false, false, false, false, false, false, false, false, false, false] rfl rfl (take_ofW HT_.out HW_.out (by kernel_rfl)) (fun _ _ _ h => h) (Or.inl ⟨by rfl, ?_⟩) hHeld ?_ ?_
                        rotate_left
                        · rintro w' ⟨s0, s1, s2, s3, s4⟩
                          go_simp
                          with_reducible rfl
                        rotate_left
                        · simp only [Act.put, List.setIfInBounds_toArray, List.set_cons_zero, List.set_cons_succ, i64_w, i32_w]
                          rfl
                        refine one_ (i := 2) (N := some 57) #[true, true, true, false, false, false, false, false, false, false, false, false] rfl rfl (one_of HT_.out (by kernel_rfl)) (by decide) (fun K hK => ?_)
                        refine goes_ Try.func46 (by kernel_rfl) rfl #[.agg #[.int .i64 a0_0, .int .i64 a0_1, .slice A0_2 l0_2.length c0_2]] (by rfl) rfl rfl (by (try simp only [List.map_toArray, List.map_cons, List.map_nil]); first | done | rfl | (simp only [List.length_drop, List.length_take]; rfl)) ?_
                        with_reducible refine (impl_RLog_last.calls a0_0 a0_1 _ _ l0_2 t560 _ ?side1 ?side2 A65.out).mono ?_
                        (case side1 => repeat (first | exact (Kd.C_below HR0_2.out HB.out) | (with_reducible refine Kd.C_alloc ?_ _) | (with_reducible refine Kd.C_drewN ?_ _) | (with_reducible refine Kd.C_drew ?_)))
                        (case side2 => exact HC0_2.out)
                        rintro e w76 ⟨rfl, hb⟩
                        refine ⟨_, rfl, ?_⟩
                        have n0_ := Aside0.mk (Kd.R_below (by (with_reducible repeat (first | apply Kd.R_alloc | apply Kd.R_drewN | apply Kd.R_drew)); exact HO_555002.out) hb)
                        have n1_ := Aside0.mk (blk_below (g := gb547) (o := .cells #[.int .i64 a0_0, .int .i64 a0_1, .slice A0_2 l0_2.length c0_2] 29 (0, 0)) (by (with_reducible repeat (first | refine blk_drewN ?_ _ | refine blk_drew ?_ | refine blk_alloc ?_ _)); exact BK547.out) hb)
                        have n2_ := Aside0.mk (blk_below (g := gb548) (o := .cells #[.int .i64 0, .int .i64 0, .slice none 0 0] 29 (0, 0)) (by (with_reducible repeat (first | refine blk_drewN ?_ _ | refine blk_drew ?_ | refine blk_alloc ?_ _)); exact BK548.out) hb)
                        have n3_ := Aside0.mk (blk_below (g := gb554) (o := .cells #[.int .i64 t549, .int .i64 t550, u555002] 29 (0, 0)) (by (with_reducible repeat (first | refine blk_drewN ?_ _ | refine blk_drew ?_ | refine blk_alloc ?_ _)); exact BK554.out) hb)
                        have n4_ := Aside0.mk (blk_below (g := gb559) (o := .cells #[.int .i64 ((rd_T54 l3 x46_2).f0), .string ((rd_T54 l3 x46_2).f1)] 54 (0, 0)) (by (with_reducible repeat (first | refine blk_drewN ?_ _ | refine blk_drew ?_ | refine blk_alloc ?_ _)); exact BK559.out) hb)
                        have n5_ := Aside0.mk (below_step (by repeat (first | (with_reducible first | exact HB.out | apply below_alloc | apply pw_below_drewN | apply below_drew1 | refine below_set ?_ GE547.out | refine below_set ?_ GE548.out | refine below_set ?_ GE554.out | refine below_set ?_ GE559.out) | exact HB.out)) hb)
                        clear HO_555002
                        clear BK547
                        clear BK548
                        clear BK554
                        clear BK559
                        clear HB
                        have HO_555002 := n0_
                        have BK547 := n1_
                        have BK548 := n2_
                        have BK554 := n3_
                        have BK559 := n4_
                        have HB := n5_
                        clear n0_ n1_ n2_ n3_ n4_ n5_
                        (try clear hb)
                        (try clear hb2)
                        (try clear hk)
                        (try clear hi)
                        refine hK.out _ _ ⟨(blk_cell BK547.out 0).trans rfl, (blk_cell BK547.out 1).trans rfl, (blk_cell BK547.out 2).trans rfl, (blk_cell BK559.out 0).trans rfl, (blk_cell BK559.out 1).trans rfl⟩ (fun hHeld => ?_)
                        clear hK K
                        refine norm_ (a' := ?_) ?_ ?_
                        rotate_left
                        · show Act.put _ (some 57) _ = _
                          simp only [Act.put, List.setIfInBounds_toArray, List.set_cons_zero, List.set_cons_succ, i64_w, i32_w]
                          rfl
                        refine pure_ (i := 3) (N := some 58) (v := ?_) (a' := ?_) #[true, true, true, true, false, false, false, false, false, false, false, false] rfl rfl (any_of HT_.out (by kernel_rfl)) (fun _ _ _ h => h) (Or.inl ⟨by rfl, ?_⟩) ?_ ?_
                        rotate_left
                        · intro w'
                          go_simp
                          with_reducible rfl
                        rotate_left
                        · simp only [Act.put, List.setIfInBounds_toArray, List.set_cons_zero, List.set_cons_succ, i64_w, i32_w]
                          rfl
                        refine pure_ (i := 4) (N := some 59) (v := ?_) (a' := ?_) #[true, true, true, true, true, false, false, false, false, false, false, false] rfl rfl (any_of HT_.out (by kernel_rfl)) (fun _ _ _ h => h) (Or.inl ⟨by rfl, ?_⟩) ?_ ?_
                        rotate_left
                        · intro w'
                          go_simp
                          with_reducible rfl
                        rotate_left
                        · simp only [Act.put, List.setIfInBounds_toArray, List.set_cons_zero, List.set_cons_succ, i64_w, i32_w]
                          rfl
                        refine pure_ (i := 6) (N := some 61) (v := ?_) (a' := ?_) #[true, true, true, true, true, false, true, false, false, false, false, false] rfl rfl (any_of HT_.out (by kernel_rfl)) (fun _ _ _ h => h) (Or.inl ⟨by rfl, ?_⟩) ?_ ?_
                        rotate_left
                        · intro w'
                          go_simp
                          with_reducible rfl
                        rotate_left
                        · simp only [Act.put, List.setIfInBounds_toArray, List.set_cons_zero, List.set_cons_succ, i64_w, i32_w]
                          rfl
                        refine pure_ (i := 8) (N := some 63) (v := ?_) (a' := ?_) #[true, true, true, true, true, false, true, false, true, false, false, false] rfl rfl (any_of HT_.out (by kernel_rfl)) (fun _ _ _ h => h) (Or.inl ⟨by rfl, ?_⟩) ?_ ?_
                        rotate_left
                        · intro w'
                          go_simp
                          with_reducible rfl
                        rotate_left
                        · simp only [Act.put, List.setIfInBounds_toArray, List.set_cons_zero, List.set_cons_succ, i64_w, i32_w]
                          rfl
                        refine take_ (i := 5) (N := some 60) (v := ?_) (a' := ?_) #[true, true, true, true, true, true, true, false, true, false, false, false] rfl rfl (take_ofW HT_.out HW_.out (by kernel_rfl)) (fun _ _ _ h => h) (Or.inl ⟨by rfl, ?_⟩) hHeld ?_ ?_
                        rotate_left
                        · rintro w' ⟨s0, s1, s2, s3, s4⟩
                          go_simp
                          with_reducible rfl
                        rotate_left
                        · simp only [Act.put, List.setIfInBounds_toArray, List.set_cons_zero, List.set_cons_succ, i64_w, i32_w]
                          rfl
                        refine take_ (i := 9) (N := some 64) (v := ?_) (a' := ?_) #[true, true, true, true, true, true, true, false, true, true, false, false] rfl rfl (take_ofW HT_.out HW_.out (by kernel_rfl)) (fun _ _ _ h => h) (Or.inl ⟨by rfl, ?_⟩) hHeld ?_ ?_
                        rotate_left
                        · rintro w' ⟨s0, s1, s2, s3, s4⟩
                          go_simp
                          with_reducible rfl
                        rotate_left
                        · simp only [Act.put, List.setIfInBounds_toArray, List.set_cons_zero, List.set_cons_succ, i64_w, i32_w]
                          rfl
                        refine one_ (i := 7) (N := some 62) #[true, true, true, true, true, true, true, true, true, true, false, false] rfl rfl (one_of HT_.out (by kernel_rfl)) (by decide) (fun K hK => ?_)
                        refine goes_ Try.func47 (by kernel_rfl) rfl #[.agg #[.int .i64 a0_0, .int .i64 a0_1, .slice A0_2 l0_2.length c0_2], .int .i64 (wrap64 ((wrap64 (a1 + 1)) + x46_2))] (by rfl) rfl rfl (by (try simp only [List.map_toArray, List.map_cons, List.map_nil]); first | done | rfl | (simp only [List.length_drop, List.length_take]; rfl)) ?_
                        with_reducible refine (impl_RLog_term.calls a0_0 a0_1 _ _ l0_2 (wrap64 ((wrap64 (a1 + 1)) + x46_2)) t561 _ ?side1 ?side2 A67.out).mono ?_
                        (case side1 => repeat (first | exact (Kd.C_below HR0_2.out HB.out) | (with_reducible refine Kd.C_alloc ?_ _) | (with_reducible refine Kd.C_drewN ?_ _) | (with_reducible refine Kd.C_drew ?_)))
                        (case side2 => exact HC0_2.out)
                        rintro e w77 ⟨rfl, hb⟩
                        refine ⟨_, rfl, ?_⟩
                        have n0_ := Aside0.mk (Kd.R_below (by (with_reducible repeat (first | apply Kd.R_alloc | apply Kd.R_drewN | apply Kd.R_drew)); exact HO_555002.out) hb)
                        have n1_ := Aside0.mk (blk_below (g := gb547) (o := .cells #[.int .i64 a0_0, .int .i64 a0_1, .slice A0_2 l0_2.length c0_2] 29 (0, 0)) (by (with_reducible repeat (first | refine blk_drewN ?_ _ | refine blk_drew ?_ | refine blk_alloc ?_ _)); exact BK547.out) hb)
                        have n2_ := Aside0.mk (blk_below (g := gb548) (o := .cells #[.int .i64 0, .int .i64 0, .slice none 0 0] 29 (0, 0)) (by (with_reducible repeat (first | refine blk_drewN ?_ _ | refine blk_drew ?_ | refine blk_alloc ?_ _)); exact BK548.out) hb)
                        have n3_ := Aside0.mk (blk_below (g := gb554) (o := .cells #[.int .i64 t549, .int .i64 t550, u555002] 29 (0, 0)) (by (with_reducible repeat (first | refine blk_drewN ?_ _ | refine blk_drew ?_ | refine blk_alloc ?_ _)); exact BK554.out) hb)
                        have n4_ := Aside0.mk (blk_below (g := gb559) (o := .cells #[.int .i64 ((rd_T54 l3 x46_2).f0), .string ((rd_T54 l3 x46_2).f1)] 54 (0, 0)) (by (with_reducible repeat (first | refine blk_drewN ?_ _ | refine blk_drew ?_ | refine blk_alloc ?_ _)); exact BK559.out) hb)
                        have n5_ := Aside0.mk (below_step (by repeat (first | (with_reducible first | exact HB.out | apply below_alloc | apply pw_below_drewN | apply below_drew1 | refine below_set ?_ GE547.out | refine below_set ?_ GE548.out | refine below_set ?_ GE554.out | refine below_set ?_ GE559.out) | exact HB.out)) hb)
                        clear HO_555002
                        clear BK547
                        clear BK548
                        clear BK554
                        clear BK559
                        clear HB
                        have HO_555002 := n0_
                        have BK547 := n1_
                        have BK548 := n2_
                        have BK554 := n3_
                        have BK559 := n4_
                        have HB := n5_
                        clear n0_ n1_ n2_ n3_ n4_ n5_
                        (try clear hb)
                        (try clear hb2)
                        (try clear hk)
                        (try clear hi)
                        refine hK.out _ _ ⟨(blk_cell BK547.out 0).trans rfl, (blk_cell BK547.out 1).trans rfl, (blk_cell BK547.out 2).trans rfl, (blk_cell BK559.out 0).trans rfl, (blk_cell BK559.out 1).trans rfl⟩ (fun hHeld => ?_)
                        clear hK K
                        refine norm_ (a' := ?_) ?_ ?_
                        rotate_left
                        · show Act.put _ (some 62) _ = _
                          simp only [Act.put, List.setIfInBounds_toArray, List.set_cons_zero, List.set_cons_succ, i64_w, i32_w]
                          rfl
                        refine pure_ (i := 10) (N := some 65) (v := ?_) (a' := ?_) #[true, true, true, true, true, true, true, true, true, true, true, false] rfl rfl (any_of HT_.out (by kernel_rfl)) (fun _ _ _ h => h) (Or.inl ⟨by rfl, ?_⟩) ?_ ?_
                        rotate_left
                        · intro w'
                          go_simp
                          with_reducible rfl
                        rotate_left
                        · simp only [Act.put, List.setIfInBounds_toArray, List.set_cons_zero, List.set_cons_succ, i64_w, i32_w]
                          rfl
                        refine pure_ (i := 11) (N := some 66) (v := ?_) (a' := ?_) #[true, true, true, true, true, true, true, true, true, true, true, true] rfl rfl (any_of HT_.out (by kernel_rfl)) (fun _ _ _ h => h) (Or.inl ⟨by rfl, ?_⟩) ?_ ?_
                        rotate_left
                        · intro w'
                          go_simp
                          with_reducible rfl
                        rotate_left
                        · simp only [Act.put, List.setIfInBounds_toArray, List.set_cons_zero, List.set_cons_succ, i64_w, i32_w]
                          rfl
                        refine done_ (done_of HT_.out (by kernel_rfl)) ?_
                        try go_wp2
                        go_roundg k2
                        case measure => have := HJ5.out; have := HK2.out; omega
                        case rel => exact ⟨(wrap64 (x46_2 + 1)), (x555002_2), (u555002), (by first | rfl | (simp; done) | (simp [*]; done)), H', ⟨by have := HJ5.out; have := HK2.out; omega⟩, ⟨by (with_reducible repeat (first | apply Kd.R_alloc | apply Kd.R_drewN | apply Kd.R_drew)); exact Kd.R_mono HO_555002.out (fun _ hk => trivial)⟩, ⟨by (with_reducible repeat (first | refine blk_drewN ?_ _ | refine blk_drew ?_ | refine blk_alloc ?_ _)); exact BK547.out⟩, ⟨by (with_reducible repeat (first | refine blk_drewN ?_ _ | refine blk_drew ?_ | refine blk_alloc ?_ _)); exact BK548.out⟩, ⟨by (with_reducible repeat (first | refine blk_drewN ?_ _ | refine blk_drew ?_ | refine blk_alloc ?_ _)); exact BK554.out⟩, ⟨by repeat (first | (with_reducible first | exact HB.out | apply below_alloc | apply pw_below_drewN | apply below_drew1 | refine below_set ?_ GE547.out | refine below_set ?_ GE548.out | refine below_set ?_ GE554.out | refine below_set ?_ GE559.out) | exact HB.out)⟩⟩
                      · rw [if_neg c68] at H
                        have c68b0 : (t561 == ((rd_T54 l3 x46_2).f0)) = false := beq_eq_false_iff_ne.mpr c68
                        have c68b1 : (t561 != ((rd_T54 l3 x46_2).f0)) = true := bne_iff_ne.mpr c68
                        obtain ⟨ji78, hji78⟩ : ∃ j_ : Int, (wrap64 ((wrap64 ((wrap64 ((wrap64 (a1 + 1)) + x46_2)) - a0_0)) - 1)) = j_ := ⟨_, rfl⟩
                        replace H : (if 0 ≤ (ji78) then (if (ji78) ≤ (x555002_2.length : Int) then ((some (x555002_2.take ((ji78) : Int).toNat : List (S54))).bind fun y562 => (if x46_2 ≤ (l3.length : Int) then ((some (l3.drop (x46_2 : Int).toNat : List (S54))).bind fun y565 => (if y562.length + y565.length < 5864062014805 then (impl_AppendTo.j2 k2 a0_0 a0_1 l0_2 t549 t550 (y562 ++ y565)) else (none))) else (none))) else (none)) else (none)) = some (r1, r2, r3, r4) := by first | (rw [hji78] at H; exact H) | (simp only [hji78] at H ⊢; exact H)
                        (try rw [hji78] at A65)
                        (try rw [hji78] at A67)
                        have hji78w : (IntKind.i64.wrap ((wrap64 ((wrap64 ((wrap64 (a1 + 1)) + x46_2)) - a0_0)) - 1)) = ji78 := (i64_w _).trans hji78
                        by_cases c79 : 0 ≤ (ji78)
                        · rw [if_pos c79] at H
                          have c79b0 := eq_true c79
                          have c79b1 : decide (0 ≤ (ji78)) = true := decide_eq_true c79
                          clear c79
                          by_cases c80 : (ji78) ≤ (x555002_2.length : Int)
                          · rw [if_pos c80] at H
                            have c80b0 := eq_true c80
                            have c80b1 : decide ((ji78) ≤ (x555002_2.length : Int)) = true := decide_eq_true c80
                            clear c80
                            obtain ⟨y562, hy562⟩ : ∃ y_ : List (S54), y_ = (x555002_2.take ((ji78) : Int).toNat) := ⟨_, rfl⟩
                            replace H : (if x46_2 ≤ (l3.length : Int) then ((some (l3.drop (x46_2 : Int).toNat : List (S54))).bind fun y565 => (if y562.length + y565.length < 5864062014805 then (impl_AppendTo.j2 k2 a0_0 a0_1 l0_2 t549 t550 (y562 ++ y565)) else (none))) else (none)) = some (r1, r2, r3, r4) := by first | (rw [hy562]; with_reducible exact H) | (have H2_ := (Option.bind_some _ _).symm.trans H; rw [hy562]; with_reducible exact H2_) | (have H2_ := (Option.bind_some _ _).symm.trans H; with_reducible exact H2_) | with_reducible exact H | (rw [hy562]; exact H) | exact H
                            have Ny562 := Aside0.mk hy562
                            clear hy562
                            have c81b0 := eq_true (of_decide_eq_true (by first | (with_reducible assumption) | assumption) : 0 ≤ x46_2)
                            by_cases c82 : x46_2 ≤ (l3.length : Int)
                            · rw [if_pos c82] at H
                              have c82b0 := eq_true c82
                              have c82b1 : decide (x46_2 ≤ (l3.length : Int)) = true := decide_eq_true c82
                              clear c82
                              obtain ⟨y565, hy565⟩ : ∃ y_ : List (S54), y_ = (l3.drop (x46_2 : Int).toNat) := ⟨_, rfl⟩
                              replace H : (if y562.length + y565.length < 5864062014805 then (impl_AppendTo.j2 k2 a0_0 a0_1 l0_2 t549 t550 (y562 ++ y565)) else (none)) = some (r1, r2, r3, r4) := by first | (rw [hy565]; with_reducible exact H) | (have H2_ := (Option.bind_some _ _).symm.trans H; rw [hy565]; with_reducible exact H2_) | (have H2_ := (Option.bind_some _ _).symm.trans H; with_reducible exact H2_) | with_reducible exact H | (rw [hy565]; exact H) | exact H
                              have Ny565 := Aside0.mk hy565
                              clear hy565
                              by_cases c83 : y562.length + y565.length < 5864062014805
                              · rw [if_pos c83] at H
                                have LMc83 := Aside0.mk c83
                                clear c83
                                obtain ⟨y569, hy569⟩ : ∃ y_ : List (S54), y_ = (y562 ++ y565) := ⟨_, rfl⟩
                                replace H : (impl_AppendTo.j2 k2 a0_0 a0_1 l0_2 t549 t550 y569) = some (r1, r2, r3, r4) := by first | (rw [hy569]; with_reducible exact H) | (have H2_ := (Option.bind_some _ _).symm.trans H; rw [hy569]; with_reducible exact H2_) | (have H2_ := (Option.bind_some _ _).symm.trans H; with_reducible exact H2_) | with_reducible exact H | (rw [hy569]; exact H) | exact H
                                have Ny569 := Aside0.mk hy569
                                clear hy569
                                have H' := Aside0.mk H
                                clear H
                                have p558 : 0 ≤ (x46_2 : Int) := of_decide_eq_true (by first | (with_reducible assumption) | assumption)
                                have q558 : x46_2 < (l3.length : Int) := of_decide_eq_true (by first | (with_reducible assumption) | assumption)
                                obtain ⟨ad558, e558, hx558_0, hx558_1⟩ := at_T54 HR3.out x46_2 p558 q558
                                cases e558
                                replace hx558_0 := (HB.out.cell (World.block_lt_of_cell? w _ hx558_0)).trans hx558_0
                                replace hx558_1 := (HB.out.cell (World.block_lt_of_cell? w _ hx558_1)).trans hx558_1
                                replace p558 := eq_true p558
                                replace q558 := eq_true q558
                                try go_wp2_with (first | ((with_reducible refine gate_dst (N := 12) rfl ?_); (try (refine gate_guard (by rfl) ?_; dsimp only)); refine box_event ?hg (N := 12) ?hd (cs := #[.int .i64 0, .string (⟨#[]⟩ : ByteArray)]) (t := 54) ?hr ?_; (case hd => rfl); (case hg => rfl); (case hr => first | (go_simp; done) | (go_simp; rfl)); intro gb559 hg w84 hbox hb; have n0_ := Aside0.mk (Kd.R_below (Kd.R_elderB (by (with_reducible repeat (first | apply Kd.R_alloc | apply Kd.R_drewN | apply Kd.R_drew)); exact HO_555002.out) gb559 (Nat.le_of_eq hg.symm)) hb); have n1_ := Aside0.mk (blk_below (g := gb547) (o := .cells #[.int .i64 a0_0, .int .i64 a0_1, .slice A0_2 l0_2.length c0_2] 29 (0, 0)) (by (with_reducible repeat (first | refine blk_drewN ?_ _ | refine blk_drew ?_ | refine blk_alloc ?_ _)); exact BK547.out) hb); have n2_ := Aside0.mk (blk_below (g := gb548) (o := .cells #[.int .i64 0, .int .i64 0, .slice none 0 0] 29 (0, 0)) (by (with_reducible repeat (first | refine blk_drewN ?_ _ | refine blk_drew ?_ | refine blk_alloc ?_ _)); exact BK548.out) hb); have n3_ := Aside0.mk (blk_below (g := gb554) (o := .cells #[.int .i64 t549, .int .i64 t550, u555002] 29 (0, 0)) (by (with_reducible repeat (first | refine blk_drewN ?_ _ | refine blk_drew ?_ | refine blk_alloc ?_ _)); exact BK554.out) hb); have n4_ := Aside0.mk (below_step (by repeat (first | (with_reducible first | exact HB.out | apply below_alloc | apply pw_below_drewN | apply below_drew1 | refine below_set ?_ GE547.out | refine below_set ?_ GE548.out | refine below_set ?_ GE554.out) | exact HB.out)) hb); have n5_ := Aside0.mk (hbox); have n6_ := Aside0.mk ((by rw [hg]; exact (below_size (by repeat (first | (with_reducible first | exact HB.out | apply below_alloc | apply pw_below_drewN | apply below_drew1 | refine below_set ?_ GE547.out | refine below_set ?_ GE548.out | refine below_set ?_ GE554.out) | exact HB.out))) : w.heap.size ≤ gb559)); have n7_ := Aside0.mk ((by rw [hg]; exact (below_size (by repeat (first | (with_reducible first | exact HB.out | apply below_alloc | apply pw_below_drewN | apply below_drew1 | refine below_set ?_ GE547.out | refine below_set ?_ GE548.out | refine below_set ?_ GE554.out) | exact HB.out))) : w.heap.size ≤ gb559)); have n8_ := Aside0.mk ((by rw [hg]; exact Nat.ne_of_lt (blk_lt (g := gb547) (o := .cells #[.int .i64 a0_0, .int .i64 a0_1, .slice A0_2 l0_2.length c0_2] 29 (0, 0)) (by (with_reducible repeat (first | refine blk_drewN ?_ _ | refine blk_drew ?_ | refine blk_alloc ?_ _)); exact BK547.out)) : gb547 ≠ gb559)); have n9_ := Aside0.mk ((by rw [hg]; exact Nat.ne_of_gt (blk_lt (g := gb547) (o := .cells #[.int .i64 a0_0, .int .i64 a0_1, .slice A0_2 l0_2.length c0_2] 29 (0, 0)) (by (with_reducible repeat (first | refine blk_drewN ?_ _ | refine blk_drew ?_ | refine blk_alloc ?_ _)); exact BK547.out)) : gb559 ≠ gb547)); have n10_ := Aside0.mk ((by rw [hg]; exact Nat.ne_of_lt (blk_lt (g := gb548) (o := .cells #[.int .i64 0, .int .i64 0, .slice none 0 0] 29 (0, 0)) (by (with_reducible repeat (first | refine blk_drewN ?_ _ | refine blk_drew ?_ | refine blk_alloc ?_ _)); exact BK548.out)) : gb548 ≠ gb559)); have n11_ := Aside0.mk ((by rw [hg]; exact Nat.ne_of_gt (blk_lt (g := gb548) (o := .cells #[.int .i64 0, .int .i64 0, .slice none 0 0] 29 (0, 0)) (by (with_reducible repeat (first | refine blk_drewN ?_ _ | refine blk_drew ?_ | refine blk_alloc ?_ _)); exact BK548.out)) : gb559 ≠ gb548)); have n12_ := Aside0.mk ((by rw [hg]; exact Nat.ne_of_lt (blk_lt (g := gb554) (o := .cells #[.int .i64 t549, .int .i64 t550, u555002] 29 (0, 0)) (by (with_reducible repeat (first | refine blk_drewN ?_ _ | refine blk_drew ?_ | refine blk_alloc ?_ _)); exact BK554.out)) : gb554 ≠ gb559)); have n13_ := Aside0.mk ((by rw [hg]; exact Nat.ne_of_gt (blk_lt (g := gb554) (o := .cells #[.int .i64 t549, .int .i64 t550, u555002] 29 (0, 0)) (by (with_reducible repeat (first | refine blk_drewN ?_ _ | refine blk_drew ?_ | refine blk_alloc ?_ _)); exact BK554.out)) : gb559 ≠ gb554)); clear HO_555002; clear BK547; clear BK548; clear BK554; clear HB; have HO_555002 := n0_; have BK547 := n1_; have BK548 := n2_; have BK554 := n3_; have HB := n4_; have BK559 := n5_; have GW559 := n6_; have GE559 := n7_; have NB547_559 := n8_; have NB559_547 := n9_; have NB548_559 := n10_; have NB559_548 := n11_; have NB554_559 := n12_; have NB559_554 := n13_; clear n0_ n1_ n2_ n3_ n4_ n5_ n6_ n7_ n8_ n9_ n10_ n11_ n12_ n13_; clear hb hbox hg; have hnb85 := NB559_547.out; have hnc85 := NB547_559.out; have hnb86 := NB559_548.out; have hnc86 := NB548_559.out; have hnb87 := NB559_554.out; have hnc87 := NB554_559.out; have hcz88_0 : w84.cell? ⟨gb559, 0, none⟩ = some (.int .i64 0) := (blk_cell BK559.out 0).trans rfl; have hcz88_1 : w84.cell? ⟨gb559, 1, none⟩ = some (.string (⟨#[]⟩ : ByteArray)) := (blk_cell BK559.out 1).trans rfl; have hfz88_0 := blk_frozen BK559.out 0; have hfz88_1 := blk_frozen BK559.out 1))
                                have n0_ : Aside0 (Kd.R k54 54 ((w84.setCell ⟨gb559, 0, none⟩ (.int .i64 ((rd_T54 l3 x46_2).f0))).setCell ⟨gb559, 1, none⟩ (.string ((rd_T54 l3 x46_2).f1))) w.heap.size (fun k_ => k_ ≠ gb559) u555002 x555002_2) := ⟨by (with_reducible repeat (first | apply Kd.R_alloc | apply Kd.R_drewN | apply Kd.R_drew)); exact Kd.R_mono (Kd.R_far (p := ⟨gb559, 1, none⟩) (Kd.R_far (p := ⟨gb559, 0, none⟩) (Kd.R_mono HO_555002.out (fun k_ hk => (⟨hk, hk.2⟩ : _ ∧ k_ ≠ gb559))) (fun _ hk => hk.2) (.int .i64 ((rd_T54 l3 x46_2).f0))) (fun _ hk => hk.2) (.string ((rd_T54 l3 x46_2).f1))) (fun _ hk => hk.1.2)⟩
                                have n1_ : Aside0 (((w84.setCell ⟨gb559, 0, none⟩ (.int .i64 ((rd_T54 l3 x46_2).f0))).setCell ⟨gb559, 1, none⟩ (.string ((rd_T54 l3 x46_2).f1))).heap[gb547]? = some (.cells #[.int .i64 a0_0, .int .i64 a0_1, .slice A0_2 l0_2.length c0_2] 29 (0, 0))) := ⟨by (with_reducible repeat (first | refine blk_drewN ?_ _ | refine blk_drew ?_ | refine blk_alloc ?_ _)); refine blk_far ?_ NB547_559.out _; (with_reducible repeat (first | refine blk_drewN ?_ _ | refine blk_drew ?_ | refine blk_alloc ?_ _)); refine blk_far ?_ NB547_559.out _; (with_reducible repeat (first | refine blk_drewN ?_ _ | refine blk_drew ?_ | refine blk_alloc ?_ _)); exact BK547.out⟩
                                have n2_ : Aside0 (((w84.setCell ⟨gb559, 0, none⟩ (.int .i64 ((rd_T54 l3 x46_2).f0))).setCell ⟨gb559, 1, none⟩ (.string ((rd_T54 l3 x46_2).f1))).heap[gb548]? = some (.cells #[.int .i64 0, .int .i64 0, .slice none 0 0] 29 (0, 0))) := ⟨by (with_reducible repeat (first | refine blk_drewN ?_ _ | refine blk_drew ?_ | refine blk_alloc ?_ _)); refine blk_far ?_ NB548_559.out _; (with_reducible repeat (first | refine blk_drewN ?_ _ | refine blk_drew ?_ | refine blk_alloc ?_ _)); refine blk_far ?_ NB548_559.out _; (with_reducible repeat (first | refine blk_drewN ?_ _ | refine blk_drew ?_ | refine blk_alloc ?_ _)); exact BK548.out⟩
                                have n3_ : Aside0 (((w84.setCell ⟨gb559, 0, none⟩ (.int .i64 ((rd_T54 l3 x46_2).f0))).setCell ⟨gb559, 1, none⟩ (.string ((rd_T54 l3 x46_2).f1))).heap[gb554]? = some (.cells #[.int .i64 t549, .int .i64 t550, u555002] 29 (0, 0))) := ⟨by (with_reducible repeat (first | refine blk_drewN ?_ _ | refine blk_drew ?_ | refine blk_alloc ?_ _)); refine blk_far ?_ NB554_559.out _; (with_reducible repeat (first | refine blk_drewN ?_ _ | refine blk_drew ?_ | refine blk_alloc ?_ _)); refine blk_far ?_ NB554_559.out _; (with_reducible repeat (first | refine blk_drewN ?_ _ | refine blk_drew ?_ | refine blk_alloc ?_ _)); exact BK554.out⟩
                                have n4_ : Aside0 (((w84.setCell ⟨gb559, 0, none⟩ (.int .i64 ((rd_T54 l3 x46_2).f0))).setCell ⟨gb559, 1, none⟩ (.string ((rd_T54 l3 x46_2).f1))).heap[gb559]? = some (.cells #[.int .i64 ((rd_T54 l3 x46_2).f0), .string ((rd_T54 l3 x46_2).f1)] 54 (0, 0))) := ⟨by (with_reducible repeat (first | refine blk_drewN ?_ _ | refine blk_drew ?_ | refine blk_alloc ?_ _)); refine blk_put (cs := #[.int .i64 ((rd_T54 l3 x46_2).f0), .string (⟨#[]⟩ : ByteArray)]) ?_ 1 _ rfl; (with_reducible repeat (first | refine blk_drewN ?_ _ | refine blk_drew ?_ | refine blk_alloc ?_ _)); refine blk_put (cs := #[.int .i64 0, .string (⟨#[]⟩ : ByteArray)]) ?_ 0 _ rfl; (with_reducible repeat (first | refine blk_drewN ?_ _ | refine blk_drew ?_ | refine blk_alloc ?_ _)); exact BK559.out⟩
                                have n5_ : Aside0 (Below w.heap.size w ((w84.setCell ⟨gb559, 0, none⟩ (.int .i64 ((rd_T54 l3 x46_2).f0))).setCell ⟨gb559, 1, none⟩ (.string ((rd_T54 l3 x46_2).f1)))) := ⟨by repeat (first | (with_reducible first | exact HB.out | apply below_alloc | apply pw_below_drewN | apply below_drew1 | refine below_set ?_ GE547.out | refine below_set ?_ GE548.out | refine below_set ?_ GE554.out | refine below_set ?_ GE559.out) | exact HB.out)⟩
                                (try clear HO_555002)
                                (try clear BK547)
                                (try clear BK548)
                                (try clear BK554)
                                (try clear BK559)
                                (try clear HB)
                                generalize ((w84.setCell ⟨gb559, 0, none⟩ (.int .i64 ((rd_T54 l3 x46_2).f0))).setCell ⟨gb559, 1, none⟩ (.string ((rd_T54 l3 x46_2).f1))) = w89 at n0_ n1_ n2_ n3_ n4_ n5_ ⊢
                                have HO_555002 := n0_
                                have BK547 := n1_
                                have BK548 := n2_
                                have BK554 := n3_
                                have BK559 := n4_
                                have HB := n5_
                                clear n0_ n1_ n2_ n3_ n4_ n5_
                                have n0_ := Aside0.mk (Kd.R_drew HO_555002.out)
                                have n1_ := Aside0.mk (blk_drew BK547.out)
                                have n2_ := Aside0.mk (blk_drew BK548.out)
                                have n3_ := Aside0.mk (blk_drew BK554.out)
                                have n4_ := Aside0.mk (blk_drew BK559.out)
                                have n5_ := Aside0.mk (below_drew1 HB.out)
                                clear HO_555002
                                clear BK547
                                clear BK548
                                clear BK554
                                clear BK559
                                clear HB
                                have HO_555002 := n0_
                                have BK547 := n1_
                                have BK548 := n2_
                                have BK554 := n3_
                                have BK559 := n4_
                                have HB := n5_
                                clear n0_ n1_ n2_ n3_ n4_ n5_
                                refine start_ (n := 12) (S := fun w' => w'.cell? ⟨gb547, 0, none⟩ = some (.int .i64 a0_0) ∧ w'.cell? ⟨gb547, 1, none⟩ = some (.int .i64 a0_1) ∧ w'.cell? ⟨gb547, 2, none⟩ = some (.slice A0_2 l0_2.length c0_2) ∧ w'.cell? ⟨gb559, 0, none⟩ = some (.int .i64 ((rd_T54 l3 x46_2).f0)) ∧ w'.cell? ⟨gb559, 1, none⟩ = some (.string ((rd_T54 l3 x46_2).f1))) (ds := []) #[false, false, false, false, false, false, false, false, false, false, false, false] (by kernel_rfl) rfl rfl ⟨(blk_cell BK547.out 0).trans rfl, (blk_cell BK547.out 1).trans rfl, (blk_cell BK547.out 2).trans rfl, (blk_cell BK559.out 0).trans rfl, (blk_cell BK559.out 1).trans rfl⟩ (fun hHeld => ?_); refine with_tabW impl_AppendTo.tab8 impl_AppendTo.bits8 (fun HT_ HW_ => ?_)
                                generalize w89.drew = w90 at HO_555002 BK547 BK548 BK554 BK559 HB hHeld ⊢
                                refine pure_ (i := 0) (N := some 55) (v := ?_) (a' := ?_) #[true, false, false, false, false, false, false, false, false, false, false, false] rfl rfl (any_of HT_.out (by kernel_rfl)) (fun _ _ _ h => h) (Or.inl ⟨by rfl, ?_⟩) ?_ ?_
                                rotate_left
                                · intro w'
                                  go_simp
                                  with_reducible rfl
                                rotate_left
                                · simp only [Act.put, List.setIfInBounds_toArray, List.set_cons_zero, List.set_cons_succ, i64_w, i32_w]
                                  rfl
                                refine take_ (i := 1) (N := some 56) (v := ?_) (a' := ?_) #[true, true, false, false, false, false, false, false, false, false, false, false] rfl rfl (take_ofW HT_.out HW_.out (by kernel_rfl)) (fun _ _ _ h => h) (Or.inl ⟨by rfl, ?_⟩) hHeld ?_ ?_
                                rotate_left
                                · rintro w' ⟨s0, s1, s2, s3, s4⟩
                                  go_simp
                                  with_reducible rfl
                                rotate_left
                                · simp only [Act.put, List.setIfInBounds_toArray, List.set_cons_zero, List.set_cons_succ, i64_w, i32_w]
                                  rfl
                                refine one_ (i := 2) (N := some 57) #[true, true, true, false, false, false, false, false, false, false, false, false] rfl rfl (one_of HT_.out (by kernel_rfl)) (by decide) (fun K hK => ?_)
                                refine goes_ Try.func46 (by kernel_rfl) rfl #[.agg #[.int .i64 a0_0, .int .i64 a0_1, .slice A0_2 l0_2.length c0_2]] (by rfl) rfl rfl (by (try simp only [List.map_toArray, List.map_cons, List.map_nil]); first | done | rfl | (simp only [List.length_drop, List.length_take]; rfl)) ?_
                                with_reducible refine (impl_RLog_last.calls a0_0 a0_1 _ _ l0_2 t560 _ ?side1 ?side2 A65.out).mono ?_
                                (case side1 => repeat (first | exact (Kd.C_below HR0_2.out HB.out) | (with_reducible refine Kd.C_alloc ?_ _) | (with_reducible refine Kd.C_drewN ?_ _) | (with_reducible refine Kd.C_drew ?_)))
                                (case side2 => exact HC0_2.out)
                                rintro e w91 ⟨rfl, hb⟩
                                refine ⟨_, rfl, ?_⟩
                                have n0_ := Aside0.mk (Kd.R_below (by (with_reducible repeat (first | apply Kd.R_alloc | apply Kd.R_drewN | apply Kd.R_drew)); exact HO_555002.out) hb)
                                have n1_ := Aside0.mk (blk_below (g := gb547) (o := .cells #[.int .i64 a0_0, .int .i64 a0_1, .slice A0_2 l0_2.length c0_2] 29 (0, 0)) (by (with_reducible repeat (first | refine blk_drewN ?_ _ | refine blk_drew ?_ | refine blk_alloc ?_ _)); exact BK547.out) hb)
                                have n2_ := Aside0.mk (blk_below (g := gb548) (o := .cells #[.int .i64 0, .int .i64 0, .slice none 0 0] 29 (0, 0)) (by (with_reducible repeat (first | refine blk_drewN ?_ _ | refine blk_drew ?_ | refine blk_alloc ?_ _)); exact BK548.out) hb)
                                have n3_ := Aside0.mk (blk_below (g := gb554) (o := .cells #[.int .i64 t549, .int .i64 t550, u555002] 29 (0, 0)) (by (with_reducible repeat (first | refine blk_drewN ?_ _ | refine blk_drew ?_ | refine blk_alloc ?_ _)); exact BK554.out) hb)
                                have n4_ := Aside0.mk (blk_below (g := gb559) (o := .cells #[.int .i64 ((rd_T54 l3 x46_2).f0), .string ((rd_T54 l3 x46_2).f1)] 54 (0, 0)) (by (with_reducible repeat (first | refine blk_drewN ?_ _ | refine blk_drew ?_ | refine blk_alloc ?_ _)); exact BK559.out) hb)
                                have n5_ := Aside0.mk (below_step (by repeat (first | (with_reducible first | exact HB.out | apply below_alloc | apply pw_below_drewN | apply below_drew1 | refine below_set ?_ GE547.out | refine below_set ?_ GE548.out | refine below_set ?_ GE554.out | refine below_set ?_ GE559.out) | exact HB.out)) hb)
                                clear HO_555002
                                clear BK547
                                clear BK548
                                clear BK554
                                clear BK559
                                clear HB
                                have HO_555002 := n0_
                                have BK547 := n1_
                                have BK548 := n2_
                                have BK554 := n3_
                                have BK559 := n4_
                                have HB := n5_
                                clear n0_ n1_ n2_ n3_ n4_ n5_
                                (try clear hb)
                                (try clear hb2)
                                (try clear hk)
                                (try clear hi)
                                refine hK.out _ _ ⟨(blk_cell BK547.out 0).trans rfl, (blk_cell BK547.out 1).trans rfl, (blk_cell BK547.out 2).trans rfl, (blk_cell BK559.out 0).trans rfl, (blk_cell BK559.out 1).trans rfl⟩ (fun hHeld => ?_)
                                clear hK K
                                refine norm_ (a' := ?_) ?_ ?_
                                rotate_left
                                · show Act.put _ (some 57) _ = _
                                  simp only [Act.put, List.setIfInBounds_toArray, List.set_cons_zero, List.set_cons_succ, i64_w, i32_w]
                                  rfl
                                refine pure_ (i := 3) (N := some 58) (v := ?_) (a' := ?_) #[true, true, true, true, false, false, false, false, false, false, false, false] rfl rfl (any_of HT_.out (by kernel_rfl)) (fun _ _ _ h => h) (Or.inl ⟨by rfl, ?_⟩) ?_ ?_
                                rotate_left
                                · intro w'
                                  go_simp
                                  with_reducible rfl
                                rotate_left
                                · simp only [Act.put, List.setIfInBounds_toArray, List.set_cons_zero, List.set_cons_succ, i64_w, i32_w]
                                  rfl
                                refine pure_ (i := 4) (N := some 59) (v := ?_) (a' := ?_) #[true, true, true, true, true, false, false, false, false, false, false, false] rfl rfl (any_of HT_.out (by kernel_rfl)) (fun _ _ _ h => h) (Or.inl ⟨by rfl, ?_⟩) ?_ ?_
                                rotate_left
                                · intro w'
                                  go_simp
                                  with_reducible rfl
                                rotate_left
                                · simp only [Act.put, List.setIfInBounds_toArray, List.set_cons_zero, List.set_cons_succ, i64_w, i32_w]
                                  rfl
                                refine pure_ (i := 6) (N := some 61) (v := ?_) (a' := ?_) #[true, true, true, true, true, false, true, false, false, false, false, false] rfl rfl (any_of HT_.out (by kernel_rfl)) (fun _ _ _ h => h) (Or.inl ⟨by rfl, ?_⟩) ?_ ?_
                                rotate_left
                                · intro w'
                                  go_simp
                                  with_reducible rfl
                                rotate_left
                                · simp only [Act.put, List.setIfInBounds_toArray, List.set_cons_zero, List.set_cons_succ, i64_w, i32_w]
                                  rfl
                                refine pure_ (i := 8) (N := some 63) (v := ?_) (a' := ?_) #[true, true, true, true, true, false, true, false, true, false, false, false] rfl rfl (any_of HT_.out (by kernel_rfl)) (fun _ _ _ h => h) (Or.inl ⟨by rfl, ?_⟩) ?_ ?_
                                rotate_left
                                · intro w'
                                  go_simp
                                  with_reducible rfl
                                rotate_left
                                · simp only [Act.put, List.setIfInBounds_toArray, List.set_cons_zero, List.set_cons_succ, i64_w, i32_w]
                                  rfl
                                refine take_ (i := 5) (N := some 60) (v := ?_) (a' := ?_) #[true, true, true, true, true, true, true, false, true, false, false, false] rfl rfl (take_ofW HT_.out HW_.out (by kernel_rfl)) (fun _ _ _ h => h) (Or.inl ⟨by rfl, ?_⟩) hHeld ?_ ?_
                                rotate_left
                                · rintro w' ⟨s0, s1, s2, s3, s4⟩
                                  go_simp
                                  with_reducible rfl
                                rotate_left
                                · simp only [Act.put, List.setIfInBounds_toArray, List.set_cons_zero, List.set_cons_succ, i64_w, i32_w]
                                  rfl
                                refine take_ (i := 9) (N := some 64) (v := ?_) (a' := ?_) #[true, true, true, true, true, true, true, false, true, true, false, false] rfl rfl (take_ofW HT_.out HW_.out (by kernel_rfl)) (fun _ _ _ h => h) (Or.inl ⟨by rfl, ?_⟩) hHeld ?_ ?_
                                rotate_left
                                · rintro w' ⟨s0, s1, s2, s3, s4⟩
                                  go_simp
                                  with_reducible rfl
                                rotate_left
                                · simp only [Act.put, List.setIfInBounds_toArray, List.set_cons_zero, List.set_cons_succ, i64_w, i32_w]
                                  rfl
                                refine one_ (i := 7) (N := some 62) #[true, true, true, true, true, true, true, true, true, true, false, false] rfl rfl (one_of HT_.out (by kernel_rfl)) (by decide) (fun K hK => ?_)
                                refine goes_ Try.func47 (by kernel_rfl) rfl #[.agg #[.int .i64 a0_0, .int .i64 a0_1, .slice A0_2 l0_2.length c0_2], .int .i64 (wrap64 ((wrap64 (a1 + 1)) + x46_2))] (by rfl) rfl rfl (by (try simp only [List.map_toArray, List.map_cons, List.map_nil]); first | done | rfl | (simp only [List.length_drop, List.length_take]; rfl)) ?_
                                with_reducible refine (impl_RLog_term.calls a0_0 a0_1 _ _ l0_2 (wrap64 ((wrap64 (a1 + 1)) + x46_2)) t561 _ ?side1 ?side2 A67.out).mono ?_
                                (case side1 => repeat (first | exact (Kd.C_below HR0_2.out HB.out) | (with_reducible refine Kd.C_alloc ?_ _) | (with_reducible refine Kd.C_drewN ?_ _) | (with_reducible refine Kd.C_drew ?_)))
                                (case side2 => exact HC0_2.out)
                                rintro e w92 ⟨rfl, hb⟩
                                refine ⟨_, rfl, ?_⟩
                                have n0_ := Aside0.mk (Kd.R_below (by (with_reducible repeat (first | apply Kd.R_alloc | apply Kd.R_drewN | apply Kd.R_drew)); exact HO_555002.out) hb)
                                have n1_ := Aside0.mk (blk_below (g := gb547) (o := .cells #[.int .i64 a0_0, .int .i64 a0_1, .slice A0_2 l0_2.length c0_2] 29 (0, 0)) (by (with_reducible repeat (first | refine blk_drewN ?_ _ | refine blk_drew ?_ | refine blk_alloc ?_ _)); exact BK547.out) hb)
                                have n2_ := Aside0.mk (blk_below (g := gb548) (o := .cells #[.int .i64 0, .int .i64 0, .slice none 0 0] 29 (0, 0)) (by (with_reducible repeat (first | refine blk_drewN ?_ _ | refine blk_drew ?_ | refine blk_alloc ?_ _)); exact BK548.out) hb)
                                have n3_ := Aside0.mk (blk_below (g := gb554) (o := .cells #[.int .i64 t549, .int .i64 t550, u555002] 29 (0, 0)) (by (with_reducible repeat (first | refine blk_drewN ?_ _ | refine blk_drew ?_ | refine blk_alloc ?_ _)); exact BK554.out) hb)
                                have n4_ := Aside0.mk (blk_below (g := gb559) (o := .cells #[.int .i64 ((rd_T54 l3 x46_2).f0), .string ((rd_T54 l3 x46_2).f1)] 54 (0, 0)) (by (with_reducible repeat (first | refine blk_drewN ?_ _ | refine blk_drew ?_ | refine blk_alloc ?_ _)); exact BK559.out) hb)
                                have n5_ := Aside0.mk (below_step (by repeat (first | (with_reducible first | exact HB.out | apply below_alloc | apply pw_below_drewN | apply below_drew1 | refine below_set ?_ GE547.out | refine below_set ?_ GE548.out | refine below_set ?_ GE554.out | refine below_set ?_ GE559.out) | exact HB.out)) hb)
                                clear HO_555002
                                clear BK547
                                clear BK548
                                clear BK554
                                clear BK559
                                clear HB
                                have HO_555002 := n0_
                                have BK547 := n1_
                                have BK548 := n2_
                                have BK554 := n3_
                                have BK559 := n4_
                                have HB := n5_
                                clear n0_ n1_ n2_ n3_ n4_ n5_
                                (try clear hb)
                                (try clear hb2)
                                (try clear hk)
                                (try clear hi)
                                refine hK.out _ _ ⟨(blk_cell BK547.out 0).trans rfl, (blk_cell BK547.out 1).trans rfl, (blk_cell BK547.out 2).trans rfl, (blk_cell BK559.out 0).trans rfl, (blk_cell BK559.out 1).trans rfl⟩ (fun hHeld => ?_)
                                clear hK K
                                refine norm_ (a' := ?_) ?_ ?_
                                rotate_left
                                · show Act.put _ (some 62) _ = _
                                  simp only [Act.put, List.setIfInBounds_toArray, List.set_cons_zero, List.set_cons_succ, i64_w, i32_w]
                                  rfl
                                refine pure_ (i := 10) (N := some 65) (v := ?_) (a' := ?_) #[true, true, true, true, true, true, true, true, true, true, true, false] rfl rfl (any_of HT_.out (by kernel_rfl)) (fun _ _ _ h => h) (Or.inl ⟨by rfl, ?_⟩) ?_ ?_
                                rotate_left
                                · intro w'
                                  go_simp
                                  with_reducible rfl
                                rotate_left
                                · simp only [Act.put, List.setIfInBounds_toArray, List.set_cons_zero, List.set_cons_succ, i64_w, i32_w]
                                  rfl
                                refine pure_ (i := 11) (N := some 66) (v := ?_) (a' := ?_) #[true, true, true, true, true, true, true, true, true, true, true, true] rfl rfl (any_of HT_.out (by kernel_rfl)) (fun _ _ _ h => h) (Or.inl ⟨by rfl, ?_⟩) ?_ ?_
                                rotate_left
                                · intro w'
                                  go_simp
                                  with_reducible rfl
                                rotate_left
                                · simp only [Act.put, List.setIfInBounds_toArray, List.set_cons_zero, List.set_cons_succ, i64_w, i32_w]
                                  rfl
                                refine done_ (done_of HT_.out (by kernel_rfl)) ?_
                                try go_wp2
                                have n0_ := Aside0.mk (Kd.R_drew HO_555002.out)
                                have n1_ := Aside0.mk (blk_drew BK547.out)
                                have n2_ := Aside0.mk (blk_drew BK548.out)
                                have n3_ := Aside0.mk (blk_drew BK554.out)
                                have n4_ := Aside0.mk (blk_drew BK559.out)
                                have n5_ := Aside0.mk (below_drew1 HB.out)
                                clear HO_555002
                                clear BK547
                                clear BK548
                                clear BK554
                                clear BK559
                                clear HB
                                have HO_555002 := n0_
                                have BK547 := n1_
                                have BK548 := n2_
                                have BK554 := n3_
                                have BK559 := n4_
                                have HB := n5_
                                clear n0_ n1_ n2_ n3_ n4_ n5_
                                obtain ⟨Ao94, co94, eo94⟩ := Kd.R_slice HO_555002.out
                                (first | subst eo94 | (injection eo94 with f1_ f2_ f3_; have f4_ := f1_.symm; have f5_ := f3_.symm; clear f1_ f2_ f3_; subst f4_; subst f5_))
                                have q95 : ((ji78) : Int) ≤ ((x555002_2.length : Int) : Int) := of_decide_eq_true (by first | (with_reducible assumption) | assumption)
                                obtain ⟨i095, hi095, _, hsz95, _⟩ := info_parts info54
                                have hcut95 := cut_to (P := Try.prog) 27 54 .i64 Try.underlying27 hi095 Ao94 x555002_2.length co94 (ji78) (of_decide_eq_true (by first | (with_reducible assumption) | assumption)) q95 (Kd.R_reads' HO_555002.out).2.1
                                have hr95 := Kd.R_take (m := ((ji78) : Int).toNat) HO_555002.out (by omega)
                                have hy95 : y562.length = ((ji78) : Int).toNat := (by rw [Ny562.out, List.length_take]; omega)
                                rw [← Ny562.out] at hr95
                                rw [← hy95] at hr95 hcut95
                                clear hy95 hi095 hsz95 HO_555002
                                have HO564 := Aside0.mk hr95
                                clear hr95
                                replace q95 := eq_true q95
                                have q96 : (x46_2 : Int) ≤ ((l3.length : Int) : Int) := of_decide_eq_true (by first | (with_reducible assumption) | assumption)
                                obtain ⟨i096, hi096, _, hsz96, _⟩ := info_parts info54
                                have hroom96 : l3.length ≤ c3 := HC3.out
                                have hC96 : Kd.C k54 _ (some ad558) l3.length l3 := HR3.out
                                have q096 : (0 : Int) ≤ (x46_2 : Int) := of_decide_eq_true (by first | (with_reducible assumption) | assumption)
                                have hcut96 := cut_from (P := Try.prog) 27 54 .i64 Try.underlying27 hi096 2 hsz96 (some ad558) l3.length c3 x46_2 q096 q96
                                have hr96 := Kd.C_drop (m := (x46_2 : Int).toNat) (c := c3) hC96 (by omega) hroom96
                                obtain ⟨A96, hA96⟩ : ∃ A1, A1 = (if c3 = (x46_2 : Int).toNat then (some ad558) else ((some ad558) : Option Addr).map (·.add ((x46_2 : Int).toNat * 2))) := ⟨_, rfl⟩
                                obtain ⟨c96, hc96⟩ : ∃ c1, c1 = c3 - (x46_2 : Int).toNat := ⟨_, rfl⟩
                                have hy96 : y565.length = l3.length - (x46_2 : Int).toNat := (by rw [Ny565.out, List.length_drop] <;> omega)
                                rw [show (l3).drop (x46_2 : Int).toNat = y565 from Ny565.out.symm] at hr96
                                replace hr96 : Kd.C k54 _ A96 y565.length y565 := (by rw [hA96]; exact hr96)
                                rw [← hy96, ← hA96, ← hc96] at hcut96
                                have HR568 := Aside0.mk hr96
                                have HC568 := Aside0.mk (show y565.length ≤ c96 from by rw [hy96, hc96]; exact Nat.sub_le_sub_right hroom96 _)
                                clear hr96 hC96 hroom96 hi096 hsz96 hc96
                                have KY96 := Aside0.mk hy96
                                have KA96 := Aside0.mk hA96
                                clear hy96 hA96
                                replace q96 := eq_true q96
                                refine start_ (n := 14) (S := fun w' => w'.cell? ⟨gb554, 0, none⟩ = some (.int .i64 t549) ∧ w'.cell? ⟨gb554, 1, none⟩ = some (.int .i64 t550) ∧ w'.cell? ⟨gb554, 2, none⟩ = some (.slice Ao94 x555002_2.length co94) ∧ w'.cell? ⟨gb547, 0, none⟩ = some (.int .i64 a0_0) ∧ w'.cell? ⟨gb547, 1, none⟩ = some (.int .i64 a0_1) ∧ w'.cell? ⟨gb547, 2, none⟩ = some (.slice A0_2 l0_2.length c0_2)) (ds := [13]) #[false, false, false, false, false, false, false, false, false, false, false, false, false, false] (by kernel_rfl) rfl rfl ⟨(blk_cell BK554.out 0).trans rfl, (blk_cell BK554.out 1).trans rfl, (blk_cell BK554.out 2).trans rfl, (blk_cell BK547.out 0).trans rfl, (blk_cell BK547.out 1).trans rfl, (blk_cell BK547.out 2).trans rfl⟩ (fun hHeld => ?_); refine with_tabW impl_AppendTo.tab9 impl_AppendTo.bits9 (fun HT_ HW_ => ?_)
                                generalize w92.drew = w93 at HO_555002 BK547 BK548 BK554 BK559 HB HO564 HR568 hHeld ⊢
                                refine pure_ (i := 0) (N := some 67) (v := ?_) (a' := ?_) #[true, false, false, false, false, false, false, false, false, false, false, false, false, false] rfl rfl (any_of HT_.out (by kernel_rfl)) (fun _ _ _ h => h) (Or.inl ⟨by rfl, ?_⟩) ?_ ?_
                                rotate_left
                                · intro w'
                                  go_simp
                                  with_reducible rfl
                                rotate_left
                                · simp only [Act.put, List.setIfInBounds_toArray, List.set_cons_zero, List.set_cons_succ, i64_w, i32_w]
                                  rfl
                                refine pure_ (i := 2) (N := some 69) (v := ?_) (a' := ?_) #[true, false, true, false, false, false, false, false, false, false, false, false, false, false] rfl rfl (any_of HT_.out (by kernel_rfl)) (fun _ _ _ h => h) (Or.inl ⟨by rfl, ?_⟩) ?_ ?_
                                rotate_left
                                · intro w'
                                  go_simp
                                  with_reducible rfl
                                rotate_left
                                · simp only [Act.put, List.setIfInBounds_toArray, List.set_cons_zero, List.set_cons_succ, i64_w, i32_w]
                                  rfl
                                refine pure_ (i := 3) (N := some 70) (v := ?_) (a' := ?_) #[true, false, true, true, false, false, false, false, false, false, false, false, false, false] rfl rfl (any_of HT_.out (by kernel_rfl)) (fun _ _ _ h => h) (Or.inl ⟨by rfl, ?_⟩) ?_ ?_
                                rotate_left
                                · intro w'
                                  go_simp
                                  with_reducible rfl
                                rotate_left
                                · simp only [Act.put, List.setIfInBounds_toArray, List.set_cons_zero, List.set_cons_succ, i64_w, i32_w]
                                  rfl
                                refine pure_ (i := 8) (N := some 75) (v := ?_) (a' := ?_) #[true, false, true, true, false, false, false, false, true, false, false, false, false, false] rfl rfl (any_of HT_.out (by kernel_rfl)) (fun _ _ _ h => h) (Or.inl ⟨by rfl, ?_⟩) ?_ ?_
                                rotate_left
                                · intro w'
                                  go_simp
                                  with_reducible rfl
                                rotate_left
                                · simp only [Act.put, List.setIfInBounds_toArray, List.set_cons_zero, List.set_cons_succ, i64_w, i32_w]
                                  rfl
                                refine pure_ (i := 9) (N := some 76) (v := ?_) (a' := ?_) #[true, false, true, true, false, false, false, false, true, true, false, false, false, false] rfl rfl (any_of HT_.out (by kernel_rfl)) (fun _ _ _ h => h) (Or.inl ⟨by rfl, ?_⟩) ?_ ?_
                                rotate_left
                                · intro w'
                                  go_simp
                                  with_reducible rfl
                                rotate_left
                                · simp only [Act.put, List.setIfInBounds_toArray, List.set_cons_zero, List.set_cons_succ, i64_w, i32_w]
                                  rfl
                                refine pure_ (i := 10) (N := some 77) (v := ?_) (a' := ?_) #[true, false, true, true, false, false, false, false, true, true, true, false, false, false] rfl rfl (any_of HT_.out (by kernel_rfl)) (fun _ _ _ h => h) (Or.inl ⟨by rfl, ?_⟩) ?_ ?_
                                rotate_left
                                · intro w'
                                  go_simp
                                  with_reducible rfl
                                rotate_left
                                · simp only [Act.put, List.setIfInBounds_toArray, List.set_cons_zero, List.set_cons_succ, i64_w, i32_w]
                                  rfl
                                refine take_ (i := 1) (N := some 68) (v := ?_) (a' := ?_) #[true, true, true, true, false, false, false, false, true, true, true, false, false, false] rfl rfl (take_ofW HT_.out HW_.out (by kernel_rfl)) (fun _ _ _ h => h) (Or.inl ⟨by rfl, ?_⟩) hHeld ?_ ?_
                                rotate_left
                                · rintro w' ⟨s0, s1, s2, s3, s4, s5⟩
                                  go_simp
                                  with_reducible rfl
                                rotate_left
                                · simp only [Act.put, List.setIfInBounds_toArray, List.set_cons_zero, List.set_cons_succ, i64_w, i32_w]
                                  rfl
                                refine take_ (i := 4) (N := some 71) (v := ?_) (a' := ?_) #[true, true, true, true, true, false, false, false, true, true, true, false, false, false] rfl rfl (take_ofW HT_.out HW_.out (by kernel_rfl)) (fun _ _ _ h => h) (Or.inl ⟨by rfl, ?_⟩) hHeld ?_ ?_
                                rotate_left
                                · rintro w' ⟨s0, s1, s2, s3, s4, s5⟩
                                  go_simp
                                  with_reducible rfl
                                rotate_left
                                · simp only [Act.put, List.setIfInBounds_toArray, List.set_cons_zero, List.set_cons_succ, i64_w, i32_w]
                                  rfl
                                refine pure_ (i := 5) (N := some 72) (v := ?_) (a' := ?_) #[true, true, true, true, true, true, false, false, true, true, true, false, false, false] rfl rfl (any_of HT_.out (by kernel_rfl)) (fun _ _ _ h => h) (Or.inl ⟨by rfl, ?_⟩) ?_ ?_
                                rotate_left
                                · intro w'
                                  go_simp
                                  with_reducible rfl
                                rotate_left
                                · simp only [Act.put, List.setIfInBounds_toArray, List.set_cons_zero, List.set_cons_succ, i64_w, i32_w]
                                  rfl
                                refine pure_ (i := 6) (N := some 73) (v := ?_) (a' := ?_) #[true, true, true, true, true, true, true, false, true, true, true, false, false, false] rfl rfl (any_of HT_.out (by kernel_rfl)) (fun _ _ _ h => h) (Or.inl ⟨by rfl, ?_⟩) ?_ ?_
                                rotate_left
                                · intro w'
                                  go_simp
                                  with_reducible rfl
                                rotate_left
                                · simp only [Act.put, List.setIfInBounds_toArray, List.set_cons_zero, List.set_cons_succ, i64_w, i32_w]
                                  rfl
                                refine pure_ (i := 7) (N := some 74) (v := ?_) (a' := ?_) #[true, true, true, true, true, true, true, true, true, true, true, false, false, false] rfl rfl (any_of HT_.out (by kernel_rfl)) (fun _ _ _ h => h) (Or.inl ⟨by rfl, ?_⟩) ?_ ?_
                                rotate_left
                                · intro w'
                                  go_simp
                                  with_reducible rfl
                                rotate_left
                                · simp only [Act.put, List.setIfInBounds_toArray, List.set_cons_zero, List.set_cons_succ, i64_w, i32_w]
                                  rfl
                                refine one_ (i := 11) (N := some 78) #[true, true, true, true, true, true, true, true, true, true, true, true, false, false] rfl rfl (one_of HT_.out (by kernel_rfl)) (by decide) (fun K hK => ?_)
                                refine Kd.R_append_rows_step k54 (w0 := w) w.heap.size (by rfl) (.tmp 74) (.tmp 77) 27 54 (.agg #[(.int .i64 0), (.string ⟨#[]⟩)]) 24 rfl Try.underlying27 info54 rfl (by decide) (by omega) (.slice Ao94 y562.length co94) y562 y565 _ _ _ (fun k_ => k_ ≠ gb559) (fun _ => False) rfl rfl ?aO ?aR (fun _ _ h => h) (fun _ h => h.elim) ?aF ?aB ?aS ?aL ?_
                                (case aR => repeat (first | exact (Kd.C_below HR568.out HB.out) | (with_reducible refine Kd.C_alloc ?_ _) | (with_reducible refine Kd.C_drewN ?_ _) | (with_reducible refine Kd.C_drew ?_)))
                                (case aB => exact (by repeat (first | (with_reducible first | exact HB.out | apply below_alloc | apply pw_below_drewN | apply below_drew1 | refine below_set ?_ GE547.out | refine below_set ?_ GE548.out | refine below_set ?_ GE554.out | refine below_set ?_ GE559.out) | exact HB.out)))
                                (case aF => exact (fun k_ hk => Kd.freshB (g := gb559) (o := .cells #[.int .i64 ((rd_T54 l3 x46_2).f0), .string ((rd_T54 l3 x46_2).f1)] 54 (0, 0)) (by (with_reducible repeat (first | refine blk_drewN ?_ _ | refine blk_drew ?_ | refine blk_alloc ?_ _)); exact BK559.out) k_ hk))
                                (case aO => exact (by (with_reducible repeat (first | apply Kd.R_alloc | apply Kd.R_drewN | apply Kd.R_drew)); exact HO564.out))
                                (case aS => exact (below_size (by repeat (first | (with_reducible first | exact HB.out | apply below_alloc | apply pw_below_drewN | apply below_drew1 | refine below_set ?_ GE547.out | refine below_set ?_ GE548.out | refine below_set ?_ GE554.out | refine below_set ?_ GE559.out) | exact HB.out))))
                                (case aL => have := LMc83.out; omega)
                                intro v570 w97 ho hb hg hat
                                rw [← Ny569.out] at ho
                                have n0_ := Aside0.mk (blk_grown (g := gb547) (o := .cells #[.int .i64 a0_0, .int .i64 a0_1, .slice A0_2 l0_2.length c0_2] 29 (0, 0)) (by (with_reducible repeat (first | refine blk_drewN ?_ _ | refine blk_drew ?_ | refine blk_alloc ?_ _)); exact BK547.out) hg (Kd.R_ne HO564.out BK547.out (by decide)))
                                have n1_ := Aside0.mk (blk_grown (g := gb548) (o := .cells #[.int .i64 0, .int .i64 0, .slice none 0 0] 29 (0, 0)) (by (with_reducible repeat (first | refine blk_drewN ?_ _ | refine blk_drew ?_ | refine blk_alloc ?_ _)); exact BK548.out) hg (Kd.R_ne HO564.out BK548.out (by decide)))
                                have n2_ := Aside0.mk (blk_grown (g := gb554) (o := .cells #[.int .i64 t549, .int .i64 t550, .slice Ao94 x555002_2.length co94] 29 (0, 0)) (by (with_reducible repeat (first | refine blk_drewN ?_ _ | refine blk_drew ?_ | refine blk_alloc ?_ _)); exact BK554.out) hg (Kd.R_ne HO564.out BK554.out (by decide)))
                                have n3_ := Aside0.mk (blk_grown (g := gb559) (o := .cells #[.int .i64 ((rd_T54 l3 x46_2).f0), .string ((rd_T54 l3 x46_2).f1)] 54 (0, 0)) (by (with_reducible repeat (first | refine blk_drewN ?_ _ | refine blk_drew ?_ | refine blk_alloc ?_ _)); exact BK559.out) hg (Kd.R_away HO564.out (fun _ hk => hk)))
                                have n4_ := Aside0.mk (hb)
                                have n5_ := Aside0.mk (ho)
                                clear BK547
                                clear BK548
                                clear BK554
                                clear BK559
                                clear HB
                                clear HO564
                                have BK547 := n0_
                                have BK548 := n1_
                                have BK554 := n2_
                                have BK559 := n3_
                                have HB := n4_
                                have HO571 := n5_
                                clear n0_ n1_ n2_ n3_ n4_ n5_
                                clear ho hb hg hat
                                obtain ⟨Ao98, co98, eo98⟩ := Kd.R_slice HO571.out
                                (first | subst eo98 | (injection eo98 with f1_ f2_ f3_; have f4_ := f1_.symm; have f5_ := f3_.symm; clear f1_ f2_ f3_; subst f4_; subst f5_))
                                refine hK.out _ _ ⟨(blk_cell BK554.out 0).trans rfl, (blk_cell BK554.out 1).trans rfl, (blk_cell BK554.out 2).trans rfl, (blk_cell BK547.out 0).trans rfl, (blk_cell BK547.out 1).trans rfl, (blk_cell BK547.out 2).trans rfl⟩ (fun hHeld => ?_)
                                clear hK K
                                refine norm_ (a' := ?_) ?_ ?_
                                rotate_left
                                · show Act.put _ (some 78) _ = _
                                  simp only [Act.put, List.setIfInBounds_toArray, List.set_cons_zero, List.set_cons_succ, i64_w, i32_w]
                                  rfl
                                refine pure_ (i := 12) (N := some 79) (v := ?_) (a' := ?_) #[true, true, true, true, true, true, true, true, true, true, true, true, true, false] rfl rfl (any_of HT_.out (by kernel_rfl)) (fun _ _ _ h => h) (Or.inl ⟨by rfl, ?_⟩) ?_ ?_
                                rotate_left
                                · intro w'
                                  go_simp
                                  with_reducible rfl
                                rotate_left
                                · simp only [Act.put, List.setIfInBounds_toArray, List.set_cons_zero, List.set_cons_succ, i64_w, i32_w]
                                  rfl
                                refine last_ (i := 13) (N := none) #[true, true, true, true, true, true, true, true, true, true, true, true, true, true] rfl rfl (one_of HT_.out (by kernel_rfl)) (by decide) (fun K hK => ?_)
                                have hs99 : w97.cell? ⟨gb554, 2, none⟩ = some (.slice Ao94 x555002_2.length co94) := (blk_cell BK554.out 2).trans rfl
                                have hfs99 := blk_frozen BK554.out 2
                                have hns99_0 := NB547_554.out
                                have hns99_1 := NB548_554.out
                                have hns99_3 := NB559_554.out
                                have hms99_0 := NB554_547.out
                                have hms99_1 := NB554_548.out
                                have hms99_3 := NB554_559.out
                                refine skip_ (w1 := ?_) (by rfl) rfl ?_ ?_
                                rotate_left
                                · go_simp
                                  rfl
                                refine hK.out _ _ ?_
                                clear hK K
                                refine done_ (done_of HT_.out (by kernel_rfl)) ?_
                                try go_wp2
                                go_meet
                                case rel => exact ⟨_, (y569), (.slice Ao98 y569.length co98), H', ⟨by have := HJ5.out; have := HK2.out; first | omega | exact Nat.le_refl _⟩, ⟨by (with_reducible repeat (first | apply Kd.R_alloc | apply Kd.R_drewN | apply Kd.R_drew)); exact Kd.R_mono (Kd.R_far (p := ⟨gb554, 2, none⟩) (Kd.R_types HO571.out BK554.out (by decide)) (fun _ hk => hk.2) (.slice Ao98 y569.length co98)) (fun _ hk => trivial)⟩, ⟨by (with_reducible repeat (first | refine blk_drewN ?_ _ | refine blk_drew ?_ | refine blk_alloc ?_ _)); refine blk_far ?_ NB547_554.out _; (with_reducible repeat (first | refine blk_drewN ?_ _ | refine blk_drew ?_ | refine blk_alloc ?_ _)); exact BK547.out⟩, ⟨by (with_reducible repeat (first | refine blk_drewN ?_ _ | refine blk_drew ?_ | refine blk_alloc ?_ _)); refine blk_far ?_ NB548_554.out _; (with_reducible repeat (first | refine blk_drewN ?_ _ | refine blk_drew ?_ | refine blk_alloc ?_ _)); exact BK548.out⟩, ⟨by (with_reducible repeat (first | refine blk_drewN ?_ _ | refine blk_drew ?_ | refine blk_alloc ?_ _)); refine blk_put (cs := #[.int .i64 t549, .int .i64 t550, .slice Ao94 x555002_2.length co94]) ?_ 2 _ rfl; (with_reducible repeat (first | refine blk_drewN ?_ _ | refine blk_drew ?_ | refine blk_alloc ?_ _)); exact BK554.out⟩, ⟨by repeat (first | (with_reducible first | exact HB.out | apply below_alloc | apply pw_below_drewN | apply below_drew1 | refine below_set ?_ GE547.out | refine below_set ?_ GE548.out | refine below_set ?_ GE554.out | refine below_set ?_ GE559.out) | exact HB.out)⟩⟩
                              · rw [if_neg c83] at H
                                exact absurd H (by simp)
                            · rw [if_neg c82] at H
                              exact absurd H (by simp)
                          · rw [if_neg c80] at H
                            exact absurd H (by simp)
                        · rw [if_neg c79] at H
                          exact absurd H (by simp)
                    · rw [if_neg c66] at H
                      have c66b0 : decide ((wrap64 ((wrap64 (a1 + 1)) + x46_2)) ≤ t560) = false := decide_eq_false c66
                      clear c66
                      obtain ⟨ji100, hji100⟩ : ∃ j_ : Int, (wrap64 ((wrap64 ((wrap64 ((wrap64 (a1 + 1)) + x46_2)) - a0_0)) - 1)) = j_ := ⟨_, rfl⟩
                      replace H : (if 0 ≤ (ji100) then (if (ji100) ≤ (x555002_2.length : Int) then ((some (x555002_2.take ((ji100) : Int).toNat : List (S54))).bind fun y572 => (if x46_2 ≤ (l3.length : Int) then ((some (l3.drop (x46_2 : Int).toNat : List (S54))).bind fun y575 => (if y572.length + y575.length < 5864062014805 then (impl_AppendTo.j2 k2 a0_0 a0_1 l0_2 t549 t550 (y572 ++ y575)) else (none))) else (none))) else (none)) else (none)) = some (r1, r2, r3, r4) := by first | (rw [hji100] at H; exact H) | (simp only [hji100] at H ⊢; exact H)
                      (try rw [hji100] at A65)
                      have hji100w : (IntKind.i64.wrap ((wrap64 ((wrap64 ((wrap64 (a1 + 1)) + x46_2)) - a0_0)) - 1)) = ji100 := (i64_w _).trans hji100
                      by_cases c101 : 0 ≤ (ji100)
                      · rw [if_pos c101] at H
                        have c101b0 := eq_true c101
                        have c101b1 : decide (0 ≤ (ji100)) = true := decide_eq_true c101
                        clear c101
                        by_cases c102 : (ji100) ≤ (x555002_2.length : Int)
                        · rw [if_pos c102] at H
                          have c102b0 := eq_true c102
                          have c102b1 : decide ((ji100) ≤ (x555002_2.length : Int)) = true := decide_eq_true c102
                          clear c102
                          obtain ⟨y572, hy572⟩ : ∃ y_ : List (S54), y_ = (x555002_2.take ((ji100) : Int).toNat) := ⟨_, rfl⟩
                          replace H : (if x46_2 ≤ (l3.length : Int) then ((some (l3.drop (x46_2 : Int).toNat : List (S54))).bind fun y575 => (if y572.length + y575.length < 5864062014805 then (impl_AppendTo.j2 k2 a0_0 a0_1 l0_2 t549 t550 (y572 ++ y575)) else (none))) else (none)) = some (r1, r2, r3, r4) := by first | (rw [hy572]; with_reducible exact H) | (have H2_ := (Option.bind_some _ _).symm.trans H; rw [hy572]; with_reducible exact H2_) | (have H2_ := (Option.bind_some _ _).symm.trans H; with_reducible exact H2_) | with_reducible exact H | (rw [hy572]; exact H) | exact H
                          have Ny572 := Aside0.mk hy572
                          clear hy572
                          have c103b0 := eq_true (of_decide_eq_true (by first | (with_reducible assumption) | assumption) : 0 ≤ x46_2)
                          by_cases c104 : x46_2 ≤ (l3.length : Int)
                          · rw [if_pos c104] at H
                            have c104b0 := eq_true c104
                            have c104b1 : decide (x46_2 ≤ (l3.length : Int)) = true := decide_eq_true c104
                            clear c104
                            obtain ⟨y575, hy575⟩ : ∃ y_ : List (S54), y_ = (l3.drop (x46_2 : Int).toNat) := ⟨_, rfl⟩
                            replace H : (if y572.length + y575.length < 5864062014805 then (impl_AppendTo.j2 k2 a0_0 a0_1 l0_2 t549 t550 (y572 ++ y575)) else (none)) = some (r1, r2, r3, r4) := by first | (rw [hy575]; with_reducible exact H) | (have H2_ := (Option.bind_some _ _).symm.trans H; rw [hy575]; with_reducible exact H2_) | (have H2_ := (Option.bind_some _ _).symm.trans H; with_reducible exact H2_) | with_reducible exact H | (rw [hy575]; exact H) | exact H
                            have Ny575 := Aside0.mk hy575
                            clear hy575
                            by_cases c105 : y572.length + y575.length < 5864062014805
                            · rw [if_pos c105] at H
                              have LMc105 := Aside0.mk c105
                              clear c105
                              obtain ⟨y579, hy579⟩ : ∃ y_ : List (S54), y_ = (y572 ++ y575) := ⟨_, rfl⟩
                              replace H : (impl_AppendTo.j2 k2 a0_0 a0_1 l0_2 t549 t550 y579) = some (r1, r2, r3, r4) := by first | (rw [hy579]; with_reducible exact H) | (have H2_ := (Option.bind_some _ _).symm.trans H; rw [hy579]; with_reducible exact H2_) | (have H2_ := (Option.bind_some _ _).symm.trans H; with_reducible exact H2_) | with_reducible exact H | (rw [hy579]; exact H) | exact H
                              have Ny579 := Aside0.mk hy579
                              clear hy579
                              have H' := Aside0.mk H
                              clear H
                              have p558 : 0 ≤ (x46_2 : Int) := of_decide_eq_true (by first | (with_reducible assumption) | assumption)
                              have q558 : x46_2 < (l3.length : Int) := of_decide_eq_true (by first | (with_reducible assumption) | assumption)
                              obtain ⟨ad558, e558, hx558_0, hx558_1⟩ := at_T54 HR3.out x46_2 p558 q558
                              cases e558
                              replace hx558_0 := (HB.out.cell (World.block_lt_of_cell? w _ hx558_0)).trans hx558_0
                              replace hx558_1 := (HB.out.cell (World.block_lt_of_cell? w _ hx558_1)).trans hx558_1
                              replace p558 := eq_true p558
                              replace q558 := eq_true q558
                              try go_wp2_with (first | ((with_reducible refine gate_dst (N := 12) rfl ?_); (try (refine gate_guard (by rfl) ?_; dsimp only)); refine box_event ?hg (N := 12) ?hd (cs := #[.int .i64 0, .string (⟨#[]⟩ : ByteArray)]) (t := 54) ?hr ?_; (case hd => rfl); (case hg => rfl); (case hr => first | (go_simp; done) | (go_simp; rfl)); intro gb559 hg w106 hbox hb; have n0_ := Aside0.mk (Kd.R_below (Kd.R_elderB (by (with_reducible repeat (first | apply Kd.R_alloc | apply Kd.R_drewN | apply Kd.R_drew)); exact HO_555002.out) gb559 (Nat.le_of_eq hg.symm)) hb); have n1_ := Aside0.mk (blk_below (g := gb547) (o := .cells #[.int .i64 a0_0, .int .i64 a0_1, .slice A0_2 l0_2.length c0_2] 29 (0, 0)) (by (with_reducible repeat (first | refine blk_drewN ?_ _ | refine blk_drew ?_ | refine blk_alloc ?_ _)); exact BK547.out) hb); have n2_ := Aside0.mk (blk_below (g := gb548) (o := .cells #[.int .i64 0, .int .i64 0, .slice none 0 0] 29 (0, 0)) (by (with_reducible repeat (first | refine blk_drewN ?_ _ | refine blk_drew ?_ | refine blk_alloc ?_ _)); exact BK548.out) hb); have n3_ := Aside0.mk (blk_below (g := gb554) (o := .cells #[.int .i64 t549, .int .i64 t550, u555002] 29 (0, 0)) (by (with_reducible repeat (first | refine blk_drewN ?_ _ | refine blk_drew ?_ | refine blk_alloc ?_ _)); exact BK554.out) hb); have n4_ := Aside0.mk (below_step (by repeat (first | (with_reducible first | exact HB.out | apply below_alloc | apply pw_below_drewN | apply below_drew1 | refine below_set ?_ GE547.out | refine below_set ?_ GE548.out | refine below_set ?_ GE554.out) | exact HB.out)) hb); have n5_ := Aside0.mk (hbox); have n6_ := Aside0.mk ((by rw [hg]; exact (below_size (by repeat (first | (with_reducible first | exact HB.out | apply below_alloc | apply pw_below_drewN | apply below_drew1 | refine below_set ?_ GE547.out | refine below_set ?_ GE548.out | refine below_set ?_ GE554.out) | exact HB.out))) : w.heap.size ≤ gb559)); have n7_ := Aside0.mk ((by rw [hg]; exact (below_size (by repeat (first | (with_reducible first | exact HB.out | apply below_alloc | apply pw_below_drewN | apply below_drew1 | refine below_set ?_ GE547.out | refine below_set ?_ GE548.out | refine below_set ?_ GE554.out) | exact HB.out))) : w.heap.size ≤ gb559)); have n8_ := Aside0.mk ((by rw [hg]; exact Nat.ne_of_lt (blk_lt (g := gb547) (o := .cells #[.int .i64 a0_0, .int .i64 a0_1, .slice A0_2 l0_2.length c0_2] 29 (0, 0)) (by (with_reducible repeat (first | refine blk_drewN ?_ _ | refine blk_drew ?_ | refine blk_alloc ?_ _)); exact BK547.out)) : gb547 ≠ gb559)); have n9_ := Aside0.mk ((by rw [hg]; exact Nat.ne_of_gt (blk_lt (g := gb547) (o := .cells #[.int .i64 a0_0, .int .i64 a0_1, .slice A0_2 l0_2.length c0_2] 29 (0, 0)) (by (with_reducible repeat (first | refine blk_drewN ?_ _ | refine blk_drew ?_ | refine blk_alloc ?_ _)); exact BK547.out)) : gb559 ≠ gb547)); have n10_ := Aside0.mk ((by rw [hg]; exact Nat.ne_of_lt (blk_lt (g := gb548) (o := .cells #[.int .i64 0, .int .i64 0, .slice none 0 0] 29 (0, 0)) (by (with_reducible repeat (first | refine blk_drewN ?_ _ | refine blk_drew ?_ | refine blk_alloc ?_ _)); exact BK548.out)) : gb548 ≠ gb559)); have n11_ := Aside0.mk ((by rw [hg]; exact Nat.ne_of_gt (blk_lt (g := gb548) (o := .cells #[.int .i64 0, .int .i64 0, .slice none 0 0] 29 (0, 0)) (by (with_reducible repeat (first | refine blk_drewN ?_ _ | refine blk_drew ?_ | refine blk_alloc ?_ _)); exact BK548.out)) : gb559 ≠ gb548)); have n12_ := Aside0.mk ((by rw [hg]; exact Nat.ne_of_lt (blk_lt (g := gb554) (o := .cells #[.int .i64 t549, .int .i64 t550, u555002] 29 (0, 0)) (by (with_reducible repeat (first | refine blk_drewN ?_ _ | refine blk_drew ?_ | refine blk_alloc ?_ _)); exact BK554.out)) : gb554 ≠ gb559)); have n13_ := Aside0.mk ((by rw [hg]; exact Nat.ne_of_gt (blk_lt (g := gb554) (o := .cells #[.int .i64 t549, .int .i64 t550, u555002] 29 (0, 0)) (by (with_reducible repeat (first | refine blk_drewN ?_ _ | refine blk_drew ?_ | refine blk_alloc ?_ _)); exact BK554.out)) : gb559 ≠ gb554)); clear HO_555002; clear BK547; clear BK548; clear BK554; clear HB; have HO_555002 := n0_; have BK547 := n1_; have BK548 := n2_; have BK554 := n3_; have HB := n4_; have BK559 := n5_; have GW559 := n6_; have GE559 := n7_; have NB547_559 := n8_; have NB559_547 := n9_; have NB548_559 := n10_; have NB559_548 := n11_; have NB554_559 := n12_; have NB559_554 := n13_; clear n0_ n1_ n2_ n3_ n4_ n5_ n6_ n7_ n8_ n9_ n10_ n11_ n12_ n13_; clear hb hbox hg; have hnb107 := NB559_547.out; have hnc107 := NB547_559.out; have hnb108 := NB559_548.out; have hnc108 := NB548_559.out; have hnb109 := NB559_554.out; have hnc109 := NB554_559.out; have hcz110_0 : w106.cell? ⟨gb559, 0, none⟩ = some (.int .i64 0) := (blk_cell BK559.out 0).trans rfl; have hcz110_1 : w106.cell? ⟨gb559, 1, none⟩ = some (.string (⟨#[]⟩ : ByteArray)) := (blk_cell BK559.out 1).trans rfl; have hfz110_0 := blk_frozen BK559.out 0; have hfz110_1 := blk_frozen BK559.out 1))
                              have n0_ : Aside0 (Kd.R k54 54 ((w106.setCell ⟨gb559, 0, none⟩ (.int .i64 ((rd_T54 l3 x46_2).f0))).setCell ⟨gb559, 1, none⟩ (.string ((rd_T54 l3 x46_2).f1))) w.heap.size (fun k_ => k_ ≠ gb559) u555002 x555002_2) := ⟨by (with_reducible repeat (first | apply Kd.R_alloc | apply Kd.R_drewN | apply Kd.R_drew)); exact Kd.R_mono (Kd.R_far (p := ⟨gb559, 1, none⟩) (Kd.R_far (p := ⟨gb559, 0, none⟩) (Kd.R_mono HO_555002.out (fun k_ hk => (⟨hk, hk.2⟩ : _ ∧ k_ ≠ gb559))) (fun _ hk => hk.2) (.int .i64 ((rd_T54 l3 x46_2).f0))) (fun _ hk => hk.2) (.string ((rd_T54 l3 x46_2).f1))) (fun _ hk => hk.1.2)⟩
                              have n1_ : Aside0 (((w106.setCell ⟨gb559, 0, none⟩ (.int .i64 ((rd_T54 l3 x46_2).f0))).setCell ⟨gb559, 1, none⟩ (.string ((rd_T54 l3 x46_2).f1))).heap[gb547]? = some (.cells #[.int .i64 a0_0, .int .i64 a0_1, .slice A0_2 l0_2.length c0_2] 29 (0, 0))) := ⟨by (with_reducible repeat (first | refine blk_drewN ?_ _ | refine blk_drew ?_ | refine blk_alloc ?_ _)); refine blk_far ?_ NB547_559.out _; (with_reducible repeat (first | refine blk_drewN ?_ _ | refine blk_drew ?_ | refine blk_alloc ?_ _)); refine blk_far ?_ NB547_559.out _; (with_reducible repeat (first | refine blk_drewN ?_ _ | refine blk_drew ?_ | refine blk_alloc ?_ _)); exact BK547.out⟩
                              have n2_ : Aside0 (((w106.setCell ⟨gb559, 0, none⟩ (.int .i64 ((rd_T54 l3 x46_2).f0))).setCell ⟨gb559, 1, none⟩ (.string ((rd_T54 l3 x46_2).f1))).heap[gb548]? = some (.cells #[.int .i64 0, .int .i64 0, .slice none 0 0] 29 (0, 0))) := ⟨by (with_reducible repeat (first | refine blk_drewN ?_ _ | refine blk_drew ?_ | refine blk_alloc ?_ _)); refine blk_far ?_ NB548_559.out _; (with_reducible repeat (first | refine blk_drewN ?_ _ | refine blk_drew ?_ | refine blk_alloc ?_ _)); refine blk_far ?_ NB548_559.out _; (with_reducible repeat (first | refine blk_drewN ?_ _ | refine blk_drew ?_ | refine blk_alloc ?_ _)); exact BK548.out⟩
                              have n3_ : Aside0 (((w106.setCell ⟨gb559, 0, none⟩ (.int .i64 ((rd_T54 l3 x46_2).f0))).setCell ⟨gb559, 1, none⟩ (.string ((rd_T54 l3 x46_2).f1))).heap[gb554]? = some (.cells #[.int .i64 t549, .int .i64 t550, u555002] 29 (0, 0))) := ⟨by (with_reducible repeat (first | refine blk_drewN ?_ _ | refine blk_drew ?_ | refine blk_alloc ?_ _)); refine blk_far ?_ NB554_559.out _; (with_reducible repeat (first | refine blk_drewN ?_ _ | refine blk_drew ?_ | refine blk_alloc ?_ _)); refine blk_far ?_ NB554_559.out _; (with_reducible repeat (first | refine blk_drewN ?_ _ | refine blk_drew ?_ | refine blk_alloc ?_ _)); exact BK554.out⟩
                              have n4_ : Aside0 (((w106.setCell ⟨gb559, 0, none⟩ (.int .i64 ((rd_T54 l3 x46_2).f0))).setCell ⟨gb559, 1, none⟩ (.string ((rd_T54 l3 x46_2).f1))).heap[gb559]? = some (.cells #[.int .i64 ((rd_T54 l3 x46_2).f0), .string ((rd_T54 l3 x46_2).f1)] 54 (0, 0))) := ⟨by (with_reducible repeat (first | refine blk_drewN ?_ _ | refine blk_drew ?_ | refine blk_alloc ?_ _)); refine blk_put (cs := #[.int .i64 ((rd_T54 l3 x46_2).f0), .string (⟨#[]⟩ : ByteArray)]) ?_ 1 _ rfl; (with_reducible repeat (first | refine blk_drewN ?_ _ | refine blk_drew ?_ | refine blk_alloc ?_ _)); refine blk_put (cs := #[.int .i64 0, .string (⟨#[]⟩ : ByteArray)]) ?_ 0 _ rfl; (with_reducible repeat (first | refine blk_drewN ?_ _ | refine blk_drew ?_ | refine blk_alloc ?_ _)); exact BK559.out⟩
                              have n5_ : Aside0 (Below w.heap.size w ((w106.setCell ⟨gb559, 0, none⟩ (.int .i64 ((rd_T54 l3 x46_2).f0))).setCell ⟨gb559, 1, none⟩ (.string ((rd_T54 l3 x46_2).f1)))) := ⟨by repeat (first | (with_reducible first | exact HB.out | apply below_alloc | apply pw_below_drewN | apply below_drew1 | refine below_set ?_ GE547.out | refine below_set ?_ GE548.out | refine below_set ?_ GE554.out | refine below_set ?_ GE559.out) | exact HB.out)⟩
                              (try clear HO_555002)
                              (try clear BK547)
                              (try clear BK548)
                              (try clear BK554)
                              (try clear BK559)
                              (try clear HB)
                              generalize ((w106.setCell ⟨gb559, 0, none⟩ (.int .i64 ((rd_T54 l3 x46_2).f0))).setCell ⟨gb559, 1, none⟩ (.string ((rd_T54 l3 x46_2).f1))) = w111 at n0_ n1_ n2_ n3_ n4_ n5_ ⊢
                              have HO_555002 := n0_
                              have BK547 := n1_
                              have BK548 := n2_
                              have BK554 := n3_
                              have BK559 := n4_
                              have HB := n5_
                              clear n0_ n1_ n2_ n3_ n4_ n5_
                              have n0_ := Aside0.mk (Kd.R_drew HO_555002.out)
                              have n1_ := Aside0.mk (blk_drew BK547.out)
                              have n2_ := Aside0.mk (blk_drew BK548.out)
                              have n3_ := Aside0.mk (blk_drew BK554.out)
                              have n4_ := Aside0.mk (blk_drew BK559.out)
                              have n5_ := Aside0.mk (below_drew1 HB.out)
                              clear HO_555002
                              clear BK547
                              clear BK548
                              clear BK554
                              clear BK559
                              clear HB
                              have HO_555002 := n0_
                              have BK547 := n1_
                              have BK548 := n2_
                              have BK554 := n3_
                              have BK559 := n4_
                              have HB := n5_
                              clear n0_ n1_ n2_ n3_ n4_ n5_
                              refine start_ (n := 12) (S := fun w' => w'.cell? ⟨gb547, 0, none⟩ = some (.int .i64 a0_0) ∧ w'.cell? ⟨gb547, 1, none⟩ = some (.int .i64 a0_1) ∧ w'.cell? ⟨gb547, 2, none⟩ = some (.slice A0_2 l0_2.length c0_2)) (ds := []) #[false, false, false, false, false, false, false, false, false, false, false, false] (by kernel_rfl) rfl rfl ⟨(blk_cell BK547.out 0).trans rfl, (blk_cell BK547.out 1).trans rfl, (blk_cell BK547.out 2).trans rfl⟩ (fun hHeld => ?_); refine with_tabW impl_AppendTo.tab8 impl_AppendTo.bits8 (fun HT_ HW_ => ?_)
                              generalize w111.drew = w112 at HO_555002 BK547 BK548 BK554 BK559 HB hHeld ⊢
                              refine pure_ (i := 0) (N := some 55) (v := ?_) (a' := ?_) #[true, false, false, false, false, false, false, false, false, false, false, false] rfl rfl (any_of HT_.out (by kernel_rfl)) (fun _ _ _ h => h) (Or.inl ⟨by rfl, ?_⟩) ?_ ?_
                              rotate_left
                              · intro w'
                                go_simp
                                with_reducible rfl
                              rotate_left
                              · simp only [Act.put, List.setIfInBounds_toArray, List.set_cons_zero, List.set_cons_succ, i64_w, i32_w]
                                rfl
                              refine take_ (i := 1) (N := some 56) (v := ?_) (a' := ?_) #[true, true, false, false, false, false, false, false, false, false, false, false] rfl rfl (take_ofW HT_.out HW_.out (by kernel_rfl)) (fun _ _ _ h => h) (Or.inl ⟨by rfl, ?_⟩) hHeld ?_ ?_
                              rotate_left
                              · rintro w' ⟨s0, s1, s2⟩
                                go_simp
                                with_reducible rfl
                              rotate_left
                              · simp only [Act.put, List.setIfInBounds_toArray, List.set_cons_zero, List.set_cons_succ, i64_w, i32_w]
                                rfl
                              refine one_ (i := 2) (N := some 57) #[true, true, true, false, false, false, false, false, false, false, false, false] rfl rfl (one_of HT_.out (by kernel_rfl)) (by decide) (fun K hK => ?_)
                              refine goes_ Try.func46 (by kernel_rfl) rfl #[.agg #[.int .i64 a0_0, .int .i64 a0_1, .slice A0_2 l0_2.length c0_2]] (by rfl) rfl rfl (by (try simp only [List.map_toArray, List.map_cons, List.map_nil]); first | done | rfl | (simp only [List.length_drop, List.length_take]; rfl)) ?_
                              with_reducible refine (impl_RLog_last.calls a0_0 a0_1 _ _ l0_2 t560 _ ?side1 ?side2 A65.out).mono ?_
                              (case side1 => repeat (first | exact (Kd.C_below HR0_2.out HB.out) | (with_reducible refine Kd.C_alloc ?_ _) | (with_reducible refine Kd.C_drewN ?_ _) | (with_reducible refine Kd.C_drew ?_)))
                              (case side2 => exact HC0_2.out)
                              rintro e w113 ⟨rfl, hb⟩
                              refine ⟨_, rfl, ?_⟩
                              have n0_ := Aside0.mk (Kd.R_below (by (with_reducible repeat (first | apply Kd.R_alloc | apply Kd.R_drewN | apply Kd.R_drew)); exact HO_555002.out) hb)
                              have n1_ := Aside0.mk (blk_below (g := gb547) (o := .cells #[.int .i64 a0_0, .int .i64 a0_1, .slice A0_2 l0_2.length c0_2] 29 (0, 0)) (by (with_reducible repeat (first | refine blk_drewN ?_ _ | refine blk_drew ?_ | refine blk_alloc ?_ _)); exact BK547.out) hb)
                              have n2_ := Aside0.mk (blk_below (g := gb548) (o := .cells #[.int .i64 0, .int .i64 0, .slice none 0 0] 29 (0, 0)) (by (with_reducible repeat (first | refine blk_drewN ?_ _ | refine blk_drew ?_ | refine blk_alloc ?_ _)); exact BK548.out) hb)
                              have n3_ := Aside0.mk (blk_below (g := gb554) (o := .cells #[.int .i64 t549, .int .i64 t550, u555002] 29 (0, 0)) (by (with_reducible repeat (first | refine blk_drewN ?_ _ | refine blk_drew ?_ | refine blk_alloc ?_ _)); exact BK554.out) hb)
                              have n4_ := Aside0.mk (blk_below (g := gb559) (o := .cells #[.int .i64 ((rd_T54 l3 x46_2).f0), .string ((rd_T54 l3 x46_2).f1)] 54 (0, 0)) (by (with_reducible repeat (first | refine blk_drewN ?_ _ | refine blk_drew ?_ | refine blk_alloc ?_ _)); exact BK559.out) hb)
                              have n5_ := Aside0.mk (below_step (by repeat (first | (with_reducible first | exact HB.out | apply below_alloc | apply pw_below_drewN | apply below_drew1 | refine below_set ?_ GE547.out | refine below_set ?_ GE548.out | refine below_set ?_ GE554.out | refine below_set ?_ GE559.out) | exact HB.out)) hb)
                              clear HO_555002
                              clear BK547
                              clear BK548
                              clear BK554
                              clear BK559
                              clear HB
                              have HO_555002 := n0_
                              have BK547 := n1_
                              have BK548 := n2_
                              have BK554 := n3_
                              have BK559 := n4_
                              have HB := n5_
                              clear n0_ n1_ n2_ n3_ n4_ n5_
                              (try clear hb)
                              (try clear hb2)
                              (try clear hk)
                              (try clear hi)
                              refine hK.out _ _ ⟨(blk_cell BK547.out 0).trans rfl, (blk_cell BK547.out 1).trans rfl, (blk_cell BK547.out 2).trans rfl⟩ (fun hHeld => ?_)
                              clear hK K
                              refine norm_ (a' := ?_) ?_ ?_
                              rotate_left
                              · show Act.put _ (some 57) _ = _
                                simp only [Act.put, List.setIfInBounds_toArray, List.set_cons_zero, List.set_cons_succ, i64_w, i32_w]
                                rfl
                              refine pure_ (i := 3) (N := some 58) (v := ?_) (a' := ?_) #[true, true, true, true, false, false, false, false, false, false, false, false] rfl rfl (any_of HT_.out (by kernel_rfl)) (fun _ _ _ h => h) (Or.inl ⟨by rfl, ?_⟩) ?_ ?_
                              rotate_left
                              · intro w'
                                go_simp
                                with_reducible rfl
                              rotate_left
                              · simp only [Act.put, List.setIfInBounds_toArray, List.set_cons_zero, List.set_cons_succ, i64_w, i32_w]
                                rfl
                              refine pure_ (i := 4) (N := some 59) (v := ?_) (a' := ?_) #[true, true, true, true, true, false, false, false, false, false, false, false] rfl rfl (any_of HT_.out (by kernel_rfl)) (fun _ _ _ h => h) (Or.inl ⟨by rfl, ?_⟩) ?_ ?_
                              rotate_left
                              · intro w'
                                go_simp
                                with_reducible rfl
                              rotate_left
                              · simp only [Act.put, List.setIfInBounds_toArray, List.set_cons_zero, List.set_cons_succ, i64_w, i32_w]
                                rfl
                              refine pure_ (i := 5) (N := some 60) (v := undef) (a' := ?_) #[true, true, true, true, true, true, false, false, false, false, false, false] rfl rfl (any_of HT_.out (by kernel_rfl)) (fun _ _ _ h => h) (Or.inr ⟨by rfl, rfl⟩) ?_ ?_
                              rotate_left
                              · simp only [Act.put, List.setIfInBounds_toArray, List.set_cons_zero, List.set_cons_succ, i64_w, i32_w]
                                rfl
                              refine pure_ (i := 6) (N := some 61) (v := undef) (a' := ?_) #[true, true, true, true, true, true, true, false, false, false, false, false] rfl rfl (any_of HT_.out (by kernel_rfl)) (fun _ _ _ h => h) (Or.inr ⟨by rfl, rfl⟩) ?_ ?_
                              rotate_left
                              · simp only [Act.put, List.setIfInBounds_toArray, List.set_cons_zero, List.set_cons_succ, i64_w, i32_w]
                                rfl
                              refine pure_ (i := 7) (N := some 62) (v := undef) (a' := ?_) #[true, true, true, true, true, true, true, true, false, false, false, false] rfl rfl (any_of HT_.out (by kernel_rfl)) (fun _ _ _ h => h) (Or.inr ⟨by rfl, rfl⟩) ?_ ?_
                              rotate_left
                              · simp only [Act.put, List.setIfInBounds_toArray, List.set_cons_zero, List.set_cons_succ, i64_w, i32_w]
                                rfl
                              refine pure_ (i := 8) (N := some 63) (v := undef) (a' := ?_) #[true, true, true, true, true, true, true, true, true, false, false, false] rfl rfl (any_of HT_.out (by kernel_rfl)) (fun _ _ _ h => h) (Or.inr ⟨by rfl, rfl⟩) ?_ ?_
                              rotate_left
                              · simp only [Act.put, List.setIfInBounds_toArray, List.set_cons_zero, List.set_cons_succ, i64_w, i32_w]
                                rfl
                              refine pure_ (i := 9) (N := some 64) (v := undef) (a' := ?_) #[true, true, true, true, true, true, true, true, true, true, false, false] rfl rfl (any_of HT_.out (by kernel_rfl)) (fun _ _ _ h => h) (Or.inr ⟨by rfl, rfl⟩) ?_ ?_
                              rotate_left
                              · simp only [Act.put, List.setIfInBounds_toArray, List.set_cons_zero, List.set_cons_succ, i64_w, i32_w]
                                rfl
                              refine pure_ (i := 10) (N := some 65) (v := undef) (a' := ?_) #[true, true, true, true, true, true, true, true, true, true, true, false] rfl rfl (any_of HT_.out (by kernel_rfl)) (fun _ _ _ h => h) (Or.inr ⟨by rfl, rfl⟩) ?_ ?_
                              rotate_left
                              · simp only [Act.put, List.setIfInBounds_toArray, List.set_cons_zero, List.set_cons_succ, i64_w, i32_w]
                                rfl
                              refine pure_ (i := 11) (N := some 66) (v := ?_) (a' := ?_) #[true, true, true, true, true, true, true, true, true, true, true, true] rfl rfl (any_of HT_.out (by kernel_rfl)) (fun _ _ _ h => h) (Or.inl ⟨by rfl, ?_⟩) ?_ ?_
                              rotate_left
                              · intro w'
                                go_simp
                                with_reducible rfl
                              rotate_left
                              · simp only [Act.put, List.setIfInBounds_toArray, List.set_cons_zero, List.set_cons_succ, i64_w, i32_w]
                                rfl
                              refine done_ (done_of HT_.out (by kernel_rfl)) ?_
                              try go_wp2
                              have n0_ := Aside0.mk (Kd.R_drew HO_555002.out)
                              have n1_ := Aside0.mk (blk_drew BK547.out)
                              have n2_ := Aside0.mk (blk_drew BK548.out)
                              have n3_ := Aside0.mk (blk_drew BK554.out)
                              have n4_ := Aside0.mk (blk_drew BK559.out)
                              have n5_ := Aside0.mk (below_drew1 HB.out)
                              clear HO_555002
                              clear BK547
                              clear BK548
                              clear BK554
                              clear BK559
                              clear HB
                              have HO_555002 := n0_
                              have BK547 := n1_
                              have BK548 := n2_
                              have BK554 := n3_
                              have BK559 := n4_
                              have HB := n5_
                              clear n0_ n1_ n2_ n3_ n4_ n5_
                              obtain ⟨Ao115, co115, eo115⟩ := Kd.R_slice HO_555002.out
                              (first | subst eo115 | (injection eo115 with f1_ f2_ f3_; have f4_ := f1_.symm; have f5_ := f3_.symm; clear f1_ f2_ f3_; subst f4_; subst f5_))
                              have q116 : ((ji100) : Int) ≤ ((x555002_2.length : Int) : Int) := of_decide_eq_true (by first | (with_reducible assumption) | assumption)
                              obtain ⟨i0116, hi0116, _, hsz116, _⟩ := info_parts info54
                              have hcut116 := cut_to (P := Try.prog) 27 54 .i64 Try.underlying27 hi0116 Ao115 x555002_2.length co115 (ji100) (of_decide_eq_true (by first | (with_reducible assumption) | assumption)) q116 (Kd.R_reads' HO_555002.out).2.1
                              have hr116 := Kd.R_take (m := ((ji100) : Int).toNat) HO_555002.out (by omega)
                              have hy116 : y572.length = ((ji100) : Int).toNat := (by rw [Ny572.out, List.length_take]; omega)
                              rw [← Ny572.out] at hr116
                              rw [← hy116] at hr116 hcut116
                              clear hy116 hi0116 hsz116 HO_555002
                              have HO574 := Aside0.mk hr116
                              clear hr116
                              replace q116 := eq_true q116
                              have q117 : (x46_2 : Int) ≤ ((l3.length : Int) : Int) := of_decide_eq_true (by first | (with_reducible assumption) | assumption)
                              obtain ⟨i0117, hi0117, _, hsz117, _⟩ := info_parts info54
                              have hroom117 : l3.length ≤ c3 := HC3.out
                              have hC117 : Kd.C k54 _ (some ad558) l3.length l3 := HR3.out
                              have q0117 : (0 : Int) ≤ (x46_2 : Int) := of_decide_eq_true (by first | (with_reducible assumption) | assumption)
                              have hcut117 := cut_from (P := Try.prog) 27 54 .i64 Try.underlying27 hi0117 2 hsz117 (some ad558) l3.length c3 x46_2 q0117 q117
                              have hr117 := Kd.C_drop (m := (x46_2 : Int).toNat) (c := c3) hC117 (by omega) hroom117
                              obtain ⟨A117, hA117⟩ : ∃ A1, A1 = (if c3 = (x46_2 : Int).toNat then (some ad558) else ((some ad558) : Option Addr).map (·.add ((x46_2 : Int).toNat * 2))) := ⟨_, rfl⟩
                              obtain ⟨c117, hc117⟩ : ∃ c1, c1 = c3 - (x46_2 : Int).toNat := ⟨_, rfl⟩
                              have hy117 : y575.length = l3.length - (x46_2 : Int).toNat := (by rw [Ny575.out, List.length_drop] <;> omega)
                              rw [show (l3).drop (x46_2 : Int).toNat = y575 from Ny575.out.symm] at hr117
                              replace hr117 : Kd.C k54 _ A117 y575.length y575 := (by rw [hA117]; exact hr117)
                              rw [← hy117, ← hA117, ← hc117] at hcut117
                              have HR578 := Aside0.mk hr117
                              have HC578 := Aside0.mk (show y575.length ≤ c117 from by rw [hy117, hc117]; exact Nat.sub_le_sub_right hroom117 _)
                              clear hr117 hC117 hroom117 hi0117 hsz117 hc117
                              have KY117 := Aside0.mk hy117
                              have KA117 := Aside0.mk hA117
                              clear hy117 hA117
                              replace q117 := eq_true q117
                              refine start_ (n := 14) (S := fun w' => w'.cell? ⟨gb554, 0, none⟩ = some (.int .i64 t549) ∧ w'.cell? ⟨gb554, 1, none⟩ = some (.int .i64 t550) ∧ w'.cell? ⟨gb554, 2, none⟩ = some (.slice Ao115 x555002_2.length co115) ∧ w'.cell? ⟨gb547, 0, none⟩ = some (.int .i64 a0_0) ∧ w'.cell? ⟨gb547, 1, none⟩ = some (.int .i64 a0_1) ∧ w'.cell? ⟨gb547, 2, none⟩ = some (.slice A0_2 l0_2.length c0_2)) (ds := [13]) #[false, false, false, false, false, false, false, false, false, false, false, false, false, false] (by kernel_rfl) rfl rfl ⟨(blk_cell BK554.out 0).trans rfl, (blk_cell BK554.out 1).trans rfl, (blk_cell BK554.out 2).trans rfl, (blk_cell BK547.out 0).trans rfl, (blk_cell BK547.out 1).trans rfl, (blk_cell BK547.out 2).trans rfl⟩ (fun hHeld => ?_); refine with_tabW impl_AppendTo.tab9 impl_AppendTo.bits9 (fun HT_ HW_ => ?_)
                              generalize w113.drew = w114 at HO_555002 BK547 BK548 BK554 BK559 HB HO574 HR578 hHeld ⊢
                              refine pure_ (i := 0) (N := some 67) (v := ?_) (a' := ?_) #[true, false, false, false, false, false, false, false, false, false, false, false, false, false] rfl rfl (any_of HT_.out (by kernel_rfl)) (fun _ _ _ h => h) (Or.inl ⟨by rfl, ?_⟩) ?_ ?_
                              rotate_left
                              · intro w'
                                go_simp
                                with_reducible rfl
                              rotate_left
                              · simp only [Act.put, List.setIfInBounds_toArray, List.set_cons_zero, List.set_cons_succ, i64_w, i32_w]
                                rfl
                              refine pure_ (i := 2) (N := some 69) (v := ?_) (a' := ?_) #[true, false, true, false, false, false, false, false, false, false, false, false, false, false] rfl rfl (any_of HT_.out (by kernel_rfl)) (fun _ _ _ h => h) (Or.inl ⟨by rfl, ?_⟩) ?_ ?_
                              rotate_left
                              · intro w'
                                go_simp
                                with_reducible rfl
                              rotate_left
                              · simp only [Act.put, List.setIfInBounds_toArray, List.set_cons_zero, List.set_cons_succ, i64_w, i32_w]
                                rfl
                              refine pure_ (i := 3) (N := some 70) (v := ?_) (a' := ?_) #[true, false, true, true, false, false, false, false, false, false, false, false, false, false] rfl rfl (any_of HT_.out (by kernel_rfl)) (fun _ _ _ h => h) (Or.inl ⟨by rfl, ?_⟩) ?_ ?_
                              rotate_left
                              · intro w'
                                go_simp
                                with_reducible rfl
                              rotate_left
                              · simp only [Act.put, List.setIfInBounds_toArray, List.set_cons_zero, List.set_cons_succ, i64_w, i32_w]
                                rfl
                              refine pure_ (i := 8) (N := some 75) (v := ?_) (a' := ?_) #[true, false, true, true, false, false, false, false, true, false, false, false, false, false] rfl rfl (any_of HT_.out (by kernel_rfl)) (fun _ _ _ h => h) (Or.inl ⟨by rfl, ?_⟩) ?_ ?_
                              rotate_left
                              · intro w'
                                go_simp
                                with_reducible rfl
                              rotate_left
                              · simp only [Act.put, List.setIfInBounds_toArray, List.set_cons_zero, List.set_cons_succ, i64_w, i32_w]
                                rfl
                              refine pure_ (i := 9) (N := some 76) (v := ?_) (a' := ?_) #[true, false, true, true, false, false, false, false, true, true, false, false, false, false] rfl rfl (any_of HT_.out (by kernel_rfl)) (fun _ _ _ h => h) (Or.inl ⟨by rfl, ?_⟩) ?_ ?_
                              rotate_left
                              · intro w'
                                go_simp
                                with_reducible rfl
                              rotate_left
                              · simp only [Act.put, List.setIfInBounds_toArray, List.set_cons_zero, List.set_cons_succ, i64_w, i32_w]
                                rfl
                              refine pure_ (i := 10) (N := some 77) (v := ?_) (a' := ?_) #[true, false, true, true, false, false, false, false, true, true, true, false, false, false] rfl rfl (any_of HT_.out (by kernel_rfl)) (fun _ _ _ h => h) (Or.inl ⟨by rfl, ?_⟩) ?_ ?_
                              rotate_left
                              · intro w'
                                go_simp
                                with_reducible rfl
                              rotate_left
                              · simp only [Act.put, List.setIfInBounds_toArray, List.set_cons_zero, List.set_cons_succ, i64_w, i32_w]
                                rfl
                              refine take_ (i := 1) (N := some 68) (v := ?_) (a' := ?_) #[true, true, true, true, false, false, false, false, true, true, true, false, false, false] rfl rfl (take_ofW HT_.out HW_.out (by kernel_rfl)) (fun _ _ _ h => h) (Or.inl ⟨by rfl, ?_⟩) hHeld ?_ ?_
                              rotate_left
                              · rintro w' ⟨s0, s1, s2, s3, s4, s5⟩
                                go_simp
                                with_reducible rfl
                              rotate_left
                              · simp only [Act.put, List.setIfInBounds_toArray, List.set_cons_zero, List.set_cons_succ, i64_w, i32_w]
                                rfl
                              refine take_ (i := 4) (N := some 71) (v := ?_) (a' := ?_) #[true, true, true, true, true, false, false, false, true, true, true, false, false, false] rfl rfl (take_ofW HT_.out HW_.out (by kernel_rfl)) (fun _ _ _ h => h) (Or.inl ⟨by rfl, ?_⟩) hHeld ?_ ?_
                              rotate_left
                              · rintro w' ⟨s0, s1, s2, s3, s4, s5⟩
                                go_simp
                                with_reducible rfl
                              rotate_left
                              · simp only [Act.put, List.setIfInBounds_toArray, List.set_cons_zero, List.set_cons_succ, i64_w, i32_w]
                                rfl
                              refine pure_ (i := 5) (N := some 72) (v := ?_) (a' := ?_) #[true, true, true, true, true, true, false, false, true, true, true, false, false, false] rfl rfl (any_of HT_.out (by kernel_rfl)) (fun _ _ _ h => h) (Or.inl ⟨by rfl, ?_⟩) ?_ ?_
                              rotate_left
                              · intro w'
                                go_simp
                                with_reducible rfl
                              rotate_left
                              · simp only [Act.put, List.setIfInBounds_toArray, List.set_cons_zero, List.set_cons_succ, i64_w, i32_w]
                                rfl
                              refine pure_ (i := 6) (N := some 73) (v := ?_) (a' := ?_) #[true, true, true, true, true, true, true, false, true, true, true, false, false, false] rfl rfl (any_of HT_.out (by kernel_rfl)) (fun _ _ _ h => h) (Or.inl ⟨by rfl, ?_⟩) ?_ ?_
                              rotate_left
                              · intro w'
                                go_simp
                                with_reducible rfl
                              rotate_left
                              · simp only [Act.put, List.setIfInBounds_toArray, List.set_cons_zero, List.set_cons_succ, i64_w, i32_w]
                                rfl
                              refine pure_ (i := 7) (N := some 74) (v := ?_) (a' := ?_) #[true, true, true, true, true, true, true, true, true, true, true, false, false, false] rfl rfl (any_of HT_.out (by kernel_rfl)) (fun _ _ _ h => h) (Or.inl ⟨by rfl, ?_⟩) ?_ ?_
                              rotate_left
                              · intro w'
                                go_simp
                                with_reducible rfl
                              rotate_left
                              · simp only [Act.put, List.setIfInBounds_toArray, List.set_cons_zero, List.set_cons_succ, i64_w, i32_w]
                                rfl
                              refine one_ (i := 11) (N := some 78) #[true, true, true, true, true, true, true, true, true, true, true, true, false, false] rfl rfl (one_of HT_.out (by kernel_rfl)) (by decide) (fun K hK => ?_)
                              refine Kd.R_append_rows_step k54 (w0 := w) w.heap.size (by rfl) (.tmp 74) (.tmp 77) 27 54 (.agg #[(.int .i64 0), (.string ⟨#[]⟩)]) 24 rfl Try.underlying27 info54 rfl (by decide) (by omega) (.slice Ao115 y572.length co115) y572 y575 _ _ _ (fun k_ => k_ ≠ gb559) (fun _ => False) rfl rfl ?aO ?aR (fun _ _ h => h) (fun _ h => h.elim) ?aF ?aB ?aS ?aL ?_
                              (case aR => repeat (first | exact (Kd.C_below HR578.out HB.out) | (with_reducible refine Kd.C_alloc ?_ _) | (with_reducible refine Kd.C_drewN ?_ _) | (with_reducible refine Kd.C_drew ?_)))
                              (case aB => exact (by repeat (first | (with_reducible first | exact HB.out | apply below_alloc | apply pw_below_drewN | apply below_drew1 | refine below_set ?_ GE547.out | refine below_set ?_ GE548.out | refine below_set ?_ GE554.out | refine below_set ?_ GE559.out) | exact HB.out)))
                              (case aF => exact (fun k_ hk => Kd.freshB (g := gb559) (o := .cells #[.int .i64 ((rd_T54 l3 x46_2).f0), .string ((rd_T54 l3 x46_2).f1)] 54 (0, 0)) (by (with_reducible repeat (first | refine blk_drewN ?_ _ | refine blk_drew ?_ | refine blk_alloc ?_ _)); exact BK559.out) k_ hk))
                              (case aO => exact (by (with_reducible repeat (first | apply Kd.R_alloc | apply Kd.R_drewN | apply Kd.R_drew)); exact HO574.out))
                              (case aS => exact (below_size (by repeat (first | (with_reducible first | exact HB.out | apply below_alloc | apply pw_below_drewN | apply below_drew1 | refine below_set ?_ GE547.out | refine below_set ?_ GE548.out | refine below_set ?_ GE554.out | refine below_set ?_ GE559.out) | exact HB.out))))
                              (case aL => have := LMc105.out; omega)
                              intro v580 w118 ho hb hg hat
                              rw [← Ny579.out] at ho
                              have n0_ := Aside0.mk (blk_grown (g := gb547) (o := .cells #[.int .i64 a0_0, .int .i64 a0_1, .slice A0_2 l0_2.length c0_2] 29 (0, 0)) (by (with_reducible repeat (first | refine blk_drewN ?_ _ | refine blk_drew ?_ | refine blk_alloc ?_ _)); exact BK547.out) hg (Kd.R_ne HO574.out BK547.out (by decide)))
                              have n1_ := Aside0.mk (blk_grown (g := gb548) (o := .cells #[.int .i64 0, .int .i64 0, .slice none 0 0] 29 (0, 0)) (by (with_reducible repeat (first | refine blk_drewN ?_ _ | refine blk_drew ?_ | refine blk_alloc ?_ _)); exact BK548.out) hg (Kd.R_ne HO574.out BK548.out (by decide)))
                              have n2_ := Aside0.mk (blk_grown (g := gb554) (o := .cells #[.int .i64 t549, .int .i64 t550, .slice Ao115 x555002_2.length co115] 29 (0, 0)) (by (with_reducible repeat (first | refine blk_drewN ?_ _ | refine blk_drew ?_ | refine blk_alloc ?_ _)); exact BK554.out) hg (Kd.R_ne HO574.out BK554.out (by decide)))
                              have n3_ := Aside0.mk (blk_grown (g := gb559) (o := .cells #[.int .i64 ((rd_T54 l3 x46_2).f0), .string ((rd_T54 l3 x46_2).f1)] 54 (0, 0)) (by (with_reducible repeat (first | refine blk_drewN ?_ _ | refine blk_drew ?_ | refine blk_alloc ?_ _)); exact BK559.out) hg (Kd.R_away HO574.out (fun _ hk => hk)))
                              have n4_ := Aside0.mk (hb)
                              have n5_ := Aside0.mk (ho)
                              clear BK547
                              clear BK548
                              clear BK554
                              clear BK559
                              clear HB
                              clear HO574
                              have BK547 := n0_
                              have BK548 := n1_
                              have BK554 := n2_
                              have BK559 := n3_
                              have HB := n4_
                              have HO581 := n5_
                              clear n0_ n1_ n2_ n3_ n4_ n5_
                              clear ho hb hg hat
                              obtain ⟨Ao119, co119, eo119⟩ := Kd.R_slice HO581.out
                              (first | subst eo119 | (injection eo119 with f1_ f2_ f3_; have f4_ := f1_.symm; have f5_ := f3_.symm; clear f1_ f2_ f3_; subst f4_; subst f5_))
                              refine hK.out _ _ ⟨(blk_cell BK554.out 0).trans rfl, (blk_cell BK554.out 1).trans rfl, (blk_cell BK554.out 2).trans rfl, (blk_cell BK547.out 0).trans rfl, (blk_cell BK547.out 1).trans rfl, (blk_cell BK547.out 2).trans rfl⟩ (fun hHeld => ?_)
                              clear hK K
                              refine norm_ (a' := ?_) ?_ ?_
                              rotate_left
                              · show Act.put _ (some 78) _ = _
                                simp only [Act.put, List.setIfInBounds_toArray, List.set_cons_zero, List.set_cons_succ, i64_w, i32_w]
                                rfl
                              refine pure_ (i := 12) (N := some 79) (v := ?_) (a' := ?_) #[true, true, true, true, true, true, true, true, true, true, true, true, true, false] rfl rfl (any_of HT_.out (by kernel_rfl)) (fun _ _ _ h => h) (Or.inl ⟨by rfl, ?_⟩) ?_ ?_
                              rotate_left
                              · intro w'
                                go_simp
                                with_reducible rfl
                              rotate_left
                              · simp only [Act.put, List.setIfInBounds_toArray, List.set_cons_zero, List.set_cons_succ, i64_w, i32_w]
                                rfl
                              refine last_ (i := 13) (N := none) #[true, true, true, true, true, true, true, true, true, true, true, true, true, true] rfl rfl (one_of HT_.out (by kernel_rfl)) (by decide) (fun K hK => ?_)
                              have hs120 : w118.cell? ⟨gb554, 2, none⟩ = some (.slice Ao115 x555002_2.length co115) := (blk_cell BK554.out 2).trans rfl
                              have hfs120 := blk_frozen BK554.out 2
                              have hns120_0 := NB547_554.out
                              have hns120_1 := NB548_554.out
                              have hns120_3 := NB559_554.out
                              have hms120_0 := NB554_547.out
                              have hms120_1 := NB554_548.out
                              have hms120_3 := NB554_559.out
                              refine skip_ (w1 := ?_) (by rfl) rfl ?_ ?_
                              rotate_left
                              · go_simp
                                rfl
                              refine hK.out _ _ ?_
                              clear hK K
                              refine done_ (done_of HT_.out (by kernel_rfl)) ?_
                              try go_wp2
                              go_meet
                              case rel => exact ⟨_, (y579), (.slice Ao119 y579.length co119), H', ⟨by have := HJ5.out; have := HK2.out; first | omega | exact Nat.le_refl _⟩, ⟨by (with_reducible repeat (first | apply Kd.R_alloc | apply Kd.R_drewN | apply Kd.R_drew)); exact Kd.R_mono (Kd.R_far (p := ⟨gb554, 2, none⟩) (Kd.R_types HO581.out BK554.out (by decide)) (fun _ hk => hk.2) (.slice Ao119 y579.length co119)) (fun _ hk => trivial)⟩, ⟨by (with_reducible repeat (first | refine blk_drewN ?_ _ | refine blk_drew ?_ | refine blk_alloc ?_ _)); refine blk_far ?_ NB547_554.out _; (with_reducible repeat (first | refine blk_drewN ?_ _ | refine blk_drew ?_ | refine blk_alloc ?_ _)); exact BK547.out⟩, ⟨by (with_reducible repeat (first | refine blk_drewN ?_ _ | refine blk_drew ?_ | refine blk_alloc ?_ _)); refine blk_far ?_ NB548_554.out _; (with_reducible repeat (first | refine blk_drewN ?_ _ | refine blk_drew ?_ | refine blk_alloc ?_ _)); exact BK548.out⟩, ⟨by (with_reducible repeat (first | refine blk_drewN ?_ _ | refine blk_drew ?_ | refine blk_alloc ?_ _)); refine blk_put (cs := #[.int .i64 t549, .int .i64 t550, .slice Ao115 x555002_2.length co115]) ?_ 2 _ rfl; (with_reducible repeat (first | refine blk_drewN ?_ _ | refine blk_drew ?_ | refine blk_alloc ?_ _)); exact BK554.out⟩, ⟨by repeat (first | (with_reducible first | exact HB.out | apply below_alloc | apply pw_below_drewN | apply below_drew1 | refine below_set ?_ GE547.out | refine below_set ?_ GE548.out | refine below_set ?_ GE554.out | refine below_set ?_ GE559.out) | exact HB.out)⟩⟩
                            · rw [if_neg c105] at H
                              exact absurd H (by simp)
                          · rw [if_neg c104] at H
                            exact absurd H (by simp)
                        · rw [if_neg c102] at H
                          exact absurd H (by simp)
                      · rw [if_neg c101] at H
                        exact absurd H (by simp)
                  · rw [if_neg c64] at H
                    exact absurd H (by simp)
                · rw [if_neg c63] at H
                  exact absurd H (by simp)
              · rw [if_neg c62] at H
                have c62b0 : decide (x46_2 < (l3.length : Int)) = false := decide_eq_false c62
                clear c62
                (first | rw [c62b0] | (simp only [i64_w, i32_w]; rw [c62b0]) | skip)
                have H' := Aside0.mk H
                clear H
                go_wp2
                go_meet
                case rel => exact ⟨_, (x555002_2), (u555002), H', ⟨by have := HJ5.out; have := HK2.out; first | omega | exact Nat.le_refl _⟩, ⟨by (with_reducible repeat (first | apply Kd.R_alloc | apply Kd.R_drewN | apply Kd.R_drew)); exact HO_555002.out⟩, ⟨by (with_reducible repeat (first | refine blk_drewN ?_ _ | refine blk_drew ?_ | refine blk_alloc ?_ _)); exact BK547.out⟩, ⟨by (with_reducible repeat (first | refine blk_drewN ?_ _ | refine blk_drew ?_ | refine blk_alloc ?_ _)); exact BK548.out⟩, ⟨by (with_reducible repeat (first | refine blk_drewN ?_ _ | refine blk_drew ?_ | refine blk_alloc ?_ _)); exact BK554.out⟩, ⟨by repeat (first | (with_reducible first | exact HB.out | apply below_alloc | apply pw_below_drewN | apply below_drew1 | refine below_set ?_ GE547.out | refine below_set ?_ GE548.out | refine below_set ?_ GE554.out) | exact HB.out)⟩⟩
        case rest =>
          clear HC61
          try clear c1
          try clear q1
          try clear p2
          try clear c3
          try clear c4
          try clear p5
          try clear q5
          try clear hx5
          try clear c6
          try clear p6
          try clear c7
          try clear c8
          try clear c9
          try clear q9
          try clear c10
          try clear c11
          try clear q11
          try clear c46
          try clear p55
          try clear q55
          try clear hx55
          try clear c62
          try clear c62b0
          try clear c63
          try clear c64
          try clear p64
          try clear c66
          try clear c66b0
          try clear c79
          try clear c80
          try clear c82
          try clear c83
          try clear c96
          try clear q96
          try clear c101
          try clear c101b0
          try clear c101b1
          try clear c102
          try clear c102b0
          try clear c102b1
          try clear c103
          try clear c103b0
          try clear c104
          try clear c104b0
          try clear c104b1
          try clear c105
          try clear c107
          try clear c108
          try clear c109
          try clear q116
          try clear c117
          try clear q117
          try clear hcz110_0
          try clear hcz110_1
          try clear hfz110_0
          try clear hfz110_1
          try clear hx558_0
          try clear hx558_1
          try clear p558
          try clear q0117
          try clear q116
          try clear q117
          try clear q558
          try clear q96
          obtain ⟨kq, x555002_60, u555002, HA, HJ60, HO_555002, BK547, BK548, BK554, HB⟩ := hcut
          cases kq with
          | zero => exact absurd HA.out (by simp [impl_AppendTo.j2])
          | succ kj60 =>
            have H := HA.out
            clear HA
            simp only [impl_AppendTo.j2] at H
            replace H := Option.bind_eq_some_iff.mp H
            obtain ⟨t582, A1210, H⟩ := H
            replace H : (if t582 = true then (some (t549, t550, x555002_60, true)) else ((impl_copyRLog.f a0_0 a0_1 l0_2).bind fun bt583 => (some (bt583.1, bt583.2.1, bt583.2.2, false)))) = some (r1, r2, r3, r4) := H
            have A121 := Aside0.mk A1210
            clear A1210
            by_cases c122 : t582 = true
            · subst c122
              have H1 : (some (t549, t550, x555002_60, true)) = some (r1, r2, r3, r4) := by rw [if_pos rfl] at H; exact H
              clear H
              have H := H1
              clear H1
              simp only [Option.some.injEq, Prod.mk.injEq] at H
              obtain ⟨rfl, rfl, rfl, rfl⟩ := H
              have hnb123 := NB554_547.out
              have hnc123 := NB547_554.out
              have hnb124 := NB554_548.out
              have hnc124 := NB548_554.out
              have hcz125_0 : wc.cell? ⟨gb554, 0, none⟩ = some (.int .i64 t549) := (blk_cell BK554.out 0).trans rfl
              have hcz125_1 : wc.cell? ⟨gb554, 1, none⟩ = some (.int .i64 t550) := (blk_cell BK554.out 1).trans rfl
              have hcz125_2 : wc.cell? ⟨gb554, 2, none⟩ = some (u555002) := (blk_cell BK554.out 2).trans rfl
              have hfz125_0 := blk_frozen BK554.out 0
              have hfz125_1 := blk_frozen BK554.out 1
              have hfz125_2 := blk_frozen BK554.out 2
              obtain ⟨Ao126, co126, eo126⟩ := Kd.R_slice HO_555002.out
              subst eo126
              go_wp2_with (first | ((with_reducible refine gate_callee (f := 45) rfl ?_); refine goesL_ (some 82) rfl rfl Try.func45 (by kernel_rfl) rfl #[.agg #[.int .i64 t549, .int .i64 t550, .slice Ao126 x555002_60.length co126]] rfl (by (try simp only [List.map_toArray, List.map_cons, List.map_nil]); first | done | rfl | (simp only [List.length_drop, List.length_take]; rfl)) ?_; (with_reducible refine (impl_isRLog.calls kj60 t549 t550 _ _ x555002_60 true _ ?side1 ?side2 A121.out).mono ?_); (case side1 => repeat (first | exact (Kd.R_reads' HO_555002.out).2.2 | (with_reducible refine Kd.C_alloc ?_ _) | (with_reducible refine Kd.C_drewN ?_ _) | (with_reducible refine Kd.C_drew ?_))); (case side2 => exact (Kd.R_reads' HO_555002.out).2.1); rintro e w127 ⟨rfl, hb⟩; refine ⟨_, rfl, ?_⟩; have n0_ := Aside0.mk (Kd.R_below (by (with_reducible repeat (first | apply Kd.R_alloc | apply Kd.R_drewN | apply Kd.R_drew)); exact HO_555002.out) hb); have n1_ := Aside0.mk (blk_below (g := gb547) (o := .cells #[.int .i64 a0_0, .int .i64 a0_1, .slice A0_2 l0_2.length c0_2] 29 (0, 0)) (by (with_reducible repeat (first | refine blk_drewN ?_ _ | refine blk_drew ?_ | refine blk_alloc ?_ _)); exact BK547.out) hb); have n2_ := Aside0.mk (blk_below (g := gb548) (o := .cells #[.int .i64 0, .int .i64 0, .slice none 0 0] 29 (0, 0)) (by (with_reducible repeat (first | refine blk_drewN ?_ _ | refine blk_drew ?_ | refine blk_alloc ?_ _)); exact BK548.out) hb); have n3_ := Aside0.mk (blk_below (g := gb554) (o := .cells #[.int .i64 t549, .int .i64 t550, .slice Ao126 x555002_60.length co126] 29 (0, 0)) (by (with_reducible repeat (first | refine blk_drewN ?_ _ | refine blk_drew ?_ | refine blk_alloc ?_ _)); exact BK554.out) hb); have n4_ := Aside0.mk (below_step (by repeat (first | (with_reducible first | exact HB.out | apply below_alloc | apply pw_below_drewN | apply below_drew1 | refine below_set ?_ GE547.out | refine below_set ?_ GE548.out | refine below_set ?_ GE554.out) | exact HB.out)) hb); clear HO_555002; clear BK547; clear BK548; clear BK554; clear HB; have HO_555002 := n0_; have BK547 := n1_; have BK548 := n2_; have BK554 := n3_; have HB := n4_; clear n0_ n1_ n2_ n3_ n4_; (try clear hb); (try clear hb2); (try clear hk); (try clear hi); have hcz128_0 : w127.cell? ⟨gb554, 0, none⟩ = some (.int .i64 t549) := (blk_cell BK554.out 0).trans rfl; have hcz128_1 : w127.cell? ⟨gb554, 1, none⟩ = some (.int .i64 t550) := (blk_cell BK554.out 1).trans rfl; have hcz128_2 : w127.cell? ⟨gb554, 2, none⟩ = some (.slice Ao126 x555002_60.length co126) := (blk_cell BK554.out 2).trans rfl; have hfz128_0 := blk_frozen BK554.out 0; have hfz128_1 := blk_frozen BK554.out 1; have hfz128_2 := blk_frozen BK554.out 2; have hnb129 := NB548_547.out; have hnc129 := NB547_548.out; have hcz130_0 : w127.cell? ⟨gb548, 0, none⟩ = some (.int .i64 0) := (blk_cell BK548.out 0).trans rfl; have hcz130_1 : w127.cell? ⟨gb548, 1, none⟩ = some (.int .i64 0) := (blk_cell BK548.out 1).trans rfl; have hcz130_2 : w127.cell? ⟨gb548, 2, none⟩ = some (.slice none 0 0) := (blk_cell BK548.out 2).trans rfl; have hfz130_0 := blk_frozen BK548.out 0; have hfz130_1 := blk_frozen BK548.out 1; have hfz130_2 := blk_frozen BK548.out 2))
              refine bodyPost_ret (results_ct rfl _ _ gb548 29 #[.int .i64 t549, .int .i64 t550, .slice Ao126 x555002_60.length co126] (0, 0) _ rfl (by (with_reducible repeat (first | refine blk_drewN ?_ _ | refine blk_drew ?_ | refine blk_alloc ?_ _)); refine blk_put (cs := #[.int .i64 t549, .int .i64 t550, .slice none 0 0]) ?_ 2 _ rfl; (with_reducible repeat (first | refine blk_drewN ?_ _ | refine blk_drew ?_ | refine blk_alloc ?_ _)); refine blk_put (cs := #[.int .i64 t549, .int .i64 0, .slice none 0 0]) ?_ 1 _ rfl; (with_reducible repeat (first | refine blk_drewN ?_ _ | refine blk_drew ?_ | refine blk_alloc ?_ _)); refine blk_put (cs := #[.int .i64 0, .int .i64 0, .slice none 0 0]) ?_ 0 _ rfl; (with_reducible repeat (first | refine blk_drewN ?_ _ | refine blk_drew ?_ | refine blk_alloc ?_ _)); exact BK548.out) Try.underlying29 rfl (by kernel_rfl)) rfl ?_
              exact ⟨_, by first | rfl | (simp [errW_none, errW_some] <;> rfl) | (simp [*, errW_none, errW_some] <;> rfl), by (with_reducible repeat (first | apply Kd.R_alloc | apply Kd.R_drewN | apply Kd.R_drew)); exact Kd.R_mono (Kd.R_far (p := ⟨gb548, 2, none⟩) (Kd.R_far (p := ⟨gb548, 1, none⟩) (Kd.R_far (p := ⟨gb548, 0, none⟩) (Kd.R_types HO_555002.out BK548.out (by decide)) (fun _ hk => hk.2) (.int .i64 t549)) (fun _ hk => hk.2) (.int .i64 t550)) (fun _ hk => hk.2) (.slice Ao126 x555002_60.length co126)) (fun _ hk => trivial), by repeat (first | (with_reducible first | exact HB.out | apply below_alloc | apply pw_below_drewN | apply below_drew1 | refine below_set ?_ GE547.out | refine below_set ?_ GE548.out | refine below_set ?_ GE554.out) | exact HB.out)⟩
            · replace c122 := Bool.eq_false_iff.mpr c122
              subst c122
              have H1 : ((impl_copyRLog.f a0_0 a0_1 l0_2).bind fun bt583 => (some (bt583.1, bt583.2.1, bt583.2.2, false))) = some (r1, r2, r3, r4) := by rw [if_neg (show ¬ (false = true) by decide)] at H; exact H
              clear H
              have H := H1
              clear H1
              replace H := Option.bind_eq_some_iff.mp H
              obtain ⟨⟨t583, t584, t585⟩, A1310, H⟩ := H
              replace H : (some (t583, t584, t585, false)) = some (r1, r2, r3, r4) := H
              have A131 := Aside0.mk A1310
              clear A1310
              simp only [Option.some.injEq, Prod.mk.injEq] at H
              obtain ⟨rfl, rfl, rfl, rfl⟩ := H
              have hnb132 := NB554_547.out
              have hnc132 := NB547_554.out
              have hnb133 := NB554_548.out
              have hnc133 := NB548_554.out
              have hcz134_0 : wc.cell? ⟨gb554, 0, none⟩ = some (.int .i64 t549) := (blk_cell BK554.out 0).trans rfl
              have hcz134_1 : wc.cell? ⟨gb554, 1, none⟩ = some (.int .i64 t550) := (blk_cell BK554.out 1).trans rfl
              have hcz134_2 : wc.cell? ⟨gb554, 2, none⟩ = some (u555002) := (blk_cell BK554.out 2).trans rfl
              have hfz134_0 := blk_frozen BK554.out 0
              have hfz134_1 := blk_frozen BK554.out 1
              have hfz134_2 := blk_frozen BK554.out 2
              obtain ⟨Ao135, co135, eo135⟩ := Kd.R_slice HO_555002.out
              subst eo135
              go_wp2_with (first | ((with_reducible refine gate_callee (f := 45) rfl ?_); refine goesL_ (some 82) rfl rfl Try.func45 (by kernel_rfl) rfl #[.agg #[.int .i64 t549, .int .i64 t550, .slice Ao135 x555002_60.length co135]] rfl (by (try simp only [List.map_toArray, List.map_cons, List.map_nil]); first | done | rfl | (simp only [List.length_drop, List.length_take]; rfl)) ?_; (with_reducible refine (impl_isRLog.calls kj60 t549 t550 _ _ x555002_60 false _ ?side1 ?side2 A121.out).mono ?_); (case side1 => repeat (first | exact (Kd.R_reads' HO_555002.out).2.2 | (with_reducible refine Kd.C_alloc ?_ _) | (with_reducible refine Kd.C_drewN ?_ _) | (with_reducible refine Kd.C_drew ?_))); (case side2 => exact (Kd.R_reads' HO_555002.out).2.1); rintro e w136 ⟨rfl, hb⟩; refine ⟨_, rfl, ?_⟩; have n0_ := Aside0.mk (Kd.R_below (by (with_reducible repeat (first | apply Kd.R_alloc | apply Kd.R_drewN | apply Kd.R_drew)); exact HO_555002.out) hb); have n1_ := Aside0.mk (blk_below (g := gb547) (o := .cells #[.int .i64 a0_0, .int .i64 a0_1, .slice A0_2 l0_2.length c0_2] 29 (0, 0)) (by (with_reducible repeat (first | refine blk_drewN ?_ _ | refine blk_drew ?_ | refine blk_alloc ?_ _)); exact BK547.out) hb); have n2_ := Aside0.mk (blk_below (g := gb548) (o := .cells #[.int .i64 0, .int .i64 0, .slice none 0 0] 29 (0, 0)) (by (with_reducible repeat (first | refine blk_drewN ?_ _ | refine blk_drew ?_ | refine blk_alloc ?_ _)); exact BK548.out) hb); have n3_ := Aside0.mk (blk_below (g := gb554) (o := .cells #[.int .i64 t549, .int .i64 t550, .slice Ao135 x555002_60.length co135] 29 (0, 0)) (by (with_reducible repeat (first | refine blk_drewN ?_ _ | refine blk_drew ?_ | refine blk_alloc ?_ _)); exact BK554.out) hb); have n4_ := Aside0.mk (below_step (by repeat (first | (with_reducible first | exact HB.out | apply below_alloc | apply pw_below_drewN | apply below_drew1 | refine below_set ?_ GE547.out | refine below_set ?_ GE548.out | refine below_set ?_ GE554.out) | exact HB.out)) hb); clear HO_555002; clear BK547; clear BK548; clear BK554; clear HB; have HO_555002 := n0_; have BK547 := n1_; have BK548 := n2_; have BK554 := n3_; have HB := n4_; clear n0_ n1_ n2_ n3_ n4_; (try clear hb); (try clear hb2); (try clear hk); (try clear hi); have hnb137 := NB547_548.out; have hnc137 := NB548_547.out; have hcz138_0 : w136.cell? ⟨gb547, 0, none⟩ = some (.int .i64 a0_0) := (blk_cell BK547.out 0).trans rfl; have hcz138_1 : w136.cell? ⟨gb547, 1, none⟩ = some (.int .i64 a0_1) := (blk_cell BK547.out 1).trans rfl; have hcz138_2 : w136.cell? ⟨gb547, 2, none⟩ = some (.slice A0_2 l0_2.length c0_2) := (blk_cell BK547.out 2).trans rfl; have hfz138_0 := blk_frozen BK547.out 0; have hfz138_1 := blk_frozen BK547.out 1; have hfz138_2 := blk_frozen BK547.out 2) | ((with_reducible refine gate_callee (f := 52) rfl ?_); refine goesL_ (some 85) rfl rfl Try.func52 (by kernel_rfl) rfl #[.agg #[.int .i64 a0_0, .int .i64 a0_1, .slice A0_2 l0_2.length c0_2]] rfl (by (try simp only [List.map_toArray, List.map_cons, List.map_nil]); first | done | rfl | (simp only [List.length_drop, List.length_take]; rfl)) ?_; (with_reducible refine (impl_copyRLog.calls a0_0 a0_1 _ _ l0_2 t583 t584 t585 _ ?side1 ?side2 A131.out).mono ?_); (case side1 => repeat (first | exact (Kd.C_below HR0_2.out HB.out) | (with_reducible refine Kd.C_alloc ?_ _) | (with_reducible refine Kd.C_drewN ?_ _) | (with_reducible refine Kd.C_drew ?_))); (case side2 => exact HC0_2.out); rintro e w139 ⟨v586, rfl, ho0, hb⟩; refine ⟨_, rfl, ?_⟩; have n0_ := Aside0.mk (Kd.R_elder' (by (with_reducible repeat (first | apply Kd.R_alloc | apply Kd.R_drewN | apply Kd.R_drew)); exact HO_555002.out) (Kd.R_base ho0) hb); have n1_ := Aside0.mk (Kd.R_lower (Kd.R_new' ho0 (Kd.R_lt (by (with_reducible repeat (first | apply Kd.R_alloc | apply Kd.R_drewN | apply Kd.R_drew)); exact HO_555002.out))) (below_size (by repeat (first | (with_reducible first | exact HB.out | apply below_alloc | apply pw_below_drewN | apply below_drew1 | refine below_set ?_ GE547.out | refine below_set ?_ GE548.out | refine below_set ?_ GE554.out) | exact HB.out)))); have n2_ := Aside0.mk (blk_below (g := gb547) (o := .cells #[.int .i64 a0_0, .int .i64 a0_1, .slice A0_2 l0_2.length c0_2] 29 (0, 0)) (by (with_reducible repeat (first | refine blk_drewN ?_ _ | refine blk_drew ?_ | refine blk_alloc ?_ _)); exact BK547.out) hb); have n3_ := Aside0.mk (blk_below (g := gb548) (o := .cells #[.int .i64 0, .int .i64 0, .slice none 0 0] 29 (0, 0)) (by (with_reducible repeat (first | refine blk_drewN ?_ _ | refine blk_drew ?_ | refine blk_alloc ?_ _)); exact BK548.out) hb); have n4_ := Aside0.mk (blk_below (g := gb554) (o := .cells #[.int .i64 t549, .int .i64 t550, .slice Ao135 x555002_60.length co135] 29 (0, 0)) (by (with_reducible repeat (first | refine blk_drewN ?_ _ | refine blk_drew ?_ | refine blk_alloc ?_ _)); exact BK554.out) hb); have n5_ := Aside0.mk (below_step (by repeat (first | (with_reducible first | exact HB.out | apply below_alloc | apply pw_below_drewN | apply below_drew1 | refine below_set ?_ GE547.out | refine below_set ?_ GE548.out | refine below_set ?_ GE554.out) | exact HB.out)) hb); clear HO_555002; clear BK547; clear BK548; clear BK554; clear HB; have HO_555002 := n0_; have HO587 := n1_; have BK547 := n2_; have BK548 := n3_; have BK554 := n4_; have HB := n5_; clear n0_ n1_ n2_ n3_ n4_ n5_; (try clear hb); (try clear hb2); (try clear hk); (try clear hi); (try clear ho0); have hcz140_0 : w139.cell? ⟨gb548, 0, none⟩ = some (.int .i64 0) := (blk_cell BK548.out 0).trans rfl; have hcz140_1 : w139.cell? ⟨gb548, 1, none⟩ = some (.int .i64 0) := (blk_cell BK548.out 1).trans rfl; have hcz140_2 : w139.cell? ⟨gb548, 2, none⟩ = some (.slice none 0 0) := (blk_cell BK548.out 2).trans rfl; have hfz140_0 := blk_frozen BK548.out 0; have hfz140_1 := blk_frozen BK548.out 1; have hfz140_2 := blk_frozen BK548.out 2; obtain ⟨Ao141, co141, eo141⟩ := Kd.R_slice HO587.out; subst eo141))
              refine bodyPost_ret (results_ct rfl _ _ gb548 29 #[.int .i64 t583, .int .i64 t584, .slice Ao141 t585.length co141] (0, 0) _ rfl (by (with_reducible repeat (first | refine blk_drewN ?_ _ | refine blk_drew ?_ | refine blk_alloc ?_ _)); refine blk_put (cs := #[.int .i64 t583, .int .i64 t584, .slice none 0 0]) ?_ 2 _ rfl; (with_reducible repeat (first | refine blk_drewN ?_ _ | refine blk_drew ?_ | refine blk_alloc ?_ _)); refine blk_put (cs := #[.int .i64 t583, .int .i64 0, .slice none 0 0]) ?_ 1 _ rfl; (with_reducible repeat (first | refine blk_drewN ?_ _ | refine blk_drew ?_ | refine blk_alloc ?_ _)); refine blk_put (cs := #[.int .i64 0, .int .i64 0, .slice none 0 0]) ?_ 0 _ rfl; (with_reducible repeat (first | refine blk_drewN ?_ _ | refine blk_drew ?_ | refine blk_alloc ?_ _)); exact BK548.out) Try.underlying29 rfl (by kernel_rfl)) rfl ?_
              exact ⟨_, by first | rfl | (simp [errW_none, errW_some] <;> rfl) | (simp [*, errW_none, errW_some] <;> rfl), by (with_reducible repeat (first | apply Kd.R_alloc | apply Kd.R_drewN | apply Kd.R_drew)); exact Kd.R_mono (Kd.R_far (p := ⟨gb548, 2, none⟩) (Kd.R_far (p := ⟨gb548, 1, none⟩) (Kd.R_far (p := ⟨gb548, 0, none⟩) (Kd.R_types HO587.out BK548.out (by decide)) (fun _ hk => hk.2) (.int .i64 t583)) (fun _ hk => hk.2) (.int .i64 t584)) (fun _ hk => hk.2) (.slice Ao141 t585.length co141)) (fun _ hk => trivial), by repeat (first | (with_reducible first | exact HB.out | apply below_alloc | apply pw_below_drewN | apply below_drew1 | refine below_set ?_ GE547.out | refine below_set ?_ GE548.out | refine below_set ?_ GE554.out) | exact HB.out)⟩
end Go.Proofs.Ytalbkbmnjpameaa.F
