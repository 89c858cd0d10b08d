/- Merged texts below the law FnAppended: Go functions as Lean functions, their contracts, and plain lemmas. -/
import Derived.Test.YtalbkbmnjpameaaQFnAppended22
import Derived.Test.YtalbkbmnjpameaaQFnAppended23
namespace Go.Proofs.Ytalbkbmnjpameaa.F
open Go.RowKit Go.Proofs.YtalbkbmnjpameaaW.PrintWords Go.Proofs.YtalbkbmnjpameaaW.PrintWords.Kd Go.Proofs.YtalbkbmnjpameaaW.PrintMore.Kd Go.Proofs.YtalbkbmnjpameaaW.PrintLast Go.Proofs.YtalbkbmnjpameaaW.PrintMore
attribute [local go_sem] max2_int min2_int max_two min_two max_three min_three max_four min_four   -- for this text's walks alone
set_option linter.unusedVariables false
set_option linter.unusedSimpArgs false
mutual
def impl_AppendTo.j0 : Nat → Int → List (S54) → Bool → Int → Int → List (S54) → Int → Int → List (S54) → Option (Int × Int × (List (S54)) × Bool)
 | 0, _, _, _, _, _, _, _, _, _ => none
 | k + 1, x1, x3, x42, x625000, x625001, x625002, x632000, x632001, x632002 => if x42 = true then (some (x632000, x632001, x632002, false)) else (impl_AppendTo.l0 k x1 x3 x3 (x3.length : Int) 0 x625000 x625001 x625002 x632000 x632001 x632002)
def impl_AppendTo.j2 : Nat → Int → Int → List (S54) → Int → Int → List (S54) → Option (Int × Int × (List (S54)) × Bool)
 | 0, _, _, _, _, _, _ => none
 | k + 1, x625000, x625001, x625002, x632000, x632001, x632002 => (impl_isRLog.f k x632000 x632001 x632002).bind fun t659 => (if t659 = true then (some (x632000, x632001, x632002, true)) else ((impl_copyRLog.f x625000 x625001 x625002).bind fun bt660 => (some (bt660.1, bt660.2.1, bt660.2.2, false))))
def impl_AppendTo.l0 : Nat → Int → List (S54) → List (S54) → Int → Int → Int → Int → List (S54) → Int → Int → List (S54) → Option (Int × Int × (List (S54)) × Bool)
 | 0, _, _, _, _, _, _, _, _, _, _, _ => none
 | k + 1, x1, x3, x44, x45, x46, x625000, x625001, x625002, x632000, x632001, x632002 => if x46 < x45 then (if 0 ≤ x46 then (if x46 < (x44.length : Int) then ((impl_RLog_last.f x625000 x625001 x625002).bind fun t637 => (if (wrap64 ((wrap64 (x1 + 1)) + x46)) ≤ t637 then ((impl_RLog_term.f x625000 x625001 x625002 (wrap64 ((wrap64 (x1 + 1)) + x46))).bind fun t638 => (if t638 = ((rd_T54 x44 x46).f0) then (impl_AppendTo.l0 k x1 x3 x44 x45 (wrap64 (x46 + 1)) x625000 x625001 x625002 x632000 x632001 x632002) else (if 0 ≤ (wrap64 ((wrap64 ((wrap64 ((wrap64 (x1 + 1)) + x46)) - x625000)) - 1)) then (if (wrap64 ((wrap64 ((wrap64 ((wrap64 (x1 + 1)) + x46)) - x625000)) - 1)) ≤ (x632002.length : Int) then ((some (x632002.take ((wrap64 ((wrap64 ((wrap64 ((wrap64 (x1 + 1)) + x46)) - x625000)) - 1)) : Int).toNat : List (S54))).bind fun y639 => (if x46 ≤ (x3.length : Int) then ((some (x3.drop (x46 : Int).toNat : List (S54))).bind fun y642 => (if y639.length + y642.length < 5864062014805 then (impl_AppendTo.j2 k x625000 x625001 x625002 x632000 x632001 (y639 ++ y642)) else (none))) else (none))) else (none)) else (none)))) else (if 0 ≤ (wrap64 ((wrap64 ((wrap64 ((wrap64 (x1 + 1)) + x46)) - x625000)) - 1)) then (if (wrap64 ((wrap64 ((wrap64 ((wrap64 (x1 + 1)) + x46)) - x625000)) - 1)) ≤ (x632002.length : Int) then ((some (x632002.take ((wrap64 ((wrap64 ((wrap64 ((wrap64 (x1 + 1)) + x46)) - x625000)) - 1)) : Int).toNat : List (S54))).bind fun y649 => (if x46 ≤ (x3.length : Int) then ((some (x3.drop (x46 : Int).toNat : List (S54))).bind fun y652 => (if y649.length + y652.length < 5864062014805 then (impl_AppendTo.j2 k x625000 x625001 x625002 x632000 x632001 (y649 ++ y652)) else (none))) else (none))) else (none)) else (none)))) else (none)) else (none)) else (impl_AppendTo.j2 k x625000 x625001 x625002 x632000 x632001 x632002)
end
def impl_AppendTo.f (k : Nat) (a0_0 : Int) (a0_1 : Int) (l0_2 : List (S54)) (a1 : Int) (a2 : Int) (l3 : List (S54)) : Option (Int × Int × (List (S54)) × Bool) := (impl_copyRLog.f a0_0 a0_1 l0_2).bind fun bt626 => ((impl_isRLog.f k a0_0 a0_1 l0_2).bind fun t632 => (if t632 = true then (if a1 < a0_0 then (impl_AppendTo.j0 k a1 l3 true a0_0 a0_1 l0_2 bt626.1 bt626.2.1 bt626.2.2) else ((impl_RLog_last.f a0_0 a0_1 l0_2).bind fun t633 => (if a1 > t633 then (impl_AppendTo.j0 k a1 l3 true a0_0 a0_1 l0_2 bt626.1 bt626.2.1 bt626.2.2) else ((impl_RLog_term.f a0_0 a0_1 l0_2 a1).bind fun t634 => (if t634 = a2 then (impl_AppendTo.j0 k a1 l3 (decide ((l3.length : Int) > 10)) a0_0 a0_1 l0_2 bt626.1 bt626.2.1 bt626.2.2) else (impl_AppendTo.j0 k a1 l3 true a0_0 a0_1 l0_2 bt626.1 bt626.2.1 bt626.2.2)))))) else (impl_AppendTo.j0 k a1 l3 true a0_0 a0_1 l0_2 bt626.1 bt626.2.1 bt626.2.2)))
def impl_AppendTo.T8 : Bool × List (List Nat × List Nat) := (true, [([], []), ([], []), ([1], [1]), ([0, 2], [0, 2]), ([3, 2], [3]), ([4], [4]), ([4], [4]), ([5, 6, 4, 4], [4, 5, 6]), ([4], [4]), ([8, 4], [4, 8]), ([7, 9, 4], [4, 7, 9]), ([4, 10], [4, 10])])
def impl_AppendTo.B8 : List Nat := [0, 0, 2, 7, 15, 31, 31, 127, 31, 287, 1023, 2047]
theorem impl_AppendTo.tab8 : rtab .any (opsOf Try.f38 8) = impl_AppendTo.T8 := by kernel_rfl
theorem impl_AppendTo.bits8 : waitsOk impl_AppendTo.T8.2 impl_AppendTo.B8 = true := by kernel_rfl
def impl_AppendTo.T9 : Bool × List (List Nat × List Nat) := (true, [([], []), ([0], [0]), ([], []), ([], []), ([3], [3]), ([2, 4], [2, 4]), ([5], [5]), ([1, 6], [1, 6]), ([], []), ([], []), ([8, 9], [8, 9]), ([7, 10], [7, 10]), ([0, 1, 2, 3, 4, 5, 6, 7, 8, 9, 10, 11], []), ([12, 11, 11, 0, 1, 2, 3, 4, 5, 6, 7, 8, 9, 10, 11], [11, 12])])
def impl_AppendTo.B9 : List Nat := [0, 1, 0, 0, 8, 28, 60, 127, 0, 0, 768, 2047, 4095, 8191]
theorem impl_AppendTo.tab9 : rtab .any (opsOf Try.f38 9) = impl_AppendTo.T9 := by kernel_rfl
theorem impl_AppendTo.bits9 : waitsOk impl_AppendTo.T9.2 impl_AppendTo.B9 = true := by kernel_rfl
set_option maxHeartbeats 8000000 in
set_option maxRecDepth 100000 in
theorem impl_AppendTo.calls (k : Nat) (a0_0 : Int) (a0_1 : Int) (A0_2 : Option Addr) (c0_2 : Nat) (l0_2 : List (S54)) (a1 : Int) (a2 : Int) (A3 : Option Addr) (c3 : Nat) (l3 : List (S54)) (r1 : Int) (r2 : Int) (r3 : List (S54)) (r4 : Bool) (w : World) (hr0_2 : Kd.C k54 w A0_2 l0_2.length l0_2) (hc0_2 : l0_2.length ≤ c0_2) (hr3 : Kd.C k54 w A3 l3.length l3) (hc3 : l3.length ≤ c3) (h : impl_AppendTo.f k a0_0 a0_1 l0_2 a1 a2 l3 = some (r1, r2, r3, r4)) :
  Calls Try.prog 38 #[.agg #[.int .i64 a0_0, .int .i64 a0_1, .slice A0_2 l0_2.length c0_2], .int .i64 a1, .int .i64 a2, .slice A3 l3.length c3] w fun e w' => ∃ v2_ : Value, e = .returned (.tuple #[.agg #[.int .i64 r1, .int .i64 r2, v2_], .bool r4]) ∧ Kd.R k54 54 w' w.heap.size (fun _ => True) v2_ r3 ∧ Below w.heap.size w w' := by
 have hu29 := Try.underlying29
 have hu54 := Try.underlying54
 have HR0_2 := Zh hr0_2
 have HC0_2 := Zh hc0_2
 clear hr0_2 hc0_2
 have HR3 := Zh hr3
 have HC3 := Zh hc3
 clear hr3 hc3
 have HB := Zh (Below.refl w.heap.size w)
 have H : ((impl_copyRLog.f a0_0 a0_1 l0_2).bind fun bt626 => ((impl_isRLog.f k a0_0 a0_1 l0_2).bind fun t632 => (if t632 = true then (if a1 < a0_0 then (impl_AppendTo.j0 k a1 l3 true a0_0 a0_1 l0_2 bt626.1 bt626.2.1 bt626.2.2) else ((impl_RLog_last.f a0_0 a0_1 l0_2).bind fun t633 => (if a1 > t633 then (impl_AppendTo.j0 k a1 l3 true a0_0 a0_1 l0_2 bt626.1 bt626.2.1 bt626.2.2) else ((impl_RLog_term.f a0_0 a0_1 l0_2 a1).bind fun t634 => (if t634 = a2 then (impl_AppendTo.j0 k a1 l3 (decide ((l3.length : Int) > 10)) a0_0 a0_1 l0_2 bt626.1 bt626.2.1 bt626.2.2) else (impl_AppendTo.j0 k a1 l3 true a0_0 a0_1 l0_2 bt626.1 bt626.2.1 bt626.2.2)))))) else (impl_AppendTo.j0 k a1 l3 true a0_0 a0_1 l0_2 bt626.1 bt626.2.1 bt626.2.2)))) = some (r1, r2, r3, r4) := h
 clear h
 replace H := Option.bind_eq_some_iff.mp H
 obtain ⟨⟨t626, t627, t628⟩, A50, H⟩ := H
 replace H : ((impl_isRLog.f k a0_0 a0_1 l0_2).bind fun t632 => (if t632 = true then (if a1 < a0_0 then (impl_AppendTo.j0 k a1 l3 true a0_0 a0_1 l0_2 t626 t627 t628) else ((impl_RLog_last.f a0_0 a0_1 l0_2).bind fun t633 => (if a1 > t633 then (impl_AppendTo.j0 k a1 l3 true a0_0 a0_1 l0_2 t626 t627 t628) else ((impl_RLog_term.f a0_0 a0_1 l0_2 a1).bind fun t634 => (if t634 = a2 then (impl_AppendTo.j0 k a1 l3 (decide ((l3.length : Int) > 10)) a0_0 a0_1 l0_2 t626 t627 t628) else (impl_AppendTo.j0 k a1 l3 true a0_0 a0_1 l0_2 t626 t627 t628)))))) else (impl_AppendTo.j0 k a1 l3 true a0_0 a0_1 l0_2 t626 t627 t628))) = some (r1, r2, r3, r4) := H
 have A5 := Zh A50
 clear A50
 have HC6 := Zh H
 clear H
 go_enter Try.func38, Try.ntmps38
 go_upto_region 2 with (first | ((with_reducible refine gate_dst (N := 4) rfl ?_); (try (refine gate_guard (by rfl) ?_; dsimp only)); refine box_event ?hg (N := 4) ?hd (cs := #[.int .i64 a0_0, .int .i64 a0_1, .slice A0_2 l0_2.length c0_2]) (t := 29) ?hr ?_; (case hd => rfl); (case hg => rfl); (case hr => first | (go_simp; done) | (go_simp; rfl)); intro gb624 hg w7 hbox hb; have n0_ := Zh (Zl Zs hb); have n1_ := Zh (hbox); have n2_ := Zh ((by rw [hg]; exact (below_size Zs) : w.heap.size ≤ gb624)); have n3_ := Zh ((by rw [hg]; exact (below_size Zs) : w.heap.size ≤ gb624)); clear HB; have HB := n0_; have BK624 := n1_; have GW624 := n2_; have GE624 := n3_; clear n0_ n1_ n2_ n3_; clear hb hbox hg) | ((with_reducible refine gate_dst (N := 8) rfl ?_); (try (refine gate_guard (by rfl) ?_; dsimp only)); refine box_event ?hg (N := 8) ?hd (cs := #[.int .i64 0, .int .i64 0, .slice none 0 0]) (t := 29) ?hr ?_; (case hd => rfl); (case hg => rfl); (case hr => first | (go_simp; done) | (go_simp; rfl)); intro gb625 hg w8 hbox hb; have n0_ := Zh (Zm (g := gb624) (o := .cells #[.int .i64 a0_0, .int .i64 a0_1, .slice A0_2 l0_2.length c0_2] 29 (0, 0)) Zk hb); have n1_ := Zh (Zl Zs hb); have n2_ := Zh (hbox); have n3_ := Zh ((by rw [hg]; exact (below_size Zs) : w.heap.size ≤ gb625)); have n4_ := Zh ((by rw [hg]; exact (below_size Zs) : w.heap.size ≤ gb625)); have n5_ := Zh ((by rw [hg]; exact Nat.ne_of_lt (blk_lt (g := gb624) (o := .cells #[.int .i64 a0_0, .int .i64 a0_1, .slice A0_2 l0_2.length c0_2] 29 (0, 0)) Zk) : gb624 ≠ gb625)); have n6_ := Zh ((by rw [hg]; exact Nat.ne_of_gt (blk_lt (g := gb624) (o := .cells #[.int .i64 a0_0, .int .i64 a0_1, .slice A0_2 l0_2.length c0_2] 29 (0, 0)) Zk) : gb625 ≠ gb624)); clear BK624; clear HB; have BK624 := n0_; have HB := n1_; have BK625 := n2_; have GW625 := n3_; have GE625 := n4_; have NB624_625 := n5_; have NB625_624 := n6_; clear n0_ n1_ n2_ n3_ n4_ n5_ n6_; clear hb hbox hg; have hnb9 := NB624_625.out; have hnc9 := NB625_624.out; have hcz10_0 : w8.cell? ⟨gb624, 0, none⟩ = some (.int .i64 a0_0) := (blk_cell BK624.out 0).trans rfl; have hcz10_1 : w8.cell? ⟨gb624, 1, none⟩ = some (.int .i64 a0_1) := (blk_cell BK624.out 1).trans rfl; have hcz10_2 : w8.cell? ⟨gb624, 2, none⟩ = some (.slice A0_2 l0_2.length c0_2) := (blk_cell BK624.out 2).trans rfl; have hfz10_0 := Zn BK624.out 0; have hfz10_1 := Zn BK624.out 1; have hfz10_2 := Zn BK624.out 2) | ((with_reducible refine gate_callee (f := 52) rfl ?_); refine goesL_ (some 15) rfl rfl Try.func52 (by kernel_rfl) rfl #[.agg #[.int .i64 a0_0, .int .i64 a0_1, .slice A0_2 l0_2.length c0_2]] rfl (by (try simp only [List.map_toArray, List.map_cons, List.map_nil]); first | done | rfl | (simp only [List.length_drop, List.length_take]; rfl)) ?_; (with_reducible refine (impl_copyRLog.calls a0_0 a0_1 _ _ l0_2 t626 t627 t628 _ ?side1 ?side2 A5.out).mono ?_); (case side1 => repeat (first | exact (C_below HR0_2.out HB.out) | (with_reducible refine C_alloc ?_ _) | (with_reducible refine C_drewN ?_ _) | (with_reducible refine C_drew ?_))); (case side2 => exact HC0_2.out); rintro e w11 ⟨v629, rfl, ho0, hb⟩; refine ⟨_, rfl, ?_⟩; have n0_ := Zh (R_lower ho0 (below_size Zs)); have n1_ := Zh (Zm (g := gb624) (o := .cells #[.int .i64 a0_0, .int .i64 a0_1, .slice A0_2 l0_2.length c0_2] 29 (0, 0)) Zk hb); have n2_ := Zh (Zm (g := gb625) (o := .cells #[.int .i64 0, .int .i64 0, .slice none 0 0] 29 (0, 0)) Zk hb); have n3_ := Zh (Zl Zs hb); clear BK624; clear BK625; clear HB; have HO630 := n0_; have BK624 := n1_; have BK625 := n2_; have HB := n3_; clear n0_ n1_ n2_ n3_; (try clear hb); (try clear hb2); (try clear hk); (try clear hi); (try clear ho0)) | ((with_reducible refine gate_dst (N := 10) rfl ?_); (try (refine gate_guard (by rfl) ?_; dsimp only)); refine box_event ?hg (N := 10) ?hd (cs := #[.int .i64 0, .int .i64 0, .slice none 0 0]) (t := 29) ?hr ?_; (case hd => rfl); (case hg => rfl); (case hr => first | (go_simp; done) | (go_simp; rfl)); intro gb631 hg w12 hbox hb; have n0_ := Zh (R_below (by (with_reducible repeat (first | apply R_alloc | apply R_drewN | apply R_drew)); exact HO630.out) hb); have n1_ := Zh (Zm (g := gb624) (o := .cells #[.int .i64 a0_0, .int .i64 a0_1, .slice A0_2 l0_2.length c0_2] 29 (0, 0)) Zk hb); have n2_ := Zh (Zm (g := gb625) (o := .cells #[.int .i64 0, .int .i64 0, .slice none 0 0] 29 (0, 0)) Zk hb); have n3_ := Zh (Zl Zs hb); have n4_ := Zh (hbox); have n5_ := Zh ((by rw [hg]; exact (below_size Zs) : w.heap.size ≤ gb631)); have n6_ := Zh ((by rw [hg]; exact (below_size Zs) : w.heap.size ≤ gb631)); have n7_ := Zh ((by rw [hg]; exact Nat.ne_of_lt (blk_lt (g := gb624) (o := .cells #[.int .i64 a0_0, .int .i64 a0_1, .slice A0_2 l0_2.length c0_2] 29 (0, 0)) Zk) : gb624 ≠ gb631)); have n8_ := Zh ((by rw [hg]; exact Nat.ne_of_gt (blk_lt (g := gb624) (o := .cells #[.int .i64 a0_0, .int .i64 a0_1, .slice A0_2 l0_2.length c0_2] 29 (0, 0)) Zk) : gb631 ≠ gb624)); have n9_ := Zh ((by rw [hg]; exact Nat.ne_of_lt (blk_lt (g := gb625) (o := .cells #[.int .i64 0, .int .i64 0, .slice none 0 0] 29 (0, 0)) Zk) : gb625 ≠ gb631)); have n10_ := Zh ((by rw [hg]; exact Nat.ne_of_gt (blk_lt (g := gb625) (o := .cells #[.int .i64 0, .int .i64 0, .slice none 0 0] 29 (0, 0)) Zk) : gb631 ≠ gb625)); clear HO630; clear BK624; clear BK625; clear HB; have HO630 := n0_; have BK624 := n1_; have BK625 := n2_; have HB := n3_; have BK631 := n4_; have GW631 := n5_; have GE631 := n6_; have NB624_631 := n7_; have NB631_624 := n8_; have NB625_631 := n9_; have NB631_625 := n10_; clear n0_ n1_ n2_ n3_ n4_ n5_ n6_ n7_ n8_ n9_ n10_; clear hb hbox hg; have hnb13 := NB631_624.out; have hnc13 := NB624_631.out; have hnb14 := NB631_625.out; have hnc14 := NB625_631.out; have hcz15_0 : w12.cell? ⟨gb631, 0, none⟩ = some (.int .i64 0) := (blk_cell BK631.out 0).trans rfl; have hcz15_1 : w12.cell? ⟨gb631, 1, none⟩ = some (.int .i64 0) := (blk_cell BK631.out 1).trans rfl; have hcz15_2 : w12.cell? ⟨gb631, 2, none⟩ = some (.slice none 0 0) := (blk_cell BK631.out 2).trans rfl; have hfz15_0 := Zn BK631.out 0; have hfz15_1 := Zn BK631.out 1; have hfz15_2 := Zn BK631.out 2; obtain ⟨Ao16, co16, eo16⟩ := R_slice HO630.out; subst eo16))
 (try simp only [Act.put, List.setIfInBounds_toArray, List.set_cons_zero, List.set_cons_succ])
 go_cut [42] (fun v42 wc => ∃ (kq : Nat) (x42_5 : Bool), v42 = .bool x42_5 ∧ Aside0 (impl_AppendTo.j0 kq a1 l3 x42_5 a0_0 a0_1 l0_2 t626 t627 t628 = some (r1, r2, r3, r4)) ∧ Aside0 (kq ≤ k) ∧ Aside0 (Kd.R k54 54 wc w.heap.size (fun _ => True) (.slice Ao16 t628.length co16) t628) ∧ Aside0 (wc.heap[gb624]? = some (.cells #[.int .i64 a0_0, .int .i64 a0_1, (.slice A0_2 l0_2.length c0_2)] 29 (0, 0))) ∧ Aside0 (wc.heap[gb625]? = some (.cells #[.int .i64 0, .int .i64 0, (.slice none 0 0)] 29 (0, 0))) ∧ Aside0 (wc.heap[gb631]? = some (.cells #[.int .i64 t626, .int .i64 t627, (.slice Ao16 t628.length co16)] 29 (0, 0))) ∧ Aside0 (Below w.heap.size w wc))
 case first =>
  have H := HC6.out
  clear HC6
  replace H := Option.bind_eq_some_iff.mp H
  obtain ⟨t632, A170, H⟩ := H
  replace H : (if t632 = true then (if a1 < a0_0 then (impl_AppendTo.j0 k a1 l3 true a0_0 a0_1 l0_2 t626 t627 t628) else ((impl_RLog_last.f a0_0 a0_1 l0_2).bind fun t633 => (if a1 > t633 then (impl_AppendTo.j0 k a1 l3 true a0_0 a0_1 l0_2 t626 t627 t628) else ((impl_RLog_term.f a0_0 a0_1 l0_2 a1).bind fun t634 => (if t634 = a2 then (impl_AppendTo.j0 k a1 l3 (decide ((l3.length : Int) > 10)) a0_0 a0_1 l0_2 t626 t627 t628) else (impl_AppendTo.j0 k a1 l3 true a0_0 a0_1 l0_2 t626 t627 t628)))))) else (impl_AppendTo.j0 k a1 l3 true a0_0 a0_1 l0_2 t626 t627 t628)) = some (r1, r2, r3, r4) := H
  have A17 := Zh A170
  clear A170
  by_cases c18 : t632 = true
  ·
   subst c18
   have H1 : (if a1 < a0_0 then (impl_AppendTo.j0 k a1 l3 true a0_0 a0_1 l0_2 t626 t627 t628) else ((impl_RLog_last.f a0_0 a0_1 l0_2).bind fun t633 => (if a1 > t633 then (impl_AppendTo.j0 k a1 l3 true a0_0 a0_1 l0_2 t626 t627 t628) else ((impl_RLog_term.f a0_0 a0_1 l0_2 a1).bind fun t634 => (if t634 = a2 then (impl_AppendTo.j0 k a1 l3 (decide ((l3.length : Int) > 10)) a0_0 a0_1 l0_2 t626 t627 t628) else (impl_AppendTo.j0 k a1 l3 true a0_0 a0_1 l0_2 t626 t627 t628)))))) = some (r1, r2, r3, r4) := by rw [if_pos rfl] at H; exact H
   clear H
   have H := H1
   clear H1
   by_cases c19 : a1 < a0_0
   ·
    rw [if_pos c19] at H
    have c19b0 : decide (a1 < a0_0) = true := decide_eq_true c19
    clear c19
    (first | rw [c19b0] | (simp only [i64_w, i32_w]; rw [c19b0]) | skip)
    have H' := Zh H
    clear H
    have hnb20 := NB624_625.out
    have hnc20 := NB625_624.out
    have hnb21 := NB624_631.out
    have hnc21 := NB631_624.out
    have hcz22_0 : w12.cell? ⟨gb624, 0, none⟩ = some (.int .i64 a0_0) := (blk_cell BK624.out 0).trans rfl
    have hcz22_1 : w12.cell? ⟨gb624, 1, none⟩ = some (.int .i64 a0_1) := (blk_cell BK624.out 1).trans rfl
    have hcz22_2 : w12.cell? ⟨gb624, 2, none⟩ = some (.slice A0_2 l0_2.length c0_2) := (blk_cell BK624.out 2).trans rfl
    have hfz22_0 := Zn BK624.out 0
    have hfz22_1 := Zn BK624.out 1
    have hfz22_2 := Zn BK624.out 2
    go_wp2_with (first | ((with_reducible refine gate_callee (f := 45) rfl ?_); refine goesL_ (some 17) rfl rfl Try.func45 (by kernel_rfl) rfl #[.agg #[.int .i64 a0_0, .int .i64 a0_1, .slice A0_2 l0_2.length c0_2]] rfl (by (try simp only [List.map_toArray, List.map_cons, List.map_nil]); first | done | rfl | (simp only [List.length_drop, List.length_take]; rfl)) ?_; (with_reducible refine (impl_isRLog.calls k a0_0 a0_1 _ _ l0_2 true _ ?side1 ?side2 A17.out).mono ?_); (case side1 => exact C_below HR0_2.out Zs); (case side2 => exact HC0_2.out); rintro e w23 ⟨rfl, hb⟩; refine ⟨_, rfl, ?_⟩; have n0_ := Zh (R_below (by (with_reducible repeat (first | apply R_alloc | apply R_drewN | apply R_drew)); exact (R_mono (R_far (p := ⟨gb631, 2, none⟩) (R_far (p := ⟨gb631, 1, none⟩) (R_far (p := ⟨gb631, 0, none⟩) (R_types HO630.out BK631.out (by decide)) (fun _ hk => hk.2) (.int .i64 t626)) (fun _ hk => hk.2) (.int .i64 t627)) (fun _ hk => hk.2) (.slice Ao16 t628.length co16)) (fun _ h_ => h_.1))) hb); have n1_ := Zh (Zm (g := gb624) (o := .cells #[.int .i64 a0_0, .int .i64 a0_1, .slice A0_2 l0_2.length c0_2] 29 (0, 0)) (by (with_reducible repeat (first | refine Za ?_ _ | refine Zb ?_ | refine blk_alloc ?_ _)); refine Zp ?_ NB624_631.out _; (with_reducible repeat (first | refine Za ?_ _ | refine Zb ?_ | refine blk_alloc ?_ _)); refine Zp ?_ NB624_631.out _; (with_reducible repeat (first | refine Za ?_ _ | refine Zb ?_ | refine blk_alloc ?_ _)); refine Zp ?_ NB624_631.out _; (with_reducible repeat (first | refine Za ?_ _ | refine Zb ?_ | refine blk_alloc ?_ _)); exact BK624.out) hb); have n2_ := Zh (Zm (g := gb625) (o := .cells #[.int .i64 0, .int .i64 0, .slice none 0 0] 29 (0, 0)) (by (with_reducible repeat (first | refine Za ?_ _ | refine Zb ?_ | refine blk_alloc ?_ _)); refine Zp ?_ NB625_631.out _; (with_reducible repeat (first | refine Za ?_ _ | refine Zb ?_ | refine blk_alloc ?_ _)); refine Zp ?_ NB625_631.out _; (with_reducible repeat (first | refine Za ?_ _ | refine Zb ?_ | refine blk_alloc ?_ _)); refine Zp ?_ NB625_631.out _; (with_reducible repeat (first | refine Za ?_ _ | refine Zb ?_ | refine blk_alloc ?_ _)); exact BK625.out) hb); have n3_ := Zh (Zm (g := gb631) (o := .cells #[.int .i64 t626, .int .i64 t627, .slice Ao16 t628.length co16] 29 (0, 0)) (by (with_reducible repeat (first | refine Za ?_ _ | refine Zb ?_ | refine blk_alloc ?_ _)); refine blk_put (cs := #[.int .i64 t626, .int .i64 t627, .slice none 0 0]) ?_ 2 _ rfl; (with_reducible repeat (first | refine Za ?_ _ | refine Zb ?_ | refine blk_alloc ?_ _)); refine blk_put (cs := #[.int .i64 t626, .int .i64 0, .slice none 0 0]) ?_ 1 _ rfl; (with_reducible repeat (first | refine Za ?_ _ | refine Zb ?_ | refine blk_alloc ?_ _)); refine blk_put (cs := #[.int .i64 0, .int .i64 0, .slice none 0 0]) ?_ 0 _ rfl; (with_reducible repeat (first | refine Za ?_ _ | refine Zb ?_ | refine blk_alloc ?_ _)); exact BK631.out) hb); have n4_ := Zh (Zl Zs hb); clear HO630; clear BK624; clear BK625; clear BK631; clear HB; have HO630 := n0_; have BK624 := n1_; have BK625 := n2_; have BK631 := n3_; have HB := n4_; clear n0_ n1_ n2_ n3_ n4_; (try clear hb); (try clear hb2); (try clear hk); (try clear hi); have hcz24_0 : w23.cell? ⟨gb624, 0, none⟩ = some (.int .i64 a0_0) := (blk_cell BK624.out 0).trans rfl; have hcz24_1 : w23.cell? ⟨gb624, 1, none⟩ = some (.int .i64 a0_1) := (blk_cell BK624.out 1).trans rfl; have hcz24_2 : w23.cell? ⟨gb624, 2, none⟩ = some (.slice A0_2 l0_2.length c0_2) := (blk_cell BK624.out 2).trans rfl; have hfz24_0 := Zn BK624.out 0; have hfz24_1 := Zn BK624.out 1; have hfz24_2 := Zn BK624.out 2))
    go_meet
    case rel => exact ⟨_, (true), (by first | rfl | (simp; done) | (simp [*]; done)), H', ⟨by first | omega | exact Nat.le_refl _⟩, ⟨by (with_reducible repeat (first | apply R_alloc | apply R_drewN | apply R_drew)); exact HO630.out⟩, ⟨by (with_reducible repeat (first | refine Za ?_ _ | refine Zb ?_ | refine blk_alloc ?_ _)); exact BK624.out⟩, ⟨by (with_reducible repeat (first | refine Za ?_ _ | refine Zb ?_ | refine blk_alloc ?_ _)); exact BK625.out⟩, ⟨by (with_reducible repeat (first | refine Za ?_ _ | refine Zb ?_ | refine blk_alloc ?_ _)); exact BK631.out⟩, ⟨by repeat (first | (with_reducible first | exact HB.out | apply Zf | apply Zd | apply Ze | refine Zg ?_ GE624.out | refine Zg ?_ GE625.out | refine Zg ?_ GE631.out) | exact HB.out)⟩⟩
   rw [if_neg c19] at H
   have c19b0 : decide (a1 < a0_0) = false := decide_eq_false c19
   clear c19
   (first | rw [c19b0] | (simp only [i64_w, i32_w]; rw [c19b0]) | skip)
   replace H := Option.bind_eq_some_iff.mp H
   obtain ⟨t633, A250, H⟩ := H
   replace H : (if a1 > t633 then (impl_AppendTo.j0 k a1 l3 true a0_0 a0_1 l0_2 t626 t627 t628) else ((impl_RLog_term.f a0_0 a0_1 l0_2 a1).bind fun t634 => (if t634 = a2 then (impl_AppendTo.j0 k a1 l3 (decide ((l3.length : Int) > 10)) a0_0 a0_1 l0_2 t626 t627 t628) else (impl_AppendTo.j0 k a1 l3 true a0_0 a0_1 l0_2 t626 t627 t628)))) = some (r1, r2, r3, r4) := H
   have A25 := Zh A250
   clear A250
   by_cases c26 : a1 > t633
   ·
    rw [if_pos c26] at H
    have c26b0 : decide (t633 < a1) = true := decide_eq_true c26
    clear c26
    have H' := Zh H
    clear H
    have hnb27 := NB624_625.out
    have hnc27 := NB625_624.out
    have hnb28 := NB624_631.out
    have hnc28 := NB631_624.out
    have hcz29_0 : w12.cell? ⟨gb624, 0, none⟩ = some (.int .i64 a0_0) := (blk_cell BK624.out 0).trans rfl
    have hcz29_1 : w12.cell? ⟨gb624, 1, none⟩ = some (.int .i64 a0_1) := (blk_cell BK624.out 1).trans rfl
    have hcz29_2 : w12.cell? ⟨gb624, 2, none⟩ = some (.slice A0_2 l0_2.length c0_2) := (blk_cell BK624.out 2).trans rfl
    have hfz29_0 := Zn BK624.out 0
    have hfz29_1 := Zn BK624.out 1
    have hfz29_2 := Zn BK624.out 2
    go_wp2_with (first | ((with_reducible refine gate_callee (f := 45) rfl ?_); refine goesL_ (some 17) rfl rfl Try.func45 (by kernel_rfl) rfl #[.agg #[.int .i64 a0_0, .int .i64 a0_1, .slice A0_2 l0_2.length c0_2]] rfl (by (try simp only [List.map_toArray, List.map_cons, List.map_nil]); first | done | rfl | (simp only [List.length_drop, List.length_take]; rfl)) ?_; (with_reducible refine (impl_isRLog.calls k a0_0 a0_1 _ _ l0_2 true _ ?side1 ?side2 A17.out).mono ?_); (case side1 => exact C_below HR0_2.out Zs); (case side2 => exact HC0_2.out); rintro e w30 ⟨rfl, hb⟩; refine ⟨_, rfl, ?_⟩; have n0_ := Zh (R_below (by (with_reducible repeat (first | apply R_alloc | apply R_drewN | apply R_drew)); exact (R_mono (R_far (p := ⟨gb631, 2, none⟩) (R_far (p := ⟨gb631, 1, none⟩) (R_far (p := ⟨gb631, 0, none⟩) (R_types HO630.out BK631.out (by decide)) (fun _ hk => hk.2) (.int .i64 t626)) (fun _ hk => hk.2) (.int .i64 t627)) (fun _ hk => hk.2) (.slice Ao16 t628.length co16)) (fun _ h_ => h_.1))) hb); have n1_ := Zh (Zm (g := gb624) (o := .cells #[.int .i64 a0_0, .int .i64 a0_1, .slice A0_2 l0_2.length c0_2] 29 (0, 0)) (by (with_reducible repeat (first | refine Za ?_ _ | refine Zb ?_ | refine blk_alloc ?_ _)); refine Zp ?_ NB624_631.out _; (with_reducible repeat (first | refine Za ?_ _ | refine Zb ?_ | refine blk_alloc ?_ _)); refine Zp ?_ NB624_631.out _; (with_reducible repeat (first | refine Za ?_ _ | refine Zb ?_ | refine blk_alloc ?_ _)); refine Zp ?_ NB624_631.out _; (with_reducible repeat (first | refine Za ?_ _ | refine Zb ?_ | refine blk_alloc ?_ _)); exact BK624.out) hb); have n2_ := Zh (Zm (g := gb625) (o := .cells #[.int .i64 0, .int .i64 0, .slice none 0 0] 29 (0, 0)) (by (with_reducible repeat (first | refine Za ?_ _ | refine Zb ?_ | refine blk_alloc ?_ _)); refine Zp ?_ NB625_631.out _; (with_reducible repeat (first | refine Za ?_ _ | refine Zb ?_ | refine blk_alloc ?_ _)); refine Zp ?_ NB625_631.out _; (with_reducible repeat (first | refine Za ?_ _ | refine Zb ?_ | refine blk_alloc ?_ _)); refine Zp ?_ NB625_631.out _; (with_reducible repeat (first | refine Za ?_ _ | refine Zb ?_ | refine blk_alloc ?_ _)); exact BK625.out) hb); have n3_ := Zh (Zm (g := gb631) (o := .cells #[.int .i64 t626, .int .i64 t627, .slice Ao16 t628.length co16] 29 (0, 0)) (by (with_reducible repeat (first | refine Za ?_ _ | refine Zb ?_ | refine blk_alloc ?_ _)); refine blk_put (cs := #[.int .i64 t626, .int .i64 t627, .slice none 0 0]) ?_ 2 _ rfl; (with_reducible repeat (first | refine Za ?_ _ | refine Zb ?_ | refine blk_alloc ?_ _)); refine blk_put (cs := #[.int .i64 t626, .int .i64 0, .slice none 0 0]) ?_ 1 _ rfl; (with_reducible repeat (first | refine Za ?_ _ | refine Zb ?_ | refine blk_alloc ?_ _)); refine blk_put (cs := #[.int .i64 0, .int .i64 0, .slice none 0 0]) ?_ 0 _ rfl; (with_reducible repeat (first | refine Za ?_ _ | refine Zb ?_ | refine blk_alloc ?_ _)); exact BK631.out) hb); have n4_ := Zh (Zl Zs hb); clear HO630; clear BK624; clear BK625; clear BK631; clear HB; have HO630 := n0_; have BK624 := n1_; have BK625 := n2_; have BK631 := n3_; have HB := n4_; clear n0_ n1_ n2_ n3_ n4_; (try clear hb); (try clear hb2); (try clear hk); (try clear hi); have hcz31_0 : w30.cell? ⟨gb624, 0, none⟩ = some (.int .i64 a0_0) := (blk_cell BK624.out 0).trans rfl; have hcz31_1 : w30.cell? ⟨gb624, 1, none⟩ = some (.int .i64 a0_1) := (blk_cell BK624.out 1).trans rfl; have hcz31_2 : w30.cell? ⟨gb624, 2, none⟩ = some (.slice A0_2 l0_2.length c0_2) := (blk_cell BK624.out 2).trans rfl; have hfz31_0 := Zn BK624.out 0; have hfz31_1 := Zn BK624.out 1; have hfz31_2 := Zn BK624.out 2) | (go_at_call 46; (with_reducible refine (impl_RLog_last.calls a0_0 a0_1 _ _ l0_2 t633 _ ?side1 ?side2 A25.out).mono ?_); (case side1 => repeat (first | exact (C_below HR0_2.out HB.out) | (with_reducible refine C_alloc ?_ _) | (with_reducible refine C_drewN ?_ _) | (with_reducible refine C_drew ?_))); (case side2 => exact HC0_2.out); rintro e w32 ⟨rfl, hb⟩; have n0_ := Zh (R_below (by (with_reducible repeat (first | apply R_alloc | apply R_drewN | apply R_drew)); exact HO630.out) hb); have n1_ := Zh (Zm (g := gb624) (o := .cells #[.int .i64 a0_0, .int .i64 a0_1, .slice A0_2 l0_2.length c0_2] 29 (0, 0)) Zk hb); have n2_ := Zh (Zm (g := gb625) (o := .cells #[.int .i64 0, .int .i64 0, .slice none 0 0] 29 (0, 0)) Zk hb); have n3_ := Zh (Zm (g := gb631) (o := .cells #[.int .i64 t626, .int .i64 t627, .slice Ao16 t628.length co16] 29 (0, 0)) Zk hb); have n4_ := Zh (Zl Zs hb); clear HO630; clear BK624; clear BK625; clear BK631; clear HB; have HO630 := n0_; have BK624 := n1_; have BK625 := n2_; have BK631 := n3_; have HB := n4_; clear n0_ n1_ n2_ n3_ n4_; (try clear hb); (try clear hb2); (try clear hk); (try clear hi)))
    go_meet
    case rel => exact ⟨_, (true), (by first | rfl | (simp; done) | (simp [*]; done)), H', ⟨by first | omega | exact Nat.le_refl _⟩, ⟨by (with_reducible repeat (first | apply R_alloc | apply R_drewN | apply R_drew)); exact HO630.out⟩, ⟨by (with_reducible repeat (first | refine Za ?_ _ | refine Zb ?_ | refine blk_alloc ?_ _)); exact BK624.out⟩, ⟨by (with_reducible repeat (first | refine Za ?_ _ | refine Zb ?_ | refine blk_alloc ?_ _)); exact BK625.out⟩, ⟨by (with_reducible repeat (first | refine Za ?_ _ | refine Zb ?_ | refine blk_alloc ?_ _)); exact BK631.out⟩, ⟨by repeat (first | (with_reducible first | exact HB.out | apply Zf | apply Zd | apply Ze | refine Zg ?_ GE624.out | refine Zg ?_ GE625.out | refine Zg ?_ GE631.out) | exact HB.out)⟩⟩
   rw [if_neg c26] at H
   have c26b0 : decide (t633 < a1) = false := decide_eq_false c26
   clear c26
   replace H := Option.bind_eq_some_iff.mp H
   obtain ⟨t634, A330, H⟩ := H
   replace H : (if t634 = a2 then (impl_AppendTo.j0 k a1 l3 (decide ((l3.length : Int) > 10)) a0_0 a0_1 l0_2 t626 t627 t628) else (impl_AppendTo.j0 k a1 l3 true a0_0 a0_1 l0_2 t626 t627 t628)) = some (r1, r2, r3, r4) := H
   have A33 := Zh A330
   clear A330
   by_cases c34 : t634 = a2
   ·
    rw [if_pos c34] at H
    have c34b0 : (t634 == a2) = true := beq_iff_eq.mpr c34
    have c34b1 : (t634 != a2) = false := bne_eq_false_iff_eq.mpr c34
    clear c34
    have H' := Zh H
    clear H
    have hnb35 := NB624_625.out
    have hnc35 := NB625_624.out
    have hnb36 := NB624_631.out
    have hnc36 := NB631_624.out
    have hcz37_0 : w12.cell? ⟨gb624, 0, none⟩ = some (.int .i64 a0_0) := (blk_cell BK624.out 0).trans rfl
    have hcz37_1 : w12.cell? ⟨gb624, 1, none⟩ = some (.int .i64 a0_1) := (blk_cell BK624.out 1).trans rfl
    have hcz37_2 : w12.cell? ⟨gb624, 2, none⟩ = some (.slice A0_2 l0_2.length c0_2) := (blk_cell BK624.out 2).trans rfl
    have hfz37_0 := Zn BK624.out 0
    have hfz37_1 := Zn BK624.out 1
    have hfz37_2 := Zn BK624.out 2
    go_wp2_with (first | ((with_reducible refine gate_callee (f := 45) rfl ?_); refine goesL_ (some 17) rfl rfl Try.func45 (by kernel_rfl) rfl #[.agg #[.int .i64 a0_0, .int .i64 a0_1, .slice A0_2 l0_2.length c0_2]] rfl (by (try simp only [List.map_toArray, List.map_cons, List.map_nil]); first | done | rfl | (simp only [List.length_drop, List.length_take]; rfl)) ?_; (with_reducible refine (impl_isRLog.calls k a0_0 a0_1 _ _ l0_2 true _ ?side1 ?side2 A17.out).mono ?_); (case side1 => exact C_below HR0_2.out Zs); (case side2 => exact HC0_2.out); rintro e w38 ⟨rfl, hb⟩; refine ⟨_, rfl, ?_⟩; have n0_ := Zh (R_below (by (with_reducible repeat (first | apply R_alloc | apply R_drewN | apply R_drew)); exact (R_mono (R_far (p := ⟨gb631, 2, none⟩) (R_far (p := ⟨gb631, 1, none⟩) (R_far (p := ⟨gb631, 0, none⟩) (R_types HO630.out BK631.out (by decide)) (fun _ hk => hk.2) (.int .i64 t626)) (fun _ hk => hk.2) (.int .i64 t627)) (fun _ hk => hk.2) (.slice Ao16 t628.length co16)) (fun _ h_ => h_.1))) hb); have n1_ := Zh (Zm (g := gb624) (o := .cells #[.int .i64 a0_0, .int .i64 a0_1, .slice A0_2 l0_2.length c0_2] 29 (0, 0)) (by (with_reducible repeat (first | refine Za ?_ _ | refine Zb ?_ | refine blk_alloc ?_ _)); refine Zp ?_ NB624_631.out _; (with_reducible repeat (first | refine Za ?_ _ | refine Zb ?_ | refine blk_alloc ?_ _)); refine Zp ?_ NB624_631.out _; (with_reducible repeat (first | refine Za ?_ _ | refine Zb ?_ | refine blk_alloc ?_ _)); refine Zp ?_ NB624_631.out _; (with_reducible repeat (first | refine Za ?_ _ | refine Zb ?_ | refine blk_alloc ?_ _)); exact BK624.out) hb); have n2_ := Zh (Zm (g := gb625) (o := .cells #[.int .i64 0, .int .i64 0, .slice none 0 0] 29 (0, 0)) (by (with_reducible repeat (first | refine Za ?_ _ | refine Zb ?_ | refine blk_alloc ?_ _)); refine Zp ?_ NB625_631.out _; (with_reducible repeat (first | refine Za ?_ _ | refine Zb ?_ | refine blk_alloc ?_ _)); refine Zp ?_ NB625_631.out _; (with_reducible repeat (first | refine Za ?_ _ | refine Zb ?_ | refine blk_alloc ?_ _)); refine Zp ?_ NB625_631.out _; (with_reducible repeat (first | refine Za ?_ _ | refine Zb ?_ | refine blk_alloc ?_ _)); exact BK625.out) hb); have n3_ := Zh (Zm (g := gb631) (o := .cells #[.int .i64 t626, .int .i64 t627, .slice Ao16 t628.length co16] 29 (0, 0)) (by (with_reducible repeat (first | refine Za ?_ _ | refine Zb ?_ | refine blk_alloc ?_ _)); refine blk_put (cs := #[.int .i64 t626, .int .i64 t627, .slice none 0 0]) ?_ 2 _ rfl; (with_reducible repeat (first | refine Za ?_ _ | refine Zb ?_ | refine blk_alloc ?_ _)); refine blk_put (cs := #[.int .i64 t626, .int .i64 0, .slice none 0 0]) ?_ 1 _ rfl; (with_reducible repeat (first | refine Za ?_ _ | refine Zb ?_ | refine blk_alloc ?_ _)); refine blk_put (cs := #[.int .i64 0, .int .i64 0, .slice none 0 0]) ?_ 0 _ rfl; (with_reducible repeat (first | refine Za ?_ _ | refine Zb ?_ | refine blk_alloc ?_ _)); exact BK631.out) hb); have n4_ := Zh (Zl Zs hb); clear HO630; clear BK624; clear BK625; clear BK631; clear HB; have HO630 := n0_; have BK624 := n1_; have BK625 := n2_; have BK631 := n3_; have HB := n4_; clear n0_ n1_ n2_ n3_ n4_; (try clear hb); (try clear hb2); (try clear hk); (try clear hi); have hcz39_0 : w38.cell? ⟨gb624, 0, none⟩ = some (.int .i64 a0_0) := (blk_cell BK624.out 0).trans rfl; have hcz39_1 : w38.cell? ⟨gb624, 1, none⟩ = some (.int .i64 a0_1) := (blk_cell BK624.out 1).trans rfl; have hcz39_2 : w38.cell? ⟨gb624, 2, none⟩ = some (.slice A0_2 l0_2.length c0_2) := (blk_cell BK624.out 2).trans rfl; have hfz39_0 := Zn BK624.out 0; have hfz39_1 := Zn BK624.out 1; have hfz39_2 := Zn BK624.out 2) | (go_at_call 46; (with_reducible refine (impl_RLog_last.calls a0_0 a0_1 _ _ l0_2 t633 _ ?side1 ?side2 A25.out).mono ?_); (case side1 => repeat (first | exact (C_below HR0_2.out HB.out) | (with_reducible refine C_alloc ?_ _) | (with_reducible refine C_drewN ?_ _) | (with_reducible refine C_drew ?_))); (case side2 => exact HC0_2.out); rintro e w40 ⟨rfl, hb⟩; have n0_ := Zh (R_below (by (with_reducible repeat (first | apply R_alloc | apply R_drewN | apply R_drew)); exact HO630.out) hb); have n1_ := Zh (Zm (g := gb624) (o := .cells #[.int .i64 a0_0, .int .i64 a0_1, .slice A0_2 l0_2.length c0_2] 29 (0, 0)) Zk hb); have n2_ := Zh (Zm (g := gb625) (o := .cells #[.int .i64 0, .int .i64 0, .slice none 0 0] 29 (0, 0)) Zk hb); have n3_ := Zh (Zm (g := gb631) (o := .cells #[.int .i64 t626, .int .i64 t627, .slice Ao16 t628.length co16] 29 (0, 0)) Zk hb); have n4_ := Zh (Zl Zs hb); clear HO630; clear BK624; clear BK625; clear BK631; clear HB; have HO630 := n0_; have BK624 := n1_; have BK625 := n2_; have BK631 := n3_; have HB := n4_; clear n0_ n1_ n2_ n3_ n4_; (try clear hb); (try clear hb2); (try clear hk); (try clear hi); have hcz41_0 : w40.cell? ⟨gb624, 0, none⟩ = some (.int .i64 a0_0) := (blk_cell BK624.out 0).trans rfl; have hcz41_1 : w40.cell? ⟨gb624, 1, none⟩ = some (.int .i64 a0_1) := (blk_cell BK624.out 1).trans rfl; have hcz41_2 : w40.cell? ⟨gb624, 2, none⟩ = some (.slice A0_2 l0_2.length c0_2) := (blk_cell BK624.out 2).trans rfl; have hfz41_0 := Zn BK624.out 0; have hfz41_1 := Zn BK624.out 1; have hfz41_2 := Zn BK624.out 2) | (go_at_call 47; (with_reducible refine (impl_RLog_term.calls a0_0 a0_1 _ _ l0_2 a1 t634 _ ?side1 ?side2 A33.out).mono ?_); (case side1 => repeat (first | exact (C_below HR0_2.out HB.out) | (with_reducible refine C_alloc ?_ _) | (with_reducible refine C_drewN ?_ _) | (with_reducible refine C_drew ?_))); (case side2 => exact HC0_2.out); rintro e w42 ⟨rfl, hb⟩; have n0_ := Zh (R_below (by (with_reducible repeat (first | apply R_alloc | apply R_drewN | apply R_drew)); exact HO630.out) hb); have n1_ := Zh (Zm (g := gb624) (o := .cells #[.int .i64 a0_0, .int .i64 a0_1, .slice A0_2 l0_2.length c0_2] 29 (0, 0)) Zk hb); have n2_ := Zh (Zm (g := gb625) (o := .cells #[.int .i64 0, .int .i64 0, .slice none 0 0] 29 (0, 0)) Zk hb); have n3_ := Zh (Zm (g := gb631) (o := .cells #[.int .i64 t626, .int .i64 t627, .slice Ao16 t628.length co16] 29 (0, 0)) Zk hb); have n4_ := Zh (Zl Zs hb); clear HO630; clear BK624; clear BK625; clear BK631; clear HB; have HO630 := n0_; have BK624 := n1_; have BK625 := n2_; have BK631 := n3_; have HB := n4_; clear n0_ n1_ n2_ n3_ n4_; (try clear hb); (try clear hb2); (try clear hk); (try clear hi)))
    go_meet
    case rel => exact ⟨_, (decide ((l3.length : Int) > 10)), (by first | rfl | (simp; done) | (simp [*]; done)), H', ⟨by first | omega | exact Nat.le_refl _⟩, ⟨by (with_reducible repeat (first | apply R_alloc | apply R_drewN | apply R_drew)); exact HO630.out⟩, ⟨by (with_reducible repeat (first | refine Za ?_ _ | refine Zb ?_ | refine blk_alloc ?_ _)); exact BK624.out⟩, ⟨by (with_reducible repeat (first | refine Za ?_ _ | refine Zb ?_ | refine blk_alloc ?_ _)); exact BK625.out⟩, ⟨by (with_reducible repeat (first | refine Za ?_ _ | refine Zb ?_ | refine blk_alloc ?_ _)); exact BK631.out⟩, ⟨by repeat (first | (with_reducible first | exact HB.out | apply Zf | apply Zd | apply Ze | refine Zg ?_ GE624.out | refine Zg ?_ GE625.out | refine Zg ?_ GE631.out) | exact HB.out)⟩⟩
   rw [if_neg c34] at H
   have c34b0 : (t634 == a2) = false := beq_eq_false_iff_ne.mpr c34
   have c34b1 : (t634 != a2) = true := bne_iff_ne.mpr c34
   have H' := Zh H
   clear H
   have hnb43 := NB624_625.out
   have hnc43 := NB625_624.out
   have hnb44 := NB624_631.out
   have hnc44 := NB631_624.out
   have hcz45_0 : w12.cell? ⟨gb624, 0, none⟩ = some (.int .i64 a0_0) := (blk_cell BK624.out 0).trans rfl
   have hcz45_1 : w12.cell? ⟨gb624, 1, none⟩ = some (.int .i64 a0_1) := (blk_cell BK624.out 1).trans rfl
   have hcz45_2 : w12.cell? ⟨gb624, 2, none⟩ = some (.slice A0_2 l0_2.length c0_2) := (blk_cell BK624.out 2).trans rfl
   have hfz45_0 := Zn BK624.out 0
   have hfz45_1 := Zn BK624.out 1
   have hfz45_2 := Zn BK624.out 2
   go_wp2_with (first | ((with_reducible refine gate_callee (f := 45) rfl ?_); refine goesL_ (some 17) rfl rfl Try.func45 (by kernel_rfl) rfl #[.agg #[.int .i64 a0_0, .int .i64 a0_1, .slice A0_2 l0_2.length c0_2]] rfl (by (try simp only [List.map_toArray, List.map_cons, List.map_nil]); first | done | rfl | (simp only [List.length_drop, List.length_take]; rfl)) ?_; (with_reducible refine (impl_isRLog.calls k a0_0 a0_1 _ _ l0_2 true _ ?side1 ?side2 A17.out).mono ?_); (case side1 => exact C_below HR0_2.out Zs); (case side2 => exact HC0_2.out); rintro e w46 ⟨rfl, hb⟩; refine ⟨_, rfl, ?_⟩; have n0_ := Zh (R_below (by (with_reducible repeat (first | apply R_alloc | apply R_drewN | apply R_drew)); exact (R_mono (R_far (p := ⟨gb631, 2, none⟩) (R_far (p := ⟨gb631, 1, none⟩) (R_far (p := ⟨gb631, 0, none⟩) (R_types HO630.out BK631.out (by decide)) (fun _ hk => hk.2) (.int .i64 t626)) (fun _ hk => hk.2) (.int .i64 t627)) (fun _ hk => hk.2) (.slice Ao16 t628.length co16)) (fun _ h_ => h_.1))) hb); have n1_ := Zh (Zm (g := gb624) (o := .cells #[.int .i64 a0_0, .int .i64 a0_1, .slice A0_2 l0_2.length c0_2] 29 (0, 0)) (by (with_reducible repeat (first | refine Za ?_ _ | refine Zb ?_ | refine blk_alloc ?_ _)); refine Zp ?_ NB624_631.out _; (with_reducible repeat (first | refine Za ?_ _ | refine Zb ?_ | refine blk_alloc ?_ _)); refine Zp ?_ NB624_631.out _; (with_reducible repeat (first | refine Za ?_ _ | refine Zb ?_ | refine blk_alloc ?_ _)); refine Zp ?_ NB624_631.out _; (with_reducible repeat (first | refine Za ?_ _ | refine Zb ?_ | refine blk_alloc ?_ _)); exact BK624.out) hb); have n2_ := Zh (Zm (g := gb625) (o := .cells #[.int .i64 0, .int .i64 0, .slice none 0 0] 29 (0, 0)) (by (with_reducible repeat (first | refine Za ?_ _ | refine Zb ?_ | refine blk_alloc ?_ _)); refine Zp ?_ NB625_631.out _; (with_reducible repeat (first | refine Za ?_ _ | refine Zb ?_ | refine blk_alloc ?_ _)); refine Zp ?_ NB625_631.out _; (with_reducible repeat (first | refine Za ?_ _ | refine Zb ?_ | refine blk_alloc ?_ _)); refine Zp ?_ NB625_631.out _; (with_reducible repeat (first | refine Za ?_ _ | refine Zb ?_ | refine blk_alloc ?_ _)); exact BK625.out) hb); have n3_ := Zh (Zm (g := gb631) (o := .cells #[.int .i64 t626, .int .i64 t627, .slice Ao16 t628.length co16] 29 (0, 0)) (by (with_reducible repeat (first | refine Za ?_ _ | refine Zb ?_ | refine blk_alloc ?_ _)); refine blk_put (cs := #[.int .i64 t626, .int .i64 t627, .slice none 0 0]) ?_ 2 _ rfl; (with_reducible repeat (first | refine Za ?_ _ | refine Zb ?_ | refine blk_alloc ?_ _)); refine blk_put (cs := #[.int .i64 t626, .int .i64 0, .slice none 0 0]) ?_ 1 _ rfl; (with_reducible repeat (first | refine Za ?_ _ | refine Zb ?_ | refine blk_alloc ?_ _)); refine blk_put (cs := #[.int .i64 0, .int .i64 0, .slice none 0 0]) ?_ 0 _ rfl; (with_reducible repeat (first | refine Za ?_ _ | refine Zb ?_ | refine blk_alloc ?_ _)); exact BK631.out) hb); have n4_ := Zh (Zl Zs hb); clear HO630; clear BK624; clear BK625; clear BK631; clear HB; have HO630 := n0_; have BK624 := n1_; have BK625 := n2_; have BK631 := n3_; have HB := n4_; clear n0_ n1_ n2_ n3_ n4_; (try clear hb); (try clear hb2); (try clear hk); (try clear hi); have hcz47_0 : w46.cell? ⟨gb624, 0, none⟩ = some (.int .i64 a0_0) := (blk_cell BK624.out 0).trans rfl; have hcz47_1 : w46.cell? ⟨gb624, 1, none⟩ = some (.int .i64 a0_1) := (blk_cell BK624.out 1).trans rfl; have hcz47_2 : w46.cell? ⟨gb624, 2, none⟩ = some (.slice A0_2 l0_2.length c0_2) := (blk_cell BK624.out 2).trans rfl; have hfz47_0 := Zn BK624.out 0; have hfz47_1 := Zn BK624.out 1; have hfz47_2 := Zn BK624.out 2) | (go_at_call 46; (with_reducible refine (impl_RLog_last.calls a0_0 a0_1 _ _ l0_2 t633 _ ?side1 ?side2 A25.out).mono ?_); (case side1 => repeat (first | exact (C_below HR0_2.out HB.out) | (with_reducible refine C_alloc ?_ _) | (with_reducible refine C_drewN ?_ _) | (with_reducible refine C_drew ?_))); (case side2 => exact HC0_2.out); rintro e w48 ⟨rfl, hb⟩; have n0_ := Zh (R_below (by (with_reducible repeat (first | apply R_alloc | apply R_drewN | apply R_drew)); exact HO630.out) hb); have n1_ := Zh (Zm (g := gb624) (o := .cells #[.int .i64 a0_0, .int .i64 a0_1, .slice A0_2 l0_2.length c0_2] 29 (0, 0)) Zk hb); have n2_ := Zh (Zm (g := gb625) (o := .cells #[.int .i64 0, .int .i64 0, .slice none 0 0] 29 (0, 0)) Zk hb); have n3_ := Zh (Zm (g := gb631) (o := .cells #[.int .i64 t626, .int .i64 t627, .slice Ao16 t628.length co16] 29 (0, 0)) Zk hb); have n4_ := Zh (Zl Zs hb); clear HO630; clear BK624; clear BK625; clear BK631; clear HB; have HO630 := n0_; have BK624 := n1_; have BK625 := n2_; have BK631 := n3_; have HB := n4_; clear n0_ n1_ n2_ n3_ n4_; (try clear hb); (try clear hb2); (try clear hk); (try clear hi); have hcz49_0 : w48.cell? ⟨gb624, 0, none⟩ = some (.int .i64 a0_0) := (blk_cell BK624.out 0).trans rfl; have hcz49_1 : w48.cell? ⟨gb624, 1, none⟩ = some (.int .i64 a0_1) := (blk_cell BK624.out 1).trans rfl; have hcz49_2 : w48.cell? ⟨gb624, 2, none⟩ = some (.slice A0_2 l0_2.length c0_2) := (blk_cell BK624.out 2).trans rfl; have hfz49_0 := Zn BK624.out 0; have hfz49_1 := Zn BK624.out 1; have hfz49_2 := Zn BK624.out 2) | (go_at_call 47; (with_reducible refine (impl_RLog_term.calls a0_0 a0_1 _ _ l0_2 a1 t634 _ ?side1 ?side2 A33.out).mono ?_); (case side1 => repeat (first | exact (C_below HR0_2.out HB.out) | (with_reducible refine C_alloc ?_ _) | (with_reducible refine C_drewN ?_ _) | (with_reducible refine C_drew ?_))); (case side2 => exact HC0_2.out); rintro e w50 ⟨rfl, hb⟩; have n0_ := Zh (R_below (by (with_reducible repeat (first | apply R_alloc | apply R_drewN | apply R_drew)); exact HO630.out) hb); have n1_ := Zh (Zm (g := gb624) (o := .cells #[.int .i64 a0_0, .int .i64 a0_1, .slice A0_2 l0_2.length c0_2] 29 (0, 0)) Zk hb); have n2_ := Zh (Zm (g := gb625) (o := .cells #[.int .i64 0, .int .i64 0, .slice none 0 0] 29 (0, 0)) Zk hb); have n3_ := Zh (Zm (g := gb631) (o := .cells #[.int .i64 t626, .int .i64 t627, .slice Ao16 t628.length co16] 29 (0, 0)) Zk hb); have n4_ := Zh (Zl Zs hb); clear HO630; clear BK624; clear BK625; clear BK631; clear HB; have HO630 := n0_; have BK624 := n1_; have BK625 := n2_; have BK631 := n3_; have HB := n4_; clear n0_ n1_ n2_ n3_ n4_; (try clear hb); (try clear hb2); (try clear hk); (try clear hi)))
   go_meet
   case rel => exact ⟨_, (true), (by first | rfl | (simp; done) | (simp [*]; done)), H', ⟨by first | omega | exact Nat.le_refl _⟩, ⟨by (with_reducible repeat (first | apply R_alloc | apply R_drewN | apply R_drew)); exact HO630.out⟩, ⟨by (with_reducible repeat (first | refine Za ?_ _ | refine Zb ?_ | refine blk_alloc ?_ _)); exact BK624.out⟩, ⟨by (with_reducible repeat (first | refine Za ?_ _ | refine Zb ?_ | refine blk_alloc ?_ _)); exact BK625.out⟩, ⟨by (with_reducible repeat (first | refine Za ?_ _ | refine Zb ?_ | refine blk_alloc ?_ _)); exact BK631.out⟩, ⟨by repeat (first | (with_reducible first | exact HB.out | apply Zf | apply Zd | apply Ze | refine Zg ?_ GE624.out | refine Zg ?_ GE625.out | refine Zg ?_ GE631.out) | exact HB.out)⟩⟩
  replace c18 := Bool.eq_false_iff.mpr c18
  subst c18
  have H1 : (impl_AppendTo.j0 k a1 l3 true a0_0 a0_1 l0_2 t626 t627 t628) = some (r1, r2, r3, r4) := by rw [if_neg (show ¬ (false = true) by decide)] at H; exact H
  clear H
  have H := H1
  clear H1
  have H' := Zh H
  clear H
  have hnb51 := NB624_625.out
  have hnc51 := NB625_624.out
  have hnb52 := NB624_631.out
  have hnc52 := NB631_624.out
  have hcz53_0 : w12.cell? ⟨gb624, 0, none⟩ = some (.int .i64 a0_0) := (blk_cell BK624.out 0).trans rfl
  have hcz53_1 : w12.cell? ⟨gb624, 1, none⟩ = some (.int .i64 a0_1) := (blk_cell BK624.out 1).trans rfl
  have hcz53_2 : w12.cell? ⟨gb624, 2, none⟩ = some (.slice A0_2 l0_2.length c0_2) := (blk_cell BK624.out 2).trans rfl
  have hfz53_0 := Zn BK624.out 0
  have hfz53_1 := Zn BK624.out 1
  have hfz53_2 := Zn BK624.out 2
  go_wp2_with (first | ((with_reducible refine gate_callee (f := 45) rfl ?_); refine goesL_ (some 17) rfl rfl Try.func45 (by kernel_rfl) rfl #[.agg #[.int .i64 a0_0, .int .i64 a0_1, .slice A0_2 l0_2.length c0_2]] rfl (by (try simp only [List.map_toArray, List.map_cons, List.map_nil]); first | done | rfl | (simp only [List.length_drop, List.length_take]; rfl)) ?_; (with_reducible refine (impl_isRLog.calls k a0_0 a0_1 _ _ l0_2 false _ ?side1 ?side2 A17.out).mono ?_); (case side1 => exact C_below HR0_2.out Zs); (case side2 => exact HC0_2.out); rintro e w54 ⟨rfl, hb⟩; refine ⟨_, rfl, ?_⟩; have n0_ := Zh (R_below (by (with_reducible repeat (first | apply R_alloc | apply R_drewN | apply R_drew)); exact (R_mono (R_far (p := ⟨gb631, 2, none⟩) (R_far (p := ⟨gb631, 1, none⟩) (R_far (p := ⟨gb631, 0, none⟩) (R_types HO630.out BK631.out (by decide)) (fun _ hk => hk.2) (.int .i64 t626)) (fun _ hk => hk.2) (.int .i64 t627)) (fun _ hk => hk.2) (.slice Ao16 t628.length co16)) (fun _ h_ => h_.1))) hb); have n1_ := Zh (Zm (g := gb624) (o := .cells #[.int .i64 a0_0, .int .i64 a0_1, .slice A0_2 l0_2.length c0_2] 29 (0, 0)) (by (with_reducible repeat (first | refine Za ?_ _ | refine Zb ?_ | refine blk_alloc ?_ _)); refine Zp ?_ NB624_631.out _; (with_reducible repeat (first | refine Za ?_ _ | refine Zb ?_ | refine blk_alloc ?_ _)); refine Zp ?_ NB624_631.out _; (with_reducible repeat (first | refine Za ?_ _ | refine Zb ?_ | refine blk_alloc ?_ _)); refine Zp ?_ NB624_631.out _; (with_reducible repeat (first | refine Za ?_ _ | refine Zb ?_ | refine blk_alloc ?_ _)); exact BK624.out) hb); have n2_ := Zh (Zm (g := gb625) (o := .cells #[.int .i64 0, .int .i64 0, .slice none 0 0] 29 (0, 0)) (by (with_reducible repeat (first | refine Za ?_ _ | refine Zb ?_ | refine blk_alloc ?_ _)); refine Zp ?_ NB625_631.out _; (with_reducible repeat (first | refine Za ?_ _ | refine Zb ?_ | refine blk_alloc ?_ _)); refine Zp ?_ NB625_631.out _; (with_reducible repeat (first | refine Za ?_ _ | refine Zb ?_ | refine blk_alloc ?_ _)); refine Zp ?_ NB625_631.out _; (with_reducible repeat (first | refine Za ?_ _ | refine Zb ?_ | refine blk_alloc ?_ _)); exact BK625.out) hb); have n3_ := Zh (Zm (g := gb631) (o := .cells #[.int .i64 t626, .int .i64 t627, .slice Ao16 t628.length co16] 29 (0, 0)) (by (with_reducible repeat (first | refine Za ?_ _ | refine Zb ?_ | refine blk_alloc ?_ _)); refine blk_put (cs := #[.int .i64 t626, .int .i64 t627, .slice none 0 0]) ?_ 2 _ rfl; (with_reducible repeat (first | refine Za ?_ _ | refine Zb ?_ | refine blk_alloc ?_ _)); refine blk_put (cs := #[.int .i64 t626, .int .i64 0, .slice none 0 0]) ?_ 1 _ rfl; (with_reducible repeat (first | refine Za ?_ _ | refine Zb ?_ | refine blk_alloc ?_ _)); refine blk_put (cs := #[.int .i64 0, .int .i64 0, .slice none 0 0]) ?_ 0 _ rfl; (with_reducible repeat (first | refine Za ?_ _ | refine Zb ?_ | refine blk_alloc ?_ _)); exact BK631.out) hb); have n4_ := Zh (Zl Zs hb); clear HO630; clear BK624; clear BK625; clear BK631; clear HB; have HO630 := n0_; have BK624 := n1_; have BK625 := n2_; have BK631 := n3_; have HB := n4_; clear n0_ n1_ n2_ n3_ n4_; (try clear hb); (try clear hb2); (try clear hk); (try clear hi)))
  go_meet
  case rel => exact ⟨_, (true), (by first | rfl | (simp; done) | (simp [*]; done)), H', ⟨by first | omega | exact Nat.le_refl _⟩, ⟨by (with_reducible repeat (first | apply R_alloc | apply R_drewN | apply R_drew)); exact HO630.out⟩, ⟨by (with_reducible repeat (first | refine Za ?_ _ | refine Zb ?_ | refine blk_alloc ?_ _)); exact BK624.out⟩, ⟨by (with_reducible repeat (first | refine Za ?_ _ | refine Zb ?_ | refine blk_alloc ?_ _)); exact BK625.out⟩, ⟨by (with_reducible repeat (first | refine Za ?_ _ | refine Zb ?_ | refine blk_alloc ?_ _)); exact BK631.out⟩, ⟨by repeat (first | (with_reducible first | exact HB.out | apply Zf | apply Zd | apply Ze | refine Zg ?_ GE624.out | refine Zg ?_ GE625.out | refine Zg ?_ GE631.out) | exact HB.out)⟩⟩
 case rest =>
  clear HC6
  try clear c1
  try clear c2
  try clear p2
  try clear c3
  try clear c4
  try clear c5
  try clear c9
  try clear c13
  try clear c14
  try clear c18
  try clear c19
  try clear c19b0
  try clear c20
  try clear c21
  try clear c26
  try clear c26b0
  try clear c27
  try clear c28
  try clear c34
  try clear c34b0
  try clear c34b1
  try clear c35
  try clear c36
  try clear c38
  try clear c43
  try clear c44
  try clear c45
  try clear c51
  try clear c52
  try clear hcz10_0
  try clear hcz10_1
  try clear hcz10_2
  try clear hcz15_0
  try clear hcz15_1
  try clear hcz15_2
  try clear hcz22_0
  try clear hcz22_1
  try clear hcz22_2
  try clear hcz24_0
  try clear hcz24_1
  try clear hcz24_2
  try clear hcz29_0
  try clear hcz29_1
  try clear hcz29_2
  try clear hcz31_0
  try clear hcz31_1
  try clear hcz31_2
  try clear hcz37_0
  try clear hcz37_1
  try clear hcz37_2
  try clear hcz39_0
  try clear hcz39_1
  try clear hcz39_2
  try clear hcz41_0
  try clear hcz41_1
  try clear hcz41_2
  try clear hcz45_0
  try clear hcz45_1
  try clear hcz45_2
  try clear hcz47_0
  try clear hcz47_1
  try clear hcz47_2
  try clear hcz49_0
  try clear hcz49_1
  try clear hcz49_2
  try clear hcz53_0
  try clear hcz53_1
  try clear hcz53_2
  try clear hfz10_0
  try clear hfz10_1
  try clear hfz10_2
  try clear hfz15_0
  try clear hfz15_1
  try clear hfz15_2
  try clear hfz22_0
  try clear hfz22_1
  try clear hfz22_2
  try clear hfz24_0
  try clear hfz24_1
  try clear hfz24_2
  try clear hfz29_0
  try clear hfz29_1
  try clear hfz29_2
  try clear hfz31_0
  try clear hfz31_1
  try clear hfz31_2
  try clear hfz37_0
  try clear hfz37_1
  try clear hfz37_2
  try clear hfz39_0
  try clear hfz39_1
  try clear hfz39_2
  try clear hfz41_0
  try clear hfz41_1
  try clear hfz41_2
  try clear hfz45_0
  try clear hfz45_1
  try clear hfz45_2
  try clear hfz47_0
  try clear hfz47_1
  try clear hfz47_2
  try clear hfz49_0
  try clear hfz49_1
  try clear hfz49_2
  try clear hfz53_0
  try clear hfz53_1
  try clear hfz53_2
  obtain ⟨kq, x42_5, rfl, HA, HJ5, HO_632002, BK624, BK625, BK631, HB⟩ := hcut
  cases kq with
  | zero => exact absurd HA.out (by simp [impl_AppendTo.j0])
  | succ kj5 =>
   have H := HA.out
   clear HA
   simp only [impl_AppendTo.j0] at H
   by_cases c55 : x42_5 = true
   ·
    subst c55
    have H1 : (some (t626, t627, t628, false)) = some (r1, r2, r3, r4) := by rw [if_pos rfl] at H; exact H
    clear H
    have H := H1
    clear H1
    simp only [Option.some.injEq, Prod.mk.injEq] at H
    obtain ⟨rfl, rfl, rfl, rfl⟩ := H
    have hnb56 := NB631_624.out
    have hnc56 := NB624_631.out
    have hnb57 := NB631_625.out
    have hnc57 := NB625_631.out
    have hcz58_0 : wc.cell? ⟨gb631, 0, none⟩ = some (.int .i64 t626) := (blk_cell BK631.out 0).trans rfl
    have hcz58_1 : wc.cell? ⟨gb631, 1, none⟩ = some (.int .i64 t627) := (blk_cell BK631.out 1).trans rfl
    have hcz58_2 : wc.cell? ⟨gb631, 2, none⟩ = some (.slice Ao16 t628.length co16) := (blk_cell BK631.out 2).trans rfl
    have hfz58_0 := Zn BK631.out 0
    have hfz58_1 := Zn BK631.out 1
    have hfz58_2 := Zn BK631.out 2
    have hnb59 := NB625_624.out
    have hnc59 := NB624_625.out
    have hcz60_0 : wc.cell? ⟨gb625, 0, none⟩ = some (.int .i64 0) := (blk_cell BK625.out 0).trans rfl
    have hcz60_1 : wc.cell? ⟨gb625, 1, none⟩ = some (.int .i64 0) := (blk_cell BK625.out 1).trans rfl
    have hcz60_2 : wc.cell? ⟨gb625, 2, none⟩ = some (.slice none 0 0) := (blk_cell BK625.out 2).trans rfl
    have hfz60_0 := Zn BK625.out 0
    have hfz60_1 := Zn BK625.out 1
    have hfz60_2 := Zn BK625.out 2
    go_wp2
    refine bodyPost_ret (results_ct rfl _ _ gb625 29 #[.int .i64 t626, .int .i64 t627, .slice Ao16 t628.length co16] (0, 0) _ rfl (by (with_reducible repeat (first | refine Za ?_ _ | refine Zb ?_ | refine blk_alloc ?_ _)); refine blk_put (cs := #[.int .i64 t626, .int .i64 t627, .slice none 0 0]) ?_ 2 _ rfl; (with_reducible repeat (first | refine Za ?_ _ | refine Zb ?_ | refine blk_alloc ?_ _)); refine blk_put (cs := #[.int .i64 t626, .int .i64 0, .slice none 0 0]) ?_ 1 _ rfl; (with_reducible repeat (first | refine Za ?_ _ | refine Zb ?_ | refine blk_alloc ?_ _)); refine blk_put (cs := #[.int .i64 0, .int .i64 0, .slice none 0 0]) ?_ 0 _ rfl; (with_reducible repeat (first | refine Za ?_ _ | refine Zb ?_ | refine blk_alloc ?_ _)); exact BK625.out) Try.underlying29 rfl (by kernel_rfl)) rfl ?_
    exact ⟨_, by first | rfl | (simp [errW_none, errW_some] <;> rfl) | (simp [*, errW_none, errW_some] <;> rfl), by (with_reducible repeat (first | apply R_alloc | apply R_drewN | apply R_drew)); exact R_mono (R_far (p := ⟨gb625, 2, none⟩) (R_far (p := ⟨gb625, 1, none⟩) (R_far (p := ⟨gb625, 0, none⟩) (R_types HO_632002.out BK625.out (by decide)) (fun _ hk => hk.2) (.int .i64 t626)) (fun _ hk => hk.2) (.int .i64 t627)) (fun _ hk => hk.2) (.slice Ao16 t628.length co16)) (fun _ hk => trivial), by repeat (first | (with_reducible first | exact HB.out | apply Zf | apply Zd | apply Ze | refine Zg ?_ GE624.out | refine Zg ?_ GE625.out | refine Zg ?_ GE631.out) | exact HB.out)⟩
   replace c55 := Bool.eq_false_iff.mpr c55
   subst c55
   have H1 : (impl_AppendTo.l0 kj5 a1 l3 l3 (l3.length : Int) 0 a0_0 a0_1 l0_2 t626 t627 t628) = some (r1, r2, r3, r4) := by rw [if_neg (show ¬ (false = true) by decide)] at H; exact H
   clear H
   have H := H1
   clear H1
   have HC61 := Zh H
   clear H
   go_upto_block 0 with (fail)
   go_cut [] (fun wc => ∃ (kq : Nat) (x632002_60 : List (S54)) (u632002 : Value), Aside0 (impl_AppendTo.j2 kq a0_0 a0_1 l0_2 t626 t627 x632002_60 = some (r1, r2, r3, r4)) ∧ Aside0 (kq ≤ kj5) ∧ Aside0 (Kd.R k54 54 wc w.heap.size (fun _ => True) u632002 x632002_60) ∧ Aside0 (wc.heap[gb624]? = some (.cells #[.int .i64 a0_0, .int .i64 a0_1, (.slice A0_2 l0_2.length c0_2)] 29 (0, 0))) ∧ Aside0 (wc.heap[gb625]? = some (.cells #[.int .i64 0, .int .i64 0, (.slice none 0 0)] 29 (0, 0))) ∧ Aside0 (wc.heap[gb631]? = some (.cells #[.int .i64 t626, .int .i64 t627, u632002] 29 (0, 0))) ∧ Aside0 (Below w.heap.size w wc))
   case first =>
    have H := HC61.out
    clear HC61
    have H' := Zh H
    clear H
    go_wp2
    go_loopg [46] kj5 (fun kq v46 w' => ∃ (x46_2 : Int) (x632002_2 : List (S54)) (u632002 : Value), v46 = .int .i64 x46_2 ∧ Aside0 (impl_AppendTo.l0 kq a1 l3 l3 (l3.length : Int) x46_2 a0_0 a0_1 l0_2 t626 t627 x632002_2 = some (r1, r2, r3, r4)) ∧ Aside0 (kq ≤ kj5) ∧ Aside0 (Kd.R k54 54 w' w.heap.size (fun _ => True) u632002 x632002_2) ∧ Aside0 (w'.heap[gb624]? = some (.cells #[.int .i64 a0_0, .int .i64 a0_1, (.slice A0_2 l0_2.length c0_2)] 29 (0, 0))) ∧ Aside0 (w'.heap[gb625]? = some (.cells #[.int .i64 0, .int .i64 0, (.slice none 0 0)] 29 (0, 0))) ∧ Aside0 (w'.heap[gb631]? = some (.cells #[.int .i64 t626, .int .i64 t627, u632002] 29 (0, 0))) ∧ Aside0 (Below w.heap.size w w'))
    case atStart => exact ⟨(0), (t628), (.slice Ao16 t628.length co16), (by first | rfl | (simp; done) | (simp [*]; done)), H', ⟨Nat.le_refl _⟩, ⟨by (with_reducible repeat (first | apply R_alloc | apply R_drewN | apply R_drew)); exact HO_632002.out⟩, ⟨by (with_reducible repeat (first | refine Za ?_ _ | refine Zb ?_ | refine blk_alloc ?_ _)); exact BK624.out⟩, ⟨by (with_reducible repeat (first | refine Za ?_ _ | refine Zb ?_ | refine blk_alloc ?_ _)); exact BK625.out⟩, ⟨by (with_reducible repeat (first | refine Za ?_ _ | refine Zb ?_ | refine blk_alloc ?_ _)); exact BK631.out⟩, ⟨by repeat (first | (with_reducible first | exact HB.out | apply Zf | apply Zd | apply Ze | refine Zg ?_ GE624.out | refine Zg ?_ GE625.out | refine Zg ?_ GE631.out) | exact HB.out)⟩⟩
    case round =>
     clear H'
     try clear c1
     try clear c2
     try clear p2
     try clear c3
     try clear c4
     try clear c5
     try clear c9
     try clear c13
     try clear c14
     try clear c18
     try clear c19
     try clear c19b0
     try clear c20
     try clear c21
     try clear c26
     try clear c26b0
     try clear c27
     try clear c28
     try clear c34
     try clear c34b0
     try clear c34b1
     try clear c35
     try clear c36
     try clear c38
     try clear c43
     try clear c44
     try clear c45
     try clear c51
     try clear c52
     try clear c55
     try clear c56
     try clear c57
     try clear c59
     try clear hcz10_0
     try clear hcz10_1
     try clear hcz10_2
     try clear hcz15_0
     try clear hcz15_1
     try clear hcz15_2
     try clear hcz22_0
     try clear hcz22_1
     try clear hcz22_2
     try clear hcz24_0
     try clear hcz24_1
     try clear hcz24_2
     try clear hcz29_0
     try clear hcz29_1
     try clear hcz29_2
     try clear hcz31_0
     try clear hcz31_1
     try clear hcz31_2
     try clear hcz37_0
     try clear hcz37_1
     try clear hcz37_2
     try clear hcz39_0
     try clear hcz39_1
     try clear hcz39_2
     try clear hcz41_0
     try clear hcz41_1
     try clear hcz41_2
     try clear hcz45_0
     try clear hcz45_1
     try clear hcz45_2
     try clear hcz47_0
     try clear hcz47_1
     try clear hcz47_2
     try clear hcz49_0
     try clear hcz49_1
     try clear hcz49_2
     try clear hcz53_0
     try clear hcz53_1
     try clear hcz53_2
     try clear hcz58_0
     try clear hcz58_1
     try clear hcz58_2
     try clear hcz60_0
     try clear hcz60_1
     try clear hcz60_2
     try clear hfz10_0
     try clear hfz10_1
     try clear hfz10_2
     try clear hfz15_0
     try clear hfz15_1
     try clear hfz15_2
     try clear hfz22_0
     try clear hfz22_1
     try clear hfz22_2
     try clear hfz24_0
     try clear hfz24_1
     try clear hfz24_2
     try clear hfz29_0
     try clear hfz29_1
     try clear hfz29_2
     try clear hfz31_0
     try clear hfz31_1
     try clear hfz31_2
     try clear hfz37_0
     try clear hfz37_1
     try clear hfz37_2
     try clear hfz39_0
     try clear hfz39_1
     try clear hfz39_2
     try clear hfz41_0
     try clear hfz41_1
     try clear hfz41_2
     try clear hfz45_0
     try clear hfz45_1
     try clear hfz45_2
     try clear hfz47_0
     try clear hfz47_1
     try clear hfz47_2
     try clear hfz49_0
     try clear hfz49_1
     try clear hfz49_2
     try clear hfz53_0
     try clear hfz53_1
     try clear hfz53_2
     try clear hfz58_0
     try clear hfz58_1
     try clear hfz58_2
     try clear hfz60_0
     try clear hfz60_1
     try clear hfz60_2
     try clear p2
     obtain ⟨x46_2, x632002_2, u632002, rfl, HA, HK2, HO_632002, BK624, BK625, BK631, HB⟩ := hrel
     cases gk with
     | zero => exact absurd HA.out (by simp [impl_AppendTo.l0])
     | succ k2 =>
      have H := HA.out
      clear HA
      simp only [impl_AppendTo.l0] at H
      by_cases c62 : x46_2 < (l3.length : Int)
      ·
       rw [if_pos c62] at H
       have c62b0 : decide (x46_2 < (l3.length : Int)) = true := decide_eq_true c62
       clear c62
       (first | rw [c62b0] | (simp only [i64_w, i32_w]; rw [c62b0]) | skip)
       by_cases c63 : 0 ≤ x46_2
       ·
        rw [if_pos c63] at H
        have c63b0 : decide (0 ≤ x46_2) = true := decide_eq_true c63
        clear c63
        by_cases c64 : x46_2 < (l3.length : Int)
        ·
         rw [if_pos c64] at H
         have c64b0 : decide (x46_2 < (l3.length : Int)) = true := decide_eq_true c64
         clear c64
         replace H := Option.bind_eq_some_iff.mp H
         obtain ⟨t637, A650, H⟩ := H
         replace H : (if (wrap64 ((wrap64 (a1 + 1)) + x46_2)) ≤ t637 then ((impl_RLog_term.f a0_0 a0_1 l0_2 (wrap64 ((wrap64 (a1 + 1)) + x46_2))).bind fun t638 => (if t638 = ((rd_T54 l3 x46_2).f0) then (impl_AppendTo.l0 k2 a1 l3 l3 (l3.length : Int) (wrap64 (x46_2 + 1)) a0_0 a0_1 l0_2 t626 t627 x632002_2) else (if 0 ≤ (wrap64 ((wrap64 ((wrap64 ((wrap64 (a1 + 1)) + x46_2)) - a0_0)) - 1)) then (if (wrap64 ((wrap64 ((wrap64 ((wrap64 (a1 + 1)) + x46_2)) - a0_0)) - 1)) ≤ (x632002_2.length : Int) then ((some (x632002_2.take ((wrap64 ((wrap64 ((wrap64 ((wrap64 (a1 + 1)) + x46_2)) - a0_0)) - 1)) : Int).toNat : List (S54))).bind fun y639 => (if x46_2 ≤ (l3.length : Int) then ((some (l3.drop (x46_2 : Int).toNat : List (S54))).bind fun y642 => (if y639.length + y642.length < 5864062014805 then (impl_AppendTo.j2 k2 a0_0 a0_1 l0_2 t626 t627 (y639 ++ y642)) else (none))) else (none))) else (none)) else (none)))) else (if 0 ≤ (wrap64 ((wrap64 ((wrap64 ((wrap64 (a1 + 1)) + x46_2)) - a0_0)) - 1)) then (if (wrap64 ((wrap64 ((wrap64 ((wrap64 (a1 + 1)) + x46_2)) - a0_0)) - 1)) ≤ (x632002_2.length : Int) then ((some (x632002_2.take ((wrap64 ((wrap64 ((wrap64 ((wrap64 (a1 + 1)) + x46_2)) - a0_0)) - 1)) : Int).toNat : List (S54))).bind fun y649 => (if x46_2 ≤ (l3.length : Int) then ((some (l3.drop (x46_2 : Int).toNat : List (S54))).bind fun y652 => (if y649.length + y652.length < 5864062014805 then (impl_AppendTo.j2 k2 a0_0 a0_1 l0_2 t626 t627 (y649 ++ y652)) else (none))) else (none))) else (none)) else (none))) = some (r1, r2, r3, r4) := H
         have A65 := Zh A650
         clear A650
         by_cases c66 : (wrap64 ((wrap64 (a1 + 1)) + x46_2)) ≤ t637
         ·
          rw [if_pos c66] at H
          have c66b0 : decide ((wrap64 ((wrap64 (a1 + 1)) + x46_2)) ≤ t637) = true := decide_eq_true c66
          clear c66
          replace H := Option.bind_eq_some_iff.mp H
          obtain ⟨t638, A670, H⟩ := H
          replace H : (if t638 = ((rd_T54 l3 x46_2).f0) then (impl_AppendTo.l0 k2 a1 l3 l3 (l3.length : Int) (wrap64 (x46_2 + 1)) a0_0 a0_1 l0_2 t626 t627 x632002_2) else (if 0 ≤ (wrap64 ((wrap64 ((wrap64 ((wrap64 (a1 + 1)) + x46_2)) - a0_0)) - 1)) then (if (wrap64 ((wrap64 ((wrap64 ((wrap64 (a1 + 1)) + x46_2)) - a0_0)) - 1)) ≤ (x632002_2.length : Int) then ((some (x632002_2.take ((wrap64 ((wrap64 ((wrap64 ((wrap64 (a1 + 1)) + x46_2)) - a0_0)) - 1)) : Int).toNat : List (S54))).bind fun y639 => (if x46_2 ≤ (l3.length : Int) then ((some (l3.drop (x46_2 : Int).toNat : List (S54))).bind fun y642 => (if y639.length + y642.length < 5864062014805 then (impl_AppendTo.j2 k2 a0_0 a0_1 l0_2 t626 t627 (y639 ++ y642)) else (none))) else (none))) else (none)) else (none))) = some (r1, r2, r3, r4) := H
          have A67 := Zh A670
          clear A670
          by_cases c68 : t638 = ((rd_T54 l3 x46_2).f0)
          ·
           rw [if_pos c68] at H
           have c68b0 : (t638 == ((rd_T54 l3 x46_2).f0)) = true := beq_iff_eq.mpr c68
           have c68b1 : (t638 != ((rd_T54 l3 x46_2).f0)) = false := bne_eq_false_iff_eq.mpr c68
           clear c68
           have H' := Zh H
           clear H
           have p635 : 0 ≤ (x46_2 : Int) := Zo
           have q635 : x46_2 < (l3.length : Int) := Zo
           obtain ⟨ad635, e635, hx635_0, hx635_1⟩ := at_T54 HR3.out x46_2 p635 q635
           cases e635
           replace hx635_0 := Zc HB.out hx635_0
           replace hx635_1 := Zc HB.out hx635_1
           replace p635 := eq_true p635
           replace q635 := eq_true q635
           try go_wp2_with (first | ((with_reducible refine gate_dst (N := 12) rfl ?_); (try (refine gate_guard (by rfl) ?_; dsimp only)); refine box_event ?hg (N := 12) ?hd (cs := #[.int .i64 0, .string (⟨#[]⟩ : ByteArray)]) (t := 54) ?hr ?_; (case hd => rfl); (case hg => rfl); (case hr => first | (go_simp; done) | (go_simp; rfl)); intro gb636 hg w69 hbox hb; have n0_ := Zh (R_below (R_elderB (by (with_reducible repeat (first | apply R_alloc | apply R_drewN | apply R_drew)); exact HO_632002.out) gb636 (Nat.le_of_eq hg.symm)) hb); have n1_ := Zh (Zm (g := gb624) (o := .cells #[.int .i64 a0_0, .int .i64 a0_1, .slice A0_2 l0_2.length c0_2] 29 (0, 0)) Zk hb); have n2_ := Zh (Zm (g := gb625) (o := .cells #[.int .i64 0, .int .i64 0, .slice none 0 0] 29 (0, 0)) Zk hb); have n3_ := Zh (Zm (g := gb631) (o := .cells #[.int .i64 t626, .int .i64 t627, u632002] 29 (0, 0)) Zk hb); have n4_ := Zh (Zl Zs hb); have n5_ := Zh (hbox); have n6_ := Zh ((by rw [hg]; exact (below_size Zs) : w.heap.size ≤ gb636)); have n7_ := Zh ((by rw [hg]; exact (below_size Zs) : w.heap.size ≤ gb636)); have n8_ := Zh ((by rw [hg]; exact Nat.ne_of_lt (blk_lt (g := gb624) (o := .cells #[.int .i64 a0_0, .int .i64 a0_1, .slice A0_2 l0_2.length c0_2] 29 (0, 0)) Zk) : gb624 ≠ gb636)); have n9_ := Zh ((by rw [hg]; exact Nat.ne_of_gt (blk_lt (g := gb624) (o := .cells #[.int .i64 a0_0, .int .i64 a0_1, .slice A0_2 l0_2.length c0_2] 29 (0, 0)) Zk) : gb636 ≠ gb624)); have n10_ := Zh ((by rw [hg]; exact Nat.ne_of_lt (blk_lt (g := gb625) (o := .cells #[.int .i64 0, .int .i64 0, .slice none 0 0] 29 (0, 0)) Zk) : gb625 ≠ gb636)); have n11_ := Zh ((by rw [hg]; exact Nat.ne_of_gt (blk_lt (g := gb625) (o := .cells #[.int .i64 0, .int .i64 0, .slice none 0 0] 29 (0, 0)) Zk) : gb636 ≠ gb625)); have n12_ := Zh ((by rw [hg]; exact Nat.ne_of_lt (blk_lt (g := gb631) (o := .cells #[.int .i64 t626, .int .i64 t627, u632002] 29 (0, 0)) Zk) : gb631 ≠ gb636)); have n13_ := Zh ((by rw [hg]; exact Nat.ne_of_gt (blk_lt (g := gb631) (o := .cells #[.int .i64 t626, .int .i64 t627, u632002] 29 (0, 0)) Zk) : gb636 ≠ gb631)); clear HO_632002; clear BK624; clear BK625; clear BK631; clear HB; have HO_632002 := n0_; have BK624 := n1_; have BK625 := n2_; have BK631 := n3_; have HB := n4_; have BK636 := n5_; have GW636 := n6_; have GE636 := n7_; have NB624_636 := n8_; have NB636_624 := n9_; have NB625_636 := n10_; have NB636_625 := n11_; have NB631_636 := n12_; have NB636_631 := n13_; clear n0_ n1_ n2_ n3_ n4_ n5_ n6_ n7_ n8_ n9_ n10_ n11_ n12_ n13_; clear hb hbox hg; have hnb70 := NB636_624.out; have hnc70 := NB624_636.out; have hnb71 := NB636_625.out; have hnc71 := NB625_636.out; have hnb72 := NB636_631.out; have hnc72 := NB631_636.out; have hcz73_0 : w69.cell? ⟨gb636, 0, none⟩ = some (.int .i64 0) := (blk_cell BK636.out 0).trans rfl; have hcz73_1 : w69.cell? ⟨gb636, 1, none⟩ = some (.string (⟨#[]⟩ : ByteArray)) := (blk_cell BK636.out 1).trans rfl; have hfz73_0 := Zn BK636.out 0; have hfz73_1 := Zn BK636.out 1))
           have n0_ : Aside0 (Kd.R k54 54 ((w69.setCell ⟨gb636, 0, none⟩ (.int .i64 ((rd_T54 l3 x46_2).f0))).setCell ⟨gb636, 1, none⟩ (.string ((rd_T54 l3 x46_2).f1))) w.heap.size (fun k_ => k_ ≠ gb636) u632002 x632002_2) := ⟨by (with_reducible repeat (first | apply R_alloc | apply R_drewN | apply R_drew)); exact R_mono (R_far (p := ⟨gb636, 1, none⟩) (R_far (p := ⟨gb636, 0, none⟩) (R_mono HO_632002.out (fun k_ hk => (⟨hk, hk.2⟩ : _ ∧ k_ ≠ gb636))) (fun _ hk => hk.2) (.int .i64 ((rd_T54 l3 x46_2).f0))) (fun _ hk => hk.2) (.string ((rd_T54 l3 x46_2).f1))) (fun _ hk => hk.1.2)⟩
           have n1_ : Aside0 (((w69.setCell ⟨gb636, 0, none⟩ (.int .i64 ((rd_T54 l3 x46_2).f0))).setCell ⟨gb636, 1, none⟩ (.string ((rd_T54 l3 x46_2).f1))).heap[gb624]? = some (.cells #[.int .i64 a0_0, .int .i64 a0_1, .slice A0_2 l0_2.length c0_2] 29 (0, 0))) := ⟨by (with_reducible repeat (first | refine Za ?_ _ | refine Zb ?_ | refine blk_alloc ?_ _)); refine Zp ?_ NB624_636.out _; (with_reducible repeat (first | refine Za ?_ _ | refine Zb ?_ | refine blk_alloc ?_ _)); refine Zp ?_ NB624_636.out _; (with_reducible repeat (first | refine Za ?_ _ | refine Zb ?_ | refine blk_alloc ?_ _)); exact BK624.out⟩
           have n2_ : Aside0 (((w69.setCell ⟨gb636, 0, none⟩ (.int .i64 ((rd_T54 l3 x46_2).f0))).setCell ⟨gb636, 1, none⟩ (.string ((rd_T54 l3 x46_2).f1))).heap[gb625]? = some (.cells #[.int .i64 0, .int .i64 0, .slice none 0 0] 29 (0, 0))) := ⟨by (with_reducible repeat (first | refine Za ?_ _ | refine Zb ?_ | refine blk_alloc ?_ _)); refine Zp ?_ NB625_636.out _; (with_reducible repeat (first | refine Za ?_ _ | refine Zb ?_ | refine blk_alloc ?_ _)); refine Zp ?_ NB625_636.out _; (with_reducible repeat (first | refine Za ?_ _ | refine Zb ?_ | refine blk_alloc ?_ _)); exact BK625.out⟩
           have n3_ : Aside0 (((w69.setCell ⟨gb636, 0, none⟩ (.int .i64 ((rd_T54 l3 x46_2).f0))).setCell ⟨gb636, 1, none⟩ (.string ((rd_T54 l3 x46_2).f1))).heap[gb631]? = some (.cells #[.int .i64 t626, .int .i64 t627, u632002] 29 (0, 0))) := ⟨by (with_reducible repeat (first | refine Za ?_ _ | refine Zb ?_ | refine blk_alloc ?_ _)); refine Zp ?_ NB631_636.out _; (with_reducible repeat (first | refine Za ?_ _ | refine Zb ?_ | refine blk_alloc ?_ _)); refine Zp ?_ NB631_636.out _; (with_reducible repeat (first | refine Za ?_ _ | refine Zb ?_ | refine blk_alloc ?_ _)); exact BK631.out⟩
           have n4_ : Aside0 (((w69.setCell ⟨gb636, 0, none⟩ (.int .i64 ((rd_T54 l3 x46_2).f0))).setCell ⟨gb636, 1, none⟩ (.string ((rd_T54 l3 x46_2).f1))).heap[gb636]? = some (.cells #[.int .i64 ((rd_T54 l3 x46_2).f0), .string ((rd_T54 l3 x46_2).f1)] 54 (0, 0))) := ⟨by (with_reducible repeat (first | refine Za ?_ _ | refine Zb ?_ | refine blk_alloc ?_ _)); refine blk_put (cs := #[.int .i64 ((rd_T54 l3 x46_2).f0), .string (⟨#[]⟩ : ByteArray)]) ?_ 1 _ rfl; (with_reducible repeat (first | refine Za ?_ _ | refine Zb ?_ | refine blk_alloc ?_ _)); refine blk_put (cs := #[.int .i64 0, .string (⟨#[]⟩ : ByteArray)]) ?_ 0 _ rfl; (with_reducible repeat (first | refine Za ?_ _ | refine Zb ?_ | refine blk_alloc ?_ _)); exact BK636.out⟩
           have n5_ : Aside0 (Below w.heap.size w ((w69.setCell ⟨gb636, 0, none⟩ (.int .i64 ((rd_T54 l3 x46_2).f0))).setCell ⟨gb636, 1, none⟩ (.string ((rd_T54 l3 x46_2).f1)))) := ⟨by repeat (first | (with_reducible first | exact HB.out | apply Zf | apply Zd | apply Ze | refine Zg ?_ GE624.out | refine Zg ?_ GE625.out | refine Zg ?_ GE631.out | refine Zg ?_ GE636.out) | exact HB.out)⟩
           (try clear HO_632002)
           (try clear BK624)
           (try clear BK625)
           (try clear BK631)
           (try clear BK636)
           (try clear HB)
           generalize ((w69.setCell ⟨gb636, 0, none⟩ (.int .i64 ((rd_T54 l3 x46_2).f0))).setCell ⟨gb636, 1, none⟩ (.string ((rd_T54 l3 x46_2).f1))) = w74 at n0_ n1_ n2_ n3_ n4_ n5_ ⊢
           have HO_632002 := n0_
           have BK624 := n1_
           have BK625 := n2_
           have BK631 := n3_
           have BK636 := n4_
           have HB := n5_
           clear n0_ n1_ n2_ n3_ n4_ n5_
           have n0_ := Zh (R_drew HO_632002.out)
           have n1_ := Zh (Zb BK624.out)
           have n2_ := Zh (Zb BK625.out)
           have n3_ := Zh (Zb BK631.out)
           have n4_ := Zh (Zb BK636.out)
           have n5_ := Zh (Ze HB.out)
           clear HO_632002
           clear BK624
           clear BK625
           clear BK631
           clear BK636
           clear HB
           have HO_632002 := n0_
           have BK624 := n1_
           have BK625 := n2_
           have BK631 := n3_
           have BK636 := n4_
           have HB := n5_
           clear n0_ n1_ n2_ n3_ n4_ n5_
           refine start_ (n := 12) (S := fun w' => w'.cell? ⟨gb624, 0, none⟩ = some (.int .i64 a0_0) ∧ w'.cell? ⟨gb624, 1, none⟩ = some (.int .i64 a0_1) ∧ w'.cell? ⟨gb624, 2, none⟩ = some (.slice A0_2 l0_2.length c0_2) ∧ w'.cell? ⟨gb636, 0, none⟩ = some (.int .i64 ((rd_T54 l3 x46_2).f0)) ∧ w'.cell? ⟨gb636, 1, none⟩ = some (.string ((rd_T54 l3 x46_2).f1))) (ds := []) #[false, false, false, false, false, false, false, false, false, false, false, false] (by kernel_rfl) rfl rfl ⟨(blk_cell BK624.out 0).trans rfl, (blk_cell BK624.out 1).trans rfl, (blk_cell BK624.out 2).trans rfl, (blk_cell BK636.out 0).trans rfl, (blk_cell BK636.out 1).trans rfl⟩ (fun hHeld => ?_); refine with_tabW impl_AppendTo.tab8 impl_AppendTo.bits8 (fun HT_ HW_ => ?_)
           generalize w74.drew = w75 at HO_632002 BK624 BK625 BK631 BK636 HB hHeld ⊢
           refine pure_ (i := 0) (N := some 55) (v := ?_) (a' := ?_) #[true, false, false, false, false, false, false, false, false, false, false, false] rfl rfl (any_of HT_.out (by kernel_rfl)) (fun _ _ _ h => h) (Or.inl ⟨by rfl, ?_⟩) ?_ ?_
           rotate_left
           ·
            intro w'
            go_simp
            with_reducible rfl
           rotate_left
           ·
            simp only [Act.put, List.setIfInBounds_toArray, List.set_cons_zero, List.set_cons_succ, i64_w, i32_w]
            rfl
           refine take_ (i := 1) (N := some 56) (v := ?_) (a' := ?_) #[true, true, false, false, false, false, false, false, false, false, false, false] rfl rfl (take_ofW HT_.out HW_.out (by kernel_rfl)) (fun _ _ _ h => h) (Or.inl ⟨by rfl, ?_⟩) hHeld ?_ ?_
           rotate_left
           ·
            rintro w' ⟨s0, s1, s2, s3, s4⟩
            go_simp
            with_reducible rfl
           rotate_left
           ·
            simp only [Act.put, List.setIfInBounds_toArray, List.set_cons_zero, List.set_cons_succ, i64_w, i32_w]
            rfl
           refine one_ (i := 2) (N := some 57) #[true, true, true, false, false, false, false, false, false, false, false, false] rfl rfl (one_of HT_.out (by kernel_rfl)) (by decide) (fun K hK => ?_)
           refine goes_ Try.func46 (by kernel_rfl) rfl #[.agg #[.int .i64 a0_0, .int .i64 a0_1, .slice A0_2 l0_2.length c0_2]] (by rfl) rfl rfl (by (try simp only [List.map_toArray, List.map_cons, List.map_nil]); first | done | rfl | (simp only [List.length_drop, List.length_take]; rfl)) ?_
           with_reducible refine (impl_RLog_last.calls a0_0 a0_1 _ _ l0_2 t637 _ ?side1 ?side2 A65.out).mono ?_
           (case side1 => repeat (first | exact (C_below HR0_2.out HB.out) | (with_reducible refine C_alloc ?_ _) | (with_reducible refine C_drewN ?_ _) | (with_reducible refine C_drew ?_)))
           (case side2 => exact HC0_2.out)
           rintro e w76 ⟨rfl, hb⟩
           refine ⟨_, rfl, ?_⟩
           have n0_ := Zh (R_below (by (with_reducible repeat (first | apply R_alloc | apply R_drewN | apply R_drew)); exact HO_632002.out) hb)
           have n1_ := Zh (Zm (g := gb624) (o := .cells #[.int .i64 a0_0, .int .i64 a0_1, .slice A0_2 l0_2.length c0_2] 29 (0, 0)) Zk hb)
           have n2_ := Zh (Zm (g := gb625) (o := .cells #[.int .i64 0, .int .i64 0, .slice none 0 0] 29 (0, 0)) Zk hb)
           have n3_ := Zh (Zm (g := gb631) (o := .cells #[.int .i64 t626, .int .i64 t627, u632002] 29 (0, 0)) Zk hb)
           have n4_ := Zh (Zm (g := gb636) (o := .cells #[.int .i64 ((rd_T54 l3 x46_2).f0), .string ((rd_T54 l3 x46_2).f1)] 54 (0, 0)) Zk hb)
           have n5_ := Zh (Zl Zs hb)
           clear HO_632002
           clear BK624
           clear BK625
           clear BK631
           clear BK636
           clear HB
           have HO_632002 := n0_
           have BK624 := n1_
           have BK625 := n2_
           have BK631 := n3_
           have BK636 := n4_
           have HB := n5_
           clear n0_ n1_ n2_ n3_ n4_ n5_
           (try clear hb)
           (try clear hb2)
           (try clear hk)
           (try clear hi)
           refine hK.out _ _ ⟨(blk_cell BK624.out 0).trans rfl, (blk_cell BK624.out 1).trans rfl, (blk_cell BK624.out 2).trans rfl, (blk_cell BK636.out 0).trans rfl, (blk_cell BK636.out 1).trans rfl⟩ (fun hHeld => ?_)
           clear hK K
           refine norm_ (a' := ?_) ?_ ?_
           rotate_left
           ·
            show Act.put _ (some 57) _ = _
            simp only [Act.put, List.setIfInBounds_toArray, List.set_cons_zero, List.set_cons_succ, i64_w, i32_w]
            rfl
           refine pure_ (i := 3) (N := some 58) (v := ?_) (a' := ?_) #[true, true, true, true, false, false, false, false, false, false, false, false] rfl rfl (any_of HT_.out (by kernel_rfl)) (fun _ _ _ h => h) (Or.inl ⟨by rfl, ?_⟩) ?_ ?_
           rotate_left
           ·
            intro w'
            go_simp
            with_reducible rfl
           rotate_left
           ·
            simp only [Act.put, List.setIfInBounds_toArray, List.set_cons_zero, List.set_cons_succ, i64_w, i32_w]
            rfl
           refine pure_ (i := 4) (N := some 59) (v := ?_) (a' := ?_) #[true, true, true, true, true, false, false, false, false, false, false, false] rfl rfl (any_of HT_.out (by kernel_rfl)) (fun _ _ _ h => h) (Or.inl ⟨by rfl, ?_⟩) ?_ ?_
           rotate_left
           ·
            intro w'
            go_simp
            with_reducible rfl
           rotate_left
           ·
            simp only [Act.put, List.setIfInBounds_toArray, List.set_cons_zero, List.set_cons_succ, i64_w, i32_w]
            rfl
           refine pure_ (i := 6) (N := some 61) (v := ?_) (a' := ?_) #[true, true, true, true, true, false, true, false, false, false, false, false] rfl rfl (any_of HT_.out (by kernel_rfl)) (fun _ _ _ h => h) (Or.inl ⟨by rfl, ?_⟩) ?_ ?_
           rotate_left
           ·
            intro w'
            go_simp
            with_reducible rfl
           rotate_left
           ·
            simp only [Act.put, List.setIfInBounds_toArray, List.set_cons_zero, List.set_cons_succ, i64_w, i32_w]
            rfl
           refine pure_ (i := 8) (N := some 63) (v := ?_) (a' := ?_) #[true, true, true, true, true, false, true, false, true, false, false, false] rfl rfl (any_of HT_.out (by kernel_rfl)) (fun _ _ _ h => h) (Or.inl ⟨by rfl, ?_⟩) ?_ ?_
           rotate_left
           ·
            intro w'
            go_simp
            with_reducible rfl
           rotate_left
           ·
            simp only [Act.put, List.setIfInBounds_toArray, List.set_cons_zero, List.set_cons_succ, i64_w, i32_w]
            rfl
           refine take_ (i := 5) (N := some 60) (v := ?_) (a' := ?_) #[true, true, true, true, true, true, true, false, true, false, false, false] rfl rfl (take_ofW HT_.out HW_.out (by kernel_rfl)) (fun _ _ _ h => h) (Or.inl ⟨by rfl, ?_⟩) hHeld ?_ ?_
           rotate_left
           ·
            rintro w' ⟨s0, s1, s2, s3, s4⟩
            go_simp
            with_reducible rfl
           rotate_left
           ·
            simp only [Act.put, List.setIfInBounds_toArray, List.set_cons_zero, List.set_cons_succ, i64_w, i32_w]
            rfl
           refine take_ (i := 9) (N := some 64) (v := ?_) (a' := ?_) #[true, true, true, true, true, true, true, false, true, true, false, false] rfl rfl (take_ofW HT_.out HW_.out (by kernel_rfl)) (fun _ _ _ h => h) (Or.inl ⟨by rfl, ?_⟩) hHeld ?_ ?_
           rotate_left
           ·
            rintro w' ⟨s0, s1, s2, s3, s4⟩
            go_simp
            with_reducible rfl
           rotate_left
           ·
            simp only [Act.put, List.setIfInBounds_toArray, List.set_cons_zero, List.set_cons_succ, i64_w, i32_w]
            rfl
           refine one_ (i := 7) (N := some 62) #[true, true, true, true, true, true, true, true, true, true, false, false] rfl rfl (one_of HT_.out (by kernel_rfl)) (by decide) (fun K hK => ?_)
           refine goes_ Try.func47 (by kernel_rfl) rfl #[.agg #[.int .i64 a0_0, .int .i64 a0_1, .slice A0_2 l0_2.length c0_2], .int .i64 (wrap64 ((wrap64 (a1 + 1)) + x46_2))] (by rfl) rfl rfl (by (try simp only [List.map_toArray, List.map_cons, List.map_nil]); first | done | rfl | (simp only [List.length_drop, List.length_take]; rfl)) ?_
           with_reducible refine (impl_RLog_term.calls a0_0 a0_1 _ _ l0_2 (wrap64 ((wrap64 (a1 + 1)) + x46_2)) t638 _ ?side1 ?side2 A67.out).mono ?_
           (case side1 => repeat (first | exact (C_below HR0_2.out HB.out) | (with_reducible refine C_alloc ?_ _) | (with_reducible refine C_drewN ?_ _) | (with_reducible refine C_drew ?_)))
           (case side2 => exact HC0_2.out)
           rintro e w77 ⟨rfl, hb⟩
           refine ⟨_, rfl, ?_⟩
           have n0_ := Zh (R_below (by (with_reducible repeat (first | apply R_alloc | apply R_drewN | apply R_drew)); exact HO_632002.out) hb)
           have n1_ := Zh (Zm (g := gb624) (o := .cells #[.int .i64 a0_0, .int .i64 a0_1, .slice A0_2 l0_2.length c0_2] 29 (0, 0)) Zk hb)
           have n2_ := Zh (Zm (g := gb625) (o := .cells #[.int .i64 0, .int .i64 0, .slice none 0 0] 29 (0, 0)) Zk hb)
           have n3_ := Zh (Zm (g := gb631) (o := .cells #[.int .i64 t626, .int .i64 t627, u632002] 29 (0, 0)) Zk hb)
           have n4_ := Zh (Zm (g := gb636) (o := .cells #[.int .i64 ((rd_T54 l3 x46_2).f0), .string ((rd_T54 l3 x46_2).f1)] 54 (0, 0)) Zk hb)
           have n5_ := Zh (Zl Zs hb)
           clear HO_632002
           clear BK624
           clear BK625
           clear BK631
           clear BK636
           clear HB
           have HO_632002 := n0_
           have BK624 := n1_
           have BK625 := n2_
           have BK631 := n3_
           have BK636 := n4_
           have HB := n5_
           clear n0_ n1_ n2_ n3_ n4_ n5_
           (try clear hb)
           (try clear hb2)
           (try clear hk)
           (try clear hi)
           refine hK.out _ _ ⟨(blk_cell BK624.out 0).trans rfl, (blk_cell BK624.out 1).trans rfl, (blk_cell BK624.out 2).trans rfl, (blk_cell BK636.out 0).trans rfl, (blk_cell BK636.out 1).trans rfl⟩ (fun hHeld => ?_)
           clear hK K
           refine norm_ (a' := ?_) ?_ ?_
           rotate_left
           ·
            show Act.put _ (some 62) _ = _
            simp only [Act.put, List.setIfInBounds_toArray, List.set_cons_zero, List.set_cons_succ, i64_w, i32_w]
            rfl
           refine pure_ (i := 10) (N := some 65) (v := ?_) (a' := ?_) #[true, true, true, true, true, true, true, true, true, true, true, false] rfl rfl (any_of HT_.out (by kernel_rfl)) (fun _ _ _ h => h) (Or.inl ⟨by rfl, ?_⟩) ?_ ?_
           rotate_left
           ·
            intro w'
            go_simp
            with_reducible rfl
           rotate_left
           ·
            simp only [Act.put, List.setIfInBounds_toArray, List.set_cons_zero, List.set_cons_succ, i64_w, i32_w]
            rfl
           refine pure_ (i := 11) (N := some 66) (v := ?_) (a' := ?_) #[true, true, true, true, true, true, true, true, true, true, true, true] rfl rfl (any_of HT_.out (by kernel_rfl)) (fun _ _ _ h => h) (Or.inl ⟨by rfl, ?_⟩) ?_ ?_
           rotate_left
           ·
            intro w'
            go_simp
            with_reducible rfl
           rotate_left
           ·
            simp only [Act.put, List.setIfInBounds_toArray, List.set_cons_zero, List.set_cons_succ, i64_w, i32_w]
            rfl
           refine done_ (done_of HT_.out (by kernel_rfl)) ?_
           try go_wp2
           go_roundg k2
           case measure => have := HJ5.out; have := HK2.out; omega
           case rel => exact ⟨(wrap64 (x46_2 + 1)), (x632002_2), (u632002), (by first | rfl | (simp; done) | (simp [*]; done)), H', ⟨by have := HJ5.out; have := HK2.out; omega⟩, ⟨by (with_reducible repeat (first | apply R_alloc | apply R_drewN | apply R_drew)); exact R_mono HO_632002.out (fun _ hk => trivial)⟩, ⟨by (with_reducible repeat (first | refine Za ?_ _ | refine Zb ?_ | refine blk_alloc ?_ _)); exact BK624.out⟩, ⟨by (with_reducible repeat (first | refine Za ?_ _ | refine Zb ?_ | refine blk_alloc ?_ _)); exact BK625.out⟩, ⟨by (with_reducible repeat (first | refine Za ?_ _ | refine Zb ?_ | refine blk_alloc ?_ _)); exact BK631.out⟩, ⟨by repeat (first | (with_reducible first | exact HB.out | apply Zf | apply Zd | apply Ze | refine Zg ?_ GE624.out | refine Zg ?_ GE625.out | refine Zg ?_ GE631.out | refine Zg ?_ GE636.out) | exact HB.out)⟩⟩
          rw [if_neg c68] at H
          have c68b0 : (t638 == ((rd_T54 l3 x46_2).f0)) = false := beq_eq_false_iff_ne.mpr c68
          have c68b1 : (t638 != ((rd_T54 l3 x46_2).f0)) = true := bne_iff_ne.mpr c68
          obtain ⟨ji78, hji78⟩ : ∃ j_ : Int, (wrap64 ((wrap64 ((wrap64 ((wrap64 (a1 + 1)) + x46_2)) - a0_0)) - 1)) = j_ := ⟨_, rfl⟩
          replace H : (if 0 ≤ (ji78) then (if (ji78) ≤ (x632002_2.length : Int) then ((some (x632002_2.take ((ji78) : Int).toNat : List (S54))).bind fun y639 => (if x46_2 ≤ (l3.length : Int) then ((some (l3.drop (x46_2 : Int).toNat : List (S54))).bind fun y642 => (if y639.length + y642.length < 5864062014805 then (impl_AppendTo.j2 k2 a0_0 a0_1 l0_2 t626 t627 (y639 ++ y642)) else (none))) else (none))) else (none)) else (none)) = some (r1, r2, r3, r4) := by first | (rw [hji78] at H; exact H) | (simp only [hji78] at H ⊢; exact H)
          (try rw [hji78] at A65)
          (try rw [hji78] at A67)
          have hji78w : (IntKind.i64.wrap ((wrap64 ((wrap64 ((wrap64 (a1 + 1)) + x46_2)) - a0_0)) - 1)) = ji78 := (i64_w _).trans hji78
          by_cases c79 : 0 ≤ (ji78)
          ·
           rw [if_pos c79] at H
           have c79b0 := eq_true c79
           have c79b1 : decide (0 ≤ (ji78)) = true := decide_eq_true c79
           clear c79
           by_cases c80 : (ji78) ≤ (x632002_2.length : Int)
           ·
            rw [if_pos c80] at H
            have c80b0 := eq_true c80
            have c80b1 : decide ((ji78) ≤ (x632002_2.length : Int)) = true := decide_eq_true c80
            clear c80
            obtain ⟨y639, hy639⟩ : ∃ y_ : List (S54), y_ = (x632002_2.take ((ji78) : Int).toNat) := ⟨_, rfl⟩
            replace H : (if x46_2 ≤ (l3.length : Int) then ((some (l3.drop (x46_2 : Int).toNat : List (S54))).bind fun y642 => (if y639.length + y642.length < 5864062014805 then (impl_AppendTo.j2 k2 a0_0 a0_1 l0_2 t626 t627 (y639 ++ y642)) else (none))) else (none)) = some (r1, r2, r3, r4) := by first | (rw [hy639]; with_reducible exact H) | (have H2_ := (Option.bind_some _ _).symm.trans H; rw [hy639]; with_reducible exact H2_) | (have H2_ := (Option.bind_some _ _).symm.trans H; with_reducible exact H2_) | with_reducible exact H | (rw [hy639]; exact H) | exact H
            have Ny639 := Zh hy639
            clear hy639
            have c81b0 := eq_true (Zo : 0 ≤ x46_2)
            by_cases c82 : x46_2 ≤ (l3.length : Int)
            ·
             rw [if_pos c82] at H
             have c82b0 := eq_true c82
             have c82b1 : decide (x46_2 ≤ (l3.length : Int)) = true := decide_eq_true c82
             clear c82
             obtain ⟨y642, hy642⟩ : ∃ y_ : List (S54), y_ = (l3.drop (x46_2 : Int).toNat) := ⟨_, rfl⟩
             replace H : (if y639.length + y642.length < 5864062014805 then (impl_AppendTo.j2 k2 a0_0 a0_1 l0_2 t626 t627 (y639 ++ y642)) else (none)) = some (r1, r2, r3, r4) := by first | (rw [hy642]; with_reducible exact H) | (have H2_ := (Option.bind_some _ _).symm.trans H; rw [hy642]; with_reducible exact H2_) | (have H2_ := (Option.bind_some _ _).symm.trans H; with_reducible exact H2_) | with_reducible exact H | (rw [hy642]; exact H) | exact H
             have Ny642 := Zh hy642
             clear hy642
             by_cases c83 : y639.length + y642.length < 5864062014805
             ·
              rw [if_pos c83] at H
              have LMc83 := Zh c83
              clear c83
              obtain ⟨y646, hy646⟩ : ∃ y_ : List (S54), y_ = (y639 ++ y642) := ⟨_, rfl⟩
              replace H : (impl_AppendTo.j2 k2 a0_0 a0_1 l0_2 t626 t627 y646) = some (r1, r2, r3, r4) := by first | (rw [hy646]; with_reducible exact H) | (have H2_ := (Option.bind_some _ _).symm.trans H; rw [hy646]; with_reducible exact H2_) | (have H2_ := (Option.bind_some _ _).symm.trans H; with_reducible exact H2_) | with_reducible exact H | (rw [hy646]; exact H) | exact H
              have Ny646 := Zh hy646
              clear hy646
              have H' := Zh H
              clear H
              have p635 : 0 ≤ (x46_2 : Int) := Zo
              have q635 : x46_2 < (l3.length : Int) := Zo
              obtain ⟨ad635, e635, hx635_0, hx635_1⟩ := at_T54 HR3.out x46_2 p635 q635
              cases e635
              replace hx635_0 := Zc HB.out hx635_0
              replace hx635_1 := Zc HB.out hx635_1
              replace p635 := eq_true p635
              replace q635 := eq_true q635
              try go_wp2_with (first | ((with_reducible refine gate_dst (N := 12) rfl ?_); (try (refine gate_guard (by rfl) ?_; dsimp only)); refine box_event ?hg (N := 12) ?hd (cs := #[.int .i64 0, .string (⟨#[]⟩ : ByteArray)]) (t := 54) ?hr ?_; (case hd => rfl); (case hg => rfl); (case hr => first | (go_simp; done) | (go_simp; rfl)); intro gb636 hg w84 hbox hb; have n0_ := Zh (R_below (R_elderB (by (with_reducible repeat (first | apply R_alloc | apply R_drewN | apply R_drew)); exact HO_632002.out) gb636 (Nat.le_of_eq hg.symm)) hb); have n1_ := Zh (Zm (g := gb624) (o := .cells #[.int .i64 a0_0, .int .i64 a0_1, .slice A0_2 l0_2.length c0_2] 29 (0, 0)) Zk hb); have n2_ := Zh (Zm (g := gb625) (o := .cells #[.int .i64 0, .int .i64 0, .slice none 0 0] 29 (0, 0)) Zk hb); have n3_ := Zh (Zm (g := gb631) (o := .cells #[.int .i64 t626, .int .i64 t627, u632002] 29 (0, 0)) Zk hb); have n4_ := Zh (Zl Zs hb); have n5_ := Zh (hbox); have n6_ := Zh ((by rw [hg]; exact (below_size Zs) : w.heap.size ≤ gb636)); have n7_ := Zh ((by rw [hg]; exact (below_size Zs) : w.heap.size ≤ gb636)); have n8_ := Zh ((by rw [hg]; exact Nat.ne_of_lt (blk_lt (g := gb624) (o := .cells #[.int .i64 a0_0, .int .i64 a0_1, .slice A0_2 l0_2.length c0_2] 29 (0, 0)) Zk) : gb624 ≠ gb636)); have n9_ := Zh ((by rw [hg]; exact Nat.ne_of_gt (blk_lt (g := gb624) (o := .cells #[.int .i64 a0_0, .int .i64 a0_1, .slice A0_2 l0_2.length c0_2] 29 (0, 0)) Zk) : gb636 ≠ gb624)); have n10_ := Zh ((by rw [hg]; exact Nat.ne_of_lt (blk_lt (g := gb625) (o := .cells #[.int .i64 0, .int .i64 0, .slice none 0 0] 29 (0, 0)) Zk) : gb625 ≠ gb636)); have n11_ := Zh ((by rw [hg]; exact Nat.ne_of_gt (blk_lt (g := gb625) (o := .cells #[.int .i64 0, .int .i64 0, .slice none 0 0] 29 (0, 0)) Zk) : gb636 ≠ gb625)); have n12_ := Zh ((by rw [hg]; exact Nat.ne_of_lt (blk_lt (g := gb631) (o := .cells #[.int .i64 t626, .int .i64 t627, u632002] 29 (0, 0)) Zk) : gb631 ≠ gb636)); have n13_ := Zh ((by rw [hg]; exact Nat.ne_of_gt (blk_lt (g := gb631) (o := .cells #[.int .i64 t626, .int .i64 t627, u632002] 29 (0, 0)) Zk) : gb636 ≠ gb631)); clear HO_632002; clear BK624; clear BK625; clear BK631; clear HB; have HO_632002 := n0_; have BK624 := n1_; have BK625 := n2_; have BK631 := n3_; have HB := n4_; have BK636 := n5_; have GW636 := n6_; have GE636 := n7_; have NB624_636 := n8_; have NB636_624 := n9_; have NB625_636 := n10_; have NB636_625 := n11_; have NB631_636 := n12_; have NB636_631 := n13_; clear n0_ n1_ n2_ n3_ n4_ n5_ n6_ n7_ n8_ n9_ n10_ n11_ n12_ n13_; clear hb hbox hg; have hnb85 := NB636_624.out; have hnc85 := NB624_636.out; have hnb86 := NB636_625.out; have hnc86 := NB625_636.out; have hnb87 := NB636_631.out; have hnc87 := NB631_636.out; have hcz88_0 : w84.cell? ⟨gb636, 0, none⟩ = some (.int .i64 0) := (blk_cell BK636.out 0).trans rfl; have hcz88_1 : w84.cell? ⟨gb636, 1, none⟩ = some (.string (⟨#[]⟩ : ByteArray)) := (blk_cell BK636.out 1).trans rfl; have hfz88_0 := Zn BK636.out 0; have hfz88_1 := Zn BK636.out 1))
              have n0_ : Aside0 (Kd.R k54 54 ((w84.setCell ⟨gb636, 0, none⟩ (.int .i64 ((rd_T54 l3 x46_2).f0))).setCell ⟨gb636, 1, none⟩ (.string ((rd_T54 l3 x46_2).f1))) w.heap.size (fun k_ => k_ ≠ gb636) u632002 x632002_2) := ⟨by (with_reducible repeat (first | apply R_alloc | apply R_drewN | apply R_drew)); exact R_mono (R_far (p := ⟨gb636, 1, none⟩) (R_far (p := ⟨gb636, 0, none⟩) (R_mono HO_632002.out (fun k_ hk => (⟨hk, hk.2⟩ : _ ∧ k_ ≠ gb636))) (fun _ hk => hk.2) (.int .i64 ((rd_T54 l3 x46_2).f0))) (fun _ hk => hk.2) (.string ((rd_T54 l3 x46_2).f1))) (fun _ hk => hk.1.2)⟩
              have n1_ : Aside0 (((w84.setCell ⟨gb636, 0, none⟩ (.int .i64 ((rd_T54 l3 x46_2).f0))).setCell ⟨gb636, 1, none⟩ (.string ((rd_T54 l3 x46_2).f1))).heap[gb624]? = some (.cells #[.int .i64 a0_0, .int .i64 a0_1, .slice A0_2 l0_2.length c0_2] 29 (0, 0))) := ⟨by (with_reducible repeat (first | refine Za ?_ _ | refine Zb ?_ | refine blk_alloc ?_ _)); refine Zp ?_ NB624_636.out _; (with_reducible repeat (first | refine Za ?_ _ | refine Zb ?_ | refine blk_alloc ?_ _)); refine Zp ?_ NB624_636.out _; (with_reducible repeat (first | refine Za ?_ _ | refine Zb ?_ | refine blk_alloc ?_ _)); exact BK624.out⟩
              have n2_ : Aside0 (((w84.setCell ⟨gb636, 0, none⟩ (.int .i64 ((rd_T54 l3 x46_2).f0))).setCell ⟨gb636, 1, none⟩ (.string ((rd_T54 l3 x46_2).f1))).heap[gb625]? = some (.cells #[.int .i64 0, .int .i64 0, .slice none 0 0] 29 (0, 0))) := ⟨by (with_reducible repeat (first | refine Za ?_ _ | refine Zb ?_ | refine blk_alloc ?_ _)); refine Zp ?_ NB625_636.out _; (with_reducible repeat (first | refine Za ?_ _ | refine Zb ?_ | refine blk_alloc ?_ _)); refine Zp ?_ NB625_636.out _; (with_reducible repeat (first | refine Za ?_ _ | refine Zb ?_ | refine blk_alloc ?_ _)); exact BK625.out⟩
              have n3_ : Aside0 (((w84.setCell ⟨gb636, 0, none⟩ (.int .i64 ((rd_T54 l3 x46_2).f0))).setCell ⟨gb636, 1, none⟩ (.string ((rd_T54 l3 x46_2).f1))).heap[gb631]? = some (.cells #[.int .i64 t626, .int .i64 t627, u632002] 29 (0, 0))) := ⟨by (with_reducible repeat (first | refine Za ?_ _ | refine Zb ?_ | refine blk_alloc ?_ _)); refine Zp ?_ NB631_636.out _; (with_reducible repeat (first | refine Za ?_ _ | refine Zb ?_ | refine blk_alloc ?_ _)); refine Zp ?_ NB631_636.out _; (with_reducible repeat (first | refine Za ?_ _ | refine Zb ?_ | refine blk_alloc ?_ _)); exact BK631.out⟩
              have n4_ : Aside0 (((w84.setCell ⟨gb636, 0, none⟩ (.int .i64 ((rd_T54 l3 x46_2).f0))).setCell ⟨gb636, 1, none⟩ (.string ((rd_T54 l3 x46_2).f1))).heap[gb636]? = some (.cells #[.int .i64 ((rd_T54 l3 x46_2).f0), .string ((rd_T54 l3 x46_2).f1)] 54 (0, 0))) := ⟨by (with_reducible repeat (first | refine Za ?_ _ | refine Zb ?_ | refine blk_alloc ?_ _)); refine blk_put (cs := #[.int .i64 ((rd_T54 l3 x46_2).f0), .string (⟨#[]⟩ : ByteArray)]) ?_ 1 _ rfl; (with_reducible repeat (first | refine Za ?_ _ | refine Zb ?_ | refine blk_alloc ?_ _)); refine blk_put (cs := #[.int .i64 0, .string (⟨#[]⟩ : ByteArray)]) ?_ 0 _ rfl; (with_reducible repeat (first | refine Za ?_ _ | refine Zb ?_ | refine blk_alloc ?_ _)); exact BK636.out⟩
              have n5_ : Aside0 (Below w.heap.size w ((w84.setCell ⟨gb636, 0, none⟩ (.int .i64 ((rd_T54 l3 x46_2).f0))).setCell ⟨gb636, 1, none⟩ (.string ((rd_T54 l3 x46_2).f1)))) := ⟨by repeat (first | (with_reducible first | exact HB.out | apply Zf | apply Zd | apply Ze | refine Zg ?_ GE624.out | refine Zg ?_ GE625.out | refine Zg ?_ GE631.out | refine Zg ?_ GE636.out) | exact HB.out)⟩
              (try clear HO_632002)
              (try clear BK624)
              (try clear BK625)
              (try clear BK631)
              (try clear BK636)
              (try clear HB)
              generalize ((w84.setCell ⟨gb636, 0, none⟩ (.int .i64 ((rd_T54 l3 x46_2).f0))).setCell ⟨gb636, 1, none⟩ (.string ((rd_T54 l3 x46_2).f1))) = w89 at n0_ n1_ n2_ n3_ n4_ n5_ ⊢
              have HO_632002 := n0_
              have BK624 := n1_
              have BK625 := n2_
              have BK631 := n3_
              have BK636 := n4_
              have HB := n5_
              clear n0_ n1_ n2_ n3_ n4_ n5_
              have n0_ := Zh (R_drew HO_632002.out)
              have n1_ := Zh (Zb BK624.out)
              have n2_ := Zh (Zb BK625.out)
              have n3_ := Zh (Zb BK631.out)
              have n4_ := Zh (Zb BK636.out)
              have n5_ := Zh (Ze HB.out)
              clear HO_632002
              clear BK624
              clear BK625
              clear BK631
              clear BK636
              clear HB
              have HO_632002 := n0_
              have BK624 := n1_
              have BK625 := n2_
              have BK631 := n3_
              have BK636 := n4_
              have HB := n5_
              clear n0_ n1_ n2_ n3_ n4_ n5_
              refine start_ (n := 12) (S := fun w' => w'.cell? ⟨gb624, 0, none⟩ = some (.int .i64 a0_0) ∧ w'.cell? ⟨gb624, 1, none⟩ = some (.int .i64 a0_1) ∧ w'.cell? ⟨gb624, 2, none⟩ = some (.slice A0_2 l0_2.length c0_2) ∧ w'.cell? ⟨gb636, 0, none⟩ = some (.int .i64 ((rd_T54 l3 x46_2).f0)) ∧ w'.cell? ⟨gb636, 1, none⟩ = some (.string ((rd_T54 l3 x46_2).f1))) (ds := []) #[false, false, false, false, false, false, false, false, false, false, false, false] (by kernel_rfl) rfl rfl ⟨(blk_cell BK624.out 0).trans rfl, (blk_cell BK624.out 1).trans rfl, (blk_cell BK624.out 2).trans rfl, (blk_cell BK636.out 0).trans rfl, (blk_cell BK636.out 1).trans rfl⟩ (fun hHeld => ?_); refine with_tabW impl_AppendTo.tab8 impl_AppendTo.bits8 (fun HT_ HW_ => ?_)
              generalize w89.drew = w90 at HO_632002 BK624 BK625 BK631 BK636 HB hHeld ⊢
              refine pure_ (i := 0) (N := some 55) (v := ?_) (a' := ?_) #[true, false, false, false, false, false, false, false, false, false, false, false] rfl rfl (any_of HT_.out (by kernel_rfl)) (fun _ _ _ h => h) (Or.inl ⟨by rfl, ?_⟩) ?_ ?_
              rotate_left
              ·
               intro w'
               go_simp
               with_reducible rfl
              rotate_left
              ·
               simp only [Act.put, List.setIfInBounds_toArray, List.set_cons_zero, List.set_cons_succ, i64_w, i32_w]
               rfl
              refine take_ (i := 1) (N := some 56) (v := ?_) (a' := ?_) #[true, true, false, false, false, false, false, false, false, false, false, false] rfl rfl (take_ofW HT_.out HW_.out (by kernel_rfl)) (fun _ _ _ h => h) (Or.inl ⟨by rfl, ?_⟩) hHeld ?_ ?_
              rotate_left
              ·
               rintro w' ⟨s0, s1, s2, s3, s4⟩
               go_simp
               with_reducible rfl
              rotate_left
              ·
               simp only [Act.put, List.setIfInBounds_toArray, List.set_cons_zero, List.set_cons_succ, i64_w, i32_w]
               rfl
              refine one_ (i := 2) (N := some 57) #[true, true, true, false, false, false, false, false, false, false, false, false] rfl rfl (one_of HT_.out (by kernel_rfl)) (by decide) (fun K hK => ?_)
              refine goes_ Try.func46 (by kernel_rfl) rfl #[.agg #[.int .i64 a0_0, .int .i64 a0_1, .slice A0_2 l0_2.length c0_2]] (by rfl) rfl rfl (by (try simp only [List.map_toArray, List.map_cons, List.map_nil]); first | done | rfl | (simp only [List.length_drop, List.length_take]; rfl)) ?_
              with_reducible refine (impl_RLog_last.calls a0_0 a0_1 _ _ l0_2 t637 _ ?side1 ?side2 A65.out).mono ?_
              (case side1 => repeat (first | exact (C_below HR0_2.out HB.out) | (with_reducible refine C_alloc ?_ _) | (with_reducible refine C_drewN ?_ _) | (with_reducible refine C_drew ?_)))
              (case side2 => exact HC0_2.out)
              rintro e w91 ⟨rfl, hb⟩
              refine ⟨_, rfl, ?_⟩
              have n0_ := Zh (R_below (by (with_reducible repeat (first | apply R_alloc | apply R_drewN | apply R_drew)); exact HO_632002.out) hb)
              have n1_ := Zh (Zm (g := gb624) (o := .cells #[.int .i64 a0_0, .int .i64 a0_1, .slice A0_2 l0_2.length c0_2] 29 (0, 0)) Zk hb)
              have n2_ := Zh (Zm (g := gb625) (o := .cells #[.int .i64 0, .int .i64 0, .slice none 0 0] 29 (0, 0)) Zk hb)
              have n3_ := Zh (Zm (g := gb631) (o := .cells #[.int .i64 t626, .int .i64 t627, u632002] 29 (0, 0)) Zk hb)
              have n4_ := Zh (Zm (g := gb636) (o := .cells #[.int .i64 ((rd_T54 l3 x46_2).f0), .string ((rd_T54 l3 x46_2).f1)] 54 (0, 0)) Zk hb)
              have n5_ := Zh (Zl Zs hb)
              clear HO_632002
              clear BK624
              clear BK625
              clear BK631
              clear BK636
              clear HB
              have HO_632002 := n0_
              have BK624 := n1_
              have BK625 := n2_
              have BK631 := n3_
              have BK636 := n4_
              have HB := n5_
              clear n0_ n1_ n2_ n3_ n4_ n5_
              (try clear hb)
              (try clear hb2)
              (try clear hk)
              (try clear hi)
              refine hK.out _ _ ⟨(blk_cell BK624.out 0).trans rfl, (blk_cell BK624.out 1).trans rfl, (blk_cell BK624.out 2).trans rfl, (blk_cell BK636.out 0).trans rfl, (blk_cell BK636.out 1).trans rfl⟩ (fun hHeld => ?_)
              clear hK K
              refine norm_ (a' := ?_) ?_ ?_
              rotate_left
              ·
               show Act.put _ (some 57) _ = _
               simp only [Act.put, List.setIfInBounds_toArray, List.set_cons_zero, List.set_cons_succ, i64_w, i32_w]
               rfl
              refine pure_ (i := 3) (N := some 58) (v := ?_) (a' := ?_) #[true, true, true, true, false, false, false, false, false, false, false, false] rfl rfl (any_of HT_.out (by kernel_rfl)) (fun _ _ _ h => h) (Or.inl ⟨by rfl, ?_⟩) ?_ ?_
              rotate_left
              ·
               intro w'
               go_simp
               with_reducible rfl
              rotate_left
              ·
               simp only [Act.put, List.setIfInBounds_toArray, List.set_cons_zero, List.set_cons_succ, i64_w, i32_w]
               rfl
              refine pure_ (i := 4) (N := some 59) (v := ?_) (a' := ?_) #[true, true, true, true, true, false, false, false, false, false, false, false] rfl rfl (any_of HT_.out (by kernel_rfl)) (fun _ _ _ h => h) (Or.inl ⟨by rfl, ?_⟩) ?_ ?_
              rotate_left
              ·
               intro w'
               go_simp
               with_reducible rfl
              rotate_left
              ·
               simp only [Act.put, List.setIfInBounds_toArray, List.set_cons_zero, List.set_cons_succ, i64_w, i32_w]
               rfl
              refine pure_ (i := 6) (N := some 61) (v := ?_) (a' := ?_) #[true, true, true, true, true, false, true, false, false, false, false, false] rfl rfl (any_of HT_.out (by kernel_rfl)) (fun _ _ _ h => h) (Or.inl ⟨by rfl, ?_⟩) ?_ ?_
              rotate_left
              ·
               intro w'
               go_simp
               with_reducible rfl
              rotate_left
              ·
               simp only [Act.put, List.setIfInBounds_toArray, List.set_cons_zero, List.set_cons_succ, i64_w, i32_w]
               rfl
              refine pure_ (i := 8) (N := some 63) (v := ?_) (a' := ?_) #[true, true, true, true, true, false, true, false, true, false, false, false] rfl rfl (any_of HT_.out (by kernel_rfl)) (fun _ _ _ h => h) (Or.inl ⟨by rfl, ?_⟩) ?_ ?_
              rotate_left
              ·
               intro w'
               go_simp
               with_reducible rfl
              rotate_left
              ·
               simp only [Act.put, List.setIfInBounds_toArray, List.set_cons_zero, List.set_cons_succ, i64_w, i32_w]
               rfl
              refine take_ (i := 5) (N := some 60) (v := ?_) (a' := ?_) #[true, true, true, true, true, true, true, false, true, false, false, false] rfl rfl (take_ofW HT_.out HW_.out (by kernel_rfl)) (fun _ _ _ h => h) (Or.inl ⟨by rfl, ?_⟩) hHeld ?_ ?_
              rotate_left
              ·
               rintro w' ⟨s0, s1, s2, s3, s4⟩
               go_simp
               with_reducible rfl
              rotate_left
              ·
               simp only [Act.put, List.setIfInBounds_toArray, List.set_cons_zero, List.set_cons_succ, i64_w, i32_w]
               rfl
              refine take_ (i := 9) (N := some 64) (v := ?_) (a' := ?_) #[true, true, true, true, true, true, true, false, true, true, false, false] rfl rfl (take_ofW HT_.out HW_.out (by kernel_rfl)) (fun _ _ _ h => h) (Or.inl ⟨by rfl, ?_⟩) hHeld ?_ ?_
              rotate_left
              ·
               rintro w' ⟨s0, s1, s2, s3, s4⟩
               go_simp
               with_reducible rfl
              rotate_left
              ·
               simp only [Act.put, List.setIfInBounds_toArray, List.set_cons_zero, List.set_cons_succ, i64_w, i32_w]
               rfl
              refine one_ (i := 7) (N := some 62) #[true, true, true, true, true, true, true, true, true, true, false, false] rfl rfl (one_of HT_.out (by kernel_rfl)) (by decide) (fun K hK => ?_)
              refine goes_ Try.func47 (by kernel_rfl) rfl #[.agg #[.int .i64 a0_0, .int .i64 a0_1, .slice A0_2 l0_2.length c0_2], .int .i64 (wrap64 ((wrap64 (a1 + 1)) + x46_2))] (by rfl) rfl rfl (by (try simp only [List.map_toArray, List.map_cons, List.map_nil]); first | done | rfl | (simp only [List.length_drop, List.length_take]; rfl)) ?_
              with_reducible refine (impl_RLog_term.calls a0_0 a0_1 _ _ l0_2 (wrap64 ((wrap64 (a1 + 1)) + x46_2)) t638 _ ?side1 ?side2 A67.out).mono ?_
              (case side1 => repeat (first | exact (C_below HR0_2.out HB.out) | (with_reducible refine C_alloc ?_ _) | (with_reducible refine C_drewN ?_ _) | (with_reducible refine C_drew ?_)))
              (case side2 => exact HC0_2.out)
              rintro e w92 ⟨rfl, hb⟩
              refine ⟨_, rfl, ?_⟩
              have n0_ := Zh (R_below (by (with_reducible repeat (first | apply R_alloc | apply R_drewN | apply R_drew)); exact HO_632002.out) hb)
              have n1_ := Zh (Zm (g := gb624) (o := .cells #[.int .i64 a0_0, .int .i64 a0_1, .slice A0_2 l0_2.length c0_2] 29 (0, 0)) Zk hb)
              have n2_ := Zh (Zm (g := gb625) (o := .cells #[.int .i64 0, .int .i64 0, .slice none 0 0] 29 (0, 0)) Zk hb)
              have n3_ := Zh (Zm (g := gb631) (o := .cells #[.int .i64 t626, .int .i64 t627, u632002] 29 (0, 0)) Zk hb)
              have n4_ := Zh (Zm (g := gb636) (o := .cells #[.int .i64 ((rd_T54 l3 x46_2).f0), .string ((rd_T54 l3 x46_2).f1)] 54 (0, 0)) Zk hb)
              have n5_ := Zh (Zl Zs hb)
              clear HO_632002
              clear BK624
              clear BK625
              clear BK631
              clear BK636
              clear HB
              have HO_632002 := n0_
              have BK624 := n1_
              have BK625 := n2_
              have BK631 := n3_
              have BK636 := n4_
              have HB := n5_
              clear n0_ n1_ n2_ n3_ n4_ n5_
              (try clear hb)
              (try clear hb2)
              (try clear hk)
              (try clear hi)
              refine hK.out _ _ ⟨(blk_cell BK624.out 0).trans rfl, (blk_cell BK624.out 1).trans rfl, (blk_cell BK624.out 2).trans rfl, (blk_cell BK636.out 0).trans rfl, (blk_cell BK636.out 1).trans rfl⟩ (fun hHeld => ?_)
              clear hK K
              refine norm_ (a' := ?_) ?_ ?_
              rotate_left
              ·
               show Act.put _ (some 62) _ = _
               simp only [Act.put, List.setIfInBounds_toArray, List.set_cons_zero, List.set_cons_succ, i64_w, i32_w]
               rfl
              refine pure_ (i := 10) (N := some 65) (v := ?_) (a' := ?_) #[true, true, true, true, true, true, true, true, true, true, true, false] rfl rfl (any_of HT_.out (by kernel_rfl)) (fun _ _ _ h => h) (Or.inl ⟨by rfl, ?_⟩) ?_ ?_
              rotate_left
              ·
               intro w'
               go_simp
               with_reducible rfl
              rotate_left
              ·
               simp only [Act.put, List.setIfInBounds_toArray, List.set_cons_zero, List.set_cons_succ, i64_w, i32_w]
               rfl
              refine pure_ (i := 11) (N := some 66) (v := ?_) (a' := ?_) #[true, true, true, true, true, true, true, true, true, true, true, true] rfl rfl (any_of HT_.out (by kernel_rfl)) (fun _ _ _ h => h) (Or.inl ⟨by rfl, ?_⟩) ?_ ?_
              rotate_left
              ·
               intro w'
               go_simp
               with_reducible rfl
              rotate_left
              ·
               simp only [Act.put, List.setIfInBounds_toArray, List.set_cons_zero, List.set_cons_succ, i64_w, i32_w]
               rfl
              refine done_ (done_of HT_.out (by kernel_rfl)) ?_
              try go_wp2
              have n0_ := Zh (R_drew HO_632002.out)
              have n1_ := Zh (Zb BK624.out)
              have n2_ := Zh (Zb BK625.out)
              have n3_ := Zh (Zb BK631.out)
              have n4_ := Zh (Zb BK636.out)
              have n5_ := Zh (Ze HB.out)
              clear HO_632002
              clear BK624
              clear BK625
              clear BK631
              clear BK636
              clear HB
              have HO_632002 := n0_
              have BK624 := n1_
              have BK625 := n2_
              have BK631 := n3_
              have BK636 := n4_
              have HB := n5_
              clear n0_ n1_ n2_ n3_ n4_ n5_
              obtain ⟨Ao94, co94, eo94⟩ := R_slice HO_632002.out
              (first | subst eo94 | (injection eo94 with f1_ f2_ f3_; have f4_ := f1_.symm; have f5_ := f3_.symm; clear f1_ f2_ f3_; subst f4_; subst f5_))
              have q95 : ((ji78) : Int) ≤ ((x632002_2.length : Int) : Int) := Zo
              obtain ⟨i095, hi095, _, hsz95, _⟩ := info_parts info54
              have hcut95 := cut_to (P := Try.prog) 27 54 .i64 Try.underlying27 hi095 Ao94 x632002_2.length co94 (ji78) (Zo) q95 (R_reads' HO_632002.out).2.1
              have hr95 := R_take (m := ((ji78) : Int).toNat) HO_632002.out (by omega)
              have hy95 : y639.length = ((ji78) : Int).toNat := (by rw [Ny639.out, List.length_take]; omega)
              rw [← Ny639.out] at hr95
              rw [← hy95] at hr95 hcut95
              clear hy95 hi095 hsz95 HO_632002
              have HO641 := Zh hr95
              clear hr95
              replace q95 := eq_true q95
              have q96 : (x46_2 : Int) ≤ ((l3.length : Int) : Int) := Zo
              obtain ⟨i096, hi096, _, hsz96, _⟩ := info_parts info54
              have hroom96 : l3.length ≤ c3 := HC3.out
              have hC96 : Kd.C k54 _ (some ad635) l3.length l3 := HR3.out
              have q096 : (0 : Int) ≤ (x46_2 : Int) := Zo
              have hcut96 := cut_from (P := Try.prog) 27 54 .i64 Try.underlying27 hi096 2 hsz96 (some ad635) l3.length c3 x46_2 q096 q96
              have hr96 := C_drop (m := (x46_2 : Int).toNat) (c := c3) hC96 (by omega) hroom96
              obtain ⟨A96, hA96⟩ : ∃ A1, A1 = (if c3 = (x46_2 : Int).toNat then (some ad635) else ((some ad635) : Option Addr).map (·.add ((x46_2 : Int).toNat * 2))) := ⟨_, rfl⟩
              obtain ⟨c96, hc96⟩ : ∃ c1, c1 = c3 - (x46_2 : Int).toNat := ⟨_, rfl⟩
              have hy96 : y642.length = l3.length - (x46_2 : Int).toNat := (by rw [Ny642.out, List.length_drop] <;> omega)
              rw [show (l3).drop (x46_2 : Int).toNat = y642 from Ny642.out.symm] at hr96
              replace hr96 : Kd.C k54 _ A96 y642.length y642 := (by rw [hA96]; exact hr96)
              rw [← hy96, ← hA96, ← hc96] at hcut96
              have HR645 := Zh hr96
              have HC645 := Zh (show y642.length ≤ c96 from by rw [hy96, hc96]; exact Nat.sub_le_sub_right hroom96 _)
              clear hr96 hC96 hroom96 hi096 hsz96 hc96
              have KY96 := Zh hy96
              have KA96 := Zh hA96
              clear hy96 hA96
              replace q96 := eq_true q96
              refine start_ (n := 14) (S := fun w' => w'.cell? ⟨gb631, 0, none⟩ = some (.int .i64 t626) ∧ w'.cell? ⟨gb631, 1, none⟩ = some (.int .i64 t627) ∧ w'.cell? ⟨gb631, 2, none⟩ = some (.slice Ao94 x632002_2.length co94) ∧ w'.cell? ⟨gb624, 0, none⟩ = some (.int .i64 a0_0) ∧ w'.cell? ⟨gb624, 1, none⟩ = some (.int .i64 a0_1) ∧ w'.cell? ⟨gb624, 2, none⟩ = some (.slice A0_2 l0_2.length c0_2)) (ds := [13]) #[false, false, false, false, false, false, false, false, false, false, false, false, false, false] (by kernel_rfl) rfl rfl ⟨(blk_cell BK631.out 0).trans rfl, (blk_cell BK631.out 1).trans rfl, (blk_cell BK631.out 2).trans rfl, (blk_cell BK624.out 0).trans rfl, (blk_cell BK624.out 1).trans rfl, (blk_cell BK624.out 2).trans rfl⟩ (fun hHeld => ?_); refine with_tabW impl_AppendTo.tab9 impl_AppendTo.bits9 (fun HT_ HW_ => ?_)
              generalize w92.drew = w93 at HO_632002 BK624 BK625 BK631 BK636 HB HO641 HR645 hHeld ⊢
              refine pure_ (i := 0) (N := some 67) (v := ?_) (a' := ?_) #[true, false, false, false, false, false, false, false, false, false, false, false, false, false] rfl rfl (any_of HT_.out (by kernel_rfl)) (fun _ _ _ h => h) (Or.inl ⟨by rfl, ?_⟩) ?_ ?_
              rotate_left
              ·
               intro w'
               go_simp
               with_reducible rfl
              rotate_left
              ·
               simp only [Act.put, List.setIfInBounds_toArray, List.set_cons_zero, List.set_cons_succ, i64_w, i32_w]
               rfl
              refine pure_ (i := 2) (N := some 69) (v := ?_) (a' := ?_) #[true, false, true, false, false, false, false, false, false, false, false, false, false, false] rfl rfl (any_of HT_.out (by kernel_rfl)) (fun _ _ _ h => h) (Or.inl ⟨by rfl, ?_⟩) ?_ ?_
              rotate_left
              ·
               intro w'
               go_simp
               with_reducible rfl
              rotate_left
              ·
               simp only [Act.put, List.setIfInBounds_toArray, List.set_cons_zero, List.set_cons_succ, i64_w, i32_w]
               rfl
              refine pure_ (i := 3) (N := some 70) (v := ?_) (a' := ?_) #[true, false, true, true, false, false, false, false, false, false, false, false, false, false] rfl rfl (any_of HT_.out (by kernel_rfl)) (fun _ _ _ h => h) (Or.inl ⟨by rfl, ?_⟩) ?_ ?_
              rotate_left
              ·
               intro w'
               go_simp
               with_reducible rfl
              rotate_left
              ·
               simp only [Act.put, List.setIfInBounds_toArray, List.set_cons_zero, List.set_cons_succ, i64_w, i32_w]
               rfl
              refine pure_ (i := 8) (N := some 75) (v := ?_) (a' := ?_) #[true, false, true, true, false, false, false, false, true, false, false, false, false, false] rfl rfl (any_of HT_.out (by kernel_rfl)) (fun _ _ _ h => h) (Or.inl ⟨by rfl, ?_⟩) ?_ ?_
              rotate_left
              ·
               intro w'
               go_simp
               with_reducible rfl
              rotate_left
              ·
               simp only [Act.put, List.setIfInBounds_toArray, List.set_cons_zero, List.set_cons_succ, i64_w, i32_w]
               rfl
              refine pure_ (i := 9) (N := some 76) (v := ?_) (a' := ?_) #[true, false, true, true, false, false, false, false, true, true, false, false, false, false] rfl rfl (any_of HT_.out (by kernel_rfl)) (fun _ _ _ h => h) (Or.inl ⟨by rfl, ?_⟩) ?_ ?_
              rotate_left
              ·
               intro w'
               go_simp
               with_reducible rfl
              rotate_left
              ·
               simp only [Act.put, List.setIfInBounds_toArray, List.set_cons_zero, List.set_cons_succ, i64_w, i32_w]
               rfl
              refine pure_ (i := 10) (N := some 77) (v := ?_) (a' := ?_) #[true, false, true, true, false, false, false, false, true, true, true, false, false, false] rfl rfl (any_of HT_.out (by kernel_rfl)) (fun _ _ _ h => h) (Or.inl ⟨by rfl, ?_⟩) ?_ ?_
              rotate_left
              ·
               intro w'
               go_simp
               with_reducible rfl
              rotate_left
              ·
               simp only [Act.put, List.setIfInBounds_toArray, List.set_cons_zero, List.set_cons_succ, i64_w, i32_w]
               rfl
              refine take_ (i := 1) (N := some 68) (v := ?_) (a' := ?_) #[true, true, true, true, false, false, false, false, true, true, true, false, false, false] rfl rfl (take_ofW HT_.out HW_.out (by kernel_rfl)) (fun _ _ _ h => h) (Or.inl ⟨by rfl, ?_⟩) hHeld ?_ ?_
              rotate_left
              ·
               rintro w' ⟨s0, s1, s2, s3, s4, s5⟩
               go_simp
               with_reducible rfl
              rotate_left
              ·
               simp only [Act.put, List.setIfInBounds_toArray, List.set_cons_zero, List.set_cons_succ, i64_w, i32_w]
               rfl
              refine take_ (i := 4) (N := some 71) (v := ?_) (a' := ?_) #[true, true, true, true, true, false, false, false, true, true, true, false, false, false] rfl rfl (take_ofW HT_.out HW_.out (by kernel_rfl)) (fun _ _ _ h => h) (Or.inl ⟨by rfl, ?_⟩) hHeld ?_ ?_
              rotate_left
              ·
               rintro w' ⟨s0, s1, s2, s3, s4, s5⟩
               go_simp
               with_reducible rfl
              rotate_left
              ·
               simp only [Act.put, List.setIfInBounds_toArray, List.set_cons_zero, List.set_cons_succ, i64_w, i32_w]
               rfl
              refine pure_ (i := 5) (N := some 72) (v := ?_) (a' := ?_) #[true, true, true, true, true, true, false, false, true, true, true, false, false, false] rfl rfl (any_of HT_.out (by kernel_rfl)) (fun _ _ _ h => h) (Or.inl ⟨by rfl, ?_⟩) ?_ ?_
              rotate_left
              ·
               intro w'
               go_simp
               with_reducible rfl
              rotate_left
              ·
               simp only [Act.put, List.setIfInBounds_toArray, List.set_cons_zero, List.set_cons_succ, i64_w, i32_w]
               rfl
              refine pure_ (i := 6) (N := some 73) (v := ?_) (a' := ?_) #[true, true, true, true, true, true, true, false, true, true, true, false, false, false] rfl rfl (any_of HT_.out (by kernel_rfl)) (fun _ _ _ h => h) (Or.inl ⟨by rfl, ?_⟩) ?_ ?_
              rotate_left
              ·
               intro w'
               go_simp
               with_reducible rfl
              rotate_left
              ·
               simp only [Act.put, List.setIfInBounds_toArray, List.set_cons_zero, List.set_cons_succ, i64_w, i32_w]
               rfl
              refine pure_ (i := 7) (N := some 74) (v := ?_) (a' := ?_) #[true, true, true, true, true, true, true, true, true, true, true, false, false, false] rfl rfl (any_of HT_.out (by kernel_rfl)) (fun _ _ _ h => h) (Or.inl ⟨by rfl, ?_⟩) ?_ ?_
              rotate_left
              ·
               intro w'
               go_simp
               with_reducible rfl
              rotate_left
              ·
               simp only [Act.put, List.setIfInBounds_toArray, List.set_cons_zero, List.set_cons_succ, i64_w, i32_w]
               rfl
              refine one_ (i := 11) (N := some 78) #[true, true, true, true, true, true, true, true, true, true, true, true, false, false] rfl rfl (one_of HT_.out (by kernel_rfl)) (by decide) (fun K hK => ?_)
              refine R_append_rows_step k54 (w0 := w) w.heap.size (by rfl) (.tmp 74) (.tmp 77) 27 54 (.agg #[(.int .i64 0), (.string ⟨#[]⟩)]) 24 rfl Try.underlying27 info54 rfl (by decide) (by omega) (.slice Ao94 y639.length co94) y639 y642 _ _ _ (fun k_ => k_ ≠ gb636) (fun _ => False) rfl rfl ?aO ?aR (fun _ _ h => h) (fun _ h => h.elim) ?aF ?aB ?aS ?aL ?_
              (case aR => repeat (first | exact (C_below HR645.out HB.out) | (with_reducible refine C_alloc ?_ _) | (with_reducible refine C_drewN ?_ _) | (with_reducible refine C_drew ?_)))
              (case aB => exact Zs)
              (case aF => exact (fun k_ hk => Kd.freshB (g := gb636) (o := .cells #[.int .i64 ((rd_T54 l3 x46_2).f0), .string ((rd_T54 l3 x46_2).f1)] 54 (0, 0)) Zk k_ hk))
              (case aO => exact (by (with_reducible repeat (first | apply R_alloc | apply R_drewN | apply R_drew)); exact HO641.out))
              (case aS => exact (below_size Zs))
              (case aL => have := LMc83.out; omega)
              intro v647 w97 ho hb hg hat
              rw [← Ny646.out] at ho
              have n0_ := Zh (blk_grown (g := gb624) (o := .cells #[.int .i64 a0_0, .int .i64 a0_1, .slice A0_2 l0_2.length c0_2] 29 (0, 0)) Zk hg (R_ne HO641.out BK624.out (by decide)))
              have n1_ := Zh (blk_grown (g := gb625) (o := .cells #[.int .i64 0, .int .i64 0, .slice none 0 0] 29 (0, 0)) Zk hg (R_ne HO641.out BK625.out (by decide)))
              have n2_ := Zh (blk_grown (g := gb631) (o := .cells #[.int .i64 t626, .int .i64 t627, .slice Ao94 x632002_2.length co94] 29 (0, 0)) Zk hg (R_ne HO641.out BK631.out (by decide)))
              have n3_ := Zh (blk_grown (g := gb636) (o := .cells #[.int .i64 ((rd_T54 l3 x46_2).f0), .string ((rd_T54 l3 x46_2).f1)] 54 (0, 0)) Zk hg (R_away HO641.out (fun _ hk => hk)))
              have n4_ := Zh (hb)
              have n5_ := Zh (ho)
              clear BK624
              clear BK625
              clear BK631
              clear BK636
              clear HB
              clear HO641
              have BK624 := n0_
              have BK625 := n1_
              have BK631 := n2_
              have BK636 := n3_
              have HB := n4_
              have HO648 := n5_
              clear n0_ n1_ n2_ n3_ n4_ n5_
              clear ho hb hg hat
              obtain ⟨Ao98, co98, eo98⟩ := R_slice HO648.out
              (first | subst eo98 | (injection eo98 with f1_ f2_ f3_; have f4_ := f1_.symm; have f5_ := f3_.symm; clear f1_ f2_ f3_; subst f4_; subst f5_))
              refine hK.out _ _ ⟨(blk_cell BK631.out 0).trans rfl, (blk_cell BK631.out 1).trans rfl, (blk_cell BK631.out 2).trans rfl, (blk_cell BK624.out 0).trans rfl, (blk_cell BK624.out 1).trans rfl, (blk_cell BK624.out 2).trans rfl⟩ (fun hHeld => ?_)
              clear hK K
              refine norm_ (a' := ?_) ?_ ?_
              rotate_left
              ·
               show Act.put _ (some 78) _ = _
               simp only [Act.put, List.setIfInBounds_toArray, List.set_cons_zero, List.set_cons_succ, i64_w, i32_w]
               rfl
              refine pure_ (i := 12) (N := some 79) (v := ?_) (a' := ?_) #[true, true, true, true, true, true, true, true, true, true, true, true, true, false] rfl rfl (any_of HT_.out (by kernel_rfl)) (fun _ _ _ h => h) (Or.inl ⟨by rfl, ?_⟩) ?_ ?_
              rotate_left
              ·
               intro w'
               go_simp
               with_reducible rfl
              rotate_left
              ·
               simp only [Act.put, List.setIfInBounds_toArray, List.set_cons_zero, List.set_cons_succ, i64_w, i32_w]
               rfl
              refine last_ (i := 13) (N := none) #[true, true, true, true, true, true, true, true, true, true, true, true, true, true] rfl rfl (one_of HT_.out (by kernel_rfl)) (by decide) (fun K hK => ?_)
              have hs99 : w97.cell? ⟨gb631, 2, none⟩ = some (.slice Ao94 x632002_2.length co94) := (blk_cell BK631.out 2).trans rfl
              have hfs99 := Zn BK631.out 2
              have hns99_0 := NB624_631.out
              have hns99_1 := NB625_631.out
              have hns99_3 := NB636_631.out
              have hms99_0 := NB631_624.out
              have hms99_1 := NB631_625.out
              have hms99_3 := NB631_636.out
              refine skip_ (w1 := ?_) (by rfl) rfl ?_ ?_
              rotate_left
              ·
               go_simp
               rfl
              refine hK.out _ _ ?_
              clear hK K
              refine done_ (done_of HT_.out (by kernel_rfl)) ?_
              try go_wp2
              go_meet
              case rel => exact ⟨_, (y646), (.slice Ao98 y646.length co98), H', ⟨by have := HJ5.out; have := HK2.out; first | omega | exact Nat.le_refl _⟩, ⟨by (with_reducible repeat (first | apply R_alloc | apply R_drewN | apply R_drew)); exact R_mono (R_far (p := ⟨gb631, 2, none⟩) (R_types HO648.out BK631.out (by decide)) (fun _ hk => hk.2) (.slice Ao98 y646.length co98)) (fun _ hk => trivial)⟩, ⟨by (with_reducible repeat (first | refine Za ?_ _ | refine Zb ?_ | refine blk_alloc ?_ _)); refine Zp ?_ NB624_631.out _; (with_reducible repeat (first | refine Za ?_ _ | refine Zb ?_ | refine blk_alloc ?_ _)); exact BK624.out⟩, ⟨by (with_reducible repeat (first | refine Za ?_ _ | refine Zb ?_ | refine blk_alloc ?_ _)); refine Zp ?_ NB625_631.out _; (with_reducible repeat (first | refine Za ?_ _ | refine Zb ?_ | refine blk_alloc ?_ _)); exact BK625.out⟩, ⟨by (with_reducible repeat (first | refine Za ?_ _ | refine Zb ?_ | refine blk_alloc ?_ _)); refine blk_put (cs := #[.int .i64 t626, .int .i64 t627, .slice Ao94 x632002_2.length co94]) ?_ 2 _ rfl; (with_reducible repeat (first | refine Za ?_ _ | refine Zb ?_ | refine blk_alloc ?_ _)); exact BK631.out⟩, ⟨by repeat (first | (with_reducible first | exact HB.out | apply Zf | apply Zd | apply Ze | refine Zg ?_ GE624.out | refine Zg ?_ GE625.out | refine Zg ?_ GE631.out | refine Zg ?_ GE636.out) | exact HB.out)⟩⟩
             rw [if_neg c83] at H
             exact absurd H (by simp)
            rw [if_neg c82] at H
            exact absurd H (by simp)
           rw [if_neg c80] at H
           exact absurd H (by simp)
          rw [if_neg c79] at H
          exact absurd H (by simp)
         rw [if_neg c66] at H
         have c66b0 : decide ((wrap64 ((wrap64 (a1 + 1)) + x46_2)) ≤ t637) = false := decide_eq_false c66
         clear c66
         obtain ⟨ji100, hji100⟩ : ∃ j_ : Int, (wrap64 ((wrap64 ((wrap64 ((wrap64 (a1 + 1)) + x46_2)) - a0_0)) - 1)) = j_ := ⟨_, rfl⟩
         replace H : (if 0 ≤ (ji100) then (if (ji100) ≤ (x632002_2.length : Int) then ((some (x632002_2.take ((ji100) : Int).toNat : List (S54))).bind fun y649 => (if x46_2 ≤ (l3.length : Int) then ((some (l3.drop (x46_2 : Int).toNat : List (S54))).bind fun y652 => (if y649.length + y652.length < 5864062014805 then (impl_AppendTo.j2 k2 a0_0 a0_1 l0_2 t626 t627 (y649 ++ y652)) else (none))) else (none))) else (none)) else (none)) = some (r1, r2, r3, r4) := by first | (rw [hji100] at H; exact H) | (simp only [hji100] at H ⊢; exact H)
         (try rw [hji100] at A65)
         have hji100w : (IntKind.i64.wrap ((wrap64 ((wrap64 ((wrap64 (a1 + 1)) + x46_2)) - a0_0)) - 1)) = ji100 := (i64_w _).trans hji100
         by_cases c101 : 0 ≤ (ji100)
         ·
          rw [if_pos c101] at H
          have c101b0 := eq_true c101
          have c101b1 : decide (0 ≤ (ji100)) = true := decide_eq_true c101
          clear c101
          by_cases c102 : (ji100) ≤ (x632002_2.length : Int)
          ·
           rw [if_pos c102] at H
           have c102b0 := eq_true c102
           have c102b1 : decide ((ji100) ≤ (x632002_2.length : Int)) = true := decide_eq_true c102
           clear c102
           obtain ⟨y649, hy649⟩ : ∃ y_ : List (S54), y_ = (x632002_2.take ((ji100) : Int).toNat) := ⟨_, rfl⟩
           replace H : (if x46_2 ≤ (l3.length : Int) then ((some (l3.drop (x46_2 : Int).toNat : List (S54))).bind fun y652 => (if y649.length + y652.length < 5864062014805 then (impl_AppendTo.j2 k2 a0_0 a0_1 l0_2 t626 t627 (y649 ++ y652)) else (none))) else (none)) = some (r1, r2, r3, r4) := by first | (rw [hy649]; with_reducible exact H) | (have H2_ := (Option.bind_some _ _).symm.trans H; rw [hy649]; with_reducible exact H2_) | (have H2_ := (Option.bind_some _ _).symm.trans H; with_reducible exact H2_) | with_reducible exact H | (rw [hy649]; exact H) | exact H
           have Ny649 := Zh hy649
           clear hy649
           have c103b0 := eq_true (Zo : 0 ≤ x46_2)
           by_cases c104 : x46_2 ≤ (l3.length : Int)
           ·
            rw [if_pos c104] at H
            have c104b0 := eq_true c104
            have c104b1 : decide (x46_2 ≤ (l3.length : Int)) = true := decide_eq_true c104
            clear c104
            obtain ⟨y652, hy652⟩ : ∃ y_ : List (S54), y_ = (l3.drop (x46_2 : Int).toNat) := ⟨_, rfl⟩
            replace H : (if y649.length + y652.length < 5864062014805 then (impl_AppendTo.j2 k2 a0_0 a0_1 l0_2 t626 t627 (y649 ++ y652)) else (none)) = some (r1, r2, r3, r4) := by first | (rw [hy652]; with_reducible exact H) | (have H2_ := (Option.bind_some _ _).symm.trans H; rw [hy652]; with_reducible exact H2_) | (have H2_ := (Option.bind_some _ _).symm.trans H; with_reducible exact H2_) | with_reducible exact H | (rw [hy652]; exact H) | exact H
            have Ny652 := Zh hy652
            clear hy652
            by_cases c105 : y649.length + y652.length < 5864062014805
            ·
             rw [if_pos c105] at H
             have LMc105 := Zh c105
             clear c105
             obtain ⟨y656, hy656⟩ : ∃ y_ : List (S54), y_ = (y649 ++ y652) := ⟨_, rfl⟩
             replace H : (impl_AppendTo.j2 k2 a0_0 a0_1 l0_2 t626 t627 y656) = some (r1, r2, r3, r4) := by first | (rw [hy656]; with_reducible exact H) | (have H2_ := (Option.bind_some _ _).symm.trans H; rw [hy656]; with_reducible exact H2_) | (have H2_ := (Option.bind_some _ _).symm.trans H; with_reducible exact H2_) | with_reducible exact H | (rw [hy656]; exact H) | exact H
             have Ny656 := Zh hy656
             clear hy656
             have H' := Zh H
             clear H
             have p635 : 0 ≤ (x46_2 : Int) := Zo
             have q635 : x46_2 < (l3.length : Int) := Zo
             obtain ⟨ad635, e635, hx635_0, hx635_1⟩ := at_T54 HR3.out x46_2 p635 q635
             cases e635
             replace hx635_0 := Zc HB.out hx635_0
             replace hx635_1 := Zc HB.out hx635_1
             replace p635 := eq_true p635
             replace q635 := eq_true q635
             try go_wp2_with (first | ((with_reducible refine gate_dst (N := 12) rfl ?_); (try (refine gate_guard (by rfl) ?_; dsimp only)); refine box_event ?hg (N := 12) ?hd (cs := #[.int .i64 0, .string (⟨#[]⟩ : ByteArray)]) (t := 54) ?hr ?_; (case hd => rfl); (case hg => rfl); (case hr => first | (go_simp; done) | (go_simp; rfl)); intro gb636 hg w106 hbox hb; have n0_ := Zh (R_below (R_elderB (by (with_reducible repeat (first | apply R_alloc | apply R_drewN | apply R_drew)); exact HO_632002.out) gb636 (Nat.le_of_eq hg.symm)) hb); have n1_ := Zh (Zm (g := gb624) (o := .cells #[.int .i64 a0_0, .int .i64 a0_1, .slice A0_2 l0_2.length c0_2] 29 (0, 0)) Zk hb); have n2_ := Zh (Zm (g := gb625) (o := .cells #[.int .i64 0, .int .i64 0, .slice none 0 0] 29 (0, 0)) Zk hb); have n3_ := Zh (Zm (g := gb631) (o := .cells #[.int .i64 t626, .int .i64 t627, u632002] 29 (0, 0)) Zk hb); have n4_ := Zh (Zl Zs hb); have n5_ := Zh (hbox); have n6_ := Zh ((by rw [hg]; exact (below_size Zs) : w.heap.size ≤ gb636)); have n7_ := Zh ((by rw [hg]; exact (below_size Zs) : w.heap.size ≤ gb636)); have n8_ := Zh ((by rw [hg]; exact Nat.ne_of_lt (blk_lt (g := gb624) (o := .cells #[.int .i64 a0_0, .int .i64 a0_1, .slice A0_2 l0_2.length c0_2] 29 (0, 0)) Zk) : gb624 ≠ gb636)); have n9_ := Zh ((by rw [hg]; exact Nat.ne_of_gt (blk_lt (g := gb624) (o := .cells #[.int .i64 a0_0, .int .i64 a0_1, .slice A0_2 l0_2.length c0_2] 29 (0, 0)) Zk) : gb636 ≠ gb624)); have n10_ := Zh ((by rw [hg]; exact Nat.ne_of_lt (blk_lt (g := gb625) (o := .cells #[.int .i64 0, .int .i64 0, .slice none 0 0] 29 (0, 0)) Zk) : gb625 ≠ gb636)); have n11_ := Zh ((by rw [hg]; exact Nat.ne_of_gt (blk_lt (g := gb625) (o := .cells #[.int .i64 0, .int .i64 0, .slice none 0 0] 29 (0, 0)) Zk) : gb636 ≠ gb625)); have n12_ := Zh ((by rw [hg]; exact Nat.ne_of_lt (blk_lt (g := gb631) (o := .cells #[.int .i64 t626, .int .i64 t627, u632002] 29 (0, 0)) Zk) : gb631 ≠ gb636)); have n13_ := Zh ((by rw [hg]; exact Nat.ne_of_gt (blk_lt (g := gb631) (o := .cells #[.int .i64 t626, .int .i64 t627, u632002] 29 (0, 0)) Zk) : gb636 ≠ gb631)); clear HO_632002; clear BK624; clear BK625; clear BK631; clear HB; have HO_632002 := n0_; have BK624 := n1_; have BK625 := n2_; have BK631 := n3_; have HB := n4_; have BK636 := n5_; have GW636 := n6_; have GE636 := n7_; have NB624_636 := n8_; have NB636_624 := n9_; have NB625_636 := n10_; have NB636_625 := n11_; have NB631_636 := n12_; have NB636_631 := n13_; clear n0_ n1_ n2_ n3_ n4_ n5_ n6_ n7_ n8_ n9_ n10_ n11_ n12_ n13_; clear hb hbox hg; have hnb107 := NB636_624.out; have hnc107 := NB624_636.out; have hnb108 := NB636_625.out; have hnc108 := NB625_636.out; have hnb109 := NB636_631.out; have hnc109 := NB631_636.out; have hcz110_0 : w106.cell? ⟨gb636, 0, none⟩ = some (.int .i64 0) := (blk_cell BK636.out 0).trans rfl; have hcz110_1 : w106.cell? ⟨gb636, 1, none⟩ = some (.string (⟨#[]⟩ : ByteArray)) := (blk_cell BK636.out 1).trans rfl; have hfz110_0 := Zn BK636.out 0; have hfz110_1 := Zn BK636.out 1))
             have n0_ : Aside0 (Kd.R k54 54 ((w106.setCell ⟨gb636, 0, none⟩ (.int .i64 ((rd_T54 l3 x46_2).f0))).setCell ⟨gb636, 1, none⟩ (.string ((rd_T54 l3 x46_2).f1))) w.heap.size (fun k_ => k_ ≠ gb636) u632002 x632002_2) := ⟨by (with_reducible repeat (first | apply R_alloc | apply R_drewN | apply R_drew)); exact R_mono (R_far (p := ⟨gb636, 1, none⟩) (R_far (p := ⟨gb636, 0, none⟩) (R_mono HO_632002.out (fun k_ hk => (⟨hk, hk.2⟩ : _ ∧ k_ ≠ gb636))) (fun _ hk => hk.2) (.int .i64 ((rd_T54 l3 x46_2).f0))) (fun _ hk => hk.2) (.string ((rd_T54 l3 x46_2).f1))) (fun _ hk => hk.1.2)⟩
             have n1_ : Aside0 (((w106.setCell ⟨gb636, 0, none⟩ (.int .i64 ((rd_T54 l3 x46_2).f0))).setCell ⟨gb636, 1, none⟩ (.string ((rd_T54 l3 x46_2).f1))).heap[gb624]? = some (.cells #[.int .i64 a0_0, .int .i64 a0_1, .slice A0_2 l0_2.length c0_2] 29 (0, 0))) := ⟨by (with_reducible repeat (first | refine Za ?_ _ | refine Zb ?_ | refine blk_alloc ?_ _)); refine Zp ?_ NB624_636.out _; (with_reducible repeat (first | refine Za ?_ _ | refine Zb ?_ | refine blk_alloc ?_ _)); refine Zp ?_ NB624_636.out _; (with_reducible repeat (first | refine Za ?_ _ | refine Zb ?_ | refine blk_alloc ?_ _)); exact BK624.out⟩
             have n2_ : Aside0 (((w106.setCell ⟨gb636, 0, none⟩ (.int .i64 ((rd_T54 l3 x46_2).f0))).setCell ⟨gb636, 1, none⟩ (.string ((rd_T54 l3 x46_2).f1))).heap[gb625]? = some (.cells #[.int .i64 0, .int .i64 0, .slice none 0 0] 29 (0, 0))) := ⟨by (with_reducible repeat (first | refine Za ?_ _ | refine Zb ?_ | refine blk_alloc ?_ _)); refine Zp ?_ NB625_636.out _; (with_reducible repeat (first | refine Za ?_ _ | refine Zb ?_ | refine blk_alloc ?_ _)); refine Zp ?_ NB625_636.out _; (with_reducible repeat (first | refine Za ?_ _ | refine Zb ?_ | refine blk_alloc ?_ _)); exact BK625.out⟩
             have n3_ : Aside0 (((w106.setCell ⟨gb636, 0, none⟩ (.int .i64 ((rd_T54 l3 x46_2).f0))).setCell ⟨gb636, 1, none⟩ (.string ((rd_T54 l3 x46_2).f1))).heap[gb631]? = some (.cells #[.int .i64 t626, .int .i64 t627, u632002] 29 (0, 0))) := ⟨by (with_reducible repeat (first | refine Za ?_ _ | refine Zb ?_ | refine blk_alloc ?_ _)); refine Zp ?_ NB631_636.out _; (with_reducible repeat (first | refine Za ?_ _ | refine Zb ?_ | refine blk_alloc ?_ _)); refine Zp ?_ NB631_636.out _; (with_reducible repeat (first | refine Za ?_ _ | refine Zb ?_ | refine blk_alloc ?_ _)); exact BK631.out⟩
             have n4_ : Aside0 (((w106.setCell ⟨gb636, 0, none⟩ (.int .i64 ((rd_T54 l3 x46_2).f0))).setCell ⟨gb636, 1, none⟩ (.string ((rd_T54 l3 x46_2).f1))).heap[gb636]? = some (.cells #[.int .i64 ((rd_T54 l3 x46_2).f0), .string ((rd_T54 l3 x46_2).f1)] 54 (0, 0))) := ⟨by (with_reducible repeat (first | refine Za ?_ _ | refine Zb ?_ | refine blk_alloc ?_ _)); refine blk_put (cs := #[.int .i64 ((rd_T54 l3 x46_2).f0), .string (⟨#[]⟩ : ByteArray)]) ?_ 1 _ rfl; (with_reducible repeat (first | refine Za ?_ _ | refine Zb ?_ | refine blk_alloc ?_ _)); refine blk_put (cs := #[.int .i64 0, .string (⟨#[]⟩ : ByteArray)]) ?_ 0 _ rfl; (with_reducible repeat (first | refine Za ?_ _ | refine Zb ?_ | refine blk_alloc ?_ _)); exact BK636.out⟩
             have n5_ : Aside0 (Below w.heap.size w ((w106.setCell ⟨gb636, 0, none⟩ (.int .i64 ((rd_T54 l3 x46_2).f0))).setCell ⟨gb636, 1, none⟩ (.string ((rd_T54 l3 x46_2).f1)))) := ⟨by repeat (first | (with_reducible first | exact HB.out | apply Zf | apply Zd | apply Ze | refine Zg ?_ GE624.out | refine Zg ?_ GE625.out | refine Zg ?_ GE631.out | refine Zg ?_ GE636.out) | exact HB.out)⟩
             (try clear HO_632002)
             (try clear BK624)
             (try clear BK625)
             (try clear BK631)
             (try clear BK636)
             (try clear HB)
             generalize ((w106.setCell ⟨gb636, 0, none⟩ (.int .i64 ((rd_T54 l3 x46_2).f0))).setCell ⟨gb636, 1, none⟩ (.string ((rd_T54 l3 x46_2).f1))) = w111 at n0_ n1_ n2_ n3_ n4_ n5_ ⊢
             have HO_632002 := n0_
             have BK624 := n1_
             have BK625 := n2_
             have BK631 := n3_
             have BK636 := n4_
             have HB := n5_
             clear n0_ n1_ n2_ n3_ n4_ n5_
             have n0_ := Zh (R_drew HO_632002.out)
             have n1_ := Zh (Zb BK624.out)
             have n2_ := Zh (Zb BK625.out)
             have n3_ := Zh (Zb BK631.out)
             have n4_ := Zh (Zb BK636.out)
             have n5_ := Zh (Ze HB.out)
             clear HO_632002
             clear BK624
             clear BK625
             clear BK631
             clear BK636
             clear HB
             have HO_632002 := n0_
             have BK624 := n1_
             have BK625 := n2_
             have BK631 := n3_
             have BK636 := n4_
             have HB := n5_
             clear n0_ n1_ n2_ n3_ n4_ n5_
             refine start_ (n := 12) (S := fun w' => w'.cell? ⟨gb624, 0, none⟩ = some (.int .i64 a0_0) ∧ w'.cell? ⟨gb624, 1, none⟩ = some (.int .i64 a0_1) ∧ w'.cell? ⟨gb624, 2, none⟩ = some (.slice A0_2 l0_2.length c0_2)) (ds := []) #[false, false, false, false, false, false, false, false, false, false, false, false] (by kernel_rfl) rfl rfl ⟨(blk_cell BK624.out 0).trans rfl, (blk_cell BK624.out 1).trans rfl, (blk_cell BK624.out 2).trans rfl⟩ (fun hHeld => ?_); refine with_tabW impl_AppendTo.tab8 impl_AppendTo.bits8 (fun HT_ HW_ => ?_)
             generalize w111.drew = w112 at HO_632002 BK624 BK625 BK631 BK636 HB hHeld ⊢
             refine pure_ (i := 0) (N := some 55) (v := ?_) (a' := ?_) #[true, false, false, false, false, false, false, false, false, false, false, false] rfl rfl (any_of HT_.out (by kernel_rfl)) (fun _ _ _ h => h) (Or.inl ⟨by rfl, ?_⟩) ?_ ?_
             rotate_left
             ·
              intro w'
              go_simp
              with_reducible rfl
             rotate_left
             ·
              simp only [Act.put, List.setIfInBounds_toArray, List.set_cons_zero, List.set_cons_succ, i64_w, i32_w]
              rfl
             refine take_ (i := 1) (N := some 56) (v := ?_) (a' := ?_) #[true, true, false, false, false, false, false, false, false, false, false, false] rfl rfl (take_ofW HT_.out HW_.out (by kernel_rfl)) (fun _ _ _ h => h) (Or.inl ⟨by rfl, ?_⟩) hHeld ?_ ?_
             rotate_left
             ·
              rintro w' ⟨s0, s1, s2⟩
              go_simp
              with_reducible rfl
             rotate_left
             ·
              simp only [Act.put, List.setIfInBounds_toArray, List.set_cons_zero, List.set_cons_succ, i64_w, i32_w]
              rfl
             refine one_ (i := 2) (N := some 57) #[true, true, true, false, false, false, false, false, false, false, false, false] rfl rfl (one_of HT_.out (by kernel_rfl)) (by decide) (fun K hK => ?_)
             refine goes_ Try.func46 (by kernel_rfl) rfl #[.agg #[.int .i64 a0_0, .int .i64 a0_1, .slice A0_2 l0_2.length c0_2]] (by rfl) rfl rfl (by (try simp only [List.map_toArray, List.map_cons, List.map_nil]); first | done | rfl | (simp only [List.length_drop, List.length_take]; rfl)) ?_
             with_reducible refine (impl_RLog_last.calls a0_0 a0_1 _ _ l0_2 t637 _ ?side1 ?side2 A65.out).mono ?_
             (case side1 => repeat (first | exact (C_below HR0_2.out HB.out) | (with_reducible refine C_alloc ?_ _) | (with_reducible refine C_drewN ?_ _) | (with_reducible refine C_drew ?_)))
             (case side2 => exact HC0_2.out)
             rintro e w113 ⟨rfl, hb⟩
             refine ⟨_, rfl, ?_⟩
             have n0_ := Zh (R_below (by (with_reducible repeat (first | apply R_alloc | apply R_drewN | apply R_drew)); exact HO_632002.out) hb)
             have n1_ := Zh (Zm (g := gb624) (o := .cells #[.int .i64 a0_0, .int .i64 a0_1, .slice A0_2 l0_2.length c0_2] 29 (0, 0)) Zk hb)
             have n2_ := Zh (Zm (g := gb625) (o := .cells #[.int .i64 0, .int .i64 0, .slice none 0 0] 29 (0, 0)) Zk hb)
             have n3_ := Zh (Zm (g := gb631) (o := .cells #[.int .i64 t626, .int .i64 t627, u632002] 29 (0, 0)) Zk hb)
             have n4_ := Zh (Zm (g := gb636) (o := .cells #[.int .i64 ((rd_T54 l3 x46_2).f0), .string ((rd_T54 l3 x46_2).f1)] 54 (0, 0)) Zk hb)
             have n5_ := Zh (Zl Zs hb)
             clear HO_632002
             clear BK624
             clear BK625
             clear BK631
             clear BK636
             clear HB
             have HO_632002 := n0_
             have BK624 := n1_
             have BK625 := n2_
             have BK631 := n3_
             have BK636 := n4_
             have HB := n5_
             clear n0_ n1_ n2_ n3_ n4_ n5_
             (try clear hb)
             (try clear hb2)
             (try clear hk)
             (try clear hi)
             refine hK.out _ _ ⟨(blk_cell BK624.out 0).trans rfl, (blk_cell BK624.out 1).trans rfl, (blk_cell BK624.out 2).trans rfl⟩ (fun hHeld => ?_)
             clear hK K
             refine norm_ (a' := ?_) ?_ ?_
             rotate_left
             ·
              show Act.put _ (some 57) _ = _
              simp only [Act.put, List.setIfInBounds_toArray, List.set_cons_zero, List.set_cons_succ, i64_w, i32_w]
              rfl
             refine pure_ (i := 3) (N := some 58) (v := ?_) (a' := ?_) #[true, true, true, true, false, false, false, false, false, false, false, false] rfl rfl (any_of HT_.out (by kernel_rfl)) (fun _ _ _ h => h) (Or.inl ⟨by rfl, ?_⟩) ?_ ?_
             rotate_left
             ·
              intro w'
              go_simp
              with_reducible rfl
             rotate_left
             ·
              simp only [Act.put, List.setIfInBounds_toArray, List.set_cons_zero, List.set_cons_succ, i64_w, i32_w]
              rfl
             refine pure_ (i := 4) (N := some 59) (v := ?_) (a' := ?_) #[true, true, true, true, true, false, false, false, false, false, false, false] rfl rfl (any_of HT_.out (by kernel_rfl)) (fun _ _ _ h => h) (Or.inl ⟨by rfl, ?_⟩) ?_ ?_
             rotate_left
             ·
              intro w'
              go_simp
              with_reducible rfl
             rotate_left
             ·
              simp only [Act.put, List.setIfInBounds_toArray, List.set_cons_zero, List.set_cons_succ, i64_w, i32_w]
              rfl
             refine pure_ (i := 5) (N := some 60) (v := undef) (a' := ?_) #[true, true, true, true, true, true, false, false, false, false, false, false] rfl rfl (any_of HT_.out (by kernel_rfl)) (fun _ _ _ h => h) (Or.inr ⟨by rfl, rfl⟩) ?_ ?_
             rotate_left
             ·
              simp only [Act.put, List.setIfInBounds_toArray, List.set_cons_zero, List.set_cons_succ, i64_w, i32_w]
              rfl
             refine pure_ (i := 6) (N := some 61) (v := undef) (a' := ?_) #[true, true, true, true, true, true, true, false, false, false, false, false] rfl rfl (any_of HT_.out (by kernel_rfl)) (fun _ _ _ h => h) (Or.inr ⟨by rfl, rfl⟩) ?_ ?_
             rotate_left
             ·
              simp only [Act.put, List.setIfInBounds_toArray, List.set_cons_zero, List.set_cons_succ, i64_w, i32_w]
              rfl
             refine pure_ (i := 7) (N := some 62) (v := undef) (a' := ?_) #[true, true, true, true, true, true, true, true, false, false, false, false] rfl rfl (any_of HT_.out (by kernel_rfl)) (fun _ _ _ h => h) (Or.inr ⟨by rfl, rfl⟩) ?_ ?_
             rotate_left
             ·
              simp only [Act.put, List.setIfInBounds_toArray, List.set_cons_zero, List.set_cons_succ, i64_w, i32_w]
              rfl
             refine pure_ (i := 8) (N := some 63) (v := undef) (a' := ?_) #[true, true, true, true, true, true, true, true, true, false, false, false] rfl rfl (any_of HT_.out (by kernel_rfl)) (fun _ _ _ h => h) (Or.inr ⟨by rfl, rfl⟩) ?_ ?_
             rotate_left
             ·
              simp only [Act.put, List.setIfInBounds_toArray, List.set_cons_zero, List.set_cons_succ, i64_w, i32_w]
              rfl
             refine pure_ (i := 9) (N := some 64) (v := undef) (a' := ?_) #[true, true, true, true, true, true, true, true, true, true, false, false] rfl rfl (any_of HT_.out (by kernel_rfl)) (fun _ _ _ h => h) (Or.inr ⟨by rfl, rfl⟩) ?_ ?_
             rotate_left
             ·
              simp only [Act.put, List.setIfInBounds_toArray, List.set_cons_zero, List.set_cons_succ, i64_w, i32_w]
              rfl
             refine pure_ (i := 10) (N := some 65) (v := undef) (a' := ?_) #[true, true, true, true, true, true, true, true, true, true, true, false] rfl rfl (any_of HT_.out (by kernel_rfl)) (fun _ _ _ h => h) (Or.inr ⟨by rfl, rfl⟩) ?_ ?_
             rotate_left
             ·
              simp only [Act.put, List.setIfInBounds_toArray, List.set_cons_zero, List.set_cons_succ, i64_w, i32_w]
              rfl
             refine pure_ (i := 11) (N := some 66) (v := ?_) (a' := ?_) #[true, true, true, true, true, true, true, true, true, true, true, true] rfl rfl (any_of HT_.out (by kernel_rfl)) (fun _ _ _ h => h) (Or.inl ⟨by rfl, ?_⟩) ?_ ?_
             rotate_left
             ·
              intro w'
              go_simp
              with_reducible rfl
             rotate_left
             ·
              simp only [Act.put, List.setIfInBounds_toArray, List.set_cons_zero, List.set_cons_succ, i64_w, i32_w]
              rfl
             refine done_ (done_of HT_.out (by kernel_rfl)) ?_
             try go_wp2
             have n0_ := Zh (R_drew HO_632002.out)
             have n1_ := Zh (Zb BK624.out)
             have n2_ := Zh (Zb BK625.out)
             have n3_ := Zh (Zb BK631.out)
             have n4_ := Zh (Zb BK636.out)
             have n5_ := Zh (Ze HB.out)
             clear HO_632002
             clear BK624
             clear BK625
             clear BK631
             clear BK636
             clear HB
             have HO_632002 := n0_
             have BK624 := n1_
             have BK625 := n2_
             have BK631 := n3_
             have BK636 := n4_
             have HB := n5_
             clear n0_ n1_ n2_ n3_ n4_ n5_
             obtain ⟨Ao115, co115, eo115⟩ := R_slice HO_632002.out
             (first | subst eo115 | (injection eo115 with f1_ f2_ f3_; have f4_ := f1_.symm; have f5_ := f3_.symm; clear f1_ f2_ f3_; subst f4_; subst f5_))
             have q116 : ((ji100) : Int) ≤ ((x632002_2.length : Int) : Int) := Zo
             obtain ⟨i0116, hi0116, _, hsz116, _⟩ := info_parts info54
             have hcut116 := cut_to (P := Try.prog) 27 54 .i64 Try.underlying27 hi0116 Ao115 x632002_2.length co115 (ji100) (Zo) q116 (R_reads' HO_632002.out).2.1
             have hr116 := R_take (m := ((ji100) : Int).toNat) HO_632002.out (by omega)
             have hy116 : y649.length = ((ji100) : Int).toNat := (by rw [Ny649.out, List.length_take]; omega)
             rw [← Ny649.out] at hr116
             rw [← hy116] at hr116 hcut116
             clear hy116 hi0116 hsz116 HO_632002
             have HO651 := Zh hr116
             clear hr116
             replace q116 := eq_true q116
             have q117 : (x46_2 : Int) ≤ ((l3.length : Int) : Int) := Zo
             obtain ⟨i0117, hi0117, _, hsz117, _⟩ := info_parts info54
             have hroom117 : l3.length ≤ c3 := HC3.out
             have hC117 : Kd.C k54 _ (some ad635) l3.length l3 := HR3.out
             have q0117 : (0 : Int) ≤ (x46_2 : Int) := Zo
             have hcut117 := cut_from (P := Try.prog) 27 54 .i64 Try.underlying27 hi0117 2 hsz117 (some ad635) l3.length c3 x46_2 q0117 q117
             have hr117 := C_drop (m := (x46_2 : Int).toNat) (c := c3) hC117 (by omega) hroom117
             obtain ⟨A117, hA117⟩ : ∃ A1, A1 = (if c3 = (x46_2 : Int).toNat then (some ad635) else ((some ad635) : Option Addr).map (·.add ((x46_2 : Int).toNat * 2))) := ⟨_, rfl⟩
             obtain ⟨c117, hc117⟩ : ∃ c1, c1 = c3 - (x46_2 : Int).toNat := ⟨_, rfl⟩
             have hy117 : y652.length = l3.length - (x46_2 : Int).toNat := (by rw [Ny652.out, List.length_drop] <;> omega)
             rw [show (l3).drop (x46_2 : Int).toNat = y652 from Ny652.out.symm] at hr117
             replace hr117 : Kd.C k54 _ A117 y652.length y652 := (by rw [hA117]; exact hr117)
             rw [← hy117, ← hA117, ← hc117] at hcut117
             have HR655 := Zh hr117
             have HC655 := Zh (show y652.length ≤ c117 from by rw [hy117, hc117]; exact Nat.sub_le_sub_right hroom117 _)
             clear hr117 hC117 hroom117 hi0117 hsz117 hc117
             have KY117 := Zh hy117
             have KA117 := Zh hA117
             clear hy117 hA117
             replace q117 := eq_true q117
             refine start_ (n := 14) (S := fun w' => w'.cell? ⟨gb631, 0, none⟩ = some (.int .i64 t626) ∧ w'.cell? ⟨gb631, 1, none⟩ = some (.int .i64 t627) ∧ w'.cell? ⟨gb631, 2, none⟩ = some (.slice Ao115 x632002_2.length co115) ∧ w'.cell? ⟨gb624, 0, none⟩ = some (.int .i64 a0_0) ∧ w'.cell? ⟨gb624, 1, none⟩ = some (.int .i64 a0_1) ∧ w'.cell? ⟨gb624, 2, none⟩ = some (.slice A0_2 l0_2.length c0_2)) (ds := [13]) #[false, false, false, false, false, false, false, false, false, false, false, false, false, false] (by kernel_rfl) rfl rfl ⟨(blk_cell BK631.out 0).trans rfl, (blk_cell BK631.out 1).trans rfl, (blk_cell BK631.out 2).trans rfl, (blk_cell BK624.out 0).trans rfl, (blk_cell BK624.out 1).trans rfl, (blk_cell BK624.out 2).trans rfl⟩ (fun hHeld => ?_); refine with_tabW impl_AppendTo.tab9 impl_AppendTo.bits9 (fun HT_ HW_ => ?_)
             generalize w113.drew = w114 at HO_632002 BK624 BK625 BK631 BK636 HB HO651 HR655 hHeld ⊢
             refine pure_ (i := 0) (N := some 67) (v := ?_) (a' := ?_) #[true, false, false, false, false, false, false, false, false, false, false, false, false, false] rfl rfl (any_of HT_.out (by kernel_rfl)) (fun _ _ _ h => h) (Or.inl ⟨by rfl, ?_⟩) ?_ ?_
             rotate_left
             ·
              intro w'
              go_simp
              with_reducible rfl
             rotate_left
             ·
              simp only [Act.put, List.setIfInBounds_toArray, List.set_cons_zero, List.set_cons_succ, i64_w, i32_w]
              rfl
             refine pure_ (i := 2) (N := some 69) (v := ?_) (a' := ?_) #[true, false, true, false, false, false, false, false, false, false, false, false, false, false] rfl rfl (any_of HT_.out (by kernel_rfl)) (fun _ _ _ h => h) (Or.inl ⟨by rfl, ?_⟩) ?_ ?_
             rotate_left
             ·
              intro w'
              go_simp
              with_reducible rfl
             rotate_left
             ·
              simp only [Act.put, List.setIfInBounds_toArray, List.set_cons_zero, List.set_cons_succ, i64_w, i32_w]
              rfl
             refine pure_ (i := 3) (N := some 70) (v := ?_) (a' := ?_) #[true, false, true, true, false, false, false, false, false, false, false, false, false, false] rfl rfl (any_of HT_.out (by kernel_rfl)) (fun _ _ _ h => h) (Or.inl ⟨by rfl, ?_⟩) ?_ ?_
             rotate_left
             ·
              intro w'
              go_simp
              with_reducible rfl
             rotate_left
             ·
              simp only [Act.put, List.setIfInBounds_toArray, List.set_cons_zero, List.set_cons_succ, i64_w, i32_w]
              rfl
             refine pure_ (i := 8) (N := some 75) (v := ?_) (a' := ?_) #[true, false, true, true, false, false, false, false, true, false, false, false, false, false] rfl rfl (any_of HT_.out (by kernel_rfl)) (fun _ _ _ h => h) (Or.inl ⟨by rfl, ?_⟩) ?_ ?_
             rotate_left
             ·
              intro w'
              go_simp
              with_reducible rfl
             rotate_left
             ·
              simp only [Act.put, List.setIfInBounds_toArray, List.set_cons_zero, List.set_cons_succ, i64_w, i32_w]
              rfl
             refine pure_ (i := 9) (N := some 76) (v := ?_) (a' := ?_) #[true, false, true, true, false, false, false, false, true, true, false, false, false, false] rfl rfl (any_of HT_.out (by kernel_rfl)) (fun _ _ _ h => h) (Or.inl ⟨by rfl, ?_⟩) ?_ ?_
             rotate_left
             ·
              intro w'
              go_simp
              with_reducible rfl
             rotate_left
             ·
              simp only [Act.put, List.setIfInBounds_toArray, List.set_cons_zero, List.set_cons_succ, i64_w, i32_w]
              rfl
             refine pure_ (i := 10) (N := some 77) (v := ?_) (a' := ?_) #[true, false, true, true, false, false, false, false, true, true, true, false, false, false] rfl rfl (any_of HT_.out (by kernel_rfl)) (fun _ _ _ h => h) (Or.inl ⟨by rfl, ?_⟩) ?_ ?_
             rotate_left
             ·
              intro w'
              go_simp
              with_reducible rfl
             rotate_left
             ·
              simp only [Act.put, List.setIfInBounds_toArray, List.set_cons_zero, List.set_cons_succ, i64_w, i32_w]
              rfl
             refine take_ (i := 1) (N := some 68) (v := ?_) (a' := ?_) #[true, true, true, true, false, false, false, false, true, true, true, false, false, false] rfl rfl (take_ofW HT_.out HW_.out (by kernel_rfl)) (fun _ _ _ h => h) (Or.inl ⟨by rfl, ?_⟩) hHeld ?_ ?_
             rotate_left
             ·
              rintro w' ⟨s0, s1, s2, s3, s4, s5⟩
              go_simp
              with_reducible rfl
             rotate_left
             ·
              simp only [Act.put, List.setIfInBounds_toArray, List.set_cons_zero, List.set_cons_succ, i64_w, i32_w]
              rfl
             refine take_ (i := 4) (N := some 71) (v := ?_) (a' := ?_) #[true, true, true, true, true, false, false, false, true, true, true, false, false, false] rfl rfl (take_ofW HT_.out HW_.out (by kernel_rfl)) (fun _ _ _ h => h) (Or.inl ⟨by rfl, ?_⟩) hHeld ?_ ?_
             rotate_left
             ·
              rintro w' ⟨s0, s1, s2, s3, s4, s5⟩
              go_simp
              with_reducible rfl
             rotate_left
             ·
              simp only [Act.put, List.setIfInBounds_toArray, List.set_cons_zero, List.set_cons_succ, i64_w, i32_w]
              rfl
             refine pure_ (i := 5) (N := some 72) (v := ?_) (a' := ?_) #[true, true, true, true, true, true, false, false, true, true, true, false, false, false] rfl rfl (any_of HT_.out (by kernel_rfl)) (fun _ _ _ h => h) (Or.inl ⟨by rfl, ?_⟩) ?_ ?_
             rotate_left
             ·
              intro w'
              go_simp
              with_reducible rfl
             rotate_left
             ·
              simp only [Act.put, List.setIfInBounds_toArray, List.set_cons_zero, List.set_cons_succ, i64_w, i32_w]
              rfl
             refine pure_ (i := 6) (N := some 73) (v := ?_) (a' := ?_) #[true, true, true, true, true, true, true, false, true, true, true, false, false, false] rfl rfl (any_of HT_.out (by kernel_rfl)) (fun _ _ _ h => h) (Or.inl ⟨by rfl, ?_⟩) ?_ ?_
             rotate_left
             ·
              intro w'
              go_simp
              with_reducible rfl
             rotate_left
             ·
              simp only [Act.put, List.setIfInBounds_toArray, List.set_cons_zero, List.set_cons_succ, i64_w, i32_w]
              rfl
             refine pure_ (i := 7) (N := some 74) (v := ?_) (a' := ?_) #[true, true, true, true, true, true, true, true, true, true, true, false, false, false] rfl rfl (any_of HT_.out (by kernel_rfl)) (fun _ _ _ h => h) (Or.inl ⟨by rfl, ?_⟩) ?_ ?_
             rotate_left
             ·
              intro w'
              go_simp
              with_reducible rfl
             rotate_left
             ·
              simp only [Act.put, List.setIfInBounds_toArray, List.set_cons_zero, List.set_cons_succ, i64_w, i32_w]
              rfl
             refine one_ (i := 11) (N := some 78) #[true, true, true, true, true, true, true, true, true, true, true, true, false, false] rfl rfl (one_of HT_.out (by kernel_rfl)) (by decide) (fun K hK => ?_)
             refine R_append_rows_step k54 (w0 := w) w.heap.size (by rfl) (.tmp 74) (.tmp 77) 27 54 (.agg #[(.int .i64 0), (.string ⟨#[]⟩)]) 24 rfl Try.underlying27 info54 rfl (by decide) (by omega) (.slice Ao115 y649.length co115) y649 y652 _ _ _ (fun k_ => k_ ≠ gb636) (fun _ => False) rfl rfl ?aO ?aR (fun _ _ h => h) (fun _ h => h.elim) ?aF ?aB ?aS ?aL ?_
             (case aR => repeat (first | exact (C_below HR655.out HB.out) | (with_reducible refine C_alloc ?_ _) | (with_reducible refine C_drewN ?_ _) | (with_reducible refine C_drew ?_)))
             (case aB => exact Zs)
             (case aF => exact (fun k_ hk => Kd.freshB (g := gb636) (o := .cells #[.int .i64 ((rd_T54 l3 x46_2).f0), .string ((rd_T54 l3 x46_2).f1)] 54 (0, 0)) Zk k_ hk))
             (case aO => exact (by (with_reducible repeat (first | apply R_alloc | apply R_drewN | apply R_drew)); exact HO651.out))
             (case aS => exact (below_size Zs))
             (case aL => have := LMc105.out; omega)
             intro v657 w118 ho hb hg hat
             rw [← Ny656.out] at ho
             have n0_ := Zh (blk_grown (g := gb624) (o := .cells #[.int .i64 a0_0, .int .i64 a0_1, .slice A0_2 l0_2.length c0_2] 29 (0, 0)) Zk hg (R_ne HO651.out BK624.out (by decide)))
             have n1_ := Zh (blk_grown (g := gb625) (o := .cells #[.int .i64 0, .int .i64 0, .slice none 0 0] 29 (0, 0)) Zk hg (R_ne HO651.out BK625.out (by decide)))
             have n2_ := Zh (blk_grown (g := gb631) (o := .cells #[.int .i64 t626, .int .i64 t627, .slice Ao115 x632002_2.length co115] 29 (0, 0)) Zk hg (R_ne HO651.out BK631.out (by decide)))
             have n3_ := Zh (blk_grown (g := gb636) (o := .cells #[.int .i64 ((rd_T54 l3 x46_2).f0), .string ((rd_T54 l3 x46_2).f1)] 54 (0, 0)) Zk hg (R_away HO651.out (fun _ hk => hk)))
             have n4_ := Zh (hb)
             have n5_ := Zh (ho)
             clear BK624
             clear BK625
             clear BK631
             clear BK636
             clear HB
             clear HO651
             have BK624 := n0_
             have BK625 := n1_
             have BK631 := n2_
             have BK636 := n3_
             have HB := n4_
             have HO658 := n5_
             clear n0_ n1_ n2_ n3_ n4_ n5_
             clear ho hb hg hat
             obtain ⟨Ao119, co119, eo119⟩ := R_slice HO658.out
             (first | subst eo119 | (injection eo119 with f1_ f2_ f3_; have f4_ := f1_.symm; have f5_ := f3_.symm; clear f1_ f2_ f3_; subst f4_; subst f5_))
             refine hK.out _ _ ⟨(blk_cell BK631.out 0).trans rfl, (blk_cell BK631.out 1).trans rfl, (blk_cell BK631.out 2).trans rfl, (blk_cell BK624.out 0).trans rfl, (blk_cell BK624.out 1).trans rfl, (blk_cell BK624.out 2).trans rfl⟩ (fun hHeld => ?_)
             clear hK K
             refine norm_ (a' := ?_) ?_ ?_
             rotate_left
             ·
              show Act.put _ (some 78) _ = _
              simp only [Act.put, List.setIfInBounds_toArray, List.set_cons_zero, List.set_cons_succ, i64_w, i32_w]
              rfl
             refine pure_ (i := 12) (N := some 79) (v := ?_) (a' := ?_) #[true, true, true, true, true, true, true, true, true, true, true, true, true, false] rfl rfl (any_of HT_.out (by kernel_rfl)) (fun _ _ _ h => h) (Or.inl ⟨by rfl, ?_⟩) ?_ ?_
             rotate_left
             ·
              intro w'
              go_simp
              with_reducible rfl
             rotate_left
             ·
              simp only [Act.put, List.setIfInBounds_toArray, List.set_cons_zero, List.set_cons_succ, i64_w, i32_w]
              rfl
             refine last_ (i := 13) (N := none) #[true, true, true, true, true, true, true, true, true, true, true, true, true, true] rfl rfl (one_of HT_.out (by kernel_rfl)) (by decide) (fun K hK => ?_)
             have hs120 : w118.cell? ⟨gb631, 2, none⟩ = some (.slice Ao115 x632002_2.length co115) := (blk_cell BK631.out 2).trans rfl
             have hfs120 := Zn BK631.out 2
             have hns120_0 := NB624_631.out
             have hns120_1 := NB625_631.out
             have hns120_3 := NB636_631.out
             have hms120_0 := NB631_624.out
             have hms120_1 := NB631_625.out
             have hms120_3 := NB631_636.out
             refine skip_ (w1 := ?_) (by rfl) rfl ?_ ?_
             rotate_left
             ·
              go_simp
              rfl
             refine hK.out _ _ ?_
             clear hK K
             refine done_ (done_of HT_.out (by kernel_rfl)) ?_
             try go_wp2
             go_meet
             case rel => exact ⟨_, (y656), (.slice Ao119 y656.length co119), H', ⟨by have := HJ5.out; have := HK2.out; first | omega | exact Nat.le_refl _⟩, ⟨by (with_reducible repeat (first | apply R_alloc | apply R_drewN | apply R_drew)); exact R_mono (R_far (p := ⟨gb631, 2, none⟩) (R_types HO658.out BK631.out (by decide)) (fun _ hk => hk.2) (.slice Ao119 y656.length co119)) (fun _ hk => trivial)⟩, ⟨by (with_reducible repeat (first | refine Za ?_ _ | refine Zb ?_ | refine blk_alloc ?_ _)); refine Zp ?_ NB624_631.out _; (with_reducible repeat (first | refine Za ?_ _ | refine Zb ?_ | refine blk_alloc ?_ _)); exact BK624.out⟩, ⟨by (with_reducible repeat (first | refine Za ?_ _ | refine Zb ?_ | refine blk_alloc ?_ _)); refine Zp ?_ NB625_631.out _; (with_reducible repeat (first | refine Za ?_ _ | refine Zb ?_ | refine blk_alloc ?_ _)); exact BK625.out⟩, ⟨by (with_reducible repeat (first | refine Za ?_ _ | refine Zb ?_ | refine blk_alloc ?_ _)); refine blk_put (cs := #[.int .i64 t626, .int .i64 t627, .slice Ao115 x632002_2.length co115]) ?_ 2 _ rfl; (with_reducible repeat (first | refine Za ?_ _ | refine Zb ?_ | refine blk_alloc ?_ _)); exact BK631.out⟩, ⟨by repeat (first | (with_reducible first | exact HB.out | apply Zf | apply Zd | apply Ze | refine Zg ?_ GE624.out | refine Zg ?_ GE625.out | refine Zg ?_ GE631.out | refine Zg ?_ GE636.out) | exact HB.out)⟩⟩
            rw [if_neg c105] at H
            exact absurd H (by simp)
           rw [if_neg c104] at H
           exact absurd H (by simp)
          rw [if_neg c102] at H
          exact absurd H (by simp)
         rw [if_neg c101] at H
         exact absurd H (by simp)
        rw [if_neg c64] at H
        exact absurd H (by simp)
       rw [if_neg c63] at H
       exact absurd H (by simp)
      rw [if_neg c62] at H
      have c62b0 : decide (x46_2 < (l3.length : Int)) = false := decide_eq_false c62
      clear c62
      (first | rw [c62b0] | (simp only [i64_w, i32_w]; rw [c62b0]) | skip)
      have H' := Zh H
      clear H
      go_wp2
      go_meet
      case rel => exact ⟨_, (x632002_2), (u632002), H', ⟨by have := HJ5.out; have := HK2.out; first | omega | exact Nat.le_refl _⟩, ⟨by (with_reducible repeat (first | apply R_alloc | apply R_drewN | apply R_drew)); exact HO_632002.out⟩, ⟨by (with_reducible repeat (first | refine Za ?_ _ | refine Zb ?_ | refine blk_alloc ?_ _)); exact BK624.out⟩, ⟨by (with_reducible repeat (first | refine Za ?_ _ | refine Zb ?_ | refine blk_alloc ?_ _)); exact BK625.out⟩, ⟨by (with_reducible repeat (first | refine Za ?_ _ | refine Zb ?_ | refine blk_alloc ?_ _)); exact BK631.out⟩, ⟨by repeat (first | (with_reducible first | exact HB.out | apply Zf | apply Zd | apply Ze | refine Zg ?_ GE624.out | refine Zg ?_ GE625.out | refine Zg ?_ GE631.out) | exact HB.out)⟩⟩
   case rest =>
    clear HC61
    try clear c1
    try clear q1
    try clear p2
    try clear c3
    try clear c4
    try clear c6
    try clear p6
    try clear q6
    try clear hx6
    try clear c7
    try clear c8
    try clear c9
    try clear q9
    try clear c10
    try clear c11
    try clear q11
    try clear c46
    try clear c62
    try clear c62b0
    try clear c63
    try clear p63
    try clear q63
    try clear hx63
    try clear c64
    try clear p64
    try clear c66
    try clear c66b0
    try clear c79
    try clear c80
    try clear c82
    try clear c83
    try clear c96
    try clear q96
    try clear c101
    try clear c101b0
    try clear c101b1
    try clear c102
    try clear c102b0
    try clear c102b1
    try clear c103
    try clear c103b0
    try clear c104
    try clear c104b0
    try clear c104b1
    try clear c105
    try clear c107
    try clear c108
    try clear c109
    try clear q116
    try clear c117
    try clear q117
    try clear hcz110_0
    try clear hcz110_1
    try clear hfz110_0
    try clear hfz110_1
    try clear hx635_0
    try clear hx635_1
    try clear p635
    try clear q0117
    try clear q116
    try clear q117
    try clear q635
    try clear q96
    obtain ⟨kq, x632002_60, u632002, HA, HJ60, HO_632002, BK624, BK625, BK631, HB⟩ := hcut
    cases kq with
    | zero => exact absurd HA.out (by simp [impl_AppendTo.j2])
    | succ kj60 =>
     have H := HA.out
     clear HA
     simp only [impl_AppendTo.j2] at H
     replace H := Option.bind_eq_some_iff.mp H
     obtain ⟨t659, A1210, H⟩ := H
     replace H : (if t659 = true then (some (t626, t627, x632002_60, true)) else ((impl_copyRLog.f a0_0 a0_1 l0_2).bind fun bt660 => (some (bt660.1, bt660.2.1, bt660.2.2, false)))) = some (r1, r2, r3, r4) := H
     have A121 := Zh A1210
     clear A1210
     by_cases c122 : t659 = true
     ·
      subst c122
      have H1 : (some (t626, t627, x632002_60, true)) = some (r1, r2, r3, r4) := by rw [if_pos rfl] at H; exact H
      clear H
      have H := H1
      clear H1
      simp only [Option.some.injEq, Prod.mk.injEq] at H
      obtain ⟨rfl, rfl, rfl, rfl⟩ := H
      have hnb123 := NB631_624.out
      have hnc123 := NB624_631.out
      have hnb124 := NB631_625.out
      have hnc124 := NB625_631.out
      have hcz125_0 : wc.cell? ⟨gb631, 0, none⟩ = some (.int .i64 t626) := (blk_cell BK631.out 0).trans rfl
      have hcz125_1 : wc.cell? ⟨gb631, 1, none⟩ = some (.int .i64 t627) := (blk_cell BK631.out 1).trans rfl
      have hcz125_2 : wc.cell? ⟨gb631, 2, none⟩ = some (u632002) := (blk_cell BK631.out 2).trans rfl
      have hfz125_0 := Zn BK631.out 0
      have hfz125_1 := Zn BK631.out 1
      have hfz125_2 := Zn BK631.out 2
      obtain ⟨Ao126, co126, eo126⟩ := R_slice HO_632002.out
      subst eo126
      go_wp2_with (first | ((with_reducible refine gate_callee (f := 45) rfl ?_); refine goesL_ (some 82) rfl rfl Try.func45 (by kernel_rfl) rfl #[.agg #[.int .i64 t626, .int .i64 t627, .slice Ao126 x632002_60.length co126]] rfl (by (try simp only [List.map_toArray, List.map_cons, List.map_nil]); first | done | rfl | (simp only [List.length_drop, List.length_take]; rfl)) ?_; (with_reducible refine (impl_isRLog.calls kj60 t626 t627 _ _ x632002_60 true _ ?side1 ?side2 A121.out).mono ?_); (case side1 => repeat (first | exact (R_reads' HO_632002.out).2.2 | (with_reducible refine C_alloc ?_ _) | (with_reducible refine C_drewN ?_ _) | (with_reducible refine C_drew ?_))); (case side2 => exact (R_reads' HO_632002.out).2.1); rintro e w127 ⟨rfl, hb⟩; refine ⟨_, rfl, ?_⟩; have n0_ := Zh (R_below (by (with_reducible repeat (first | apply R_alloc | apply R_drewN | apply R_drew)); exact HO_632002.out) hb); have n1_ := Zh (Zm (g := gb624) (o := .cells #[.int .i64 a0_0, .int .i64 a0_1, .slice A0_2 l0_2.length c0_2] 29 (0, 0)) Zk hb); have n2_ := Zh (Zm (g := gb625) (o := .cells #[.int .i64 0, .int .i64 0, .slice none 0 0] 29 (0, 0)) Zk hb); have n3_ := Zh (Zm (g := gb631) (o := .cells #[.int .i64 t626, .int .i64 t627, .slice Ao126 x632002_60.length co126] 29 (0, 0)) Zk hb); have n4_ := Zh (Zl Zs hb); clear HO_632002; clear BK624; clear BK625; clear BK631; clear HB; have HO_632002 := n0_; have BK624 := n1_; have BK625 := n2_; have BK631 := n3_; have HB := n4_; clear n0_ n1_ n2_ n3_ n4_; (try clear hb); (try clear hb2); (try clear hk); (try clear hi); have hcz128_0 : w127.cell? ⟨gb631, 0, none⟩ = some (.int .i64 t626) := (blk_cell BK631.out 0).trans rfl; have hcz128_1 : w127.cell? ⟨gb631, 1, none⟩ = some (.int .i64 t627) := (blk_cell BK631.out 1).trans rfl; have hcz128_2 : w127.cell? ⟨gb631, 2, none⟩ = some (.slice Ao126 x632002_60.length co126) := (blk_cell BK631.out 2).trans rfl; have hfz128_0 := Zn BK631.out 0; have hfz128_1 := Zn BK631.out 1; have hfz128_2 := Zn BK631.out 2; have hnb129 := NB625_624.out; have hnc129 := NB624_625.out; have hcz130_0 : w127.cell? ⟨gb625, 0, none⟩ = some (.int .i64 0) := (blk_cell BK625.out 0).trans rfl; have hcz130_1 : w127.cell? ⟨gb625, 1, none⟩ = some (.int .i64 0) := (blk_cell BK625.out 1).trans rfl; have hcz130_2 : w127.cell? ⟨gb625, 2, none⟩ = some (.slice none 0 0) := (blk_cell BK625.out 2).trans rfl; have hfz130_0 := Zn BK625.out 0; have hfz130_1 := Zn BK625.out 1; have hfz130_2 := Zn BK625.out 2))
      refine bodyPost_ret (results_ct rfl _ _ gb625 29 #[.int .i64 t626, .int .i64 t627, .slice Ao126 x632002_60.length co126] (0, 0) _ rfl (by (with_reducible repeat (first | refine Za ?_ _ | refine Zb ?_ | refine blk_alloc ?_ _)); refine blk_put (cs := #[.int .i64 t626, .int .i64 t627, .slice none 0 0]) ?_ 2 _ rfl; (with_reducible repeat (first | refine Za ?_ _ | refine Zb ?_ | refine blk_alloc ?_ _)); refine blk_put (cs := #[.int .i64 t626, .int .i64 0, .slice none 0 0]) ?_ 1 _ rfl; (with_reducible repeat (first | refine Za ?_ _ | refine Zb ?_ | refine blk_alloc ?_ _)); refine blk_put (cs := #[.int .i64 0, .int .i64 0, .slice none 0 0]) ?_ 0 _ rfl; (with_reducible repeat (first | refine Za ?_ _ | refine Zb ?_ | refine blk_alloc ?_ _)); exact BK625.out) Try.underlying29 rfl (by kernel_rfl)) rfl ?_
      exact ⟨_, by first | rfl | (simp [errW_none, errW_some] <;> rfl) | (simp [*, errW_none, errW_some] <;> rfl), by (with_reducible repeat (first | apply R_alloc | apply R_drewN | apply R_drew)); exact R_mono (R_far (p := ⟨gb625, 2, none⟩) (R_far (p := ⟨gb625, 1, none⟩) (R_far (p := ⟨gb625, 0, none⟩) (R_types HO_632002.out BK625.out (by decide)) (fun _ hk => hk.2) (.int .i64 t626)) (fun _ hk => hk.2) (.int .i64 t627)) (fun _ hk => hk.2) (.slice Ao126 x632002_60.length co126)) (fun _ hk => trivial), by repeat (first | (with_reducible first | exact HB.out | apply Zf | apply Zd | apply Ze | refine Zg ?_ GE624.out | refine Zg ?_ GE625.out | refine Zg ?_ GE631.out) | exact HB.out)⟩
     replace c122 := Bool.eq_false_iff.mpr c122
     subst c122
     have H1 : ((impl_copyRLog.f a0_0 a0_1 l0_2).bind fun bt660 => (some (bt660.1, bt660.2.1, bt660.2.2, false))) = some (r1, r2, r3, r4) := by rw [if_neg (show ¬ (false = true) by decide)] at H; exact H
     clear H
     have H := H1
     clear H1
     replace H := Option.bind_eq_some_iff.mp H
     obtain ⟨⟨t660, t661, t662⟩, A1310, H⟩ := H
     replace H : (some (t660, t661, t662, false)) = some (r1, r2, r3, r4) := H
     have A131 := Zh A1310
     clear A1310
     simp only [Option.some.injEq, Prod.mk.injEq] at H
     obtain ⟨rfl, rfl, rfl, rfl⟩ := H
     have hnb132 := NB631_624.out
     have hnc132 := NB624_631.out
     have hnb133 := NB631_625.out
     have hnc133 := NB625_631.out
     have hcz134_0 : wc.cell? ⟨gb631, 0, none⟩ = some (.int .i64 t626) := (blk_cell BK631.out 0).trans rfl
     have hcz134_1 : wc.cell? ⟨gb631, 1, none⟩ = some (.int .i64 t627) := (blk_cell BK631.out 1).trans rfl
     have hcz134_2 : wc.cell? ⟨gb631, 2, none⟩ = some (u632002) := (blk_cell BK631.out 2).trans rfl
     have hfz134_0 := Zn BK631.out 0
     have hfz134_1 := Zn BK631.out 1
     have hfz134_2 := Zn BK631.out 2
     obtain ⟨Ao135, co135, eo135⟩ := R_slice HO_632002.out
     subst eo135
     go_wp2_with (first | ((with_reducible refine gate_callee (f := 45) rfl ?_); refine goesL_ (some 82) rfl rfl Try.func45 (by kernel_rfl) rfl #[.agg #[.int .i64 t626, .int .i64 t627, .slice Ao135 x632002_60.length co135]] rfl (by (try simp only [List.map_toArray, List.map_cons, List.map_nil]); first | done | rfl | (simp only [List.length_drop, List.length_take]; rfl)) ?_; (with_reducible refine (impl_isRLog.calls kj60 t626 t627 _ _ x632002_60 false _ ?side1 ?side2 A121.out).mono ?_); (case side1 => repeat (first | exact (R_reads' HO_632002.out).2.2 | (with_reducible refine C_alloc ?_ _) | (with_reducible refine C_drewN ?_ _) | (with_reducible refine C_drew ?_))); (case side2 => exact (R_reads' HO_632002.out).2.1); rintro e w136 ⟨rfl, hb⟩; refine ⟨_, rfl, ?_⟩; have n0_ := Zh (R_below (by (with_reducible repeat (first | apply R_alloc | apply R_drewN | apply R_drew)); exact HO_632002.out) hb); have n1_ := Zh (Zm (g := gb624) (o := .cells #[.int .i64 a0_0, .int .i64 a0_1, .slice A0_2 l0_2.length c0_2] 29 (0, 0)) Zk hb); have n2_ := Zh (Zm (g := gb625) (o := .cells #[.int .i64 0, .int .i64 0, .slice none 0 0] 29 (0, 0)) Zk hb); have n3_ := Zh (Zm (g := gb631) (o := .cells #[.int .i64 t626, .int .i64 t627, .slice Ao135 x632002_60.length co135] 29 (0, 0)) Zk hb); have n4_ := Zh (Zl Zs hb); clear HO_632002; clear BK624; clear BK625; clear BK631; clear HB; have HO_632002 := n0_; have BK624 := n1_; have BK625 := n2_; have BK631 := n3_; have HB := n4_; clear n0_ n1_ n2_ n3_ n4_; (try clear hb); (try clear hb2); (try clear hk); (try clear hi); have hnb137 := NB624_625.out; have hnc137 := NB625_624.out; have hcz138_0 : w136.cell? ⟨gb624, 0, none⟩ = some (.int .i64 a0_0) := (blk_cell BK624.out 0).trans rfl; have hcz138_1 : w136.cell? ⟨gb624, 1, none⟩ = some (.int .i64 a0_1) := (blk_cell BK624.out 1).trans rfl; have hcz138_2 : w136.cell? ⟨gb624, 2, none⟩ = some (.slice A0_2 l0_2.length c0_2) := (blk_cell BK624.out 2).trans rfl; have hfz138_0 := Zn BK624.out 0; have hfz138_1 := Zn BK624.out 1; have hfz138_2 := Zn BK624.out 2) | ((with_reducible refine gate_callee (f := 52) rfl ?_); refine goesL_ (some 85) rfl rfl Try.func52 (by kernel_rfl) rfl #[.agg #[.int .i64 a0_0, .int .i64 a0_1, .slice A0_2 l0_2.length c0_2]] rfl (by (try simp only [List.map_toArray, List.map_cons, List.map_nil]); first | done | rfl | (simp only [List.length_drop, List.length_take]; rfl)) ?_; (with_reducible refine (impl_copyRLog.calls a0_0 a0_1 _ _ l0_2 t660 t661 t662 _ ?side1 ?side2 A131.out).mono ?_); (case side1 => repeat (first | exact (C_below HR0_2.out HB.out) | (with_reducible refine C_alloc ?_ _) | (with_reducible refine C_drewN ?_ _) | (with_reducible refine C_drew ?_))); (case side2 => exact HC0_2.out); rintro e w139 ⟨v663, rfl, ho0, hb⟩; refine ⟨_, rfl, ?_⟩; have n0_ := Zh (R_elder' (by (with_reducible repeat (first | apply R_alloc | apply R_drewN | apply R_drew)); exact HO_632002.out) (R_base ho0) hb); have n1_ := Zh (R_lower (R_new' ho0 (R_lt (by (with_reducible repeat (first | apply R_alloc | apply R_drewN | apply R_drew)); exact HO_632002.out))) (below_size Zs)); have n2_ := Zh (Zm (g := gb624) (o := .cells #[.int .i64 a0_0, .int .i64 a0_1, .slice A0_2 l0_2.length c0_2] 29 (0, 0)) Zk hb); have n3_ := Zh (Zm (g := gb625) (o := .cells #[.int .i64 0, .int .i64 0, .slice none 0 0] 29 (0, 0)) Zk hb); have n4_ := Zh (Zm (g := gb631) (o := .cells #[.int .i64 t626, .int .i64 t627, .slice Ao135 x632002_60.length co135] 29 (0, 0)) Zk hb); have n5_ := Zh (Zl Zs hb); clear HO_632002; clear BK624; clear BK625; clear BK631; clear HB; have HO_632002 := n0_; have HO664 := n1_; have BK624 := n2_; have BK625 := n3_; have BK631 := n4_; have HB := n5_; clear n0_ n1_ n2_ n3_ n4_ n5_; (try clear hb); (try clear hb2); (try clear hk); (try clear hi); (try clear ho0); have hcz140_0 : w139.cell? ⟨gb625, 0, none⟩ = some (.int .i64 0) := (blk_cell BK625.out 0).trans rfl; have hcz140_1 : w139.cell? ⟨gb625, 1, none⟩ = some (.int .i64 0) := (blk_cell BK625.out 1).trans rfl; have hcz140_2 : w139.cell? ⟨gb625, 2, none⟩ = some (.slice none 0 0) := (blk_cell BK625.out 2).trans rfl; have hfz140_0 := Zn BK625.out 0; have hfz140_1 := Zn BK625.out 1; have hfz140_2 := Zn BK625.out 2; obtain ⟨Ao141, co141, eo141⟩ := R_slice HO664.out; subst eo141))
     refine bodyPost_ret (results_ct rfl _ _ gb625 29 #[.int .i64 t660, .int .i64 t661, .slice Ao141 t662.length co141] (0, 0) _ rfl (by (with_reducible repeat (first | refine Za ?_ _ | refine Zb ?_ | refine blk_alloc ?_ _)); refine blk_put (cs := #[.int .i64 t660, .int .i64 t661, .slice none 0 0]) ?_ 2 _ rfl; (with_reducible repeat (first | refine Za ?_ _ | refine Zb ?_ | refine blk_alloc ?_ _)); refine blk_put (cs := #[.int .i64 t660, .int .i64 0, .slice none 0 0]) ?_ 1 _ rfl; (with_reducible repeat (first | refine Za ?_ _ | refine Zb ?_ | refine blk_alloc ?_ _)); refine blk_put (cs := #[.int .i64 0, .int .i64 0, .slice none 0 0]) ?_ 0 _ rfl; (with_reducible repeat (first | refine Za ?_ _ | refine Zb ?_ | refine blk_alloc ?_ _)); exact BK625.out) Try.underlying29 rfl (by kernel_rfl)) rfl ?_
     exact ⟨_, by first | rfl | (simp [errW_none, errW_some] <;> rfl) | (simp [*, errW_none, errW_some] <;> rfl), by (with_reducible repeat (first | apply R_alloc | apply R_drewN | apply R_drew)); exact R_mono (R_far (p := ⟨gb625, 2, none⟩) (R_far (p := ⟨gb625, 1, none⟩) (R_far (p := ⟨gb625, 0, none⟩) (R_types HO664.out BK625.out (by decide)) (fun _ hk => hk.2) (.int .i64 t660)) (fun _ hk => hk.2) (.int .i64 t661)) (fun _ hk => hk.2) (.slice Ao141 t662.length co141)) (fun _ hk => trivial), by repeat (first | (with_reducible first | exact HB.out | apply Zf | apply Zd | apply Ze | refine Zg ?_ GE624.out | refine Zg ?_ GE625.out | refine Zg ?_ GE631.out) | exact HB.out)⟩
def laws_big.f (l0 : List Int) : Option (Bool) := some (decide ((l0.length : Int) > 1048576))
set_option maxHeartbeats 8000000 in
set_option maxRecDepth 100000 in
theorem laws_big.calls (A0 : Option Addr) (c0 : Nat) (l0 : List Int) (r : Bool) (w : World) (hr0 : Kd.C (Kd.int .u8) w A0 l0.length l0) (hc0 : l0.length ≤ c0) (h : laws_big.f l0 = some r) :
  Calls Try.prog 39 #[.slice A0 l0.length c0] w fun e w' => e = .returned (.bool r) ∧ Drawn0 w w' := by
 have HR0 := Zh hr0
 have HC0 := Zh hc0
 clear hr0 hc0
 have H : (some (decide ((l0.length : Int) > 1048576))) = some r := h
 clear h
 obtain rfl := Option.some.inj H
 go_enter Try.func39, Try.ntmps39
 go_wp2
 go_ret
 exact ⟨by first | rfl | (simp; done) | (simp [*]; done), by repeat (first | exact Drawn0.refl _ | apply Drawn0.step)⟩
def IsS72 (w0 W : World) (g : Nat) (f0 : List Int) (f1 : Int) (f2 : Int) : Prop := ∃ A0 c0, W.heap[g]? = some (.cells #[.slice A0 f0.length c0, .int .i64 f1, .int .i64 f2] 72 (0, 0)) ∧ w0.heap.size ≤ g ∧ Kd.C (Kd.int .u8) w0 A0 f0.length f0
theorem IsS72.grown {w0 W : World} {g : Nat} {f0 : List Int} {f1 : Int} {f2 : Int} {W1 : World} {row : Option Nat} (h : IsS72 w0 W g f0 f1 f2) (hw : W.grownBy W1 row) (hne : some g ≠ row) : IsS72 w0 W1 g f0 f1 f2 := by
 obtain ⟨A0, c0, hb, hg, hr0⟩ := h
 exact ⟨A0, c0, blk_grown hb hw hne, hg, hr0⟩
theorem IsS72.kept {w0 W : World} {g : Nat} {f0 : List Int} {f1 : Int} {f2 : Int} {W1 : World} {S : Nat → Prop} (h : IsS72 w0 W g f0 f1 f2) (hk : Kept W W1 S) (hne : ¬ S g) : IsS72 w0 W1 g f0 f1 f2 := by
 obtain ⟨A0, c0, hb, hg, hr0⟩ := h
 exact ⟨A0, c0, blk_kept hb hk hne, hg, hr0⟩
theorem IsS72.below {w0 W : World} {g : Nat} {f0 : List Int} {f1 : Int} {f2 : Int} {W1 : World} (h : IsS72 w0 W g f0 f1 f2) (hw : Below W.heap.size W W1) : IsS72 w0 W1 g f0 f1 f2 := h.grown (grown_of_below hw none) (by simp)
theorem IsS72.alloc {w0 W : World} {g : Nat} {f0 : List Int} {f1 : Int} {f2 : Int} (h : IsS72 w0 W g f0 f1 f2) (o : Obj) : IsS72 w0 (W.alloc o) g f0 f1 f2 := h.below (Zf (Below.refl _ _) o)
theorem IsS72.drewN {w0 W : World} {g : Nat} {f0 : List Int} {f1 : Int} {f2 : Int} (h : IsS72 w0 W g f0 f1 f2) (m : Nat) : IsS72 w0 (W.drewN m) g f0 f1 f2 := h
theorem IsS72.drew {w0 W : World} {g : Nat} {f0 : List Int} {f1 : Int} {f2 : Int} (h : IsS72 w0 W g f0 f1 f2) : IsS72 w0 W.drew g f0 f1 f2 := h
theorem IsS72.at_ {w0 W : World} {g : Nat} {f0 : List Int} {f1 : Int} {f2 : Int} {w' : World} {m : Nat} (hq : W.drewN m = w') (h : IsS72 w0 W g f0 f1 f2) : IsS72 w0 w' g f0 f1 f2 := by subst hq; exact IsS72.drewN h m
theorem IsS72.apart {w0 W : World} {g : Nat} {f0 : List Int} {f1 : Int} {f2 : Int} {α : Type} {d : Kd α} {e : Nat} {base : Nat} {ok : Nat → Prop} {v : Value} {xs : List α} (h : IsS72 w0 W g f0 f1 f2) (ho : d.R e W base ok v xs) (ht : ∀ q, q ∈ e :: d.E → q ≠ 72) : d.R e W base (fun k => ok k ∧ k ≠ g) v xs := by
 obtain ⟨A0, c0, hb, hg, hr0⟩ := h
 exact R_types ho hb ht
theorem IsS72.own_ne {w0 W : World} {g : Nat} {f0 : List Int} {f1 : Int} {f2 : Int} {α : Type} {d : Kd α} {e : Nat} {base : Nat} {ok : Nat → Prop} {v : Value} {xs : List α} (h : IsS72 w0 W g f0 f1 f2) (ho : d.R e W base ok v xs) (ht : e ≠ 72) : some g ≠ v.ownBlock := by
 obtain ⟨A0, c0, hb, hg, hr0⟩ := h
 exact R_ne ho hb ht
theorem IsS72.lt {w0 W : World} {g : Nat} {f0 : List Int} {f1 : Int} {f2 : Int} (h : IsS72 w0 W g f0 f1 f2) : g < W.heap.size := by
 obtain ⟨A0, c0, hb, hg, hr0⟩ := h
 exact blk_lt hb
theorem IsS72.ge {w0 W : World} {g : Nat} {f0 : List Int} {f1 : Int} {f2 : Int} (h : IsS72 w0 W g f0 f1 f2) : w0.heap.size ≤ g := by
 obtain ⟨A0, c0, hb, hg, hr0⟩ := h
 exact hg
theorem IsS72.ne_blk {w0 W : World} {g : Nat} {f0 : List Int} {f1 : Int} {f2 : Int} {a : Nat} {cs : Array Value} {t : TypeId} {fr : Nat × Nat} (h : IsS72 w0 W g f0 f1 f2) (hb2 : W.heap[a]? = some (.cells cs t fr)) (ht : t ≠ 72) : g ≠ a := by
 obtain ⟨A0, c0, hb, hg, hr0⟩ := h
 rintro rfl
 rw [hb] at hb2
 injection hb2 with hb2
 injection hb2 with _ ht2
 exact ht ht2.symm
theorem IsS72.far {w0 W : World} {g : Nat} {f0 : List Int} {f1 : Int} {f2 : Int} {p : Addr} (h : IsS72 w0 W g f0 f1 f2) (hne : g ≠ p.block) (u : Value) : IsS72 w0 (W.setCell p u) g f0 f1 f2 := by
 obtain ⟨A0, c0, hb, hg, hr0⟩ := h
 exact ⟨A0, c0, Zp hb hne u, hg, hr0⟩
theorem cellS72_0 {W : World} {g : Nat} {A0 : Option Addr} {c0 : Nat} {f0 : List Int} {f1 : Int} {f2 : Int} (h : W.heap[g]? = some (.cells #[.slice A0 f0.length c0, .int .i64 f1, .int .i64 f2] 72 (0, 0))) : W.cell? ⟨g, 0, none⟩ = some (.slice A0 f0.length c0) := (blk_cell h 0).trans rfl
theorem cellS72_1 {W : World} {g : Nat} {A0 : Option Addr} {c0 : Nat} {f0 : List Int} {f1 : Int} {f2 : Int} (h : W.heap[g]? = some (.cells #[.slice A0 f0.length c0, .int .i64 f1, .int .i64 f2] 72 (0, 0))) : W.cell? ⟨g, 1, none⟩ = some (.int .i64 f1) := (blk_cell h 1).trans rfl
theorem IsS72.set_1 {w0 W : World} {g : Nat} {f0 : List Int} {f1 : Int} {f2 : Int} (h : IsS72 w0 W g f0 f1 f2) (x : Int) : IsS72 w0 (W.setCell ⟨g, 1, none⟩ (.int .i64 x)) g f0 x f2 := by
 obtain ⟨A0, c0, hb, hg, hr0⟩ := h
 exact ⟨A0, c0, by simpa using blk_set hb 1 (.int .i64 x), hg, hr0⟩
theorem cellS72_2 {W : World} {g : Nat} {A0 : Option Addr} {c0 : Nat} {f0 : List Int} {f1 : Int} {f2 : Int} (h : W.heap[g]? = some (.cells #[.slice A0 f0.length c0, .int .i64 f1, .int .i64 f2] 72 (0, 0))) : W.cell? ⟨g, 2, none⟩ = some (.int .i64 f2) := (blk_cell h 2).trans rfl
theorem IsS72.set_2 {w0 W : World} {g : Nat} {f0 : List Int} {f1 : Int} {f2 : Int} (h : IsS72 w0 W g f0 f1 f2) (x : Int) : IsS72 w0 (W.setCell ⟨g, 2, none⟩ (.int .i64 x)) g f0 f1 x := by
 obtain ⟨A0, c0, hb, hg, hr0⟩ := h
 exact ⟨A0, c0, by simpa using blk_set hb 2 (.int .i64 x), hg, hr0⟩
def spec_l01New.l0 : Nat → List Int → Int → Int → Option (List Int × Int × Int)
 | 0, _, _, _ => none
 | k + 1, x0, x3, x4 => if x4 < (x0.length : Int) then (if x4 < 4000 then (if 0 ≤ x4 then (spec_l01New.l0 k x0 (Go.bits .and .i64 (wrap64 ((wrap64 ((wrap64 (x3 * 149)) + (wrap64 (rd x0 x4)))) + 11)) 1073741823) (wrap64 (x4 + 1))) else (none)) else (some (x0, 0, x3))) else (some (x0, 0, x3))
def spec_l01New.f (k : Nat) (l0 : List Int) : Option (List Int × Int × Int) := spec_l01New.l0 k l0 (wrap64 (138138 + (l0.length : Int))) 0
set_option maxHeartbeats 8000000 in
set_option maxRecDepth 100000 in
theorem spec_l01New.calls (k : Nat) (A0 : Option Addr) (c0 : Nat) (l0 : List Int) (r1 : List Int) (r2 : Int) (r3 : Int) (w0 w : World) (hB : Below w0.heap.size w0 w) (hr0 : Kd.C (Kd.int .u8) w0 A0 l0.length l0) (hc0 : l0.length ≤ c0) (h : spec_l01New.f k l0 = some (r1, r2, r3)) :
  Calls Try.prog 55 #[.slice A0 l0.length c0] w fun e w' => ∃ g_ : Nat, e = .returned (.pointer (some ⟨g_, 0, none⟩)) ∧ IsS72 w0 w' g_ r1 r2 r3 ∧ Below w0.heap.size w0 w' ∧ Below w.heap.size w w' := by
 have hu72 := Try.underlying72
 have HR0 := Zh hr0
 have HC0 := Zh hc0
 clear hr0 hc0
 have HBW := Zh (Below.refl w.heap.size w)
 have HW0 := Zh hB.size
 have HB := Zh hB
 clear hB
 have H : (spec_l01New.l0 k l0 (wrap64 (138138 + (l0.length : Int))) 0) = some (r1, r2, r3) := h
 clear h
 have H' := Zh H
 clear H
 go_enter Try.func55, Try.ntmps55
 go_wp2
 go_loopg [3, 4] k (fun kq v3 v4 w' => ∃ (x3_1 : Int) (x4_1 : Int), v3 = .int .i64 x3_1 ∧ v4 = .int .i64 x4_1 ∧ Aside0 (spec_l01New.l0 kq l0 x3_1 x4_1 = some (r1, r2, r3)) ∧ Aside0 (kq ≤ k) ∧ Aside0 (Below w.heap.size w w') ∧ Aside0 (Below w0.heap.size w0 w'))
 case atStart => exact ⟨(wrap64 (138138 + (l0.length : Int))), (0), (by first | rfl | (simp; done) | (simp [*]; done)), (by first | rfl | (simp; done) | (simp [*]; done)), H', ⟨Nat.le_refl _⟩, ⟨by repeat (first | (with_reducible first | exact HBW.out | apply Zf | apply Zd | apply Ze) | exact HBW.out)⟩, ⟨by repeat (first | (with_reducible first | exact HB.out | apply Zf | apply Zd | apply Ze) | exact HB.out)⟩⟩
 case round =>
  clear H'
  obtain ⟨x3_1, x4_1, rfl, rfl, HA, HK1, HBW, HB⟩ := hrel
  cases gk with
  | zero => exact absurd HA.out (by simp [spec_l01New.l0])
  | succ k1 =>
   have H := HA.out
   clear HA
   simp only [spec_l01New.l0] at H
   by_cases c2 : x4_1 < (l0.length : Int)
   ·
    rw [if_pos c2] at H
    have c2b0 : decide (x4_1 < (l0.length : Int)) = true := decide_eq_true c2
    clear c2
    by_cases c3 : x4_1 < 4000
    ·
     rw [if_pos c3] at H
     have c3b0 : decide (x4_1 < 4000) = true := decide_eq_true c3
     clear c3
     by_cases c4 : 0 ≤ x4_1
     ·
      rw [if_pos c4] at H
      have c4b0 : decide (0 ≤ x4_1) = true := decide_eq_true c4
      clear c4
      have H' := Zh H
      clear H
      have p814 : 0 ≤ (x4_1 : Int) := Zo
      have q814 : x4_1 < (l0.length : Int) := Zo
      obtain ⟨ad814, e814, hx814_0⟩ := Kd.at_int HR0.out x4_1 p814 q814
      cases e814
      replace hx814_0 := pw_cell_below HB.out hx814_0
      replace p814 := eq_true p814
      replace q814 := eq_true q814
      go_wp2
      go_roundg k1
      case measure => have := HK1.out; omega
      case rel => exact ⟨(Go.bits .and .i64 (wrap64 ((wrap64 ((wrap64 (x3_1 * 149)) + (wrap64 (rd l0 x4_1)))) + 11)) 1073741823), (wrap64 (x4_1 + 1)), (by first | rfl | (simp; done) | (simp [*]; done)), (by first | rfl | (simp; done) | (simp [*]; done)), H', ⟨by have := HK1.out; omega⟩, ⟨by repeat (first | (with_reducible first | exact HBW.out | apply Zf | apply Zd | apply Ze) | exact HBW.out)⟩, ⟨by repeat (first | (with_reducible first | exact HB.out | apply Zf | apply Zd | apply Ze) | exact HB.out)⟩⟩
     rw [if_neg c4] at H
     exact absurd H (by simp)
    rw [if_neg c3] at H
    have c3b0 : decide (x4_1 < 4000) = false := decide_eq_false c3
    clear c3
    simp only [Option.some.injEq, Prod.mk.injEq] at H
    obtain ⟨rfl, rfl, rfl⟩ := H
    go_wp2_with (first | ((with_reducible refine gate_dst (N := 31) rfl ?_); refine box_event ?hg (N := 31) ?hd (cs := #[.slice A0 l0.length c0, .int .i64 0, .int .i64 x3_1]) (t := 72) ?hr ?_; (case hd => rfl); (case hg => rfl); (case hr => first | (go_simp; done) | (go_simp; rfl)); intro gb815 hg w5 hbox hb; have n0_ := Zh (Zl HBW.out hb); have n1_ := Zh (Zl Zs hb); have n2_ := Zh (hbox); have n3_ := Zh ((by rw [hg]; exact (below_size (by repeat (first | (with_reducible first | exact HBW.out | apply Zf | apply Zd | apply Ze) | exact HBW.out))) : w.heap.size ≤ gb815)); have n4_ := Zh ((Nat.le_trans HW0.out (by rw [hg]; exact (below_size (by repeat (first | (with_reducible first | exact HBW.out | apply Zf | apply Zd | apply Ze) | exact HBW.out))) : w.heap.size ≤ gb815) : w0.heap.size ≤ gb815)); clear HBW; clear HB; have HBW := n0_; have HB := n1_; have BK815 := n2_; have GW815 := n3_; have GE815 := n4_; clear n0_ n1_ n2_ n3_ n4_; clear hb hbox hg))
    go_ret
    exact ⟨_, rfl, (show IsS72 w0 _ gb815 l0 0 x3_1 from ⟨_, _, by (with_reducible repeat (first | refine Za ?_ _ | refine Zb ?_ | refine blk_alloc ?_ _)); exact BK815.out, GE815.out, HR0.out⟩), by repeat (first | (with_reducible first | exact HB.out | apply Zf | apply Zd | apply Ze | refine Zg ?_ GE815.out) | exact HB.out), by repeat (first | (with_reducible first | exact HBW.out | apply Zf | apply Zd | apply Ze | refine Zg ?_ GW815.out) | exact HBW.out)⟩
   rw [if_neg c2] at H
   have c2b0 : decide (x4_1 < (l0.length : Int)) = false := decide_eq_false c2
   clear c2
   simp only [Option.some.injEq, Prod.mk.injEq] at H
   obtain ⟨rfl, rfl, rfl⟩ := H
   go_wp2_with (first | ((with_reducible refine gate_dst (N := 31) rfl ?_); refine box_event ?hg (N := 31) ?hd (cs := #[.slice A0 l0.length c0, .int .i64 0, .int .i64 x3_1]) (t := 72) ?hr ?_; (case hd => rfl); (case hg => rfl); (case hr => first | (go_simp; done) | (go_simp; rfl)); intro gb816 hg w6 hbox hb; have n0_ := Zh (Zl HBW.out hb); have n1_ := Zh (Zl Zs hb); have n2_ := Zh (hbox); have n3_ := Zh ((by rw [hg]; exact (below_size (by repeat (first | (with_reducible first | exact HBW.out | apply Zf | apply Zd | apply Ze) | exact HBW.out))) : w.heap.size ≤ gb816)); have n4_ := Zh ((Nat.le_trans HW0.out (by rw [hg]; exact (below_size (by repeat (first | (with_reducible first | exact HBW.out | apply Zf | apply Zd | apply Ze) | exact HBW.out))) : w.heap.size ≤ gb816) : w0.heap.size ≤ gb816)); clear HBW; clear HB; have HBW := n0_; have HB := n1_; have BK816 := n2_; have GW816 := n3_; have GE816 := n4_; clear n0_ n1_ n2_ n3_ n4_; clear hb hbox hg))
   go_ret
   exact ⟨_, rfl, (show IsS72 w0 _ gb816 l0 0 x3_1 from ⟨_, _, by (with_reducible repeat (first | refine Za ?_ _ | refine Zb ?_ | refine blk_alloc ?_ _)); exact BK816.out, GE816.out, HR0.out⟩), by repeat (first | (with_reducible first | exact HB.out | apply Zf | apply Zd | apply Ze | refine Zg ?_ GE816.out) | exact HB.out), by repeat (first | (with_reducible first | exact HBW.out | apply Zf | apply Zd | apply Ze | refine Zg ?_ GW816.out) | exact HBW.out)⟩
def spec_l01Byte.f (s0_0 : List Int) (s0_1 : Int) (s0_2 : Int) : Option (Int × Int × Int) := if s0_1 < (s0_0.length : Int) then (if 0 ≤ s0_1 then (some (Go.bits .and .i64 (wrap64 ((Go.bits .and .i64 (Go.bits .xor .i64 ((wrap64 ((wrap64 (s0_2 * 6364136223846793005)) + 1442695040888963407)) / 8589934592) ((wrap64 ((wrap64 (s0_2 * 6364136223846793005)) + 1442695040888963407)) / 35184372088832)) 255) + (wrap64 (rd s0_0 s0_1)))) 255, wrap64 (s0_1 + 1), wrap64 ((wrap64 (s0_2 * 6364136223846793005)) + 1442695040888963407))) else (none)) else (some (Go.bits .and .i64 (Go.bits .xor .i64 ((wrap64 ((wrap64 (s0_2 * 6364136223846793005)) + 1442695040888963407)) / 8589934592) ((wrap64 ((wrap64 (s0_2 * 6364136223846793005)) + 1442695040888963407)) / 35184372088832)) 255, s0_1, wrap64 ((wrap64 (s0_2 * 6364136223846793005)) + 1442695040888963407)))
set_option maxHeartbeats 8000000 in
set_option maxRecDepth 100000 in
theorem spec_l01Byte.calls (g : Nat) (s0_0 : List Int) (s0_1 : Int) (s0_2 : Int) (r1 : Int) (r2 : Int) (r3 : Int) (w0 w : World) (hI : IsS72 w0 w g s0_0 s0_1 s0_2) (hB : Below w0.heap.size w0 w) (h : spec_l01Byte.f s0_0 s0_1 s0_2 = some (r1, r2, r3)) :
  Calls Try.prog 63 #[.pointer (some ⟨g, 0, none⟩)] w fun e w' => e = .returned (.int .i64 r1) ∧ IsS72 w0 w' g s0_0 r2 r3 ∧ Below w0.heap.size w0 w' ∧ KeepBut w w' g none := by
 have HI0 := Zh hI
 have HK := Zh (KeepBut.refl w g none)
 have HL := Zh hB.size
 clear hI
 have HW0 := Zh hB.size
 have HB := Zh hB
 clear hB
 have H : (if s0_1 < (s0_0.length : Int) then (if 0 ≤ s0_1 then (some (Go.bits .and .i64 (wrap64 ((Go.bits .and .i64 (Go.bits .xor .i64 ((wrap64 ((wrap64 (s0_2 * 6364136223846793005)) + 1442695040888963407)) / 8589934592) ((wrap64 ((wrap64 (s0_2 * 6364136223846793005)) + 1442695040888963407)) / 35184372088832)) 255) + (wrap64 (rd s0_0 s0_1)))) 255, wrap64 (s0_1 + 1), wrap64 ((wrap64 (s0_2 * 6364136223846793005)) + 1442695040888963407))) else (none)) else (some (Go.bits .and .i64 (Go.bits .xor .i64 ((wrap64 ((wrap64 (s0_2 * 6364136223846793005)) + 1442695040888963407)) / 8589934592) ((wrap64 ((wrap64 (s0_2 * 6364136223846793005)) + 1442695040888963407)) / 35184372088832)) 255, s0_1, wrap64 ((wrap64 (s0_2 * 6364136223846793005)) + 1442695040888963407)))) = some (r1, r2, r3) := h
 clear h
 by_cases c2 : s0_1 < (s0_0.length : Int)
 ·
  rw [if_pos c2] at H
  have c2b0 : decide (s0_1 < (s0_0.length : Int)) = true := decide_eq_true c2
  clear c2
  by_cases c3 : 0 ≤ s0_1
  ·
   rw [if_pos c3] at H
   have c3b0 : decide (0 ≤ s0_1) = true := decide_eq_true c3
   clear c3
   simp only [Option.some.injEq, Prod.mk.injEq] at H
   obtain ⟨rfl, rfl, rfl⟩ := H
   obtain ⟨ASz4_0, cSz4_0, HGz4, hgz4, HSz4_0⟩ := HI0.out
   have hcz4_0 := cellS72_0 HGz4
   have hcz4_1 := cellS72_1 HGz4
   have hcz4_2 := cellS72_2 HGz4
   have hfz4_1 := Zn HGz4 1
   have hfz4_2 := Zn HGz4 2
   clear HGz4 hgz4
   have p817 : 0 ≤ (s0_1 : Int) := Zo
   have q817 : s0_1 < (s0_0.length : Int) := Zo
   obtain ⟨ad817, e817, hx817_0⟩ := Kd.at_int HSz4_0 s0_1 p817 q817
   cases e817
   have hn817_0 : ad817.block ≠ g := Nat.ne_of_lt (Nat.lt_of_lt_of_le (by have := Zi _ _ hx817_0; first | rwa [add_block] at this | exact this) (IsS72.ge HI0.out))
   replace hx817_0 := pw_cell_below HB.out hx817_0
   replace hx817_0 := (cell_far (p := ⟨g, 2, none⟩) (by first | (rw [add_block]; exact hn817_0) | (show (Addr.add _ _).block ≠ _; rw [add_block]; exact hn817_0) | exact hn817_0) (.int .i64 (wrap64 ((wrap64 (s0_2 * 6364136223846793005)) + 1442695040888963407)))).trans hx817_0
   (try have hy817_0 := fun (n_ : Nat) => (show (((w.drewN n_).setCell ⟨g, 2, none⟩ (.int .i64 (wrap64 ((wrap64 (s0_2 * 6364136223846793005)) + 1442695040888963407))))).cell? _ = some _ from hx817_0))
   clear hn817_0
   replace p817 := eq_true p817
   replace q817 := eq_true q817
   go_enter Try.func63, Try.ntmps63
   go_wp2
   repeat (go_quiet (fail); try go_wp2)
   go_ret
   exact ⟨by first | rfl | (simp [errW_none, errW_some] <;> rfl) | (simp [*, errW_none, errW_some] <;> rfl), by repeat (first | (with_reducible first | exact HI0.out | apply IsS72.alloc | apply IsS72.drewN | apply IsS72.drew | apply IsS72.set_1 | apply IsS72.set_2) | exact HI0.out), by repeat (first | (with_reducible first | exact HB.out | apply Zf | apply Zd | apply Ze | refine Zg ?_ (IsS72.ge HI0.out)) | exact HB.out), by repeat (first | (with_reducible first | exact HK.out | apply KeepBut.set_ | apply keep_drewN | apply keep_drew | apply keep_alloc) | exact HK.out)⟩
  rw [if_neg c3] at H
  exact absurd H (by simp)
 rw [if_neg c2] at H
 have c2b0 : decide (s0_1 < (s0_0.length : Int)) = false := decide_eq_false c2
 clear c2
 simp only [Option.some.injEq, Prod.mk.injEq] at H
 obtain ⟨rfl, rfl, rfl⟩ := H
 obtain ⟨ASz5_0, cSz5_0, HGz5, hgz5, HSz5_0⟩ := HI0.out
 have hcz5_0 := cellS72_0 HGz5
 have hcz5_1 := cellS72_1 HGz5
 have hcz5_2 := cellS72_2 HGz5
 have hfz5_1 := Zn HGz5 1
 have hfz5_2 := Zn HGz5 2
 clear HGz5 hgz5
 go_enter Try.func63, Try.ntmps63
 go_wp2
 repeat (go_quiet (fail); try go_wp2)
 go_ret
 exact ⟨by first | rfl | (simp [errW_none, errW_some] <;> rfl) | (simp [*, errW_none, errW_some] <;> rfl), by repeat (first | (with_reducible first | exact HI0.out | apply IsS72.alloc | apply IsS72.drewN | apply IsS72.drew | apply IsS72.set_1 | apply IsS72.set_2) | exact HI0.out), by repeat (first | (with_reducible first | exact HB.out | apply Zf | apply Zd | apply Ze | refine Zg ?_ (IsS72.ge HI0.out)) | exact HB.out), by repeat (first | (with_reducible first | exact HK.out | apply KeepBut.set_ | apply keep_drewN | apply keep_drew | apply keep_alloc) | exact HK.out)⟩
def spec_l01Below.f (s0_0 : List Int) (s0_1 : Int) (s0_2 : Int) (a1 : Int) : Option (Int × Int × Int) := if a1 ≤ 0 then (some (0, s0_1, s0_2)) else (if a1 ≤ 256 then ((spec_l01Byte.f s0_0 s0_1 s0_2).bind fun bt818 => (if a1 = 0 then (none) else (some (Int.tmod bt818.1 a1, bt818.2.1, bt818.2.2)))) else ((spec_l01Byte.f s0_0 s0_1 s0_2).bind fun bt821 => ((spec_l01Byte.f s0_0 bt821.2.1 bt821.2.2).bind fun bt824 => ((spec_l01Byte.f s0_0 bt824.2.1 bt824.2.2).bind fun bt827 => (if a1 = 0 then (none) else (some (Int.tmod (wrap64 ((wrap64 ((wrap64 (bt821.1 * 65536)) + (wrap64 (bt824.1 * 256)))) + bt827.1)) a1, bt827.2.1, bt827.2.2)))))))
set_option maxHeartbeats 8000000 in
set_option maxRecDepth 100000 in
theorem spec_l01Below.calls (g : Nat) (s0_0 : List Int) (s0_1 : Int) (s0_2 : Int) (a1 : Int) (r1 : Int) (r2 : Int) (r3 : Int) (w0 w : World) (hI : IsS72 w0 w g s0_0 s0_1 s0_2) (hB : Below w0.heap.size w0 w) (h : spec_l01Below.f s0_0 s0_1 s0_2 a1 = some (r1, r2, r3)) :
  Calls Try.prog 57 #[.pointer (some ⟨g, 0, none⟩), .int .i64 a1] w fun e w' => e = .returned (.int .i64 r1) ∧ IsS72 w0 w' g s0_0 r2 r3 ∧ Below w0.heap.size w0 w' ∧ KeepBut w w' g none := by
 have HI0 := Zh hI
 have HK := Zh (KeepBut.refl w g none)
 have HL := Zh hB.size
 clear hI
 have HW0 := Zh hB.size
 have HB := Zh hB
 clear hB
 have H : (if a1 ≤ 0 then (some (0, s0_1, s0_2)) else (if a1 ≤ 256 then ((spec_l01Byte.f s0_0 s0_1 s0_2).bind fun bt818 => (if a1 = 0 then (none) else (some (Int.tmod bt818.1 a1, bt818.2.1, bt818.2.2)))) else ((spec_l01Byte.f s0_0 s0_1 s0_2).bind fun bt821 => ((spec_l01Byte.f s0_0 bt821.2.1 bt821.2.2).bind fun bt824 => ((spec_l01Byte.f s0_0 bt824.2.1 bt824.2.2).bind fun bt827 => (if a1 = 0 then (none) else (some (Int.tmod (wrap64 ((wrap64 ((wrap64 (bt821.1 * 65536)) + (wrap64 (bt824.1 * 256)))) + bt827.1)) a1, bt827.2.1, bt827.2.2)))))))) = some (r1, r2, r3) := h
 clear h
 by_cases c3 : a1 ≤ 0
 ·
  rw [if_pos c3] at H
  have c3b0 : decide (a1 ≤ 0) = true := decide_eq_true c3
  clear c3
  simp only [Option.some.injEq, Prod.mk.injEq] at H
  obtain ⟨rfl, rfl, rfl⟩ := H
  go_enter Try.func57, Try.ntmps57
  go_wp2
  go_ret
  exact ⟨by first | rfl | (simp [errW_none, errW_some] <;> rfl) | (simp [*, errW_none, errW_some] <;> rfl), by repeat (first | (with_reducible first | exact HI0.out | apply IsS72.alloc | apply IsS72.drewN | apply IsS72.drew | apply IsS72.set_1 | apply IsS72.set_2) | exact HI0.out), by repeat (first | (with_reducible first | exact HB.out | apply Zf | apply Zd | apply Ze | refine Zg ?_ (IsS72.ge HI0.out)) | exact HB.out), by repeat (first | (with_reducible first | exact HK.out | apply KeepBut.set_ | apply keep_drewN | apply keep_drew | apply keep_alloc) | exact HK.out)⟩
 rw [if_neg c3] at H
 have c3b0 : decide (a1 ≤ 0) = false := decide_eq_false c3
 clear c3
 by_cases c4 : a1 ≤ 256
 ·
  rw [if_pos c4] at H
  have c4b0 : decide (a1 ≤ 256) = true := decide_eq_true c4
  clear c4
  replace H := Option.bind_eq_some_iff.mp H
  obtain ⟨⟨t818, t819, t820⟩, A50, H⟩ := H
  replace H : (if a1 = 0 then (none) else (some (Int.tmod t818 a1, t819, t820))) = some (r1, r2, r3) := H
  have A5 := Zh A50
  clear A50
  by_cases c6 : a1 = 0
  ·
   rw [if_pos c6] at H
   exact absurd H (by simp)
  rw [if_neg c6] at H
  have c6b0 : (a1 == 0) = false := beq_eq_false_iff_ne.mpr c6
  have c6b1 : (a1 != 0) = true := bne_iff_ne.mpr c6
  simp only [Option.some.injEq, Prod.mk.injEq] at H
  obtain ⟨rfl, rfl, rfl⟩ := H
  go_enter Try.func57, Try.ntmps57
  go_wp2_with (first | ((with_reducible refine gate_callee (f := 63) rfl ?_); refine goesL_ (some 13) rfl rfl Try.func63 (by kernel_rfl) rfl #[.pointer (some ⟨g, 0, none⟩)] rfl (by (try simp only [List.map_toArray, List.map_cons, List.map_nil]); first | done | rfl | (simp only [List.length_drop, List.length_take]; rfl)) ?_; (with_reducible refine (spec_l01Byte.calls g s0_0 s0_1 s0_2 t818 t819 t820 w0 _ ?side1 ?side2 A5.out).mono ?_); (case side1 => repeat (first | (with_reducible first | exact HI0.out | apply IsS72.alloc | apply IsS72.drewN | apply IsS72.drew | apply IsS72.set_1 | apply IsS72.set_2) | exact HI0.out)); (case side2 => repeat (first | (with_reducible first | exact HB.out | apply Zf | apply Zd | apply Ze | refine Zg ?_ (IsS72.ge HI0.out)) | exact HB.out)); rintro e w7 ⟨rfl, hi, hb, hk⟩; refine ⟨_, rfl, ?_⟩; have n0_ := Zh (KeepBut.trans (by repeat (first | (with_reducible first | exact HK.out | apply KeepBut.set_ | apply keep_drewN | apply keep_drew | apply keep_alloc) | exact HK.out)) hk (.inl rfl)); have n1_ := Zh (hb); have n2_ := Zh (hi); clear HK; clear HB; clear HI0; have HK := n0_; have HB := n1_; have HI0 := n2_; clear n0_ n1_ n2_; (try clear hb); (try clear hb2); (try clear hk); (try clear hi)))
  go_ret
  exact ⟨by first | rfl | (simp [errW_none, errW_some] <;> rfl) | (simp [*, errW_none, errW_some] <;> rfl), by repeat (first | (with_reducible first | exact HI0.out | apply IsS72.alloc | apply IsS72.drewN | apply IsS72.drew | apply IsS72.set_1 | apply IsS72.set_2) | exact HI0.out), by repeat (first | (with_reducible first | exact HB.out | apply Zf | apply Zd | apply Ze | refine Zg ?_ (IsS72.ge HI0.out)) | exact HB.out), by repeat (first | (with_reducible first | exact HK.out | apply KeepBut.set_ | apply keep_drewN | apply keep_drew | apply keep_alloc) | exact HK.out)⟩
 rw [if_neg c4] at H
 have c4b0 : decide (a1 ≤ 256) = false := decide_eq_false c4
 clear c4
 replace H := Option.bind_eq_some_iff.mp H
 obtain ⟨⟨t821, t822, t823⟩, A80, H⟩ := H
 replace H : ((spec_l01Byte.f s0_0 t822 t823).bind fun bt824 => ((spec_l01Byte.f s0_0 bt824.2.1 bt824.2.2).bind fun bt827 => (if a1 = 0 then (none) else (some (Int.tmod (wrap64 ((wrap64 ((wrap64 (t821 * 65536)) + (wrap64 (bt824.1 * 256)))) + bt827.1)) a1, bt827.2.1, bt827.2.2))))) = some (r1, r2, r3) := H
 have A8 := Zh A80
 clear A80
 replace H := Option.bind_eq_some_iff.mp H
 obtain ⟨⟨t824, t825, t826⟩, A90, H⟩ := H
 replace H : ((spec_l01Byte.f s0_0 t825 t826).bind fun bt827 => (if a1 = 0 then (none) else (some (Int.tmod (wrap64 ((wrap64 ((wrap64 (t821 * 65536)) + (wrap64 (t824 * 256)))) + bt827.1)) a1, bt827.2.1, bt827.2.2)))) = some (r1, r2, r3) := H
 have A9 := Zh A90
 clear A90
 replace H := Option.bind_eq_some_iff.mp H
 obtain ⟨⟨t827, t828, t829⟩, A100, H⟩ := H
 replace H : (if a1 = 0 then (none) else (some (Int.tmod (wrap64 ((wrap64 ((wrap64 (t821 * 65536)) + (wrap64 (t824 * 256)))) + t827)) a1, t828, t829))) = some (r1, r2, r3) := H
 have A10 := Zh A100
 clear A100
 by_cases c11 : a1 = 0
 ·
  rw [if_pos c11] at H
  exact absurd H (by simp)
 rw [if_neg c11] at H
 have c11b0 : (a1 == 0) = false := beq_eq_false_iff_ne.mpr c11
 have c11b1 : (a1 != 0) = true := bne_iff_ne.mpr c11
 simp only [Option.some.injEq, Prod.mk.injEq] at H
 obtain ⟨rfl, rfl, rfl⟩ := H
 go_enter Try.func57, Try.ntmps57
 go_wp2_with (first | ((with_reducible refine gate_callee (f := 63) rfl ?_); refine goesL_ (some 17) rfl rfl Try.func63 (by kernel_rfl) rfl #[.pointer (some ⟨g, 0, none⟩)] rfl (by (try simp only [List.map_toArray, List.map_cons, List.map_nil]); first | done | rfl | (simp only [List.length_drop, List.length_take]; rfl)) ?_; (with_reducible refine (spec_l01Byte.calls g s0_0 s0_1 s0_2 t821 t822 t823 w0 _ ?side1 ?side2 A8.out).mono ?_); (case side1 => repeat (first | (with_reducible first | exact HI0.out | apply IsS72.alloc | apply IsS72.drewN | apply IsS72.drew | apply IsS72.set_1 | apply IsS72.set_2) | exact HI0.out)); (case side2 => repeat (first | (with_reducible first | exact HB.out | apply Zf | apply Zd | apply Ze | refine Zg ?_ (IsS72.ge HI0.out)) | exact HB.out)); rintro e w12 ⟨rfl, hi, hb, hk⟩; refine ⟨_, rfl, ?_⟩; have n0_ := Zh (KeepBut.trans (by repeat (first | (with_reducible first | exact HK.out | apply KeepBut.set_ | apply keep_drewN | apply keep_drew | apply keep_alloc) | exact HK.out)) hk (.inl rfl)); have n1_ := Zh (hb); have n2_ := Zh (hi); clear HK; clear HB; clear HI0; have HK := n0_; have HB := n1_; have HI0 := n2_; clear n0_ n1_ n2_; (try clear hb); (try clear hb2); (try clear hk); (try clear hi)) | ((with_reducible refine gate_callee (f := 63) rfl ?_); refine goesL_ (some 19) rfl rfl Try.func63 (by kernel_rfl) rfl #[.pointer (some ⟨g, 0, none⟩)] rfl (by (try simp only [List.map_toArray, List.map_cons, List.map_nil]); first | done | rfl | (simp only [List.length_drop, List.length_take]; rfl)) ?_; (with_reducible refine (spec_l01Byte.calls g s0_0 t822 t823 t824 t825 t826 w0 _ ?side1 ?side2 A9.out).mono ?_); (case side1 => repeat (first | (with_reducible first | exact HI0.out | apply IsS72.alloc | apply IsS72.drewN | apply IsS72.drew | apply IsS72.set_1 | apply IsS72.set_2) | exact HI0.out)); (case side2 => repeat (first | (with_reducible first | exact HB.out | apply Zf | apply Zd | apply Ze | refine Zg ?_ (IsS72.ge HI0.out)) | exact HB.out)); rintro e w13 ⟨rfl, hi, hb, hk⟩; refine ⟨_, rfl, ?_⟩; have n0_ := Zh (KeepBut.trans (by repeat (first | (with_reducible first | exact HK.out | apply KeepBut.set_ | apply keep_drewN | apply keep_drew | apply keep_alloc) | exact HK.out)) hk (.inl rfl)); have n1_ := Zh (hb); have n2_ := Zh (hi); clear HK; clear HB; clear HI0; have HK := n0_; have HB := n1_; have HI0 := n2_; clear n0_ n1_ n2_; (try clear hb); (try clear hb2); (try clear hk); (try clear hi)) | ((with_reducible refine gate_callee (f := 63) rfl ?_); refine goesL_ (some 21) rfl rfl Try.func63 (by kernel_rfl) rfl #[.pointer (some ⟨g, 0, none⟩)] rfl (by (try simp only [List.map_toArray, List.map_cons, List.map_nil]); first | done | rfl | (simp only [List.length_drop, List.length_take]; rfl)) ?_; (with_reducible refine (spec_l01Byte.calls g s0_0 t825 t826 t827 t828 t829 w0 _ ?side1 ?side2 A10.out).mono ?_); (case side1 => repeat (first | (with_reducible first | exact HI0.out | apply IsS72.alloc | apply IsS72.drewN | apply IsS72.drew | apply IsS72.set_1 | apply IsS72.set_2) | exact HI0.out)); (case side2 => repeat (first | (with_reducible first | exact HB.out | apply Zf | apply Zd | apply Ze | refine Zg ?_ (IsS72.ge HI0.out)) | exact HB.out)); rintro e w14 ⟨rfl, hi, hb, hk⟩; refine ⟨_, rfl, ?_⟩; have n0_ := Zh (KeepBut.trans (by repeat (first | (with_reducible first | exact HK.out | apply KeepBut.set_ | apply keep_drewN | apply keep_drew | apply keep_alloc) | exact HK.out)) hk (.inl rfl)); have n1_ := Zh (hb); have n2_ := Zh (hi); clear HK; clear HB; clear HI0; have HK := n0_; have HB := n1_; have HI0 := n2_; clear n0_ n1_ n2_; (try clear hb); (try clear hb2); (try clear hk); (try clear hi)))
 go_ret
 exact ⟨by first | rfl | (simp [errW_none, errW_some] <;> rfl) | (simp [*, errW_none, errW_some] <;> rfl), by repeat (first | (with_reducible first | exact HI0.out | apply IsS72.alloc | apply IsS72.drewN | apply IsS72.drew | apply IsS72.set_1 | apply IsS72.set_2) | exact HI0.out), by repeat (first | (with_reducible first | exact HB.out | apply Zf | apply Zd | apply Ze | refine Zg ?_ (IsS72.ge HI0.out)) | exact HB.out), by repeat (first | (with_reducible first | exact HK.out | apply KeepBut.set_ | apply keep_drewN | apply keep_drew | apply keep_alloc) | exact HK.out)⟩
def spec_l01Once.f (s0_0 : List Int) (s0_1 : Int) (s0_2 : Int) (a1 : Int) : Option (Bool × Int × Int) := (spec_l01Below.f s0_0 s0_1 s0_2 a1).bind fun bt830 => (some ((bt830.1 == 0), bt830.2.1, bt830.2.2))
set_option maxHeartbeats 8000000 in
set_option maxRecDepth 100000 in
theorem spec_l01Once.calls (g : Nat) (s0_0 : List Int) (s0_1 : Int) (s0_2 : Int) (a1 : Int) (r1 : Bool) (r2 : Int) (r3 : Int) (w0 w : World) (hI : IsS72 w0 w g s0_0 s0_1 s0_2) (hB : Below w0.heap.size w0 w) (h : spec_l01Once.f s0_0 s0_1 s0_2 a1 = some (r1, r2, r3)) :
  Calls Try.prog 60 #[.pointer (some ⟨g, 0, none⟩), .int .i64 a1] w fun e w' => e = .returned (.bool r1) ∧ IsS72 w0 w' g s0_0 r2 r3 ∧ Below w0.heap.size w0 w' ∧ KeepBut w w' g none := by
 have HI0 := Zh hI
 have HK := Zh (KeepBut.refl w g none)
 have HL := Zh hB.size
 clear hI
 have HW0 := Zh hB.size
 have HB := Zh hB
 clear hB
 have H : ((spec_l01Below.f s0_0 s0_1 s0_2 a1).bind fun bt830 => (some ((bt830.1 == 0), bt830.2.1, bt830.2.2))) = some (r1, r2, r3) := h
 clear h
 replace H := Option.bind_eq_some_iff.mp H
 obtain ⟨⟨t830, t831, t832⟩, A30, H⟩ := H
 replace H : (some ((t830 == 0), t831, t832)) = some (r1, r2, r3) := H
 have A3 := Zh A30
 clear A30
 simp only [Option.some.injEq, Prod.mk.injEq] at H
 obtain ⟨rfl, rfl, rfl⟩ := H
 go_enter Try.func60, Try.ntmps60
 go_wp2_with (first | ((with_reducible refine gate_callee (f := 57) rfl ?_); refine goesL_ (some 7) rfl rfl Try.func57 (by kernel_rfl) rfl #[.pointer (some ⟨g, 0, none⟩), .int .i64 a1] rfl (by (try simp only [List.map_toArray, List.map_cons, List.map_nil]); first | done | rfl | (simp only [List.length_drop, List.length_take]; rfl)) ?_; (with_reducible refine (spec_l01Below.calls g s0_0 s0_1 s0_2 a1 t830 t831 t832 w0 _ ?side1 ?side2 A3.out).mono ?_); (case side1 => repeat (first | (with_reducible first | exact HI0.out | apply IsS72.alloc | apply IsS72.drewN | apply IsS72.drew | apply IsS72.set_1 | apply IsS72.set_2) | exact HI0.out)); (case side2 => repeat (first | (with_reducible first | exact HB.out | apply Zf | apply Zd | apply Ze | refine Zg ?_ (IsS72.ge HI0.out)) | exact HB.out)); rintro e w4 ⟨rfl, hi, hb, hk⟩; refine ⟨_, rfl, ?_⟩; have n0_ := Zh (KeepBut.trans (by repeat (first | (with_reducible first | exact HK.out | apply KeepBut.set_ | apply keep_drewN | apply keep_drew | apply keep_alloc) | exact HK.out)) hk (.inl rfl)); have n1_ := Zh (hb); have n2_ := Zh (hi); clear HK; clear HB; clear HI0; have HK := n0_; have HB := n1_; have HI0 := n2_; clear n0_ n1_ n2_; (try clear hb); (try clear hb2); (try clear hk); (try clear hi)))
 go_ret
 exact ⟨by first | rfl | (simp [errW_none, errW_some] <;> rfl) | (simp [*, errW_none, errW_some] <;> rfl), by repeat (first | (with_reducible first | exact HI0.out | apply IsS72.alloc | apply IsS72.drewN | apply IsS72.drew | apply IsS72.set_1 | apply IsS72.set_2) | exact HI0.out), by repeat (first | (with_reducible first | exact HB.out | apply Zf | apply Zd | apply Ze | refine Zg ?_ (IsS72.ge HI0.out)) | exact HB.out), by repeat (first | (with_reducible first | exact HK.out | apply KeepBut.set_ | apply keep_drewN | apply keep_drew | apply keep_alloc) | exact HK.out)⟩
def spec_l01Size.f (l0 : List Int) (a1 : Int) : Option (Int) := if (wrap64 (2 + (wrap64 ((l0.length : Int) / 16)))) > a1 then (some a1) else (some (wrap64 (2 + (wrap64 ((l0.length : Int) / 16)))))
set_option maxHeartbeats 8000000 in
set_option maxRecDepth 100000 in
theorem spec_l01Size.calls (A0 : Option Addr) (c0 : Nat) (l0 : List Int) (a1 : Int) (r : Int) (w : World) (hr0 : Kd.C (Kd.int .u8) w A0 l0.length l0) (hc0 : l0.length ≤ c0) (h : spec_l01Size.f l0 a1 = some r) :
  Calls Try.prog 61 #[.slice A0 l0.length c0, .int .i64 a1] w fun e w' => e = .returned (.int .i64 r) ∧ Drawn0 w w' := by
 have HR0 := Zh hr0
 have HC0 := Zh hc0
 clear hr0 hc0
 have H : (if (wrap64 (2 + (wrap64 ((l0.length : Int) / 16)))) > a1 then (some a1) else (some (wrap64 (2 + (wrap64 ((l0.length : Int) / 16)))))) = some r := h
 clear h
 by_cases c3 : (wrap64 (2 + (wrap64 ((l0.length : Int) / 16)))) > a1
 ·
  rw [if_pos c3] at H
  have c3b0 : decide (a1 < (wrap64 (2 + (wrap64 ((l0.length : Int) / 16))))) = true := decide_eq_true c3
  clear c3
  obtain rfl := Option.some.inj H
  go_enter Try.func61, Try.ntmps61
  go_wp2
  go_ret
  exact ⟨by first | rfl | (simp; done) | (simp [*]; done), by repeat (first | exact Drawn0.refl _ | apply Drawn0.step)⟩
 rw [if_neg c3] at H
 have c3b0 : decide (a1 < (wrap64 (2 + (wrap64 ((l0.length : Int) / 16))))) = false := decide_eq_false c3
 clear c3
 obtain rfl := Option.some.inj H
 go_enter Try.func61, Try.ntmps61
 go_wp2
 go_ret
 exact ⟨by first | rfl | (simp; done) | (simp [*]; done), by repeat (first | exact Drawn0.refl _ | apply Drawn0.step)⟩
def spec_l01PickText.f (s0_0 : List Int) (s0_1 : Int) (s0_2 : Int) (l1 : List ByteArray) : Option (ByteArray × Int × Int) := (spec_l01Below.f s0_0 s0_1 s0_2 (l1.length : Int)).bind fun bt833 => (if 0 ≤ bt833.1 then (if bt833.1 < (l1.length : Int) then (some (rdOf ByteArray.empty l1 bt833.1, bt833.2.1, bt833.2.2)) else (none)) else (none))
set_option maxHeartbeats 8000000 in
set_option maxRecDepth 100000 in
theorem spec_l01PickText.calls (g : Nat) (s0_0 : List Int) (s0_1 : Int) (s0_2 : Int) (A1 : Option Addr) (c1 : Nat) (l1 : List ByteArray) (r1 : ByteArray) (r2 : Int) (r3 : Int) (w0 w : World) (hI : IsS72 w0 w g s0_0 s0_1 s0_2) (hB : Below w0.heap.size w0 w) (hr1 : Kd.C Kd.string w A1 l1.length l1) (hc1 : l1.length ≤ c1) (hf1 : ∀ ad, A1 = some ad → 0 < l1.length → ad.block ≠ g) (h : spec_l01PickText.f s0_0 s0_1 s0_2 l1 = some (r1, r2, r3)) :
  Calls Try.prog 62 #[.pointer (some ⟨g, 0, none⟩), .slice A1 l1.length c1] w fun e w' => e = .returned (.string r1) ∧ IsS72 w0 w' g s0_0 r2 r3 ∧ Below w0.heap.size w0 w' ∧ KeepBut w w' g none := by
 have HR1 := Zh hr1
 have HC1 := Zh hc1
 clear hr1 hc1
 have HI0 := Zh hI
 have HK := Zh (KeepBut.refl w g none)
 have HL := Zh hB.size
 clear hI
 have HW0 := Zh hB.size
 have HB := Zh hB
 clear hB
 have H : ((spec_l01Below.f s0_0 s0_1 s0_2 (l1.length : Int)).bind fun bt833 => (if 0 ≤ bt833.1 then (if bt833.1 < (l1.length : Int) then (some (rdOf ByteArray.empty l1 bt833.1, bt833.2.1, bt833.2.2)) else (none)) else (none))) = some (r1, r2, r3) := h
 clear h
 replace H := Option.bind_eq_some_iff.mp H
 obtain ⟨⟨t833, t834, t835⟩, A30, H⟩ := H
 replace H : (if 0 ≤ t833 then (if t833 < (l1.length : Int) then (some (rdOf ByteArray.empty l1 t833, t834, t835)) else (none)) else (none)) = some (r1, r2, r3) := H
 have A3 := Zh A30
 clear A30
 by_cases c4 : 0 ≤ t833
 ·
  rw [if_pos c4] at H
  have c4b0 : decide (0 ≤ t833) = true := decide_eq_true c4
  clear c4
  by_cases c5 : t833 < (l1.length : Int)
  ·
   rw [if_pos c5] at H
   have c5b0 : decide (t833 < (l1.length : Int)) = true := decide_eq_true c5
   clear c5
   simp only [Option.some.injEq, Prod.mk.injEq] at H
   obtain ⟨rfl, rfl, rfl⟩ := H
   go_enter Try.func62, Try.ntmps62
   go_wp2_with (first | ((with_reducible refine gate_callee (f := 57) rfl ?_); refine goesL_ (some 9) rfl rfl Try.func57 (by kernel_rfl) rfl #[.pointer (some ⟨g, 0, none⟩), .int .i64 (l1.length : Int)] rfl (by (try simp only [List.map_toArray, List.map_cons, List.map_nil]); first | done | rfl | (simp only [List.length_drop, List.length_take]; rfl)) ?_; (with_reducible refine (spec_l01Below.calls g s0_0 s0_1 s0_2 (l1.length : Int) t833 t834 t835 w0 _ ?side1 ?side2 A3.out).mono ?_); (case side1 => repeat (first | (with_reducible first | exact HI0.out | apply IsS72.alloc | apply IsS72.drewN | apply IsS72.drew | apply IsS72.set_1 | apply IsS72.set_2) | exact HI0.out)); (case side2 => repeat (first | (with_reducible first | exact HB.out | apply Zf | apply Zd | apply Ze | refine Zg ?_ (IsS72.ge HI0.out)) | exact HB.out)); rintro e w6 ⟨rfl, hi, hb, hk⟩; refine ⟨_, rfl, ?_⟩; have n0_ := Zh (KeepBut.trans (by repeat (first | (with_reducible first | exact HK.out | apply KeepBut.set_ | apply keep_drewN | apply keep_drew | apply keep_alloc) | exact HK.out)) hk (.inl rfl)); have n1_ := Zh (hb); have n2_ := Zh (hi); clear HK; clear HB; clear HI0; have HK := n0_; have HB := n1_; have HI0 := n2_; clear n0_ n1_ n2_; (try clear hb); (try clear hb2); (try clear hk); (try clear hi); have p836 : 0 ≤ (t833 : Int) := Zo; have q836 : t833 < (l1.length : Int) := Zo; obtain ⟨ad836, e836, hx836_0⟩ := Kd.at_string HR1.out t833 p836 q836; cases e836; replace hx836_0 := keep_cell HK.out hx836_0 (by first | (rw [add_block]; exact hf1 _ rfl (by omega)) | exact hf1 _ rfl (by omega) | exact hf1 ad836 rfl (by omega)); replace p836 := eq_true p836; replace q836 := eq_true q836))
   go_ret
   exact ⟨by first | rfl | (simp [errW_none, errW_some] <;> rfl) | (simp [*, errW_none, errW_some] <;> rfl), by repeat (first | (with_reducible first | exact HI0.out | apply IsS72.alloc | apply IsS72.drewN | apply IsS72.drew | apply IsS72.set_1 | apply IsS72.set_2) | exact HI0.out), by repeat (first | (with_reducible first | exact HB.out | apply Zf | apply Zd | apply Ze | refine Zg ?_ (IsS72.ge HI0.out)) | exact HB.out), by repeat (first | (with_reducible first | exact HK.out | apply KeepBut.set_ | apply keep_drewN | apply keep_drew | apply keep_alloc) | exact HK.out)⟩
  rw [if_neg c5] at H
  exact absurd H (by simp)
 rw [if_neg c4] at H
 exact absurd H (by simp)
mutual
def spec_l05DrawLog.j0 : Nat → List Int → Int → List Int → Int → Int → Int → Int → Option (Int × Int × (List (S54)) × Int × Int)
 | 0, _, _, _, _, _, _, _ => none
 | k + 1, x1, x6, x1000, x1001, x1002, x839000, x839001 => (spec_l01Size.f x1 8).bind fun t848 => ((spec_l01Below.f x1000 x1001 x1002 (wrap64 (1 + t848))).bind fun bt849 => (spec_l05DrawLog.l0 k x6 bt849.1 x1000 bt849.2.1 bt849.2.2 x839000 x839001 ([] : List (S54))))
def spec_l05DrawLog.l0 : Nat → Int → Int → List Int → Int → Int → Int → Int → List (S54) → Option (Int × Int × (List (S54)) × Int × Int)
 | 0, _, _, _, _, _, _, _, _ => none
 | k + 1, x6, x7, x1000, x1001, x1002, x839000, x839001, x839002 => if x7 > 0 then ((spec_l01Below.f x1000 x1001 x1002 5).bind fun bt852 => ((spec_l01PickText.f x1000 bt852.2.1 bt852.2.2 (([(⟨#[97]⟩ : ByteArray), (⟨#[98]⟩ : ByteArray), (⟨#[]⟩ : ByteArray), (⟨#[99, 99]⟩ : ByteArray)] : List ByteArray))).bind fun bt858 => (if x839002.length < 5864062014805 then (spec_l05DrawLog.l0 k (wrap64 (x6 + (wrap64 (Int.tdiv bt852.1 4)))) (wrap64 (x7 - 1)) x1000 bt858.2.1 bt858.2.2 x839000 x839001 (x839002 ++ [(⟨wrap64 (x6 + (wrap64 (Int.tdiv bt852.1 4))), bt858.1⟩ : S54)])) else (none)))) else (some (x839000, x839001, x839002, x1001, x1002))
end
def spec_l05DrawLog.f (k : Nat) (s0_0 : List Int) (s0_1 : Int) (s0_2 : Int) (l1 : List Int) : Option (Int × Int × (List (S54)) × Int × Int) := (spec_l01Once.f s0_0 s0_1 s0_2 3).bind fun bt839 => (if bt839.1 = true then ((spec_l01Below.f s0_0 bt839.2.1 bt839.2.2 9).bind fun bt842 => ((spec_l01Below.f s0_0 bt842.2.1 bt842.2.2 2).bind fun bt845 => (spec_l05DrawLog.j0 k l1 (wrap64 (1 + bt845.1)) s0_0 bt845.2.1 bt845.2.2 (wrap64 (1 + bt842.1)) (wrap64 (1 + bt845.1))))) else (spec_l05DrawLog.j0 k l1 1 s0_0 bt839.2.1 bt839.2.2 0 0))
def spec_l05DrawLog.T11 : Bool × List (List Nat × List Nat) := (true, [([], []), ([0], [0]), ([], []), ([], []), ([], []), ([3, 4], [3, 4]), ([2, 5], [2, 5]), ([6], [6]), ([1, 7, 5], [1, 7]), ([0, 1, 2, 3, 4, 5, 6, 7, 8], []), ([9, 8, 8, 0, 1, 2, 3, 4, 5, 6, 7, 8], [8, 9])])
def spec_l05DrawLog.B11 : List Nat := [0, 1, 0, 0, 0, 24, 60, 124, 255, 511, 1023]
theorem spec_l05DrawLog.tab11 : rtab .any (opsOf Try.f56 11) = spec_l05DrawLog.T11 := by kernel_rfl
theorem spec_l05DrawLog.bits11 : waitsOk spec_l05DrawLog.T11.2 spec_l05DrawLog.B11 = true := by kernel_rfl
set_option maxHeartbeats 8000000 in
set_option maxRecDepth 100000 in
theorem spec_l05DrawLog.calls (k : Nat) (g : Nat) (s0_0 : List Int) (s0_1 : Int) (s0_2 : Int) (A1 : Option Addr) (c1 : Nat) (l1 : List Int) (r1 : Int) (r2 : Int) (r3 : List (S54)) (r4 : Int) (r5 : Int) (w0 w : World) (hI : IsS72 w0 w g s0_0 s0_1 s0_2) (hB : Below w0.heap.size w0 w) (hr1 : Kd.C (Kd.int .u8) w A1 l1.length l1) (hc1 : l1.length ≤ c1) (hf1 : ∀ ad, A1 = some ad → 0 < l1.length → ad.block ≠ g) (h : spec_l05DrawLog.f k s0_0 s0_1 s0_2 l1 = some (r1, r2, r3, r4, r5)) :
  Calls Try.prog 56 #[.pointer (some ⟨g, 0, none⟩), .slice A1 l1.length c1] w fun e w' => ∃ v2_ : Value, e = .returned (.agg #[.int .i64 r1, .int .i64 r2, v2_]) ∧ Kd.R k54 54 w' w.heap.size (fun _ => True) v2_ r3 ∧ IsS72 w0 w' g s0_0 r4 r5 ∧ Below w0.heap.size w0 w' ∧ KeepBut w w' g none := by
 have hu29 := Try.underlying29
 have hu54 := Try.underlying54
 have HR1 := Zh hr1
 have HC1 := Zh hc1
 clear hr1 hc1
 have HI0 := Zh hI
 have HK := Zh (KeepBut.refl w g none)
 have HL := Zh hB.size
 clear hI
 have HW0 := Zh hB.size
 have HB := Zh hB
 clear hB
 have H : ((spec_l01Once.f s0_0 s0_1 s0_2 3).bind fun bt839 => (if bt839.1 = true then ((spec_l01Below.f s0_0 bt839.2.1 bt839.2.2 9).bind fun bt842 => ((spec_l01Below.f s0_0 bt842.2.1 bt842.2.2 2).bind fun bt845 => (spec_l05DrawLog.j0 k l1 (wrap64 (1 + bt845.1)) s0_0 bt845.2.1 bt845.2.2 (wrap64 (1 + bt842.1)) (wrap64 (1 + bt845.1))))) else (spec_l05DrawLog.j0 k l1 1 s0_0 bt839.2.1 bt839.2.2 0 0))) = some (r1, r2, r3, r4, r5) := h
 clear h
 replace H := Option.bind_eq_some_iff.mp H
 obtain ⟨⟨t839, t840, t841⟩, A30, H⟩ := H
 replace H : (if t839 = true then ((spec_l01Below.f s0_0 t840 t841 9).bind fun bt842 => ((spec_l01Below.f s0_0 bt842.2.1 bt842.2.2 2).bind fun bt845 => (spec_l05DrawLog.j0 k l1 (wrap64 (1 + bt845.1)) s0_0 bt845.2.1 bt845.2.2 (wrap64 (1 + bt842.1)) (wrap64 (1 + bt845.1))))) else (spec_l05DrawLog.j0 k l1 1 s0_0 t840 t841 0 0)) = some (r1, r2, r3, r4, r5) := H
 have A3 := Zh A30
 clear A30
 have HC4 := Zh H
 clear H
 go_enter Try.func56, Try.ntmps56
 go_upto_if 10 with (first | ((with_reducible refine gate_dst (N := 4) rfl ?_); refine box_event ?hg (N := 4) ?hd (cs := #[.int .i64 0, .int .i64 0, .slice none 0 0]) (t := 29) ?hr ?_; (case hd => rfl); (case hg => rfl); (case hr => first | (go_simp; done) | (go_simp; rfl)); intro gb837 hg w5 hbox hb; have n0_ := Zh (IsS72.below (by repeat (first | (with_reducible first | exact HI0.out | apply IsS72.alloc | apply IsS72.drewN | apply IsS72.drew | apply IsS72.set_1 | apply IsS72.set_2) | exact HI0.out)) hb); have n1_ := Zh (KeepBut.trans (by repeat (first | (with_reducible first | exact HK.out | apply KeepBut.set_ | apply keep_drewN | apply keep_drew | apply keep_alloc) | exact HK.out)) (KeepBut.of_below hb g none) (.inl rfl)); have n2_ := Zh (Zl (by repeat (first | (with_reducible first | exact HB.out | apply Zf | apply Zd | apply Ze | refine Zg ?_ (IsS72.ge HI0.out)) | exact HB.out)) hb); have n3_ := Zh (hbox); have n4_ := Zh ((by rw [hg]; exact (keep_size (w := w) (g := g) (row := none) (by repeat (first | (with_reducible first | exact HK.out | apply KeepBut.set_ | apply keep_drewN | apply keep_drew | apply keep_alloc) | exact HK.out))) : w.heap.size ≤ gb837)); have n5_ := Zh ((Nat.le_trans HW0.out (by rw [hg]; exact (keep_size (w := w) (g := g) (row := none) (by repeat (first | (with_reducible first | exact HK.out | apply KeepBut.set_ | apply keep_drewN | apply keep_drew | apply keep_alloc) | exact HK.out))) : w.heap.size ≤ gb837) : w0.heap.size ≤ gb837)); have n6_ := Zh ((by rw [hg]; exact Nat.ne_of_lt (IsS72.lt (show IsS72 w0 _ g s0_0 s0_1 s0_2 from by repeat (first | (with_reducible first | exact HI0.out | apply IsS72.alloc | apply IsS72.drewN | apply IsS72.drew | apply IsS72.set_1 | apply IsS72.set_2) | exact HI0.out))) : g ≠ gb837)); have n7_ := Zh ((by rw [hg]; exact Nat.ne_of_gt (IsS72.lt (show IsS72 w0 _ g s0_0 s0_1 s0_2 from by repeat (first | (with_reducible first | exact HI0.out | apply IsS72.alloc | apply IsS72.drewN | apply IsS72.drew | apply IsS72.set_1 | apply IsS72.set_2) | exact HI0.out))) : gb837 ≠ g)); clear HI0; clear HK; clear HB; have HI0 := n0_; have HK := n1_; have HB := n2_; have BK837 := n3_; have GW837 := n4_; have GE837 := n5_; have NB0_837 := n6_; have NB837_0 := n7_; clear n0_ n1_ n2_ n3_ n4_ n5_ n6_ n7_; clear hb hbox hg) | ((with_reducible refine gate_dst (N := 5) rfl ?_); refine box_event ?hg (N := 5) ?hd (cs := #[.int .i64 0, .int .i64 0, .slice none 0 0]) (t := 29) ?hr ?_; (case hd => rfl); (case hg => rfl); (case hr => first | (go_simp; done) | (go_simp; rfl)); intro gb838 hg w6 hbox hb; have n0_ := Zh (IsS72.below (by repeat (first | (with_reducible first | exact HI0.out | apply IsS72.alloc | apply IsS72.drewN | apply IsS72.drew | apply IsS72.set_1 | apply IsS72.set_2 | refine IsS72.far ?_ NB0_837.out _) | exact HI0.out)) hb); have n1_ := Zh (Zm (g := gb837) (o := .cells #[.int .i64 0, .int .i64 0, .slice none 0 0] 29 (0, 0)) Zk hb); have n2_ := Zh (KeepBut.trans (by repeat (first | (with_reducible first | exact HK.out | apply KeepBut.set_ | apply keep_drewN | apply keep_drew | apply keep_alloc | refine keep_far ?_ GW837.out _) | exact HK.out)) (KeepBut.of_below hb g none) (.inl rfl)); have n3_ := Zh (Zl (by repeat (first | (with_reducible first | exact HB.out | apply Zf | apply Zd | apply Ze | refine Zg ?_ (IsS72.ge HI0.out) | refine Zg ?_ GE837.out) | exact HB.out)) hb); have n4_ := Zh (hbox); have n5_ := Zh ((by rw [hg]; exact (keep_size (w := w) (g := g) (row := none) (by repeat (first | (with_reducible first | exact HK.out | apply KeepBut.set_ | apply keep_drewN | apply keep_drew | apply keep_alloc | refine keep_far ?_ GW837.out _) | exact HK.out))) : w.heap.size ≤ gb838)); have n6_ := Zh ((Nat.le_trans HW0.out (by rw [hg]; exact (keep_size (w := w) (g := g) (row := none) (by repeat (first | (with_reducible first | exact HK.out | apply KeepBut.set_ | apply keep_drewN | apply keep_drew | apply keep_alloc | refine keep_far ?_ GW837.out _) | exact HK.out))) : w.heap.size ≤ gb838) : w0.heap.size ≤ gb838)); have n7_ := Zh ((by rw [hg]; exact Nat.ne_of_lt (blk_lt (g := gb837) (o := .cells #[.int .i64 0, .int .i64 0, .slice none 0 0] 29 (0, 0)) Zk) : gb837 ≠ gb838)); have n8_ := Zh ((by rw [hg]; exact Nat.ne_of_gt (blk_lt (g := gb837) (o := .cells #[.int .i64 0, .int .i64 0, .slice none 0 0] 29 (0, 0)) Zk) : gb838 ≠ gb837)); have n9_ := Zh ((by rw [hg]; exact Nat.ne_of_lt (IsS72.lt (show IsS72 w0 _ g s0_0 s0_1 s0_2 from by repeat (first | (with_reducible first | exact HI0.out | apply IsS72.alloc | apply IsS72.drewN | apply IsS72.drew | apply IsS72.set_1 | apply IsS72.set_2 | refine IsS72.far ?_ NB0_837.out _) | exact HI0.out))) : g ≠ gb838)); have n10_ := Zh ((by rw [hg]; exact Nat.ne_of_gt (IsS72.lt (show IsS72 w0 _ g s0_0 s0_1 s0_2 from by repeat (first | (with_reducible first | exact HI0.out | apply IsS72.alloc | apply IsS72.drewN | apply IsS72.drew | apply IsS72.set_1 | apply IsS72.set_2 | refine IsS72.far ?_ NB0_837.out _) | exact HI0.out))) : gb838 ≠ g)); clear HI0; clear BK837; clear HK; clear HB; have HI0 := n0_; have BK837 := n1_; have HK := n2_; have HB := n3_; have BK838 := n4_; have GW838 := n5_; have GE838 := n6_; have NB837_838 := n7_; have NB838_837 := n8_; have NB0_838 := n9_; have NB838_0 := n10_; clear n0_ n1_ n2_ n3_ n4_ n5_ n6_ n7_ n8_ n9_ n10_; clear hb hbox hg; have hnb7 := NB838_837.out; have hnc7 := NB837_838.out; have hnb8 := NB838_0.out; have hnc8 := NB0_838.out; have hcz9_0 : w6.cell? ⟨gb838, 0, none⟩ = some (.int .i64 0) := (blk_cell BK838.out 0).trans rfl; have hcz9_1 : w6.cell? ⟨gb838, 1, none⟩ = some (.int .i64 0) := (blk_cell BK838.out 1).trans rfl; have hcz9_2 : w6.cell? ⟨gb838, 2, none⟩ = some (.slice none 0 0) := (blk_cell BK838.out 2).trans rfl; have hfz9_0 := Zn BK838.out 0; have hfz9_1 := Zn BK838.out 1; have hfz9_2 := Zn BK838.out 2) | ((with_reducible refine gate_callee (f := 60) rfl ?_); refine goesL_ (some 10) rfl rfl Try.func60 (by kernel_rfl) rfl #[.pointer (some ⟨g, 0, none⟩), .int .i64 3] rfl (by (try simp only [List.map_toArray, List.map_cons, List.map_nil]); first | done | rfl | (simp only [List.length_drop, List.length_take]; rfl)) ?_; (with_reducible refine (spec_l01Once.calls g s0_0 s0_1 s0_2 3 t839 t840 t841 w0 _ ?side1 ?side2 A3.out).mono ?_); (case side1 => repeat (first | (with_reducible first | exact HI0.out | apply IsS72.alloc | apply IsS72.drewN | apply IsS72.drew | apply IsS72.set_1 | apply IsS72.set_2 | refine IsS72.far ?_ NB0_837.out _ | refine IsS72.far ?_ NB0_838.out _) | exact HI0.out)); (case side2 => repeat (first | (with_reducible first | exact HB.out | apply Zf | apply Zd | apply Ze | refine Zg ?_ (IsS72.ge HI0.out) | refine Zg ?_ GE837.out | refine Zg ?_ GE838.out) | exact HB.out)); rintro e w10 ⟨rfl, hi, hb, hk⟩; refine ⟨_, rfl, ?_⟩; have n0_ := Zh (KeepBut.blk hk (g' := gb837) (o := .cells #[.int .i64 0, .int .i64 0, .slice none 0 0] 29 (0, 0)) (by (with_reducible repeat (first | refine Za ?_ _ | refine Zb ?_ | refine blk_alloc ?_ _)); refine Zp ?_ NB837_838.out _; (with_reducible repeat (first | refine Za ?_ _ | refine Zb ?_ | refine blk_alloc ?_ _)); refine Zp ?_ NB837_838.out _; (with_reducible repeat (first | refine Za ?_ _ | refine Zb ?_ | refine blk_alloc ?_ _)); refine Zp ?_ NB837_838.out _; (with_reducible repeat (first | refine Za ?_ _ | refine Zb ?_ | refine blk_alloc ?_ _)); exact BK837.out) NB837_0.out (by simp)); have n1_ := Zh (KeepBut.blk hk (g' := gb838) (o := .cells #[.int .i64 0, .int .i64 0, .slice none 0 0] 29 (0, 0)) (by (with_reducible repeat (first | refine Za ?_ _ | refine Zb ?_ | refine blk_alloc ?_ _)); refine blk_put (cs := #[.int .i64 0, .int .i64 0, .slice none 0 0]) ?_ 2 _ rfl; (with_reducible repeat (first | refine Za ?_ _ | refine Zb ?_ | refine blk_alloc ?_ _)); refine blk_put (cs := #[.int .i64 0, .int .i64 0, .slice none 0 0]) ?_ 1 _ rfl; (with_reducible repeat (first | refine Za ?_ _ | refine Zb ?_ | refine blk_alloc ?_ _)); refine blk_put (cs := #[.int .i64 0, .int .i64 0, .slice none 0 0]) ?_ 0 _ rfl; (with_reducible repeat (first | refine Za ?_ _ | refine Zb ?_ | refine blk_alloc ?_ _)); exact BK838.out) NB838_0.out (by simp)); have n2_ := Zh (KeepBut.trans (by repeat (first | (with_reducible first | exact HK.out | apply KeepBut.set_ | apply keep_drewN | apply keep_drew | apply keep_alloc | refine keep_far ?_ GW837.out _ | refine keep_far ?_ GW838.out _) | exact HK.out)) hk (.inl rfl)); have n3_ := Zh (hb); have n4_ := Zh (hi); clear BK837; clear BK838; clear HK; clear HB; clear HI0; have BK837 := n0_; have BK838 := n1_; have HK := n2_; have HB := n3_; have HI0 := n4_; clear n0_ n1_ n2_ n3_ n4_; (try clear hb); (try clear hb2); (try clear hk); (try clear hi)))
 (try simp only [Act.put, List.setIfInBounds_toArray, List.set_cons_zero, List.set_cons_succ])
 go_cut [6] (fun v6 wc => ∃ (kq : Nat) (x6_3 : Int) (x1001_3 : Int) (x1002_3 : Int) (x839000_3 : Int) (x839001_3 : Int), v6 = .int .i64 x6_3 ∧ Aside0 (spec_l05DrawLog.j0 kq l1 x6_3 s0_0 x1001_3 x1002_3 x839000_3 x839001_3 = some (r1, r2, r3, r4, r5)) ∧ Aside0 (kq ≤ k) ∧ Aside0 (wc.heap[gb837]? = some (.cells #[.int .i64 0, .int .i64 0, (.slice none 0 0)] 29 (0, 0))) ∧ Aside0 (wc.heap[gb838]? = some (.cells #[.int .i64 x839000_3, .int .i64 x839001_3, (.slice none 0 0)] 29 (0, 0))) ∧ Aside0 (IsS72 w0 wc g s0_0 x1001_3 x1002_3) ∧ Aside0 (KeepBut w wc g none) ∧ Aside0 (Below w0.heap.size w0 wc))
 case first =>
  have H := HC4.out
  clear HC4
  by_cases c11 : t839 = true
  ·
   subst c11
   have H1 : ((spec_l01Below.f s0_0 t840 t841 9).bind fun bt842 => ((spec_l01Below.f s0_0 bt842.2.1 bt842.2.2 2).bind fun bt845 => (spec_l05DrawLog.j0 k l1 (wrap64 (1 + bt845.1)) s0_0 bt845.2.1 bt845.2.2 (wrap64 (1 + bt842.1)) (wrap64 (1 + bt845.1))))) = some (r1, r2, r3, r4, r5) := by rw [if_pos rfl] at H; exact H
   clear H
   have H := H1
   clear H1
   replace H := Option.bind_eq_some_iff.mp H
   obtain ⟨⟨t842, t843, t844⟩, A120, H⟩ := H
   replace H : ((spec_l01Below.f s0_0 t843 t844 2).bind fun bt845 => (spec_l05DrawLog.j0 k l1 (wrap64 (1 + bt845.1)) s0_0 bt845.2.1 bt845.2.2 (wrap64 (1 + t842)) (wrap64 (1 + bt845.1)))) = some (r1, r2, r3, r4, r5) := H
   have A12 := Zh A120
   clear A120
   replace H := Option.bind_eq_some_iff.mp H
   obtain ⟨⟨t845, t846, t847⟩, A130, H⟩ := H
   replace H : (spec_l05DrawLog.j0 k l1 (wrap64 (1 + t845)) s0_0 t846 t847 (wrap64 (1 + t842)) (wrap64 (1 + t845))) = some (r1, r2, r3, r4, r5) := H
   have A13 := Zh A130
   clear A130
   have H' := Zh H
   clear H
   go_wp2_with (first | ((with_reducible refine gate_callee (f := 57) rfl ?_); refine goesL_ (some 12) rfl rfl Try.func57 (by kernel_rfl) rfl #[.pointer (some ⟨g, 0, none⟩), .int .i64 9] rfl (by (try simp only [List.map_toArray, List.map_cons, List.map_nil]); first | done | rfl | (simp only [List.length_drop, List.length_take]; rfl)) ?_; (with_reducible refine (spec_l01Below.calls g s0_0 t840 t841 9 t842 t843 t844 w0 _ ?side1 ?side2 A12.out).mono ?_); (case side1 => repeat (first | (with_reducible first | exact HI0.out | apply IsS72.alloc | apply IsS72.drewN | apply IsS72.drew | apply IsS72.set_1 | apply IsS72.set_2 | refine IsS72.far ?_ NB0_837.out _ | refine IsS72.far ?_ NB0_838.out _) | exact HI0.out)); (case side2 => repeat (first | (with_reducible first | exact HB.out | apply Zf | apply Zd | apply Ze | refine Zg ?_ (IsS72.ge HI0.out) | refine Zg ?_ GE837.out | refine Zg ?_ GE838.out) | exact HB.out)); rintro e w14 ⟨rfl, hi, hb, hk⟩; refine ⟨_, rfl, ?_⟩; have n0_ := Zh (KeepBut.blk hk (g' := gb837) (o := .cells #[.int .i64 0, .int .i64 0, .slice none 0 0] 29 (0, 0)) Zk NB837_0.out (by simp)); have n1_ := Zh (KeepBut.blk hk (g' := gb838) (o := .cells #[.int .i64 0, .int .i64 0, .slice none 0 0] 29 (0, 0)) Zk NB838_0.out (by simp)); have n2_ := Zh (KeepBut.trans (by repeat (first | (with_reducible first | exact HK.out | apply KeepBut.set_ | apply keep_drewN | apply keep_drew | apply keep_alloc | refine keep_far ?_ GW837.out _ | refine keep_far ?_ GW838.out _) | exact HK.out)) hk (.inl rfl)); have n3_ := Zh (hb); have n4_ := Zh (hi); clear BK837; clear BK838; clear HK; clear HB; clear HI0; have BK837 := n0_; have BK838 := n1_; have HK := n2_; have HB := n3_; have HI0 := n4_; clear n0_ n1_ n2_ n3_ n4_; (try clear hb); (try clear hb2); (try clear hk); (try clear hi); have hnb15 := NB838_837.out; have hnc15 := NB837_838.out; have hnb16 := NB838_0.out; have hnc16 := NB0_838.out; have hcz17_0 : w14.cell? ⟨gb838, 0, none⟩ = some (.int .i64 0) := (blk_cell BK838.out 0).trans rfl; have hcz17_1 : w14.cell? ⟨gb838, 1, none⟩ = some (.int .i64 0) := (blk_cell BK838.out 1).trans rfl; have hcz17_2 : w14.cell? ⟨gb838, 2, none⟩ = some (.slice none 0 0) := (blk_cell BK838.out 2).trans rfl; have hfz17_0 := Zn BK838.out 0; have hfz17_1 := Zn BK838.out 1; have hfz17_2 := Zn BK838.out 2) | ((with_reducible refine gate_callee (f := 57) rfl ?_); refine goesL_ (some 16) rfl rfl Try.func57 (by kernel_rfl) rfl #[.pointer (some ⟨g, 0, none⟩), .int .i64 2] rfl (by (try simp only [List.map_toArray, List.map_cons, List.map_nil]); first | done | rfl | (simp only [List.length_drop, List.length_take]; rfl)) ?_; (with_reducible refine (spec_l01Below.calls g s0_0 t843 t844 2 t845 t846 t847 w0 _ ?side1 ?side2 A13.out).mono ?_); (case side1 => repeat (first | (with_reducible first | exact HI0.out | apply IsS72.alloc | apply IsS72.drewN | apply IsS72.drew | apply IsS72.set_1 | apply IsS72.set_2 | refine IsS72.far ?_ NB0_837.out _ | refine IsS72.far ?_ NB0_838.out _) | exact HI0.out)); (case side2 => repeat (first | (with_reducible first | exact HB.out | apply Zf | apply Zd | apply Ze | refine Zg ?_ (IsS72.ge HI0.out) | refine Zg ?_ GE837.out | refine Zg ?_ GE838.out) | exact HB.out)); rintro e w18 ⟨rfl, hi, hb, hk⟩; refine ⟨_, rfl, ?_⟩; have n0_ := Zh (KeepBut.blk hk (g' := gb837) (o := .cells #[.int .i64 0, .int .i64 0, .slice none 0 0] 29 (0, 0)) (by (with_reducible repeat (first | refine Za ?_ _ | refine Zb ?_ | refine blk_alloc ?_ _)); refine Zp ?_ NB837_838.out _; (with_reducible repeat (first | refine Za ?_ _ | refine Zb ?_ | refine blk_alloc ?_ _)); exact BK837.out) NB837_0.out (by simp)); have n1_ := Zh (KeepBut.blk hk (g' := gb838) (o := .cells #[.int .i64 (wrap64 (1 + t842)), .int .i64 0, .slice none 0 0] 29 (0, 0)) (by (with_reducible repeat (first | refine Za ?_ _ | refine Zb ?_ | refine blk_alloc ?_ _)); refine blk_put (cs := #[.int .i64 0, .int .i64 0, .slice none 0 0]) ?_ 0 _ rfl; (with_reducible repeat (first | refine Za ?_ _ | refine Zb ?_ | refine blk_alloc ?_ _)); exact BK838.out) NB838_0.out (by simp)); have n2_ := Zh (KeepBut.trans (by repeat (first | (with_reducible first | exact HK.out | apply KeepBut.set_ | apply keep_drewN | apply keep_drew | apply keep_alloc | refine keep_far ?_ GW837.out _ | refine keep_far ?_ GW838.out _) | exact HK.out)) hk (.inl rfl)); have n3_ := Zh (hb); have n4_ := Zh (hi); clear BK837; clear BK838; clear HK; clear HB; clear HI0; have BK837 := n0_; have BK838 := n1_; have HK := n2_; have HB := n3_; have HI0 := n4_; clear n0_ n1_ n2_ n3_ n4_; (try clear hb); (try clear hb2); (try clear hk); (try clear hi); have hcz19_0 : w18.cell? ⟨gb838, 0, none⟩ = some (.int .i64 (wrap64 (1 + t842))) := (blk_cell BK838.out 0).trans rfl; have hcz19_1 : w18.cell? ⟨gb838, 1, none⟩ = some (.int .i64 0) := (blk_cell BK838.out 1).trans rfl; have hcz19_2 : w18.cell? ⟨gb838, 2, none⟩ = some (.slice none 0 0) := (blk_cell BK838.out 2).trans rfl; have hfz19_0 := Zn BK838.out 0; have hfz19_1 := Zn BK838.out 1; have hfz19_2 := Zn BK838.out 2))
   go_meet
   case rel => exact ⟨_, (wrap64 (1 + t845)), (t846), (t847), (wrap64 (1 + t842)), (wrap64 (1 + t845)), (by first | rfl | (simp; done) | (simp [*]; done)), H', ⟨by first | omega | exact Nat.le_refl _⟩, ⟨by (with_reducible repeat (first | refine Za ?_ _ | refine Zb ?_ | refine blk_alloc ?_ _)); refine Zp ?_ NB837_838.out _; (with_reducible repeat (first | refine Za ?_ _ | refine Zb ?_ | refine blk_alloc ?_ _)); exact BK837.out⟩, ⟨by (with_reducible repeat (first | refine Za ?_ _ | refine Zb ?_ | refine blk_alloc ?_ _)); refine blk_put (cs := #[.int .i64 (wrap64 (1 + t842)), .int .i64 0, .slice none 0 0]) ?_ 1 _ rfl; (with_reducible repeat (first | refine Za ?_ _ | refine Zb ?_ | refine blk_alloc ?_ _)); exact BK838.out⟩, ⟨by repeat (first | (with_reducible first | exact HI0.out | apply IsS72.alloc | apply IsS72.drewN | apply IsS72.drew | apply IsS72.set_1 | apply IsS72.set_2 | refine IsS72.far ?_ NB0_837.out _ | refine IsS72.far ?_ NB0_838.out _) | exact HI0.out)⟩, ⟨by repeat (first | (with_reducible first | exact HK.out | apply KeepBut.set_ | apply keep_drewN | apply keep_drew | apply keep_alloc | refine keep_far ?_ GW837.out _ | refine keep_far ?_ GW838.out _) | exact HK.out)⟩, ⟨by repeat (first | (with_reducible first | exact HB.out | apply Zf | apply Zd | apply Ze | refine Zg ?_ (IsS72.ge HI0.out) | refine Zg ?_ GE837.out | refine Zg ?_ GE838.out) | exact HB.out)⟩⟩
  replace c11 := Bool.eq_false_iff.mpr c11
  subst c11
  have H1 : (spec_l05DrawLog.j0 k l1 1 s0_0 t840 t841 0 0) = some (r1, r2, r3, r4, r5) := by rw [if_neg (show ¬ (false = true) by decide)] at H; exact H
  clear H
  have H := H1
  clear H1
  have H' := Zh H
  clear H
  go_wp2
  go_meet
  case rel => exact ⟨_, (1), (t840), (t841), (0), (0), (by first | rfl | (simp; done) | (simp [*]; done)), H', ⟨by first | omega | exact Nat.le_refl _⟩, ⟨by (with_reducible repeat (first | refine Za ?_ _ | refine Zb ?_ | refine blk_alloc ?_ _)); exact BK837.out⟩, ⟨by (with_reducible repeat (first | refine Za ?_ _ | refine Zb ?_ | refine blk_alloc ?_ _)); exact BK838.out⟩, ⟨by repeat (first | (with_reducible first | exact HI0.out | apply IsS72.alloc | apply IsS72.drewN | apply IsS72.drew | apply IsS72.set_1 | apply IsS72.set_2 | refine IsS72.far ?_ NB0_837.out _ | refine IsS72.far ?_ NB0_838.out _) | exact HI0.out)⟩, ⟨by repeat (first | (with_reducible first | exact HK.out | apply KeepBut.set_ | apply keep_drewN | apply keep_drew | apply keep_alloc | refine keep_far ?_ GW837.out _ | refine keep_far ?_ GW838.out _) | exact HK.out)⟩, ⟨by repeat (first | (with_reducible first | exact HB.out | apply Zf | apply Zd | apply Ze | refine Zg ?_ (IsS72.ge HI0.out) | refine Zg ?_ GE837.out | refine Zg ?_ GE838.out) | exact HB.out)⟩⟩
 case rest =>
  clear HC4
  try clear c1
  try clear p2
  try clear c5
  try clear c6
  try clear p6
  try clear c7
  try clear c8
  try clear c11
  try clear c15
  try clear c16
  try clear hcz17_0
  try clear hcz17_1
  try clear hcz17_2
  try clear hcz19_0
  try clear hcz19_1
  try clear hcz19_2
  try clear hcz9_0
  try clear hcz9_1
  try clear hcz9_2
  try clear hfz17_0
  try clear hfz17_1
  try clear hfz17_2
  try clear hfz19_0
  try clear hfz19_1
  try clear hfz19_2
  try clear hfz9_0
  try clear hfz9_1
  try clear hfz9_2
  obtain ⟨kq, x6_3, x1001_3, x1002_3, x839000_3, x839001_3, rfl, HA, HJ3, BK837, BK838, HI0, HK, HB⟩ := hcut
  cases kq with
  | zero => exact absurd HA.out (by simp [spec_l05DrawLog.j0])
  | succ kj3 =>
   have H := HA.out
   clear HA
   simp only [spec_l05DrawLog.j0] at H
   replace H := Option.bind_eq_some_iff.mp H
   obtain ⟨t848, A200, H⟩ := H
   replace H : ((spec_l01Below.f s0_0 x1001_3 x1002_3 (wrap64 (1 + t848))).bind fun bt849 => (spec_l05DrawLog.l0 kj3 x6_3 bt849.1 s0_0 bt849.2.1 bt849.2.2 x839000_3 x839001_3 ([] : List (S54)))) = some (r1, r2, r3, r4, r5) := H
   have A20 := Zh A200
   clear A200
   replace H := Option.bind_eq_some_iff.mp H
   obtain ⟨⟨t849, t850, t851⟩, A210, H⟩ := H
   replace H : (spec_l05DrawLog.l0 kj3 x6_3 t849 s0_0 t850 t851 x839000_3 x839001_3 ([] : List (S54))) = some (r1, r2, r3, r4, r5) := H
   have A21 := Zh A210
   clear A210
   have H' := Zh H
   clear H
   go_wp2_with (first | ((with_reducible refine gate_callee (f := 61) rfl ?_); refine goesL_ (some 23) rfl rfl Try.func61 (by kernel_rfl) rfl #[.slice A1 l1.length c1, .int .i64 8] rfl (by (try simp only [List.map_toArray, List.map_cons, List.map_nil]); first | done | rfl | (simp only [List.length_drop, List.length_take]; rfl)) ?_; (with_reducible refine (spec_l01Size.calls _ _ l1 8 t848 _ ?side1 ?side2 A20.out).mono ?_); (case side1 => exact C_keep 0 HR1.out (by repeat (first | (with_reducible first | exact HK.out | apply KeepBut.set_ | apply keep_drewN | apply keep_drew | apply keep_alloc | refine keep_far ?_ GW837.out _ | refine keep_far ?_ GW838.out _) | exact HK.out)) hf1); (case side2 => exact HC1.out); rintro e w' ⟨rfl, ⟨nd, rfl⟩⟩; refine ⟨_, rfl, ?_⟩) | ((with_reducible refine gate_callee (f := 57) rfl ?_); refine goesL_ (some 25) rfl rfl Try.func57 (by kernel_rfl) rfl #[.pointer (some ⟨g, 0, none⟩), .int .i64 (wrap64 (1 + t848))] rfl (by (try simp only [List.map_toArray, List.map_cons, List.map_nil]); first | done | rfl | (simp only [List.length_drop, List.length_take]; rfl)) ?_; (with_reducible refine (spec_l01Below.calls g s0_0 x1001_3 x1002_3 (wrap64 (1 + t848)) t849 t850 t851 w0 _ ?side1 ?side2 A21.out).mono ?_); (case side1 => repeat (first | (with_reducible first | exact HI0.out | apply IsS72.alloc | apply IsS72.drewN | apply IsS72.drew | apply IsS72.set_1 | apply IsS72.set_2 | refine IsS72.far ?_ NB0_837.out _ | refine IsS72.far ?_ NB0_838.out _) | exact HI0.out)); (case side2 => repeat (first | (with_reducible first | exact HB.out | apply Zf | apply Zd | apply Ze | refine Zg ?_ (IsS72.ge HI0.out) | refine Zg ?_ GE837.out | refine Zg ?_ GE838.out) | exact HB.out)); rintro e w22 ⟨rfl, hi, hb, hk⟩; refine ⟨_, rfl, ?_⟩; have n0_ := Zh (KeepBut.blk hk (g' := gb837) (o := .cells #[.int .i64 0, .int .i64 0, .slice none 0 0] 29 (0, 0)) Zk NB837_0.out (by simp)); have n1_ := Zh (KeepBut.blk hk (g' := gb838) (o := .cells #[.int .i64 x839000_3, .int .i64 x839001_3, .slice none 0 0] 29 (0, 0)) Zk NB838_0.out (by simp)); have n2_ := Zh (KeepBut.trans (by repeat (first | (with_reducible first | exact HK.out | apply KeepBut.set_ | apply keep_drewN | apply keep_drew | apply keep_alloc | refine keep_far ?_ GW837.out _ | refine keep_far ?_ GW838.out _) | exact HK.out)) hk (.inl rfl)); have n3_ := Zh (hb); have n4_ := Zh (hi); clear BK837; clear BK838; clear HK; clear HB; clear HI0; have BK837 := n0_; have BK838 := n1_; have HK := n2_; have HB := n3_; have HI0 := n4_; clear n0_ n1_ n2_ n3_ n4_; (try clear hb); (try clear hb2); (try clear hk); (try clear hi)))
   go_loopg [6, 7] kj3 (fun kq v6 v7 w' => ∃ (x6_2 : Int) (x7_2 : Int) (x1001_2 : Int) (x1002_2 : Int) (x839002_2 : List (S54)) (u839002 : Value), v6 = .int .i64 x6_2 ∧ v7 = .int .i64 x7_2 ∧ Aside0 (spec_l05DrawLog.l0 kq x6_2 x7_2 s0_0 x1001_2 x1002_2 x839000_3 x839001_3 x839002_2 = some (r1, r2, r3, r4, r5)) ∧ Aside0 (kq ≤ kj3) ∧ Aside0 (Kd.R k54 54 w' w.heap.size (fun _ => True) u839002 x839002_2) ∧ Aside0 (w'.heap[gb837]? = some (.cells #[.int .i64 0, .int .i64 0, (.slice none 0 0)] 29 (0, 0))) ∧ Aside0 (w'.heap[gb838]? = some (.cells #[.int .i64 x839000_3, .int .i64 x839001_3, u839002] 29 (0, 0))) ∧ Aside0 (IsS72 w0 w' g s0_0 x1001_2 x1002_2) ∧ Aside0 (KeepBut w w' g none) ∧ Aside0 (Below w0.heap.size w0 w'))
   case atStart => exact ⟨(x6_3), (t849), (t850), (t851), (([] : List (S54))), (.slice none 0 0), (by first | rfl | (simp; done) | (simp [*]; done)), (by first | rfl | (simp; done) | (simp [*]; done)), H', ⟨Nat.le_refl _⟩, ⟨by first | exact R_nil _ _ _ _ _ | exact N_nil _ _ _ _ _ | exact V_nil _ _ _ _ _ | exact Q_nil _ _ _ _ _ | exact S_nil _ _ _ _ _⟩, ⟨by (with_reducible repeat (first | refine Za ?_ _ | refine Zb ?_ | refine blk_alloc ?_ _)); exact BK837.out⟩, ⟨by (with_reducible repeat (first | refine Za ?_ _ | refine Zb ?_ | refine blk_alloc ?_ _)); exact BK838.out⟩, ⟨by repeat (first | (with_reducible first | exact HI0.out | apply IsS72.alloc | apply IsS72.drewN | apply IsS72.drew | apply IsS72.set_1 | apply IsS72.set_2 | refine IsS72.far ?_ NB0_837.out _ | refine IsS72.far ?_ NB0_838.out _) | exact HI0.out)⟩, ⟨by repeat (first | (with_reducible first | exact HK.out | apply KeepBut.set_ | apply keep_drewN | apply keep_drew | apply keep_alloc | refine keep_far ?_ GW837.out _ | refine keep_far ?_ GW838.out _) | exact HK.out)⟩, ⟨by repeat (first | (with_reducible first | exact HB.out | apply Zf | apply Zd | apply Ze | refine Zg ?_ (IsS72.ge HI0.out) | refine Zg ?_ GE837.out | refine Zg ?_ GE838.out) | exact HB.out)⟩⟩
   case round =>
    clear H'
    try clear c1
    try clear p2
    try clear c5
    try clear c6
    try clear p6
    try clear c7
    try clear c8
    try clear c11
    try clear c15
    try clear c16
    try clear hcz17_0
    try clear hcz17_1
    try clear hcz17_2
    try clear hcz19_0
    try clear hcz19_1
    try clear hcz19_2
    try clear hcz9_0
    try clear hcz9_1
    try clear hcz9_2
    try clear hfz17_0
    try clear hfz17_1
    try clear hfz17_2
    try clear hfz19_0
    try clear hfz19_1
    try clear hfz19_2
    try clear hfz9_0
    try clear hfz9_1
    try clear hfz9_2
    try clear p2
    try clear p6
    obtain ⟨x6_2, x7_2, x1001_2, x1002_2, x839002_2, u839002, rfl, rfl, HA, HK2, HO_839002, BK837, BK838, HI0, HK, HB⟩ := hrel
    cases gk with
    | zero => exact absurd HA.out (by simp [spec_l05DrawLog.l0])
    | succ k2 =>
     have H := HA.out
     clear HA
     simp only [spec_l05DrawLog.l0] at H
     by_cases c23 : x7_2 > 0
     ·
      rw [if_pos c23] at H
      have c23b0 : decide (0 < x7_2) = true := decide_eq_true c23
      clear c23
      replace H := Option.bind_eq_some_iff.mp H
      obtain ⟨⟨t852, t853, t854⟩, A240, H⟩ := H
      replace H : ((spec_l01PickText.f s0_0 t853 t854 (([(⟨#[97]⟩ : ByteArray), (⟨#[98]⟩ : ByteArray), (⟨#[]⟩ : ByteArray), (⟨#[99, 99]⟩ : ByteArray)] : List ByteArray))).bind fun bt858 => (if x839002_2.length < 5864062014805 then (spec_l05DrawLog.l0 k2 (wrap64 (x6_2 + (wrap64 (Int.tdiv t852 4)))) (wrap64 (x7_2 - 1)) s0_0 bt858.2.1 bt858.2.2 x839000_3 x839001_3 (x839002_2 ++ [(⟨wrap64 (x6_2 + (wrap64 (Int.tdiv t852 4))), bt858.1⟩ : S54)])) else (none))) = some (r1, r2, r3, r4, r5) := H
      have A24 := Zh A240
      clear A240
      obtain ⟨y855, hy855⟩ : ∃ y_ : List ByteArray, y_ = (([(⟨#[97]⟩ : ByteArray), (⟨#[98]⟩ : ByteArray), (⟨#[]⟩ : ByteArray), (⟨#[99, 99]⟩ : ByteArray)] : List ByteArray)) := ⟨_, rfl⟩
      replace H : ((spec_l01PickText.f s0_0 t853 t854 y855).bind fun bt858 => (if x839002_2.length < 5864062014805 then (spec_l05DrawLog.l0 k2 (wrap64 (x6_2 + (wrap64 (Int.tdiv t852 4)))) (wrap64 (x7_2 - 1)) s0_0 bt858.2.1 bt858.2.2 x839000_3 x839001_3 (x839002_2 ++ [(⟨wrap64 (x6_2 + (wrap64 (Int.tdiv t852 4))), bt858.1⟩ : S54)])) else (none))) = some (r1, r2, r3, r4, r5) := by first | (rw [hy855]; with_reducible exact H) | (have H2_ := (Option.bind_some _ _).symm.trans H; rw [hy855]; with_reducible exact H2_) | (have H2_ := (Option.bind_some _ _).symm.trans H; with_reducible exact H2_) | with_reducible exact H | (rw [hy855]; exact H) | exact H
      have Ny855 := Zh hy855
      clear hy855
      replace H := Option.bind_eq_some_iff.mp H
      obtain ⟨⟨t858, t859, t860⟩, A250, H⟩ := H
      replace H : (if x839002_2.length < 5864062014805 then (spec_l05DrawLog.l0 k2 (wrap64 (x6_2 + (wrap64 (Int.tdiv t852 4)))) (wrap64 (x7_2 - 1)) s0_0 t859 t860 x839000_3 x839001_3 (x839002_2 ++ [(⟨wrap64 (x6_2 + (wrap64 (Int.tdiv t852 4))), t858⟩ : S54)])) else (none)) = some (r1, r2, r3, r4, r5) := H
      have A25 := Zh A250
      clear A250
      by_cases c26 : x839002_2.length < 5864062014805
      ·
       rw [if_pos c26] at H
       have LMc26 := Zh c26
       clear c26
       obtain ⟨y861, hy861⟩ : ∃ y_ : List (S54), y_ = (x839002_2 ++ [(⟨wrap64 (x6_2 + (wrap64 (Int.tdiv t852 4))), t858⟩ : S54)]) := ⟨_, rfl⟩
       replace H : (spec_l05DrawLog.l0 k2 (wrap64 (x6_2 + (wrap64 (Int.tdiv t852 4)))) (wrap64 (x7_2 - 1)) s0_0 t859 t860 x839000_3 x839001_3 y861) = some (r1, r2, r3, r4, r5) := by first | (rw [hy861]; with_reducible exact H) | (have H2_ := (Option.bind_some _ _).symm.trans H; rw [hy861]; with_reducible exact H2_) | (have H2_ := (Option.bind_some _ _).symm.trans H; with_reducible exact H2_) | with_reducible exact H | (rw [hy861]; exact H) | exact H
       have Ny861 := Zh hy861
       clear hy861
       have H' := Zh H
       clear H
       try go_wp2_with (first | ((with_reducible refine gate_callee (f := 57) rfl ?_); refine goesL_ (some 32) rfl rfl Try.func57 (by kernel_rfl) rfl #[.pointer (some ⟨g, 0, none⟩), .int .i64 5] rfl (by (try simp only [List.map_toArray, List.map_cons, List.map_nil]); first | done | rfl | (simp only [List.length_drop, List.length_take]; rfl)) ?_; (with_reducible refine (spec_l01Below.calls g s0_0 x1001_2 x1002_2 5 t852 t853 t854 w0 _ ?side1 ?side2 A24.out).mono ?_); (case side1 => repeat (first | (with_reducible first | exact HI0.out | apply IsS72.alloc | apply IsS72.drewN | apply IsS72.drew | apply IsS72.set_1 | apply IsS72.set_2 | refine IsS72.far ?_ NB0_837.out _ | refine IsS72.far ?_ NB0_838.out _) | exact HI0.out)); (case side2 => repeat (first | (with_reducible first | exact HB.out | apply Zf | apply Zd | apply Ze | refine Zg ?_ (IsS72.ge HI0.out) | refine Zg ?_ GE837.out | refine Zg ?_ GE838.out) | exact HB.out)); rintro e w27 ⟨rfl, hi, hb, hk⟩; refine ⟨_, rfl, ?_⟩; have n0_ := Zh (R_mono (R_keep (IsS72.apart (show IsS72 w0 _ g s0_0 x1001_2 x1002_2 from by repeat (first | (with_reducible first | exact HI0.out | apply IsS72.alloc | apply IsS72.drewN | apply IsS72.drew | apply IsS72.set_1 | apply IsS72.set_2 | refine IsS72.far ?_ NB0_837.out _ | refine IsS72.far ?_ NB0_838.out _) | exact HI0.out)) (by (with_reducible repeat (first | apply R_alloc | apply R_drewN | apply R_drew)); exact HO_839002.out) (by decide)) hk (fun _ h => h.2)) (fun _ h => h.1)); have n1_ := Zh (KeepBut.blk hk (g' := gb837) (o := .cells #[.int .i64 0, .int .i64 0, .slice none 0 0] 29 (0, 0)) Zk NB837_0.out (by simp)); have n2_ := Zh (KeepBut.blk hk (g' := gb838) (o := .cells #[.int .i64 x839000_3, .int .i64 x839001_3, u839002] 29 (0, 0)) Zk NB838_0.out (by simp)); have n3_ := Zh (KeepBut.trans (by repeat (first | (with_reducible first | exact HK.out | apply KeepBut.set_ | apply keep_drewN | apply keep_drew | apply keep_alloc | refine keep_far ?_ GW837.out _ | refine keep_far ?_ GW838.out _) | exact HK.out)) hk (.inl rfl)); have n4_ := Zh (hb); have n5_ := Zh (hi); clear HO_839002; clear BK837; clear BK838; clear HK; clear HB; clear HI0; have HO_839002 := n0_; have BK837 := n1_; have BK838 := n2_; have HK := n3_; have HB := n4_; have HI0 := n5_; clear n0_ n1_ n2_ n3_ n4_ n5_; (try clear hb); (try clear hb2); (try clear hk); (try clear hi)))
       have n0_ := Zh (R_drew HO_839002.out)
       have n1_ := Zh (Zb BK837.out)
       have n2_ := Zh (Zb BK838.out)
       have n3_ := Zh (IsS72.drew HI0.out)
       have n4_ := Zh (keep_drew HK.out)
       have n5_ := Zh (Ze HB.out)
       clear HO_839002
       clear BK837
       clear BK838
       clear HI0
       clear HK
       clear HB
       have HO_839002 := n0_
       have BK837 := n1_
       have BK838 := n2_
       have HI0 := n3_
       have HK := n4_
       have HB := n5_
       clear n0_ n1_ n2_ n3_ n4_ n5_
       refine start_ (n := 11) (S := fun w' => w'.cell? ⟨gb838, 0, none⟩ = some (.int .i64 x839000_3) ∧ w'.cell? ⟨gb838, 1, none⟩ = some (.int .i64 x839001_3) ∧ w'.cell? ⟨gb838, 2, none⟩ = some (u839002)) (ds := [10]) #[false, false, false, false, false, false, false, false, false, false, false] (by kernel_rfl) rfl rfl ⟨(blk_cell BK838.out 0).trans rfl, (blk_cell BK838.out 1).trans rfl, (blk_cell BK838.out 2).trans rfl⟩ (fun hHeld => ?_); refine with_tabW spec_l05DrawLog.tab11 spec_l05DrawLog.bits11 (fun HT_ HW_ => ?_)
       generalize w27.drew = w28 at HO_839002 BK837 BK838 HI0 HK HB hHeld ⊢
       refine pure_ (i := 0) (N := some 35) (v := ?_) (a' := ?_) #[true, false, false, false, false, false, false, false, false, false, false] rfl rfl (any_of HT_.out (by kernel_rfl)) (fun _ _ _ h => h) (Or.inl ⟨by rfl, ?_⟩) ?_ ?_
       rotate_left
       ·
        intro w'
        go_simp
        with_reducible rfl
       rotate_left
       ·
        simp only [Act.put, List.setIfInBounds_toArray, List.set_cons_zero, List.set_cons_succ, i64_w, i32_w]
        rfl
       refine pure_ (i := 2) (N := some 37) (v := ?_) (a' := ?_) #[true, false, true, false, false, false, false, false, false, false, false] rfl rfl (any_of HT_.out (by kernel_rfl)) (fun _ _ _ h => h) (Or.inl ⟨by rfl, ?_⟩) ?_ ?_
       rotate_left
       ·
        intro w'
        go_simp
        with_reducible rfl
       rotate_left
       ·
        simp only [Act.put, List.setIfInBounds_toArray, List.set_cons_zero, List.set_cons_succ, i64_w, i32_w]
        rfl
       refine pure_ (i := 3) (N := some 38) (v := ?_) (a' := ?_) #[true, false, true, true, false, false, false, false, false, false, false] rfl rfl (any_of HT_.out (by kernel_rfl)) (fun _ _ _ h => h) (Or.inl ⟨by rfl, ?_⟩) ?_ ?_
       rotate_left
       ·
        intro w'
        go_simp
        with_reducible rfl
       rotate_left
       ·
        simp only [Act.put, List.setIfInBounds_toArray, List.set_cons_zero, List.set_cons_succ, i64_w, i32_w]
        rfl
       refine take_ (i := 1) (N := some 36) (v := ?_) (a' := ?_) #[true, true, true, true, false, false, false, false, false, false, false] rfl rfl (take_ofW HT_.out HW_.out (by kernel_rfl)) (fun _ _ _ h => h) (Or.inl ⟨by rfl, ?_⟩) hHeld ?_ ?_
       rotate_left
       ·
        rintro w' ⟨s0, s1, s2⟩
        go_simp
        with_reducible rfl
       rotate_left
       ·
        simp only [Act.put, List.setIfInBounds_toArray, List.set_cons_zero, List.set_cons_succ, i64_w, i32_w]
        rfl
       refine one_ (i := 4) (N := some 39) #[true, true, true, true, true, false, false, false, false, false, false] rfl rfl (one_of HT_.out (by kernel_rfl)) (by decide) (fun K hK => ?_)
       refine R_lit_step Kd.string _ 9 ?hg (N := 39) ?hd (xs := ([(⟨#[97]⟩ : ByteArray), (⟨#[98]⟩ : ByteArray), (⟨#[]⟩ : ByteArray), (⟨#[99, 99]⟩ : ByteArray)] : List ByteArray)) (inner := [.string (⟨#[97]⟩ : ByteArray), .string (⟨#[98]⟩ : ByteArray), .string (⟨#[]⟩ : ByteArray), .string (⟨#[99, 99]⟩ : ByteArray)]) (ok := fun _ => True) (okp := fun _ => True) ?hr ?hp (fun _ hk => hk) trivial (Below.refl _ _) (Nat.le_refl _) (by simp) ?_; (case hd => rfl); (case hg => rfl); (case hr => first | (go_simp; done) | (go_simp; rfl)); (case hp => exact (Reps.one (show Kd.M Kd.string _ _ _ (⟨#[97]⟩ : ByteArray) [.string (⟨#[97]⟩ : ByteArray)] from rfl) (Reps.one (show Kd.M Kd.string _ _ _ (⟨#[98]⟩ : ByteArray) [.string (⟨#[98]⟩ : ByteArray)] from rfl) (Reps.one (show Kd.M Kd.string _ _ _ (⟨#[]⟩ : ByteArray) [.string (⟨#[]⟩ : ByteArray)] from rfl) (Reps.one (show Kd.M Kd.string _ _ _ (⟨#[99, 99]⟩ : ByteArray) [.string (⟨#[99, 99]⟩ : ByteArray)] from rfl) (Reps.none _ _))))))
       intro v856 w29 ho30 hb hg_ hnew_
       clear hg_ hnew_
       (first | rw [← Ny855.out] at ho30 | (simp only [Int.reduceToNat] at ho30; rw [← Ny855.out] at ho30))
       have n0_ := Zh (R_below (by (with_reducible repeat (first | apply R_alloc | apply R_drewN | apply R_drew)); exact HO_839002.out) hb)
       have n1_ := Zh (R_lower ho30 (keep_size (w := w) (g := g) (row := none) (by repeat (first | (with_reducible first | exact HK.out | apply KeepBut.set_ | apply keep_drewN | apply keep_drew | apply keep_alloc | refine keep_far ?_ GW837.out _ | refine keep_far ?_ GW838.out _) | exact HK.out))))
       have n2_ := Zh (Zm (g := gb837) (o := .cells #[.int .i64 0, .int .i64 0, .slice none 0 0] 29 (0, 0)) Zk hb)
       have n3_ := Zh (Zm (g := gb838) (o := .cells #[.int .i64 x839000_3, .int .i64 x839001_3, u839002] 29 (0, 0)) Zk hb)
       have n4_ := Zh (IsS72.below (by repeat (first | (with_reducible first | exact HI0.out | apply IsS72.alloc | apply IsS72.drewN | apply IsS72.drew | apply IsS72.set_1 | apply IsS72.set_2 | refine IsS72.far ?_ NB0_837.out _ | refine IsS72.far ?_ NB0_838.out _) | exact HI0.out)) hb)
       have n5_ := Zh (KeepBut.trans (by repeat (first | (with_reducible first | exact HK.out | apply KeepBut.set_ | apply keep_drewN | apply keep_drew | apply keep_alloc | refine keep_far ?_ GW837.out _ | refine keep_far ?_ GW838.out _) | exact HK.out)) (KeepBut.of_below hb g none) (.inl rfl))
       have n6_ := Zh (Zl (by repeat (first | (with_reducible first | exact HB.out | apply Zf | apply Zd | apply Ze | refine Zg ?_ (IsS72.ge HI0.out) | refine Zg ?_ GE837.out | refine Zg ?_ GE838.out) | exact HB.out)) hb)
       clear HO_839002
       clear BK837
       clear BK838
       clear HI0
       clear HK
       clear HB
       have HO_839002 := n0_
       have HO857 := n1_
       have BK837 := n2_
       have BK838 := n3_
       have HI0 := n4_
       have HK := n5_
       have HB := n6_
       clear n0_ n1_ n2_ n3_ n4_ n5_ n6_
       clear hb ho30
       obtain ⟨Ao31, co31, eo31⟩ := R_slice HO857.out
       (first | subst eo31 | (injection eo31 with f1_ f2_ f3_; have f4_ := f1_.symm; have f5_ := f3_.symm; clear f1_ f2_ f3_; subst f4_; subst f5_))
       refine hK.out _ _ ⟨(blk_cell BK838.out 0).trans rfl, (blk_cell BK838.out 1).trans rfl, (blk_cell BK838.out 2).trans rfl⟩ (fun hHeld => ?_)
       clear hK K
       refine norm_ (a' := ?_) ?_ ?_
       rotate_left
       ·
        show Act.put _ (some 39) _ = _
        simp only [Act.put, List.setIfInBounds_toArray, List.set_cons_zero, List.set_cons_succ, i64_w, i32_w]
        rfl
       refine one_ (i := 5) (N := some 40) #[true, true, true, true, true, true, false, false, false, false, false] rfl rfl (one_of HT_.out (by kernel_rfl)) (by decide) (fun K hK => ?_)
       refine goes_ Try.func62 (by kernel_rfl) rfl #[.pointer (some ⟨g, 0, none⟩), .slice Ao31 y855.length co31] (by rfl) rfl rfl (by (try simp only [List.map_toArray, List.map_cons, List.map_nil]); first | done | rfl | (simp only [List.length_drop, List.length_take]; rfl)) ?_
       with_reducible refine (spec_l01PickText.calls g s0_0 t853 t854 _ _ y855 t858 t859 t860 w0 _ ?side1 ?side2 ?side3 ?side4 ?side5 A25.out).mono ?_
       (case side1 => repeat (first | (with_reducible first | exact HI0.out | apply IsS72.alloc | apply IsS72.drewN | apply IsS72.drew | apply IsS72.set_1 | apply IsS72.set_2 | refine IsS72.far ?_ NB0_837.out _ | refine IsS72.far ?_ NB0_838.out _) | exact HI0.out))
       (case side2 => repeat (first | (with_reducible first | exact HB.out | apply Zf | apply Zd | apply Ze | refine Zg ?_ (IsS72.ge HI0.out) | refine Zg ?_ GE837.out | refine Zg ?_ GE838.out) | exact HB.out))
       (case side3 => repeat (first | exact (R_reads' HO857.out).2.2 | (with_reducible refine C_alloc ?_ _) | (with_reducible refine C_drewN ?_ _) | (with_reducible refine C_drew ?_)))
       (case side4 => exact (R_reads' HO857.out).2.1)
       (case side5 => exact far_slice (IsS72.own_ne HI0.out HO857.out (by decide)))
       rintro e w32 ⟨rfl, hi, hb, hk⟩
       refine ⟨_, rfl, ?_⟩
       have n0_ := Zh (R_mono (R_keep (IsS72.apart (show IsS72 w0 _ g s0_0 t853 t854 from by repeat (first | (with_reducible first | exact HI0.out | apply IsS72.alloc | apply IsS72.drewN | apply IsS72.drew | apply IsS72.set_1 | apply IsS72.set_2 | refine IsS72.far ?_ NB0_837.out _ | refine IsS72.far ?_ NB0_838.out _) | exact HI0.out)) (by (with_reducible repeat (first | apply R_alloc | apply R_drewN | apply R_drew)); exact HO_839002.out) (by decide)) hk (fun _ h => h.2)) (fun _ h => h.1))
       have n1_ := Zh (KeepBut.blk hk (g' := gb837) (o := .cells #[.int .i64 0, .int .i64 0, .slice none 0 0] 29 (0, 0)) Zk NB837_0.out (by simp))
       have n2_ := Zh (KeepBut.blk hk (g' := gb838) (o := .cells #[.int .i64 x839000_3, .int .i64 x839001_3, u839002] 29 (0, 0)) Zk NB838_0.out (by simp))
       have n3_ := Zh (R_mono (R_keep (IsS72.apart (show IsS72 w0 _ g s0_0 t853 t854 from by repeat (first | (with_reducible first | exact HI0.out | apply IsS72.alloc | apply IsS72.drewN | apply IsS72.drew | apply IsS72.set_1 | apply IsS72.set_2 | refine IsS72.far ?_ NB0_837.out _ | refine IsS72.far ?_ NB0_838.out _) | exact HI0.out)) (by (with_reducible repeat (first | apply R_alloc | apply R_drewN | apply R_drew)); exact HO857.out) (by decide)) hk (fun _ h => h.2)) (fun _ h => h.1))
       have n4_ := Zh (KeepBut.trans (by repeat (first | (with_reducible first | exact HK.out | apply KeepBut.set_ | apply keep_drewN | apply keep_drew | apply keep_alloc | refine keep_far ?_ GW837.out _ | refine keep_far ?_ GW838.out _) | exact HK.out)) hk (.inl rfl))
       have n5_ := Zh (hb)
       have n6_ := Zh (hi)
       clear HO_839002
       clear BK837
       clear BK838
       clear HO857
       clear HK
       clear HB
       clear HI0
       have HO_839002 := n0_
       have BK837 := n1_
       have BK838 := n2_
       have HO857 := n3_
       have HK := n4_
       have HB := n5_
       have HI0 := n6_
       clear n0_ n1_ n2_ n3_ n4_ n5_ n6_
       (try clear hb)
       (try clear hb2)
       (try clear hk)
       (try clear hi)
       refine hK.out _ _ ⟨(blk_cell BK838.out 0).trans rfl, (blk_cell BK838.out 1).trans rfl, (blk_cell BK838.out 2).trans rfl⟩ (fun hHeld => ?_)
       clear hK K
       refine norm_ (a' := ?_) ?_ ?_
       rotate_left
       ·
        show Act.put _ (some 40) _ = _
        simp only [Act.put, List.setIfInBounds_toArray, List.set_cons_zero, List.set_cons_succ, i64_w, i32_w]
        rfl
       refine pure_ (i := 6) (N := some 41) (v := ?_) (a' := ?_) #[true, true, true, true, true, true, true, false, false, false, false] rfl rfl (any_of HT_.out (by kernel_rfl)) (fun _ _ _ h => h) (Or.inl ⟨by rfl, ?_⟩) ?_ ?_
       rotate_left
       ·
        intro w'
        go_simp
        with_reducible rfl
       rotate_left
       ·
        simp only [Act.put, List.setIfInBounds_toArray, List.set_cons_zero, List.set_cons_succ, i64_w, i32_w]
        rfl
       refine one_ (i := 7) (N := some 42) #[true, true, true, true, true, true, true, true, false, false, false] rfl rfl (one_of HT_.out (by kernel_rfl)) (by decide) (fun K hK => ?_)
       refine value_ (w1 := ?_) (v := ?_) (by rfl) rfl ?_ ?_
       rotate_left 2
       ·
        go_simp
        constructor
        ·
         rfl
        rfl
       refine hK.out _ _ ⟨(blk_cell (blk_alloc BK838.out _) 0).trans rfl, (blk_cell (blk_alloc BK838.out _) 1).trans rfl, (blk_cell (blk_alloc BK838.out _) 2).trans rfl⟩ (fun hHeld => ?_)
       clear hK K
       refine norm_ (a' := ?_) ?_ ?_
       rotate_left
       ·
        show Act.put _ (some 42) _ = _
        simp only [Act.put, List.setIfInBounds_toArray, List.set_cons_zero, List.set_cons_succ, i64_w, i32_w]
        rfl
       refine one_ (i := 8) (N := some 43) #[true, true, true, true, true, true, true, true, true, false, false] rfl rfl (one_of HT_.out (by kernel_rfl)) (by decide) (fun K hK => ?_)
       refine R_append_step k54 w.heap.size (by rfl) (.tmp 36) (.tmp 42) 27 54 (.agg #[(.int .i64 0), (.string ⟨#[]⟩)]) 24 rfl Try.underlying27 info54 rfl (by decide) (by omega) u839002 x839002_2 (⟨wrap64 (x6_2 + (wrap64 (Int.tdiv t852 4))), t858⟩ : S54) [.int .i64 (wrap64 (x6_2 + (wrap64 (Int.tdiv t852 4)))), .string t858] (fun _ => True) (fun _ => False) rfl rfl ?aP (fun _ hk => hk.elim) ?aF ?aO (Below.refl _ _) ?aS ?aL ?_
       (case aP => exact k54_mkM _ _ _ (⟨wrap64 (x6_2 + (wrap64 (Int.tdiv t852 4))), t858⟩ : S54))
       (case aF => exact (fun _ _ => trivial))
       (case aO => exact (by (with_reducible repeat (first | apply R_alloc | apply R_drewN | apply R_drew)); exact HO_839002.out))
       (case aS => exact (keep_size (w := w) (g := g) (row := none) (by repeat (first | (with_reducible first | exact HK.out | apply KeepBut.set_ | apply keep_drewN | apply keep_drew | apply keep_alloc | refine keep_far ?_ GW837.out _ | refine keep_far ?_ GW838.out _) | exact HK.out))))
       (case aL => have := LMc26.out; omega)
       intro v862 w33 ho hb hg hat
       rw [← Ny861.out] at ho
       have n0_ := Zh (blk_grown (g := gb837) (o := .cells #[.int .i64 0, .int .i64 0, .slice none 0 0] 29 (0, 0)) Zk hg (R_ne HO_839002.out BK837.out (by decide)))
       have n1_ := Zh (blk_grown (g := gb838) (o := .cells #[.int .i64 x839000_3, .int .i64 x839001_3, u839002] 29 (0, 0)) Zk hg (R_ne HO_839002.out BK838.out (by decide)))
       have n2_ := Zh (IsS72.grown (show IsS72 w0 _ g s0_0 t859 t860 from by repeat (first | (with_reducible first | exact HI0.out | apply IsS72.alloc | apply IsS72.drewN | apply IsS72.drew | apply IsS72.set_1 | apply IsS72.set_2 | refine IsS72.far ?_ NB0_837.out _ | refine IsS72.far ?_ NB0_838.out _) | exact HI0.out)) hg (IsS72.own_ne HI0.out HO_839002.out (by decide)))
       have n3_ := Zh (R_over' (by (with_reducible repeat (first | apply R_alloc | apply R_drewN | apply R_drew)); exact HO857.out) (R_typed (by (with_reducible repeat (first | apply R_alloc | apply R_drewN | apply R_drew)); exact HO_839002.out)) (by decide) hg)
       have n4_ := Zh (below_weaken (by repeat (first | (with_reducible first | exact HB.out | apply Zf | apply Zd | apply Ze | refine Zg ?_ (IsS72.ge HI0.out) | refine Zg ?_ GE837.out | refine Zg ?_ GE838.out) | exact HB.out)) HL.out hb)
       have n5_ := Zh (KeepBut.trans (by repeat (first | (with_reducible first | exact HK.out | apply KeepBut.set_ | apply keep_drewN | apply keep_drew | apply keep_alloc | refine keep_far ?_ GW837.out _ | refine keep_far ?_ GW838.out _) | exact HK.out)) (KeepBut.of_grown hg g) (R_base2 HO_839002.out))
       have n6_ := Zh (ho)
       clear BK837
       clear BK838
       clear HI0
       clear HO857
       clear HB
       clear HK
       clear HO_839002
       have BK837 := n0_
       have BK838 := n1_
       have HI0 := n2_
       have HO857 := n3_
       have HB := n4_
       have HK := n5_
       have HO863 := n6_
       clear n0_ n1_ n2_ n3_ n4_ n5_ n6_
       clear ho hb hg hat
       obtain ⟨Ao34, co34, eo34⟩ := R_slice HO863.out
       (first | subst eo34 | (injection eo34 with f1_ f2_ f3_; have f4_ := f1_.symm; have f5_ := f3_.symm; clear f1_ f2_ f3_; subst f4_; subst f5_))
       refine hK.out _ _ ⟨(blk_cell BK838.out 0).trans rfl, (blk_cell BK838.out 1).trans rfl, (blk_cell BK838.out 2).trans rfl⟩ (fun hHeld => ?_)
       clear hK K
       refine norm_ (a' := ?_) ?_ ?_
       rotate_left
       ·
        show Act.put _ (some 43) _ = _
        simp only [Act.put, List.setIfInBounds_toArray, List.set_cons_zero, List.set_cons_succ, i64_w, i32_w]
        rfl
       refine pure_ (i := 9) (N := some 44) (v := ?_) (a' := ?_) #[true, true, true, true, true, true, true, true, true, true, false] rfl rfl (any_of HT_.out (by kernel_rfl)) (fun _ _ _ h => h) (Or.inl ⟨by rfl, ?_⟩) ?_ ?_
       rotate_left
       ·
        intro w'
        go_simp
        with_reducible rfl
       rotate_left
       ·
        simp only [Act.put, List.setIfInBounds_toArray, List.set_cons_zero, List.set_cons_succ, i64_w, i32_w]
        rfl
       refine last_ (i := 10) (N := none) #[true, true, true, true, true, true, true, true, true, true, true] rfl rfl (one_of HT_.out (by kernel_rfl)) (by decide) (fun K hK => ?_)
       have hs35 : w33.cell? ⟨gb838, 2, none⟩ = some (u839002) := (blk_cell BK838.out 2).trans rfl
       have hfs35 := Zn BK838.out 2
       have hns35_0 := NB837_838.out
       have hms35_0 := NB838_837.out
       refine skip_ (w1 := ?_) (by rfl) rfl ?_ ?_
       rotate_left
       ·
        go_simp
        rfl
       refine hK.out _ _ ?_
       clear hK K
       refine done_ (done_of HT_.out (by kernel_rfl)) ?_
       try go_wp2
       go_roundg k2
       case measure => have := HJ3.out; have := HK2.out; omega
       case rel => exact ⟨(wrap64 (x6_2 + (wrap64 (Int.tdiv t852 4)))), (wrap64 (x7_2 - 1)), (t859), (t860), (y861), (.slice Ao34 y861.length co34), (by first | rfl | (simp; done) | (simp [*]; done)), (by first | rfl | (simp; done) | (simp [*]; done)), H', ⟨by have := HJ3.out; have := HK2.out; omega⟩, ⟨by (with_reducible repeat (first | apply R_alloc | apply R_drewN | apply R_drew)); exact R_mono (R_far (p := ⟨gb838, 2, none⟩) (R_types HO863.out BK838.out (by decide)) (fun _ hk => hk.2) (.slice Ao34 y861.length co34)) (fun _ hk => trivial)⟩, ⟨by (with_reducible repeat (first | refine Za ?_ _ | refine Zb ?_ | refine blk_alloc ?_ _)); refine Zp ?_ NB837_838.out _; (with_reducible repeat (first | refine Za ?_ _ | refine Zb ?_ | refine blk_alloc ?_ _)); exact BK837.out⟩, ⟨by (with_reducible repeat (first | refine Za ?_ _ | refine Zb ?_ | refine blk_alloc ?_ _)); refine blk_put (cs := #[.int .i64 x839000_3, .int .i64 x839001_3, u839002]) ?_ 2 _ rfl; (with_reducible repeat (first | refine Za ?_ _ | refine Zb ?_ | refine blk_alloc ?_ _)); exact BK838.out⟩, ⟨by repeat (first | (with_reducible first | exact HI0.out | apply IsS72.alloc | apply IsS72.drewN | apply IsS72.drew | apply IsS72.set_1 | apply IsS72.set_2 | refine IsS72.far ?_ NB0_837.out _ | refine IsS72.far ?_ NB0_838.out _) | exact HI0.out)⟩, ⟨by repeat (first | (with_reducible first | exact HK.out | apply KeepBut.set_ | apply keep_drewN | apply keep_drew | apply keep_alloc | refine keep_far ?_ GW837.out _ | refine keep_far ?_ GW838.out _) | exact HK.out)⟩, ⟨by repeat (first | (with_reducible first | exact HB.out | apply Zf | apply Zd | apply Ze | refine Zg ?_ (IsS72.ge HI0.out) | refine Zg ?_ GE837.out | refine Zg ?_ GE838.out) | exact HB.out)⟩⟩
      rw [if_neg c26] at H
      exact absurd H (by simp)
     rw [if_neg c23] at H
     have c23b0 : decide (0 < x7_2) = false := decide_eq_false c23
     clear c23
     simp only [Option.some.injEq, Prod.mk.injEq] at H
     obtain ⟨rfl, rfl, rfl, rfl, rfl⟩ := H
     have hnb36 := NB838_837.out
     have hnc36 := NB837_838.out
     have hnb37 := NB838_0.out
     have hnc37 := NB0_838.out
     have hcz38_0 : wr.cell? ⟨gb838, 0, none⟩ = some (.int .i64 x839000_3) := (blk_cell BK838.out 0).trans rfl
     have hcz38_1 : wr.cell? ⟨gb838, 1, none⟩ = some (.int .i64 x839001_3) := (blk_cell BK838.out 1).trans rfl
     have hcz38_2 : wr.cell? ⟨gb838, 2, none⟩ = some (u839002) := (blk_cell BK838.out 2).trans rfl
     have hfz38_0 := Zn BK838.out 0
     have hfz38_1 := Zn BK838.out 1
     have hfz38_2 := Zn BK838.out 2
     have hnb39 := NB837_0.out
     have hnc39 := NB0_837.out
     have hcz40_0 : wr.cell? ⟨gb837, 0, none⟩ = some (.int .i64 0) := (blk_cell BK837.out 0).trans rfl
     have hcz40_1 : wr.cell? ⟨gb837, 1, none⟩ = some (.int .i64 0) := (blk_cell BK837.out 1).trans rfl
     have hcz40_2 : wr.cell? ⟨gb837, 2, none⟩ = some (.slice none 0 0) := (blk_cell BK837.out 2).trans rfl
     have hfz40_0 := Zn BK837.out 0
     have hfz40_1 := Zn BK837.out 1
     have hfz40_2 := Zn BK837.out 2
     obtain ⟨Ao41, co41, eo41⟩ := R_slice HO_839002.out
     subst eo41
     go_wp2
     refine bodyPost_ret (results_cell_row rfl _ _ gb837 29 #[.int .i64 x839000_3, .int .i64 x839001_3, .slice Ao41 x839002_2.length co41] (0, 0) _ rfl (by (with_reducible repeat (first | refine Za ?_ _ | refine Zb ?_ | refine blk_alloc ?_ _)); refine blk_put (cs := #[.int .i64 x839000_3, .int .i64 x839001_3, .slice none 0 0]) ?_ 2 _ rfl; (with_reducible repeat (first | refine Za ?_ _ | refine Zb ?_ | refine blk_alloc ?_ _)); refine blk_put (cs := #[.int .i64 x839000_3, .int .i64 0, .slice none 0 0]) ?_ 1 _ rfl; (with_reducible repeat (first | refine Za ?_ _ | refine Zb ?_ | refine blk_alloc ?_ _)); refine blk_put (cs := #[.int .i64 0, .int .i64 0, .slice none 0 0]) ?_ 0 _ rfl; (with_reducible repeat (first | refine Za ?_ _ | refine Zb ?_ | refine blk_alloc ?_ _)); exact BK837.out) Try.underlying29 rfl (by kernel_rfl)) rfl ?_
     exact ⟨_, by first | rfl | (simp [errW_none, errW_some] <;> rfl) | (simp [*, errW_none, errW_some] <;> rfl), by (with_reducible repeat (first | apply R_alloc | apply R_drewN | apply R_drew)); exact R_mono (R_far (p := ⟨gb837, 2, none⟩) (R_far (p := ⟨gb837, 1, none⟩) (R_far (p := ⟨gb837, 0, none⟩) (R_types HO_839002.out BK837.out (by decide)) (fun _ hk => hk.2) (.int .i64 x839000_3)) (fun _ hk => hk.2) (.int .i64 x839001_3)) (fun _ hk => hk.2) (.slice Ao41 x839002_2.length co41)) (fun _ hk => trivial), by repeat (first | (with_reducible first | exact HI0.out | apply IsS72.alloc | apply IsS72.drewN | apply IsS72.drew | apply IsS72.set_1 | apply IsS72.set_2 | refine IsS72.far ?_ NB0_837.out _ | refine IsS72.far ?_ NB0_838.out _) | exact HI0.out), by repeat (first | (with_reducible first | exact HB.out | apply Zf | apply Zd | apply Ze | refine Zg ?_ (IsS72.ge HI0.out) | refine Zg ?_ GE837.out | refine Zg ?_ GE838.out) | exact HB.out), by repeat (first | (with_reducible first | exact HK.out | apply KeepBut.set_ | apply keep_drewN | apply keep_drew | apply keep_alloc | refine keep_far ?_ GW837.out _ | refine keep_far ?_ GW838.out _) | exact HK.out)⟩
def spec_LastIndex.f (k : Nat) (a0_0 : Int) (a0_1 : Int) (l0_2 : List (S54)) : Option (Int) := (spec_RLogOk.f k a0_0 a0_1 l0_2).bind fun t168 => (if t168 = true then (some (wrap64 (a0_0 + (l0_2.length : Int)))) else (some (-1)))
set_option maxHeartbeats 8000000 in
set_option maxRecDepth 100000 in
theorem spec_LastIndex.calls (k : Nat) (a0_0 : Int) (a0_1 : Int) (A0_2 : Option Addr) (c0_2 : Nat) (l0_2 : List (S54)) (r : Int) (w : World) (hr0_2 : Kd.C k54 w A0_2 l0_2.length l0_2) (hc0_2 : l0_2.length ≤ c0_2) (h : spec_LastIndex.f k a0_0 a0_1 l0_2 = some r) :
  Calls Try.prog 18 #[.agg #[.int .i64 a0_0, .int .i64 a0_1, .slice A0_2 l0_2.length c0_2]] w fun e w' => e = .returned (.int .i64 r) ∧ Below w.heap.size w w' := by
 have hu29 := Try.underlying29
 have HR0_2 := Zh hr0_2
 have HC0_2 := Zh hc0_2
 clear hr0_2 hc0_2
 have HB := Zh (Below.refl w.heap.size w)
 have H : ((spec_RLogOk.f k a0_0 a0_1 l0_2).bind fun t168 => (if t168 = true then (some (wrap64 (a0_0 + (l0_2.length : Int)))) else (some (-1)))) = some r := h
 clear h
 replace H := Option.bind_eq_some_iff.mp H
 obtain ⟨t168, A20, H⟩ := H
 replace H : (if t168 = true then (some (wrap64 (a0_0 + (l0_2.length : Int)))) else (some (-1))) = some r := H
 have A2 := Zh A20
 clear A20
 by_cases c3 : t168 = true
 ·
  subst c3
  have H1 : (some (wrap64 (a0_0 + (l0_2.length : Int)))) = some r := by rw [if_pos rfl] at H; exact H
  clear H
  have H := H1
  clear H1
  obtain rfl := Option.some.inj H
  go_enter Try.func18, Try.ntmps18
  go_wp2_with (first | ((with_reducible refine gate_dst (N := 1) rfl ?_); refine box_event ?hg (N := 1) ?hd (cs := #[.int .i64 a0_0, .int .i64 a0_1, .slice A0_2 l0_2.length c0_2]) (t := 29) ?hr ?_; (case hd => rfl); (case hg => rfl); (case hr => first | (go_simp; done) | (go_simp; rfl)); intro gb167 hg w4 hbox hb; have n0_ := Zh (Zl Zs hb); have n1_ := Zh (hbox); have n2_ := Zh ((by rw [hg]; exact (below_size Zs) : w.heap.size ≤ gb167)); have n3_ := Zh ((by rw [hg]; exact (below_size Zs) : w.heap.size ≤ gb167)); clear HB; have HB := n0_; have BK167 := n1_; have GW167 := n2_; have GE167 := n3_; clear n0_ n1_ n2_ n3_; clear hb hbox hg; have hcz5_0 : w4.cell? ⟨gb167, 0, none⟩ = some (.int .i64 a0_0) := (blk_cell BK167.out 0).trans rfl; have hcz5_1 : w4.cell? ⟨gb167, 1, none⟩ = some (.int .i64 a0_1) := (blk_cell BK167.out 1).trans rfl; have hcz5_2 : w4.cell? ⟨gb167, 2, none⟩ = some (.slice A0_2 l0_2.length c0_2) := (blk_cell BK167.out 2).trans rfl; have hfz5_0 := Zn BK167.out 0; have hfz5_1 := Zn BK167.out 1; have hfz5_2 := Zn BK167.out 2) | ((with_reducible refine gate_callee (f := 14) rfl ?_); refine goesL_ (some 4) rfl rfl Try.func14 (by kernel_rfl) rfl #[.agg #[.int .i64 a0_0, .int .i64 a0_1, .slice A0_2 l0_2.length c0_2]] rfl (by (try simp only [List.map_toArray, List.map_cons, List.map_nil]); first | done | rfl | (simp only [List.length_drop, List.length_take]; rfl)) ?_; (with_reducible refine (spec_RLogOk.calls k a0_0 a0_1 _ _ l0_2 true _ ?side1 ?side2 A2.out).mono ?_); (case side1 => repeat (first | exact (C_below HR0_2.out HB.out) | (with_reducible refine C_alloc ?_ _) | (with_reducible refine C_drewN ?_ _) | (with_reducible refine C_drew ?_))); (case side2 => exact HC0_2.out); rintro e w6 ⟨rfl, hb⟩; refine ⟨_, rfl, ?_⟩; have n0_ := Zh (Zm (g := gb167) (o := .cells #[.int .i64 a0_0, .int .i64 a0_1, .slice A0_2 l0_2.length c0_2] 29 (0, 0)) Zk hb); have n1_ := Zh (Zl Zs hb); clear BK167; clear HB; have BK167 := n0_; have HB := n1_; clear n0_ n1_; (try clear hb); (try clear hb2); (try clear hk); (try clear hi); have hcz7_0 : w6.cell? ⟨gb167, 0, none⟩ = some (.int .i64 a0_0) := (blk_cell BK167.out 0).trans rfl; have hcz7_1 : w6.cell? ⟨gb167, 1, none⟩ = some (.int .i64 a0_1) := (blk_cell BK167.out 1).trans rfl; have hcz7_2 : w6.cell? ⟨gb167, 2, none⟩ = some (.slice A0_2 l0_2.length c0_2) := (blk_cell BK167.out 2).trans rfl; have hfz7_0 := Zn BK167.out 0; have hfz7_1 := Zn BK167.out 1; have hfz7_2 := Zn BK167.out 2))
  go_ret
  exact ⟨by first | rfl | (simp [errW_none, errW_some] <;> rfl) | (simp [*, errW_none, errW_some] <;> rfl), by repeat (first | (with_reducible first | exact HB.out | apply Zf | apply Zd | apply Ze | refine Zg ?_ GE167.out) | exact HB.out)⟩
 replace c3 := Bool.eq_false_iff.mpr c3
 subst c3
 have H1 : (some (-1)) = some r := by rw [if_neg (show ¬ (false = true) by decide)] at H; exact H
 clear H
 have H := H1
 clear H1
 obtain rfl := Option.some.inj H
 go_enter Try.func18, Try.ntmps18
 go_wp2_with (first | ((with_reducible refine gate_dst (N := 1) rfl ?_); refine box_event ?hg (N := 1) ?hd (cs := #[.int .i64 a0_0, .int .i64 a0_1, .slice A0_2 l0_2.length c0_2]) (t := 29) ?hr ?_; (case hd => rfl); (case hg => rfl); (case hr => first | (go_simp; done) | (go_simp; rfl)); intro gb167 hg w8 hbox hb; have n0_ := Zh (Zl Zs hb); have n1_ := Zh (hbox); have n2_ := Zh ((by rw [hg]; exact (below_size Zs) : w.heap.size ≤ gb167)); have n3_ := Zh ((by rw [hg]; exact (below_size Zs) : w.heap.size ≤ gb167)); clear HB; have HB := n0_; have BK167 := n1_; have GW167 := n2_; have GE167 := n3_; clear n0_ n1_ n2_ n3_; clear hb hbox hg; have hcz9_0 : w8.cell? ⟨gb167, 0, none⟩ = some (.int .i64 a0_0) := (blk_cell BK167.out 0).trans rfl; have hcz9_1 : w8.cell? ⟨gb167, 1, none⟩ = some (.int .i64 a0_1) := (blk_cell BK167.out 1).trans rfl; have hcz9_2 : w8.cell? ⟨gb167, 2, none⟩ = some (.slice A0_2 l0_2.length c0_2) := (blk_cell BK167.out 2).trans rfl; have hfz9_0 := Zn BK167.out 0; have hfz9_1 := Zn BK167.out 1; have hfz9_2 := Zn BK167.out 2) | ((with_reducible refine gate_callee (f := 14) rfl ?_); refine goesL_ (some 4) rfl rfl Try.func14 (by kernel_rfl) rfl #[.agg #[.int .i64 a0_0, .int .i64 a0_1, .slice A0_2 l0_2.length c0_2]] rfl (by (try simp only [List.map_toArray, List.map_cons, List.map_nil]); first | done | rfl | (simp only [List.length_drop, List.length_take]; rfl)) ?_; (with_reducible refine (spec_RLogOk.calls k a0_0 a0_1 _ _ l0_2 false _ ?side1 ?side2 A2.out).mono ?_); (case side1 => repeat (first | exact (C_below HR0_2.out HB.out) | (with_reducible refine C_alloc ?_ _) | (with_reducible refine C_drewN ?_ _) | (with_reducible refine C_drew ?_))); (case side2 => exact HC0_2.out); rintro e w10 ⟨rfl, hb⟩; refine ⟨_, rfl, ?_⟩; have n0_ := Zh (Zm (g := gb167) (o := .cells #[.int .i64 a0_0, .int .i64 a0_1, .slice A0_2 l0_2.length c0_2] 29 (0, 0)) Zk hb); have n1_ := Zh (Zl Zs hb); clear BK167; clear HB; have BK167 := n0_; have HB := n1_; clear n0_ n1_; (try clear hb); (try clear hb2); (try clear hk); (try clear hi)))
 go_ret
 exact ⟨by first | rfl | (simp [errW_none, errW_some] <;> rfl) | (simp [*, errW_none, errW_some] <;> rfl), by repeat (first | (with_reducible first | exact HB.out | apply Zf | apply Zd | apply Ze | refine Zg ?_ GE167.out) | exact HB.out)⟩
end Go.Proofs.Ytalbkbmnjpameaa.F
