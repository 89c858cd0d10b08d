/- Merged texts below the law FnAppended: Go functions as Lean functions, their contracts, and plain lemmas. -/
import Derived.Test.YtalbkbmnjpameaaQFnAppended22
namespace Go.Proofs.Ytalbkbmnjpameaa.F
open Go.RowKit Go.Proofs.YtalbkbmnjpameaaW.PrintWords Go.Proofs.YtalbkbmnjpameaaW.PrintWords.Kd Go.Proofs.YtalbkbmnjpameaaW.PrintMore.Kd Go.Proofs.YtalbkbmnjpameaaW.PrintLast Go.Proofs.YtalbkbmnjpameaaW.PrintMore
attribute [local go_sem] max2_int min2_int max_two min_two max_three min_three max_four min_four   -- for this text's walks alone
set_option linter.unusedVariables false
set_option linter.unusedSimpArgs false
mutual
def spec_AppendTo.j0 : Nat → Int → List (S54) → Bool → Int → Int → List (S54) → Option (Int × Int × (List (S54)) × Bool)
 | 0, _, _, _, _, _, _ => none
 | k + 1, x1, x3, x31, x586000, x586001, x586002 => if x31 = true then ((spec_l05Copy.f k x586000 x586001 x586002).bind fun bt589 => (some (bt589.1, bt589.2.1, bt589.2.2, false))) else ((spec_l05Copy.f k x586000 x586001 x586002).bind fun bt594 => (spec_AppendTo.l0 k x1 x3 0 x586000 x586001 x586002 bt594.1 bt594.2.1 bt594.2.2))
def spec_AppendTo.l0 : Nat → Int → List (S54) → Int → Int → Int → List (S54) → Int → Int → List (S54) → Option (Int × Int × (List (S54)) × Bool)
 | 0, _, _, _, _, _, _, _, _, _ => none
 | k + 1, x1, x3, x11, x586000, x586001, x586002, x600000, x600001, x600002 => if x11 < (x3.length : Int) then (if (wrap64 ((wrap64 (x1 + x11)) - x586000)) < (x600002.length : Int) then (if 0 ≤ (wrap64 ((wrap64 (x1 + x11)) - x586000)) then (if 0 ≤ x11 then (spec_AppendTo.j2 k x1 x3 x11 (wrap64 ((wrap64 (x1 + x11)) - x586000)) (((rd_T54 x600002 (wrap64 ((wrap64 (x1 + x11)) - x586000))).f0) == ((rd_T54 x3 x11).f0)) x586000 x586001 x586002 x600000 x600001 x600002) else (none)) else (none)) else (spec_AppendTo.j2 k x1 x3 x11 (wrap64 ((wrap64 (x1 + x11)) - x586000)) false x586000 x586001 x586002 x600000 x600001 x600002)) else ((spec_RLogOk.f k x600000 x600001 x600002).bind fun t613 => (if t613 = true then ((spec_l05Copy.f k x600000 x600001 x600002).bind fun bt614 => (some (bt614.1, bt614.2.1, bt614.2.2, true))) else ((spec_l05Copy.f k x586000 x586001 x586002).bind fun bt619 => (some (bt619.1, bt619.2.1, bt619.2.2, false)))))
def spec_AppendTo.j2 : Nat → Int → List (S54) → Int → Int → Bool → Int → Int → List (S54) → Int → Int → List (S54) → Option (Int × Int × (List (S54)) × Bool)
 | 0, _, _, _, _, _, _, _, _, _, _, _ => none
 | k + 1, x1, x3, x11, x12, x66, x586000, x586001, x586002, x600000, x600001, x600002 => if x66 = true then (spec_AppendTo.l0 k x1 x3 (wrap64 (x11 + 1)) x586000 x586001 x586002 x600000 x600001 x600002) else (if x12 < (x600002.length : Int) then (if 0 ≤ x12 then (if x12 ≤ (x600002.length : Int) then ((some (x600002.take (x12 : Int).toNat : List (S54))).bind fun y602 => (if 0 ≤ x11 then (if x11 < (x3.length : Int) then (if y602.length < 5864062014805 then (spec_AppendTo.l0 k x1 x3 (wrap64 (x11 + 1)) x586000 x586001 x586002 x600000 x600001 (y602 ++ [(⟨(rd_T54 x3 x11).f0, (rd_T54 x3 x11).f1⟩ : S54)])) else (none)) else (none)) else (none))) else (none)) else (none)) else (if 0 ≤ x11 then (if x11 < (x3.length : Int) then (if x600002.length < 5864062014805 then (spec_AppendTo.l0 k x1 x3 (wrap64 (x11 + 1)) x586000 x586001 x586002 x600000 x600001 (x600002 ++ [(⟨(rd_T54 x3 x11).f0, (rd_T54 x3 x11).f1⟩ : S54)])) else (none)) else (none)) else (none)))
end
def spec_AppendTo.f (k : Nat) (a0_0 : Int) (a0_1 : Int) (l0_2 : List (S54)) (a1 : Int) (a2 : Int) (l3 : List (S54)) : Option (Int × Int × (List (S54)) × Bool) := (spec_RLogOk.f k a0_0 a0_1 l0_2).bind fun t587 => (if t587 = true then ((spec_TermAt.f k a0_0 a0_1 l0_2 a1).bind fun t588 => (if t588 = a2 then (if a2 < 0 then (spec_AppendTo.j0 k a1 l3 true a0_0 a0_1 l0_2) else (spec_AppendTo.j0 k a1 l3 (decide ((l3.length : Int) > 10)) a0_0 a0_1 l0_2)) else (spec_AppendTo.j0 k a1 l3 true a0_0 a0_1 l0_2))) else (spec_AppendTo.j0 k a1 l3 true a0_0 a0_1 l0_2))
def spec_AppendTo.T8 : Bool × List (List Nat × List Nat) := (true, [([], []), ([], []), ([1], [1]), ([2], [2]), ([0, 3], [0, 3]), ([4], [4]), ([5], [5]), ([6, 5], [5, 6]), ([5], [5]), ([7, 8, 5], [5, 7, 8]), ([9, 5], [5, 9]), ([10, 5], [5, 10]), ([5], [5]), ([5], [5]), ([12, 13, 5], [5, 12, 13]), ([14, 5], [5, 14]), ([15, 5], [5, 15]), ([11, 16, 5], [5, 11, 16]), ([5, 17], [5, 17])])
def spec_AppendTo.B8 : List Nat := [0, 0, 2, 6, 15, 31, 63, 127, 63, 511, 1023, 2047, 63, 63, 12351, 28735, 61503, 131071, 262143]
theorem spec_AppendTo.tab8 : rtab .any (opsOf Try.f36 8) = spec_AppendTo.T8 := by kernel_rfl
theorem spec_AppendTo.bits8 : waitsOk spec_AppendTo.T8.2 spec_AppendTo.B8 = true := by kernel_rfl
def spec_AppendTo.T11 : Bool × List (List Nat × List Nat) := (true, [([], []), ([0], [0]), ([], []), ([], []), ([2, 3], [2, 3]), ([4], [4]), ([5], [5]), ([1, 6], [1, 6]), ([0, 1, 2, 3, 4, 5, 6, 7], []), ([8, 7, 7, 0, 1, 2, 3, 4, 5, 6, 7], [7, 8])])
def spec_AppendTo.B11 : List Nat := [0, 1, 0, 0, 12, 28, 60, 127, 255, 511]
theorem spec_AppendTo.tab11 : rtab .any (opsOf Try.f36 11) = spec_AppendTo.T11 := by kernel_rfl
theorem spec_AppendTo.bits11 : waitsOk spec_AppendTo.T11.2 spec_AppendTo.B11 = true := by kernel_rfl
set_option maxHeartbeats 8000000 in
set_option maxRecDepth 100000 in
theorem spec_AppendTo.calls (k : Nat) (a0_0 : Int) (a0_1 : Int) (A0_2 : Option Addr) (c0_2 : Nat) (l0_2 : List (S54)) (a1 : Int) (a2 : Int) (A3 : Option Addr) (c3 : Nat) (l3 : List (S54)) (r1 : Int) (r2 : Int) (r3 : List (S54)) (r4 : Bool) (w : World) (hr0_2 : Kd.C k54 w A0_2 l0_2.length l0_2) (hc0_2 : l0_2.length ≤ c0_2) (hr3 : Kd.C k54 w A3 l3.length l3) (hc3 : l3.length ≤ c3) (h : spec_AppendTo.f k a0_0 a0_1 l0_2 a1 a2 l3 = some (r1, r2, r3, r4)) :
  Calls Try.prog 36 #[.agg #[.int .i64 a0_0, .int .i64 a0_1, .slice A0_2 l0_2.length c0_2], .int .i64 a1, .int .i64 a2, .slice A3 l3.length c3] w fun e w' => ∃ v2_ : Value, e = .returned (.tuple #[.agg #[.int .i64 r1, .int .i64 r2, v2_], .bool r4]) ∧ Kd.R k54 54 w' w.heap.size (fun _ => True) v2_ r3 ∧ Below w.heap.size w w' := by
 have hu29 := Try.underlying29
 have hu54 := Try.underlying54
 have HR0_2 := Zh hr0_2
 have HC0_2 := Zh hc0_2
 clear hr0_2 hc0_2
 have HR3 := Zh hr3
 have HC3 := Zh hc3
 clear hr3 hc3
 have HB := Zh (Below.refl w.heap.size w)
 have H : ((spec_RLogOk.f k a0_0 a0_1 l0_2).bind fun t587 => (if t587 = true then ((spec_TermAt.f k a0_0 a0_1 l0_2 a1).bind fun t588 => (if t588 = a2 then (if a2 < 0 then (spec_AppendTo.j0 k a1 l3 true a0_0 a0_1 l0_2) else (spec_AppendTo.j0 k a1 l3 (decide ((l3.length : Int) > 10)) a0_0 a0_1 l0_2)) else (spec_AppendTo.j0 k a1 l3 true a0_0 a0_1 l0_2))) else (spec_AppendTo.j0 k a1 l3 true a0_0 a0_1 l0_2))) = some (r1, r2, r3, r4) := h
 clear h
 have HC5 := Zh H
 clear H
 go_enter Try.func36, Try.ntmps36
 go_upto_region 1 with (first | ((with_reducible refine gate_dst (N := 4) rfl ?_); (try (refine gate_guard (by rfl) ?_; dsimp only)); refine box_event ?hg (N := 4) ?hd (cs := #[.int .i64 a0_0, .int .i64 a0_1, .slice A0_2 l0_2.length c0_2]) (t := 29) ?hr ?_; (case hd => rfl); (case hg => rfl); (case hr => first | (go_simp; done) | (go_simp; rfl)); intro gb585 hg w6 hbox hb; have n0_ := Zh (Zl Zs hb); have n1_ := Zh (hbox); have n2_ := Zh ((by rw [hg]; exact (below_size Zs) : w.heap.size ≤ gb585)); have n3_ := Zh ((by rw [hg]; exact (below_size Zs) : w.heap.size ≤ gb585)); clear HB; have HB := n0_; have BK585 := n1_; have GW585 := n2_; have GE585 := n3_; clear n0_ n1_ n2_ n3_; clear hb hbox hg) | ((with_reducible refine gate_dst (N := 8) rfl ?_); (try (refine gate_guard (by rfl) ?_; dsimp only)); refine box_event ?hg (N := 8) ?hd (cs := #[.int .i64 0, .int .i64 0, .slice none 0 0]) (t := 29) ?hr ?_; (case hd => rfl); (case hg => rfl); (case hr => first | (go_simp; done) | (go_simp; rfl)); intro gb586 hg w7 hbox hb; have n0_ := Zh (Zm (g := gb585) (o := .cells #[.int .i64 a0_0, .int .i64 a0_1, .slice A0_2 l0_2.length c0_2] 29 (0, 0)) Zk hb); have n1_ := Zh (Zl Zs hb); have n2_ := Zh (hbox); have n3_ := Zh ((by rw [hg]; exact (below_size Zs) : w.heap.size ≤ gb586)); have n4_ := Zh ((by rw [hg]; exact (below_size Zs) : w.heap.size ≤ gb586)); have n5_ := Zh ((by rw [hg]; exact Nat.ne_of_lt (blk_lt (g := gb585) (o := .cells #[.int .i64 a0_0, .int .i64 a0_1, .slice A0_2 l0_2.length c0_2] 29 (0, 0)) Zk) : gb585 ≠ gb586)); have n6_ := Zh ((by rw [hg]; exact Nat.ne_of_gt (blk_lt (g := gb585) (o := .cells #[.int .i64 a0_0, .int .i64 a0_1, .slice A0_2 l0_2.length c0_2] 29 (0, 0)) Zk) : gb586 ≠ gb585)); clear BK585; clear HB; have BK585 := n0_; have HB := n1_; have BK586 := n2_; have GW586 := n3_; have GE586 := n4_; have NB585_586 := n5_; have NB586_585 := n6_; clear n0_ n1_ n2_ n3_ n4_ n5_ n6_; clear hb hbox hg))
 (try simp only [Act.put, List.setIfInBounds_toArray, List.set_cons_zero, List.set_cons_succ])
 go_cut [31] (fun v31 wc => ∃ (kq : Nat) (x31_4 : Bool), v31 = .bool x31_4 ∧ Aside0 (spec_AppendTo.j0 kq a1 l3 x31_4 a0_0 a0_1 l0_2 = some (r1, r2, r3, r4)) ∧ Aside0 (kq ≤ k) ∧ Aside0 (wc.heap[gb585]? = some (.cells #[.int .i64 a0_0, .int .i64 a0_1, (.slice A0_2 l0_2.length c0_2)] 29 (0, 0))) ∧ Aside0 (wc.heap[gb586]? = some (.cells #[.int .i64 0, .int .i64 0, (.slice none 0 0)] 29 (0, 0))) ∧ Aside0 (Below w.heap.size w wc))
 case first =>
  have H := HC5.out
  clear HC5
  replace H := Option.bind_eq_some_iff.mp H
  obtain ⟨t587, A80, H⟩ := H
  replace H : (if t587 = true then ((spec_TermAt.f k a0_0 a0_1 l0_2 a1).bind fun t588 => (if t588 = a2 then (if a2 < 0 then (spec_AppendTo.j0 k a1 l3 true a0_0 a0_1 l0_2) else (spec_AppendTo.j0 k a1 l3 (decide ((l3.length : Int) > 10)) a0_0 a0_1 l0_2)) else (spec_AppendTo.j0 k a1 l3 true a0_0 a0_1 l0_2))) else (spec_AppendTo.j0 k a1 l3 true a0_0 a0_1 l0_2)) = some (r1, r2, r3, r4) := H
  have A8 := Zh A80
  clear A80
  by_cases c9 : t587 = true
  ·
   subst c9
   have H1 : ((spec_TermAt.f k a0_0 a0_1 l0_2 a1).bind fun t588 => (if t588 = a2 then (if a2 < 0 then (spec_AppendTo.j0 k a1 l3 true a0_0 a0_1 l0_2) else (spec_AppendTo.j0 k a1 l3 (decide ((l3.length : Int) > 10)) a0_0 a0_1 l0_2)) else (spec_AppendTo.j0 k a1 l3 true a0_0 a0_1 l0_2))) = some (r1, r2, r3, r4) := by rw [if_pos rfl] at H; exact H
   clear H
   have H := H1
   clear H1
   replace H := Option.bind_eq_some_iff.mp H
   obtain ⟨t588, A100, H⟩ := H
   replace H : (if t588 = a2 then (if a2 < 0 then (spec_AppendTo.j0 k a1 l3 true a0_0 a0_1 l0_2) else (spec_AppendTo.j0 k a1 l3 (decide ((l3.length : Int) > 10)) a0_0 a0_1 l0_2)) else (spec_AppendTo.j0 k a1 l3 true a0_0 a0_1 l0_2)) = some (r1, r2, r3, r4) := H
   have A10 := Zh A100
   clear A100
   by_cases c11 : t588 = a2
   ·
    rw [if_pos c11] at H
    have c11b0 : (t588 == a2) = true := beq_iff_eq.mpr c11
    have c11b1 : (t588 != a2) = false := bne_eq_false_iff_eq.mpr c11
    clear c11
    (first | rw [c11b0] | (simp only [i64_w, i32_w]; rw [c11b0]) | skip)
    by_cases c12 : a2 < 0
    ·
     rw [if_pos c12] at H
     have c12b0 : decide (a2 < 0) = true := decide_eq_true c12
     clear c12
     have H' := Zh H
     clear H
     have hnb13 := NB585_586.out
     have hnc13 := NB586_585.out
     have hcz14_0 : w7.cell? ⟨gb585, 0, none⟩ = some (.int .i64 a0_0) := (blk_cell BK585.out 0).trans rfl
     have hcz14_1 : w7.cell? ⟨gb585, 1, none⟩ = some (.int .i64 a0_1) := (blk_cell BK585.out 1).trans rfl
     have hcz14_2 : w7.cell? ⟨gb585, 2, none⟩ = some (.slice A0_2 l0_2.length c0_2) := (blk_cell BK585.out 2).trans rfl
     have hfz14_0 := Zn BK585.out 0
     have hfz14_1 := Zn BK585.out 1
     have hfz14_2 := Zn BK585.out 2
     go_wp2_with (first | ((with_reducible refine gate_callee (f := 14) rfl ?_); refine goesL_ (some 14) rfl rfl Try.func14 (by kernel_rfl) rfl #[.agg #[.int .i64 a0_0, .int .i64 a0_1, .slice A0_2 l0_2.length c0_2]] rfl (by (try simp only [List.map_toArray, List.map_cons, List.map_nil]); first | done | rfl | (simp only [List.length_drop, List.length_take]; rfl)) ?_; (with_reducible refine (spec_RLogOk.calls k a0_0 a0_1 _ _ l0_2 true _ ?side1 ?side2 A8.out).mono ?_); (case side1 => repeat (first | exact (C_below HR0_2.out HB.out) | (with_reducible refine C_alloc ?_ _) | (with_reducible refine C_drewN ?_ _) | (with_reducible refine C_drew ?_))); (case side2 => exact HC0_2.out); rintro e w15 ⟨rfl, hb⟩; refine ⟨_, rfl, ?_⟩; have n0_ := Zh (Zm (g := gb585) (o := .cells #[.int .i64 a0_0, .int .i64 a0_1, .slice A0_2 l0_2.length c0_2] 29 (0, 0)) Zk hb); have n1_ := Zh (Zm (g := gb586) (o := .cells #[.int .i64 0, .int .i64 0, .slice none 0 0] 29 (0, 0)) Zk hb); have n2_ := Zh (Zl Zs hb); clear BK585; clear BK586; clear HB; have BK585 := n0_; have BK586 := n1_; have HB := n2_; clear n0_ n1_ n2_; (try clear hb); (try clear hb2); (try clear hk); (try clear hi); have hcz16_0 : w15.cell? ⟨gb585, 0, none⟩ = some (.int .i64 a0_0) := (blk_cell BK585.out 0).trans rfl; have hcz16_1 : w15.cell? ⟨gb585, 1, none⟩ = some (.int .i64 a0_1) := (blk_cell BK585.out 1).trans rfl; have hcz16_2 : w15.cell? ⟨gb585, 2, none⟩ = some (.slice A0_2 l0_2.length c0_2) := (blk_cell BK585.out 2).trans rfl; have hfz16_0 := Zn BK585.out 0; have hfz16_1 := Zn BK585.out 1; have hfz16_2 := Zn BK585.out 2) | (go_at_call 20; (with_reducible refine (spec_TermAt.calls k a0_0 a0_1 _ _ l0_2 a1 t588 _ ?side1 ?side2 A10.out).mono ?_); (case side1 => repeat (first | exact (C_below HR0_2.out HB.out) | (with_reducible refine C_alloc ?_ _) | (with_reducible refine C_drewN ?_ _) | (with_reducible refine C_drew ?_))); (case side2 => exact HC0_2.out); rintro e w17 ⟨rfl, hb⟩; have n0_ := Zh (Zm (g := gb585) (o := .cells #[.int .i64 a0_0, .int .i64 a0_1, .slice A0_2 l0_2.length c0_2] 29 (0, 0)) Zk hb); have n1_ := Zh (Zm (g := gb586) (o := .cells #[.int .i64 0, .int .i64 0, .slice none 0 0] 29 (0, 0)) Zk hb); have n2_ := Zh (Zl Zs hb); clear BK585; clear BK586; clear HB; have BK585 := n0_; have BK586 := n1_; have HB := n2_; clear n0_ n1_ n2_; (try clear hb); (try clear hb2); (try clear hk); (try clear hi)))
     go_meet
     case rel => exact ⟨_, (true), (by first | rfl | (simp; done) | (simp [*]; done)), H', ⟨by first | omega | exact Nat.le_refl _⟩, ⟨by (with_reducible repeat (first | refine Za ?_ _ | refine Zb ?_ | refine blk_alloc ?_ _)); exact BK585.out⟩, ⟨by (with_reducible repeat (first | refine Za ?_ _ | refine Zb ?_ | refine blk_alloc ?_ _)); exact BK586.out⟩, ⟨by repeat (first | (with_reducible first | exact HB.out | apply Zf | apply Zd | apply Ze | refine Zg ?_ GE585.out | refine Zg ?_ GE586.out) | exact HB.out)⟩⟩
    rw [if_neg c12] at H
    have c12b0 : decide (a2 < 0) = false := decide_eq_false c12
    clear c12
    have H' := Zh H
    clear H
    have hnb18 := NB585_586.out
    have hnc18 := NB586_585.out
    have hcz19_0 : w7.cell? ⟨gb585, 0, none⟩ = some (.int .i64 a0_0) := (blk_cell BK585.out 0).trans rfl
    have hcz19_1 : w7.cell? ⟨gb585, 1, none⟩ = some (.int .i64 a0_1) := (blk_cell BK585.out 1).trans rfl
    have hcz19_2 : w7.cell? ⟨gb585, 2, none⟩ = some (.slice A0_2 l0_2.length c0_2) := (blk_cell BK585.out 2).trans rfl
    have hfz19_0 := Zn BK585.out 0
    have hfz19_1 := Zn BK585.out 1
    have hfz19_2 := Zn BK585.out 2
    go_wp2_with (first | ((with_reducible refine gate_callee (f := 14) rfl ?_); refine goesL_ (some 14) rfl rfl Try.func14 (by kernel_rfl) rfl #[.agg #[.int .i64 a0_0, .int .i64 a0_1, .slice A0_2 l0_2.length c0_2]] rfl (by (try simp only [List.map_toArray, List.map_cons, List.map_nil]); first | done | rfl | (simp only [List.length_drop, List.length_take]; rfl)) ?_; (with_reducible refine (spec_RLogOk.calls k a0_0 a0_1 _ _ l0_2 true _ ?side1 ?side2 A8.out).mono ?_); (case side1 => repeat (first | exact (C_below HR0_2.out HB.out) | (with_reducible refine C_alloc ?_ _) | (with_reducible refine C_drewN ?_ _) | (with_reducible refine C_drew ?_))); (case side2 => exact HC0_2.out); rintro e w20 ⟨rfl, hb⟩; refine ⟨_, rfl, ?_⟩; have n0_ := Zh (Zm (g := gb585) (o := .cells #[.int .i64 a0_0, .int .i64 a0_1, .slice A0_2 l0_2.length c0_2] 29 (0, 0)) Zk hb); have n1_ := Zh (Zm (g := gb586) (o := .cells #[.int .i64 0, .int .i64 0, .slice none 0 0] 29 (0, 0)) Zk hb); have n2_ := Zh (Zl Zs hb); clear BK585; clear BK586; clear HB; have BK585 := n0_; have BK586 := n1_; have HB := n2_; clear n0_ n1_ n2_; (try clear hb); (try clear hb2); (try clear hk); (try clear hi); have hcz21_0 : w20.cell? ⟨gb585, 0, none⟩ = some (.int .i64 a0_0) := (blk_cell BK585.out 0).trans rfl; have hcz21_1 : w20.cell? ⟨gb585, 1, none⟩ = some (.int .i64 a0_1) := (blk_cell BK585.out 1).trans rfl; have hcz21_2 : w20.cell? ⟨gb585, 2, none⟩ = some (.slice A0_2 l0_2.length c0_2) := (blk_cell BK585.out 2).trans rfl; have hfz21_0 := Zn BK585.out 0; have hfz21_1 := Zn BK585.out 1; have hfz21_2 := Zn BK585.out 2) | (go_at_call 20; (with_reducible refine (spec_TermAt.calls k a0_0 a0_1 _ _ l0_2 a1 t588 _ ?side1 ?side2 A10.out).mono ?_); (case side1 => repeat (first | exact (C_below HR0_2.out HB.out) | (with_reducible refine C_alloc ?_ _) | (with_reducible refine C_drewN ?_ _) | (with_reducible refine C_drew ?_))); (case side2 => exact HC0_2.out); rintro e w22 ⟨rfl, hb⟩; have n0_ := Zh (Zm (g := gb585) (o := .cells #[.int .i64 a0_0, .int .i64 a0_1, .slice A0_2 l0_2.length c0_2] 29 (0, 0)) Zk hb); have n1_ := Zh (Zm (g := gb586) (o := .cells #[.int .i64 0, .int .i64 0, .slice none 0 0] 29 (0, 0)) Zk hb); have n2_ := Zh (Zl Zs hb); clear BK585; clear BK586; clear HB; have BK585 := n0_; have BK586 := n1_; have HB := n2_; clear n0_ n1_ n2_; (try clear hb); (try clear hb2); (try clear hk); (try clear hi)))
    go_meet
    case rel => exact ⟨_, (decide ((l3.length : Int) > 10)), (by first | rfl | (simp; done) | (simp [*]; done)), H', ⟨by first | omega | exact Nat.le_refl _⟩, ⟨by (with_reducible repeat (first | refine Za ?_ _ | refine Zb ?_ | refine blk_alloc ?_ _)); exact BK585.out⟩, ⟨by (with_reducible repeat (first | refine Za ?_ _ | refine Zb ?_ | refine blk_alloc ?_ _)); exact BK586.out⟩, ⟨by repeat (first | (with_reducible first | exact HB.out | apply Zf | apply Zd | apply Ze | refine Zg ?_ GE585.out | refine Zg ?_ GE586.out) | exact HB.out)⟩⟩
   rw [if_neg c11] at H
   have c11b0 : (t588 == a2) = false := beq_eq_false_iff_ne.mpr c11
   have c11b1 : (t588 != a2) = true := bne_iff_ne.mpr c11
   (first | rw [c11b0] | (simp only [i64_w, i32_w]; rw [c11b0]) | skip)
   have H' := Zh H
   clear H
   have hnb23 := NB585_586.out
   have hnc23 := NB586_585.out
   have hcz24_0 : w7.cell? ⟨gb585, 0, none⟩ = some (.int .i64 a0_0) := (blk_cell BK585.out 0).trans rfl
   have hcz24_1 : w7.cell? ⟨gb585, 1, none⟩ = some (.int .i64 a0_1) := (blk_cell BK585.out 1).trans rfl
   have hcz24_2 : w7.cell? ⟨gb585, 2, none⟩ = some (.slice A0_2 l0_2.length c0_2) := (blk_cell BK585.out 2).trans rfl
   have hfz24_0 := Zn BK585.out 0
   have hfz24_1 := Zn BK585.out 1
   have hfz24_2 := Zn BK585.out 2
   go_wp2_with (first | ((with_reducible refine gate_callee (f := 14) rfl ?_); refine goesL_ (some 14) rfl rfl Try.func14 (by kernel_rfl) rfl #[.agg #[.int .i64 a0_0, .int .i64 a0_1, .slice A0_2 l0_2.length c0_2]] rfl (by (try simp only [List.map_toArray, List.map_cons, List.map_nil]); first | done | rfl | (simp only [List.length_drop, List.length_take]; rfl)) ?_; (with_reducible refine (spec_RLogOk.calls k a0_0 a0_1 _ _ l0_2 true _ ?side1 ?side2 A8.out).mono ?_); (case side1 => repeat (first | exact (C_below HR0_2.out HB.out) | (with_reducible refine C_alloc ?_ _) | (with_reducible refine C_drewN ?_ _) | (with_reducible refine C_drew ?_))); (case side2 => exact HC0_2.out); rintro e w25 ⟨rfl, hb⟩; refine ⟨_, rfl, ?_⟩; have n0_ := Zh (Zm (g := gb585) (o := .cells #[.int .i64 a0_0, .int .i64 a0_1, .slice A0_2 l0_2.length c0_2] 29 (0, 0)) Zk hb); have n1_ := Zh (Zm (g := gb586) (o := .cells #[.int .i64 0, .int .i64 0, .slice none 0 0] 29 (0, 0)) Zk hb); have n2_ := Zh (Zl Zs hb); clear BK585; clear BK586; clear HB; have BK585 := n0_; have BK586 := n1_; have HB := n2_; clear n0_ n1_ n2_; (try clear hb); (try clear hb2); (try clear hk); (try clear hi); have hcz26_0 : w25.cell? ⟨gb585, 0, none⟩ = some (.int .i64 a0_0) := (blk_cell BK585.out 0).trans rfl; have hcz26_1 : w25.cell? ⟨gb585, 1, none⟩ = some (.int .i64 a0_1) := (blk_cell BK585.out 1).trans rfl; have hcz26_2 : w25.cell? ⟨gb585, 2, none⟩ = some (.slice A0_2 l0_2.length c0_2) := (blk_cell BK585.out 2).trans rfl; have hfz26_0 := Zn BK585.out 0; have hfz26_1 := Zn BK585.out 1; have hfz26_2 := Zn BK585.out 2) | (go_at_call 20; (with_reducible refine (spec_TermAt.calls k a0_0 a0_1 _ _ l0_2 a1 t588 _ ?side1 ?side2 A10.out).mono ?_); (case side1 => repeat (first | exact (C_below HR0_2.out HB.out) | (with_reducible refine C_alloc ?_ _) | (with_reducible refine C_drewN ?_ _) | (with_reducible refine C_drew ?_))); (case side2 => exact HC0_2.out); rintro e w27 ⟨rfl, hb⟩; have n0_ := Zh (Zm (g := gb585) (o := .cells #[.int .i64 a0_0, .int .i64 a0_1, .slice A0_2 l0_2.length c0_2] 29 (0, 0)) Zk hb); have n1_ := Zh (Zm (g := gb586) (o := .cells #[.int .i64 0, .int .i64 0, .slice none 0 0] 29 (0, 0)) Zk hb); have n2_ := Zh (Zl Zs hb); clear BK585; clear BK586; clear HB; have BK585 := n0_; have BK586 := n1_; have HB := n2_; clear n0_ n1_ n2_; (try clear hb); (try clear hb2); (try clear hk); (try clear hi)))
   go_meet
   case rel => exact ⟨_, (true), (by first | rfl | (simp; done) | (simp [*]; done)), H', ⟨by first | omega | exact Nat.le_refl _⟩, ⟨by (with_reducible repeat (first | refine Za ?_ _ | refine Zb ?_ | refine blk_alloc ?_ _)); exact BK585.out⟩, ⟨by (with_reducible repeat (first | refine Za ?_ _ | refine Zb ?_ | refine blk_alloc ?_ _)); exact BK586.out⟩, ⟨by repeat (first | (with_reducible first | exact HB.out | apply Zf | apply Zd | apply Ze | refine Zg ?_ GE585.out | refine Zg ?_ GE586.out) | exact HB.out)⟩⟩
  replace c9 := Bool.eq_false_iff.mpr c9
  subst c9
  have H1 : (spec_AppendTo.j0 k a1 l3 true a0_0 a0_1 l0_2) = some (r1, r2, r3, r4) := by rw [if_neg (show ¬ (false = true) by decide)] at H; exact H
  clear H
  have H := H1
  clear H1
  have H' := Zh H
  clear H
  have hnb28 := NB585_586.out
  have hnc28 := NB586_585.out
  have hcz29_0 : w7.cell? ⟨gb585, 0, none⟩ = some (.int .i64 a0_0) := (blk_cell BK585.out 0).trans rfl
  have hcz29_1 : w7.cell? ⟨gb585, 1, none⟩ = some (.int .i64 a0_1) := (blk_cell BK585.out 1).trans rfl
  have hcz29_2 : w7.cell? ⟨gb585, 2, none⟩ = some (.slice A0_2 l0_2.length c0_2) := (blk_cell BK585.out 2).trans rfl
  have hfz29_0 := Zn BK585.out 0
  have hfz29_1 := Zn BK585.out 1
  have hfz29_2 := Zn BK585.out 2
  go_wp2_with (first | ((with_reducible refine gate_callee (f := 14) rfl ?_); refine goesL_ (some 14) rfl rfl Try.func14 (by kernel_rfl) rfl #[.agg #[.int .i64 a0_0, .int .i64 a0_1, .slice A0_2 l0_2.length c0_2]] rfl (by (try simp only [List.map_toArray, List.map_cons, List.map_nil]); first | done | rfl | (simp only [List.length_drop, List.length_take]; rfl)) ?_; (with_reducible refine (spec_RLogOk.calls k a0_0 a0_1 _ _ l0_2 false _ ?side1 ?side2 A8.out).mono ?_); (case side1 => repeat (first | exact (C_below HR0_2.out HB.out) | (with_reducible refine C_alloc ?_ _) | (with_reducible refine C_drewN ?_ _) | (with_reducible refine C_drew ?_))); (case side2 => exact HC0_2.out); rintro e w30 ⟨rfl, hb⟩; refine ⟨_, rfl, ?_⟩; have n0_ := Zh (Zm (g := gb585) (o := .cells #[.int .i64 a0_0, .int .i64 a0_1, .slice A0_2 l0_2.length c0_2] 29 (0, 0)) Zk hb); have n1_ := Zh (Zm (g := gb586) (o := .cells #[.int .i64 0, .int .i64 0, .slice none 0 0] 29 (0, 0)) Zk hb); have n2_ := Zh (Zl Zs hb); clear BK585; clear BK586; clear HB; have BK585 := n0_; have BK586 := n1_; have HB := n2_; clear n0_ n1_ n2_; (try clear hb); (try clear hb2); (try clear hk); (try clear hi)))
  go_meet
  case rel => exact ⟨_, (true), (by first | rfl | (simp; done) | (simp [*]; done)), H', ⟨by first | omega | exact Nat.le_refl _⟩, ⟨by (with_reducible repeat (first | refine Za ?_ _ | refine Zb ?_ | refine blk_alloc ?_ _)); exact BK585.out⟩, ⟨by (with_reducible repeat (first | refine Za ?_ _ | refine Zb ?_ | refine blk_alloc ?_ _)); exact BK586.out⟩, ⟨by repeat (first | (with_reducible first | exact HB.out | apply Zf | apply Zd | apply Ze | refine Zg ?_ GE585.out | refine Zg ?_ GE586.out) | exact HB.out)⟩⟩
 case rest =>
  clear HC5
  try clear c1
  try clear c2
  try clear p2
  try clear c3
  try clear c9
  try clear c11
  try clear c11b0
  try clear c11b1
  try clear c12
  try clear c12b0
  try clear c13
  try clear c14
  try clear c18
  try clear c23
  try clear c28
  try clear hcz14_0
  try clear hcz14_1
  try clear hcz14_2
  try clear hcz16_0
  try clear hcz16_1
  try clear hcz16_2
  try clear hcz19_0
  try clear hcz19_1
  try clear hcz19_2
  try clear hcz21_0
  try clear hcz21_1
  try clear hcz21_2
  try clear hcz24_0
  try clear hcz24_1
  try clear hcz24_2
  try clear hcz26_0
  try clear hcz26_1
  try clear hcz26_2
  try clear hcz29_0
  try clear hcz29_1
  try clear hcz29_2
  try clear hfz14_0
  try clear hfz14_1
  try clear hfz14_2
  try clear hfz16_0
  try clear hfz16_1
  try clear hfz16_2
  try clear hfz19_0
  try clear hfz19_1
  try clear hfz19_2
  try clear hfz21_0
  try clear hfz21_1
  try clear hfz21_2
  try clear hfz24_0
  try clear hfz24_1
  try clear hfz24_2
  try clear hfz26_0
  try clear hfz26_1
  try clear hfz26_2
  try clear hfz29_0
  try clear hfz29_1
  try clear hfz29_2
  obtain ⟨kq, x31_4, rfl, HA, HJ4, BK585, BK586, HB⟩ := hcut
  cases kq with
  | zero => exact absurd HA.out (by simp [spec_AppendTo.j0])
  | succ kj4 =>
   have H := HA.out
   clear HA
   simp only [spec_AppendTo.j0] at H
   by_cases c31 : x31_4 = true
   ·
    subst c31
    have H1 : ((spec_l05Copy.f kj4 a0_0 a0_1 l0_2).bind fun bt589 => (some (bt589.1, bt589.2.1, bt589.2.2, false))) = some (r1, r2, r3, r4) := by rw [if_pos rfl] at H; exact H
    clear H
    have H := H1
    clear H1
    replace H := Option.bind_eq_some_iff.mp H
    obtain ⟨⟨t589, t590, t591⟩, A320, H⟩ := H
    replace H : (some (t589, t590, t591, false)) = some (r1, r2, r3, r4) := H
    have A32 := Zh A320
    clear A320
    simp only [Option.some.injEq, Prod.mk.injEq] at H
    obtain ⟨rfl, rfl, rfl, rfl⟩ := H
    have hnb33 := NB585_586.out
    have hnc33 := NB586_585.out
    have hcz34_0 : wc.cell? ⟨gb585, 0, none⟩ = some (.int .i64 a0_0) := (blk_cell BK585.out 0).trans rfl
    have hcz34_1 : wc.cell? ⟨gb585, 1, none⟩ = some (.int .i64 a0_1) := (blk_cell BK585.out 1).trans rfl
    have hcz34_2 : wc.cell? ⟨gb585, 2, none⟩ = some (.slice A0_2 l0_2.length c0_2) := (blk_cell BK585.out 2).trans rfl
    have hfz34_0 := Zn BK585.out 0
    have hfz34_1 := Zn BK585.out 1
    have hfz34_2 := Zn BK585.out 2
    go_wp2_with (first | ((with_reducible refine gate_callee (f := 51) rfl ?_); refine goesL_ (some 33) rfl rfl Try.func51 (by kernel_rfl) rfl #[.agg #[.int .i64 a0_0, .int .i64 a0_1, .slice A0_2 l0_2.length c0_2]] rfl (by (try simp only [List.map_toArray, List.map_cons, List.map_nil]); first | done | rfl | (simp only [List.length_drop, List.length_take]; rfl)) ?_; (with_reducible refine (spec_l05Copy.calls kj4 a0_0 a0_1 _ _ l0_2 t589 t590 t591 _ ?side1 ?side2 A32.out).mono ?_); (case side1 => repeat (first | exact (C_below HR0_2.out HB.out) | (with_reducible refine C_alloc ?_ _) | (with_reducible refine C_drewN ?_ _) | (with_reducible refine C_drew ?_))); (case side2 => exact HC0_2.out); rintro e w35 ⟨v592, rfl, ho0, hb⟩; refine ⟨_, rfl, ?_⟩; have n0_ := Zh (R_lower ho0 (below_size Zs)); have n1_ := Zh (Zm (g := gb585) (o := .cells #[.int .i64 a0_0, .int .i64 a0_1, .slice A0_2 l0_2.length c0_2] 29 (0, 0)) Zk hb); have n2_ := Zh (Zm (g := gb586) (o := .cells #[.int .i64 0, .int .i64 0, .slice none 0 0] 29 (0, 0)) Zk hb); have n3_ := Zh (Zl Zs hb); clear BK585; clear BK586; clear HB; have HO593 := n0_; have BK585 := n1_; have BK586 := n2_; have HB := n3_; clear n0_ n1_ n2_ n3_; (try clear hb); (try clear hb2); (try clear hk); (try clear hi); (try clear ho0); have hcz36_0 : w35.cell? ⟨gb586, 0, none⟩ = some (.int .i64 0) := (blk_cell BK586.out 0).trans rfl; have hcz36_1 : w35.cell? ⟨gb586, 1, none⟩ = some (.int .i64 0) := (blk_cell BK586.out 1).trans rfl; have hcz36_2 : w35.cell? ⟨gb586, 2, none⟩ = some (.slice none 0 0) := (blk_cell BK586.out 2).trans rfl; have hfz36_0 := Zn BK586.out 0; have hfz36_1 := Zn BK586.out 1; have hfz36_2 := Zn BK586.out 2; obtain ⟨Ao37, co37, eo37⟩ := R_slice HO593.out; subst eo37))
    refine bodyPost_ret (results_ct rfl _ _ gb586 29 #[.int .i64 t589, .int .i64 t590, .slice Ao37 t591.length co37] (0, 0) _ rfl (by (with_reducible repeat (first | refine Za ?_ _ | refine Zb ?_ | refine blk_alloc ?_ _)); refine blk_put (cs := #[.int .i64 t589, .int .i64 t590, .slice none 0 0]) ?_ 2 _ rfl; (with_reducible repeat (first | refine Za ?_ _ | refine Zb ?_ | refine blk_alloc ?_ _)); refine blk_put (cs := #[.int .i64 t589, .int .i64 0, .slice none 0 0]) ?_ 1 _ rfl; (with_reducible repeat (first | refine Za ?_ _ | refine Zb ?_ | refine blk_alloc ?_ _)); refine blk_put (cs := #[.int .i64 0, .int .i64 0, .slice none 0 0]) ?_ 0 _ rfl; (with_reducible repeat (first | refine Za ?_ _ | refine Zb ?_ | refine blk_alloc ?_ _)); exact BK586.out) Try.underlying29 rfl (by kernel_rfl)) rfl ?_
    exact ⟨_, by first | rfl | (simp [errW_none, errW_some] <;> rfl) | (simp [*, errW_none, errW_some] <;> rfl), by (with_reducible repeat (first | apply R_alloc | apply R_drewN | apply R_drew)); exact R_mono (R_far (p := ⟨gb586, 2, none⟩) (R_far (p := ⟨gb586, 1, none⟩) (R_far (p := ⟨gb586, 0, none⟩) (R_types HO593.out BK586.out (by decide)) (fun _ hk => hk.2) (.int .i64 t589)) (fun _ hk => hk.2) (.int .i64 t590)) (fun _ hk => hk.2) (.slice Ao37 t591.length co37)) (fun _ hk => trivial), by repeat (first | (with_reducible first | exact HB.out | apply Zf | apply Zd | apply Ze | refine Zg ?_ GE585.out | refine Zg ?_ GE586.out) | exact HB.out)⟩
   replace c31 := Bool.eq_false_iff.mpr c31
   subst c31
   have H1 : ((spec_l05Copy.f kj4 a0_0 a0_1 l0_2).bind fun bt594 => (spec_AppendTo.l0 kj4 a1 l3 0 a0_0 a0_1 l0_2 bt594.1 bt594.2.1 bt594.2.2)) = some (r1, r2, r3, r4) := by rw [if_neg (show ¬ (false = true) by decide)] at H; exact H
   clear H
   have H := H1
   clear H1
   replace H := Option.bind_eq_some_iff.mp H
   obtain ⟨⟨t594, t595, t596⟩, A380, H⟩ := H
   replace H : (spec_AppendTo.l0 kj4 a1 l3 0 a0_0 a0_1 l0_2 t594 t595 t596) = some (r1, r2, r3, r4) := H
   have A38 := Zh A380
   clear A380
   have H' := Zh H
   clear H
   have hnb39 := NB585_586.out
   have hnc39 := NB586_585.out
   have hcz40_0 : wc.cell? ⟨gb585, 0, none⟩ = some (.int .i64 a0_0) := (blk_cell BK585.out 0).trans rfl
   have hcz40_1 : wc.cell? ⟨gb585, 1, none⟩ = some (.int .i64 a0_1) := (blk_cell BK585.out 1).trans rfl
   have hcz40_2 : wc.cell? ⟨gb585, 2, none⟩ = some (.slice A0_2 l0_2.length c0_2) := (blk_cell BK585.out 2).trans rfl
   have hfz40_0 := Zn BK585.out 0
   have hfz40_1 := Zn BK585.out 1
   have hfz40_2 := Zn BK585.out 2
   go_wp2_with (first | ((with_reducible refine gate_callee (f := 51) rfl ?_); refine goesL_ (some 35) rfl rfl Try.func51 (by kernel_rfl) rfl #[.agg #[.int .i64 a0_0, .int .i64 a0_1, .slice A0_2 l0_2.length c0_2]] rfl (by (try simp only [List.map_toArray, List.map_cons, List.map_nil]); first | done | rfl | (simp only [List.length_drop, List.length_take]; rfl)) ?_; (with_reducible refine (spec_l05Copy.calls kj4 a0_0 a0_1 _ _ l0_2 t594 t595 t596 _ ?side1 ?side2 A38.out).mono ?_); (case side1 => repeat (first | exact (C_below HR0_2.out HB.out) | (with_reducible refine C_alloc ?_ _) | (with_reducible refine C_drewN ?_ _) | (with_reducible refine C_drew ?_))); (case side2 => exact HC0_2.out); rintro e w41 ⟨v597, rfl, ho0, hb⟩; refine ⟨_, rfl, ?_⟩; have n0_ := Zh (R_lower ho0 (below_size Zs)); have n1_ := Zh (Zm (g := gb585) (o := .cells #[.int .i64 a0_0, .int .i64 a0_1, .slice A0_2 l0_2.length c0_2] 29 (0, 0)) Zk hb); have n2_ := Zh (Zm (g := gb586) (o := .cells #[.int .i64 0, .int .i64 0, .slice none 0 0] 29 (0, 0)) Zk hb); have n3_ := Zh (Zl Zs hb); clear BK585; clear BK586; clear HB; have HO598 := n0_; have BK585 := n1_; have BK586 := n2_; have HB := n3_; clear n0_ n1_ n2_ n3_; (try clear hb); (try clear hb2); (try clear hk); (try clear hi); (try clear ho0)) | ((with_reducible refine gate_dst (N := 10) rfl ?_); (try (refine gate_guard (by rfl) ?_; dsimp only)); refine box_event ?hg (N := 10) ?hd (cs := #[.int .i64 0, .int .i64 0, .slice none 0 0]) (t := 29) ?hr ?_; (case hd => rfl); (case hg => rfl); (case hr => first | (go_simp; done) | (go_simp; rfl)); intro gb599 hg w42 hbox hb; have n0_ := Zh (R_below (by (with_reducible repeat (first | apply R_alloc | apply R_drewN | apply R_drew)); exact HO598.out) hb); have n1_ := Zh (Zm (g := gb585) (o := .cells #[.int .i64 a0_0, .int .i64 a0_1, .slice A0_2 l0_2.length c0_2] 29 (0, 0)) Zk hb); have n2_ := Zh (Zm (g := gb586) (o := .cells #[.int .i64 0, .int .i64 0, .slice none 0 0] 29 (0, 0)) Zk hb); have n3_ := Zh (Zl Zs hb); have n4_ := Zh (hbox); have n5_ := Zh ((by rw [hg]; exact (below_size Zs) : w.heap.size ≤ gb599)); have n6_ := Zh ((by rw [hg]; exact (below_size Zs) : w.heap.size ≤ gb599)); have n7_ := Zh ((by rw [hg]; exact Nat.ne_of_lt (blk_lt (g := gb585) (o := .cells #[.int .i64 a0_0, .int .i64 a0_1, .slice A0_2 l0_2.length c0_2] 29 (0, 0)) Zk) : gb585 ≠ gb599)); have n8_ := Zh ((by rw [hg]; exact Nat.ne_of_gt (blk_lt (g := gb585) (o := .cells #[.int .i64 a0_0, .int .i64 a0_1, .slice A0_2 l0_2.length c0_2] 29 (0, 0)) Zk) : gb599 ≠ gb585)); have n9_ := Zh ((by rw [hg]; exact Nat.ne_of_lt (blk_lt (g := gb586) (o := .cells #[.int .i64 0, .int .i64 0, .slice none 0 0] 29 (0, 0)) Zk) : gb586 ≠ gb599)); have n10_ := Zh ((by rw [hg]; exact Nat.ne_of_gt (blk_lt (g := gb586) (o := .cells #[.int .i64 0, .int .i64 0, .slice none 0 0] 29 (0, 0)) Zk) : gb599 ≠ gb586)); clear HO598; clear BK585; clear BK586; clear HB; have HO598 := n0_; have BK585 := n1_; have BK586 := n2_; have HB := n3_; have BK599 := n4_; have GW599 := n5_; have GE599 := n6_; have NB585_599 := n7_; have NB599_585 := n8_; have NB586_599 := n9_; have NB599_586 := n10_; clear n0_ n1_ n2_ n3_ n4_ n5_ n6_ n7_ n8_ n9_ n10_; clear hb hbox hg; have hnb43 := NB599_585.out; have hnc43 := NB585_599.out; have hnb44 := NB599_586.out; have hnc44 := NB586_599.out; have hcz45_0 : w42.cell? ⟨gb599, 0, none⟩ = some (.int .i64 0) := (blk_cell BK599.out 0).trans rfl; have hcz45_1 : w42.cell? ⟨gb599, 1, none⟩ = some (.int .i64 0) := (blk_cell BK599.out 1).trans rfl; have hcz45_2 : w42.cell? ⟨gb599, 2, none⟩ = some (.slice none 0 0) := (blk_cell BK599.out 2).trans rfl; have hfz45_0 := Zn BK599.out 0; have hfz45_1 := Zn BK599.out 1; have hfz45_2 := Zn BK599.out 2; obtain ⟨Ao46, co46, eo46⟩ := R_slice HO598.out; subst eo46))
   go_loopg [11] kj4 (fun kq v11 w' => ∃ (x11_2 : Int) (x600002_2 : List (S54)) (u600002 : Value), v11 = .int .i64 x11_2 ∧ Aside0 (spec_AppendTo.l0 kq a1 l3 x11_2 a0_0 a0_1 l0_2 t594 t595 x600002_2 = some (r1, r2, r3, r4)) ∧ Aside0 (kq ≤ kj4) ∧ Aside0 (Kd.R k54 54 w' w.heap.size (fun _ => True) u600002 x600002_2) ∧ Aside0 (w'.heap[gb585]? = some (.cells #[.int .i64 a0_0, .int .i64 a0_1, (.slice A0_2 l0_2.length c0_2)] 29 (0, 0))) ∧ Aside0 (w'.heap[gb586]? = some (.cells #[.int .i64 0, .int .i64 0, (.slice none 0 0)] 29 (0, 0))) ∧ Aside0 (w'.heap[gb599]? = some (.cells #[.int .i64 t594, .int .i64 t595, u600002] 29 (0, 0))) ∧ Aside0 (Below w.heap.size w w'))
   case atStart => exact ⟨(0), (t596), (.slice Ao46 t596.length co46), (by first | rfl | (simp; done) | (simp [*]; done)), H', ⟨Nat.le_refl _⟩, ⟨by (with_reducible repeat (first | apply R_alloc | apply R_drewN | apply R_drew)); exact R_mono (R_far (p := ⟨gb599, 2, none⟩) (R_far (p := ⟨gb599, 1, none⟩) (R_far (p := ⟨gb599, 0, none⟩) (R_types HO598.out BK599.out (by decide)) (fun _ hk => hk.2) (.int .i64 t594)) (fun _ hk => hk.2) (.int .i64 t595)) (fun _ hk => hk.2) (.slice Ao46 t596.length co46)) (fun _ hk => trivial)⟩, ⟨by (with_reducible repeat (first | refine Za ?_ _ | refine Zb ?_ | refine blk_alloc ?_ _)); refine Zp ?_ NB585_599.out _; (with_reducible repeat (first | refine Za ?_ _ | refine Zb ?_ | refine blk_alloc ?_ _)); refine Zp ?_ NB585_599.out _; (with_reducible repeat (first | refine Za ?_ _ | refine Zb ?_ | refine blk_alloc ?_ _)); refine Zp ?_ NB585_599.out _; (with_reducible repeat (first | refine Za ?_ _ | refine Zb ?_ | refine blk_alloc ?_ _)); exact BK585.out⟩, ⟨by (with_reducible repeat (first | refine Za ?_ _ | refine Zb ?_ | refine blk_alloc ?_ _)); refine Zp ?_ NB586_599.out _; (with_reducible repeat (first | refine Za ?_ _ | refine Zb ?_ | refine blk_alloc ?_ _)); refine Zp ?_ NB586_599.out _; (with_reducible repeat (first | refine Za ?_ _ | refine Zb ?_ | refine blk_alloc ?_ _)); refine Zp ?_ NB586_599.out _; (with_reducible repeat (first | refine Za ?_ _ | refine Zb ?_ | refine blk_alloc ?_ _)); exact BK586.out⟩, ⟨by (with_reducible repeat (first | refine Za ?_ _ | refine Zb ?_ | refine blk_alloc ?_ _)); refine blk_put (cs := #[.int .i64 t594, .int .i64 t595, .slice none 0 0]) ?_ 2 _ rfl; (with_reducible repeat (first | refine Za ?_ _ | refine Zb ?_ | refine blk_alloc ?_ _)); refine blk_put (cs := #[.int .i64 t594, .int .i64 0, .slice none 0 0]) ?_ 1 _ rfl; (with_reducible repeat (first | refine Za ?_ _ | refine Zb ?_ | refine blk_alloc ?_ _)); refine blk_put (cs := #[.int .i64 0, .int .i64 0, .slice none 0 0]) ?_ 0 _ rfl; (with_reducible repeat (first | refine Za ?_ _ | refine Zb ?_ | refine blk_alloc ?_ _)); exact BK599.out⟩, ⟨by repeat (first | (with_reducible first | exact HB.out | apply Zf | apply Zd | apply Ze | refine Zg ?_ GE585.out | refine Zg ?_ GE586.out | refine Zg ?_ GE599.out) | exact HB.out)⟩⟩
   case round =>
    clear H'
    try clear c1
    try clear c2
    try clear p2
    try clear c3
    try clear c4
    try clear c5
    try clear c9
    try clear c11
    try clear c11b0
    try clear c11b1
    try clear c12
    try clear c12b0
    try clear c13
    try clear c14
    try clear c18
    try clear c23
    try clear c28
    try clear c31
    try clear c33
    try clear c36
    try clear c39
    try clear c43
    try clear c44
    try clear hcz14_0
    try clear hcz14_1
    try clear hcz14_2
    try clear hcz16_0
    try clear hcz16_1
    try clear hcz16_2
    try clear hcz19_0
    try clear hcz19_1
    try clear hcz19_2
    try clear hcz21_0
    try clear hcz21_1
    try clear hcz21_2
    try clear hcz24_0
    try clear hcz24_1
    try clear hcz24_2
    try clear hcz26_0
    try clear hcz26_1
    try clear hcz26_2
    try clear hcz29_0
    try clear hcz29_1
    try clear hcz29_2
    try clear hcz34_0
    try clear hcz34_1
    try clear hcz34_2
    try clear hcz36_0
    try clear hcz36_1
    try clear hcz36_2
    try clear hcz40_0
    try clear hcz40_1
    try clear hcz40_2
    try clear hcz45_0
    try clear hcz45_1
    try clear hcz45_2
    try clear hfz14_0
    try clear hfz14_1
    try clear hfz14_2
    try clear hfz16_0
    try clear hfz16_1
    try clear hfz16_2
    try clear hfz19_0
    try clear hfz19_1
    try clear hfz19_2
    try clear hfz21_0
    try clear hfz21_1
    try clear hfz21_2
    try clear hfz24_0
    try clear hfz24_1
    try clear hfz24_2
    try clear hfz26_0
    try clear hfz26_1
    try clear hfz26_2
    try clear hfz29_0
    try clear hfz29_1
    try clear hfz29_2
    try clear hfz34_0
    try clear hfz34_1
    try clear hfz34_2
    try clear hfz36_0
    try clear hfz36_1
    try clear hfz36_2
    try clear hfz40_0
    try clear hfz40_1
    try clear hfz40_2
    try clear hfz45_0
    try clear hfz45_1
    try clear hfz45_2
    try clear p2
    obtain ⟨x11_2, x600002_2, u600002, rfl, HA, HK2, HO_600002, BK585, BK586, BK599, HB⟩ := hrel
    cases gk with
    | zero => exact absurd HA.out (by simp [spec_AppendTo.l0])
    | succ k2 =>
     have H := HA.out
     clear HA
     simp only [spec_AppendTo.l0] at H
     by_cases c47 : x11_2 < (l3.length : Int)
     ·
      rw [if_pos c47] at H
      have c47b0 : decide (x11_2 < (l3.length : Int)) = true := decide_eq_true c47
      clear c47
      have HC48 := Zh H
      clear H
      have hnb49 := NB585_586.out
      have hnc49 := NB586_585.out
      have hnb50 := NB585_599.out
      have hnc50 := NB599_585.out
      have hcz51_0 : wr.cell? ⟨gb585, 0, none⟩ = some (.int .i64 a0_0) := (blk_cell BK585.out 0).trans rfl
      have hcz51_1 : wr.cell? ⟨gb585, 1, none⟩ = some (.int .i64 a0_1) := (blk_cell BK585.out 1).trans rfl
      have hcz51_2 : wr.cell? ⟨gb585, 2, none⟩ = some (.slice A0_2 l0_2.length c0_2) := (blk_cell BK585.out 2).trans rfl
      have hfz51_0 := Zn BK585.out 0
      have hfz51_1 := Zn BK585.out 1
      have hfz51_2 := Zn BK585.out 2
      go_upto_region 8 with (fail)
      go_cut [66] (fun v66 wc => ∃ (kq : Nat) (x66_47 : Bool), v66 = .bool x66_47 ∧ Aside0 (spec_AppendTo.j2 kq a1 l3 x11_2 (wrap64 ((wrap64 (a1 + x11_2)) - a0_0)) x66_47 a0_0 a0_1 l0_2 t594 t595 x600002_2 = some (r1, r2, r3, r4)) ∧ Aside0 (kq ≤ k2) ∧ Aside0 (Kd.R k54 54 wc w.heap.size (fun _ => True) u600002 x600002_2) ∧ Aside0 (wc.heap[gb585]? = some (.cells #[.int .i64 a0_0, .int .i64 a0_1, (.slice A0_2 l0_2.length c0_2)] 29 (0, 0))) ∧ Aside0 (wc.heap[gb586]? = some (.cells #[.int .i64 0, .int .i64 0, (.slice none 0 0)] 29 (0, 0))) ∧ Aside0 (wc.heap[gb599]? = some (.cells #[.int .i64 t594, .int .i64 t595, u600002] 29 (0, 0))) ∧ Aside0 (Below w.heap.size w wc))
      case first =>
       have H := HC48.out
       clear HC48
       by_cases c52 : (wrap64 ((wrap64 (a1 + x11_2)) - a0_0)) < (x600002_2.length : Int)
       ·
        rw [if_pos c52] at H
        have c52b0 : decide ((wrap64 ((wrap64 (a1 + x11_2)) - a0_0)) < (x600002_2.length : Int)) = true := decide_eq_true c52
        clear c52
        (first | rw [c52b0] | (simp only [i64_w, i32_w]; rw [c52b0]) | skip)
        obtain ⟨ji53, hji53⟩ : ∃ j_ : Int, (wrap64 ((wrap64 (a1 + x11_2)) - a0_0)) = j_ := ⟨_, rfl⟩
        replace H : (if 0 ≤ (ji53) then (if 0 ≤ x11_2 then (spec_AppendTo.j2 k2 a1 l3 x11_2 ji53 (((rd_T54 x600002_2 (ji53)).f0) == ((rd_T54 l3 x11_2).f0)) a0_0 a0_1 l0_2 t594 t595 x600002_2) else (none)) else (none)) = some (r1, r2, r3, r4) := by first | (rw [hji53] at H; exact H) | (simp only [hji53] at H ⊢; exact H)
        (try rw [hji53] at c52b0)
        have hji53w : (IntKind.i64.wrap ((wrap64 (a1 + x11_2)) - a0_0)) = ji53 := (i64_w _).trans hji53
        by_cases c54 : 0 ≤ (ji53)
        ·
         rw [if_pos c54] at H
         have c54b0 : decide (0 ≤ (ji53)) = true := decide_eq_true c54
         clear c54
         by_cases c55 : 0 ≤ x11_2
         ·
          rw [if_pos c55] at H
          have c55b0 : decide (0 ≤ x11_2) = true := decide_eq_true c55
          clear c55
          have H' := Zh H
          clear H
          try go_wp2
          have n0_ := Zh (R_drew HO_600002.out)
          have n1_ := Zh (Zb BK585.out)
          have n2_ := Zh (Zb BK586.out)
          have n3_ := Zh (Zb BK599.out)
          have n4_ := Zh (Ze HB.out)
          clear HO_600002
          clear BK585
          clear BK586
          clear BK599
          clear HB
          have HO_600002 := n0_
          have BK585 := n1_
          have BK586 := n2_
          have BK599 := n3_
          have HB := n4_
          clear n0_ n1_ n2_ n3_ n4_
          obtain ⟨Ao57, co57, eo57⟩ := R_slice HO_600002.out
          (first | subst eo57 | (injection eo57 with f1_ f2_ f3_; have f4_ := f1_.symm; have f5_ := f3_.symm; clear f1_ f2_ f3_; subst f4_; subst f5_))
          have p600 : 0 ≤ ((ji53) : Int) := Zo
          have q600 : (ji53) < (x600002_2.length : Int) := Zo
          obtain ⟨ad600, e600, hx600_0, hx600_1⟩ := at_T54 (R_reads' HO_600002.out).2.2 (ji53) p600 q600
          cases e600
          replace p600 := eq_true p600
          replace q600 := eq_true q600
          have p601 : 0 ≤ (x11_2 : Int) := Zo
          have q601 : x11_2 < (l3.length : Int) := Zo
          obtain ⟨ad601, e601, hx601_0, hx601_1⟩ := at_T54 HR3.out x11_2 p601 q601
          have hw601_1 := hx601_1
          have hw601_0 := hx601_0
          cases e601
          replace hx601_0 := Zc HB.out hx601_0
          replace hx601_1 := Zc HB.out hx601_1
          replace p601 := eq_true p601
          replace q601 := eq_true q601
          refine start_ (n := 19) (S := fun w' => w'.cell? ⟨gb599, 0, none⟩ = some (.int .i64 t594) ∧ w'.cell? ⟨gb599, 1, none⟩ = some (.int .i64 t595) ∧ w'.cell? ⟨gb599, 2, none⟩ = some (.slice (some ad600) x600002_2.length co57) ∧ w'.cell? (ad600.add (((ji53)).toNat * 2)) = some (.int .i64 ((rd_T54 x600002_2 (ji53)).f0)) ∧ w'.cell? ⟨(ad600.add (((ji53)).toNat * 2)).block, (ad600.add (((ji53)).toNat * 2)).off + 1, none⟩ = some (.string ((rd_T54 x600002_2 (ji53)).f1)) ∧ w'.cell? (ad601.add ((x11_2).toNat * 2)) = some (.int .i64 ((rd_T54 l3 x11_2).f0)) ∧ w'.cell? ⟨(ad601.add ((x11_2).toNat * 2)).block, (ad601.add ((x11_2).toNat * 2)).off + 1, none⟩ = some (.string ((rd_T54 l3 x11_2).f1))) (ds := []) #[false, false, false, false, false, false, false, false, false, false, false, false, false, false, false, false, false, false, false] (by kernel_rfl) rfl rfl ⟨(blk_cell BK599.out 0).trans rfl, (blk_cell BK599.out 1).trans rfl, (blk_cell BK599.out 2).trans rfl, hx600_0, hx600_1, ((HB.out.cell (Zi w _ hw601_0)).trans hw601_0), ((HB.out.cell (Zi w _ hw601_1)).trans hw601_1)⟩ (fun hHeld => ?_); refine with_tabW spec_AppendTo.tab8 spec_AppendTo.bits8 (fun HT_ HW_ => ?_)
          generalize wr.drew = w56 at HO_600002 BK585 BK586 BK599 HB hx600_0 hx600_1 hx601_0 hx601_1 hHeld ⊢
          refine pure_ (i := 0) (N := some 48) (v := ?_) (a' := ?_) #[true, false, false, false, false, false, false, false, false, false, false, false, false, false, false, false, false, false, false] rfl rfl (any_of HT_.out (by kernel_rfl)) (fun _ _ _ h => h) (Or.inl ⟨by rfl, ?_⟩) ?_ ?_
          rotate_left
          ·
           intro w'
           go_simp
           with_reducible rfl
          rotate_left
          ·
           simp only [Act.put, List.setIfInBounds_toArray, List.set_cons_zero, List.set_cons_succ, i64_w, i32_w]
           rfl
          refine pure_ (i := 1) (N := some 49) (v := ?_) (a' := ?_) #[true, true, false, false, false, false, false, false, false, false, false, false, false, false, false, false, false, false, false] rfl rfl (any_of HT_.out (by kernel_rfl)) (fun _ _ _ h => h) (Or.inl ⟨by rfl, ?_⟩) ?_ ?_
          rotate_left
          ·
           intro w'
           go_simp
           with_reducible rfl
          rotate_left
          ·
           simp only [Act.put, List.setIfInBounds_toArray, List.set_cons_zero, List.set_cons_succ, i64_w, i32_w]
           rfl
          refine take_ (i := 2) (N := some 50) (v := ?_) (a' := ?_) #[true, true, true, false, false, false, false, false, false, false, false, false, false, false, false, false, false, false, false] rfl rfl (take_ofW HT_.out HW_.out (by kernel_rfl)) (fun _ _ _ h => h) (Or.inl ⟨by rfl, ?_⟩) hHeld ?_ ?_
          rotate_left
          ·
           rintro w' ⟨s0, s1, s2, s3, s4, s5, s6⟩
           go_simp
           with_reducible rfl
          rotate_left
          ·
           simp only [Act.put, List.setIfInBounds_toArray, List.set_cons_zero, List.set_cons_succ, i64_w, i32_w]
           rfl
          refine pure_ (i := 3) (N := some 51) (v := ?_) (a' := ?_) #[true, true, true, true, false, false, false, false, false, false, false, false, false, false, false, false, false, false, false] rfl rfl (any_of HT_.out (by kernel_rfl)) (fun _ _ _ h => h) (Or.inl ⟨by rfl, ?_⟩) ?_ ?_
          rotate_left
          ·
           intro w'
           go_simp
           with_reducible rfl
          rotate_left
          ·
           simp only [Act.put, List.setIfInBounds_toArray, List.set_cons_zero, List.set_cons_succ, i64_w, i32_w]
           rfl
          refine pure_ (i := 4) (N := some 52) (v := ?_) (a' := ?_) #[true, true, true, true, true, false, false, false, false, false, false, false, false, false, false, false, false, false, false] rfl rfl (any_of HT_.out (by kernel_rfl)) (fun _ _ _ h => h) (Or.inl ⟨by rfl, ?_⟩) ?_ ?_
          rotate_left
          ·
           intro w'
           go_simp
           with_reducible rfl
          rotate_left
          ·
           simp only [Act.put, List.setIfInBounds_toArray, List.set_cons_zero, List.set_cons_succ, i64_w, i32_w]
           rfl
          refine pure_ (i := 5) (N := some 53) (v := ?_) (a' := ?_) #[true, true, true, true, true, true, false, false, false, false, false, false, false, false, false, false, false, false, false] rfl rfl (any_of HT_.out (by kernel_rfl)) (fun _ _ _ h => h) (Or.inl ⟨by rfl, ?_⟩) ?_ ?_
          rotate_left
          ·
           intro w'
           go_simp
           with_reducible rfl
          rotate_left
          ·
           simp only [Act.put, List.setIfInBounds_toArray, List.set_cons_zero, List.set_cons_succ, i64_w, i32_w]
           rfl
          refine pure_ (i := 6) (N := some 54) (v := ?_) (a' := ?_) #[true, true, true, true, true, true, true, false, false, false, false, false, false, false, false, false, false, false, false] rfl rfl (any_of HT_.out (by kernel_rfl)) (fun _ _ _ h => h) (Or.inl ⟨by rfl, ?_⟩) ?_ ?_
          rotate_left
          ·
           intro w'
           go_simp
           with_reducible rfl
          rotate_left
          ·
           simp only [Act.put, List.setIfInBounds_toArray, List.set_cons_zero, List.set_cons_succ, i64_w, i32_w]
           rfl
          refine pure_ (i := 8) (N := some 56) (v := ?_) (a' := ?_) #[true, true, true, true, true, true, true, false, true, false, false, false, false, false, false, false, false, false, false] rfl rfl (any_of HT_.out (by kernel_rfl)) (fun _ _ _ h => h) (Or.inl ⟨by rfl, ?_⟩) ?_ ?_
          rotate_left
          ·
           intro w'
           go_simp
           with_reducible rfl
          rotate_left
          ·
           simp only [Act.put, List.setIfInBounds_toArray, List.set_cons_zero, List.set_cons_succ, i64_w, i32_w]
           rfl
          refine pure_ (i := 12) (N := some 60) (v := ?_) (a' := ?_) #[true, true, true, true, true, true, true, false, true, false, false, false, true, false, false, false, false, false, false] rfl rfl (any_of HT_.out (by kernel_rfl)) (fun _ _ _ h => h) (Or.inl ⟨by rfl, ?_⟩) ?_ ?_
          rotate_left
          ·
           intro w'
           go_simp
           with_reducible rfl
          rotate_left
          ·
           simp only [Act.put, List.setIfInBounds_toArray, List.set_cons_zero, List.set_cons_succ, i64_w, i32_w]
           rfl
          refine pure_ (i := 13) (N := some 61) (v := ?_) (a' := ?_) #[true, true, true, true, true, true, true, false, true, false, false, false, true, true, false, false, false, false, false] rfl rfl (any_of HT_.out (by kernel_rfl)) (fun _ _ _ h => h) (Or.inl ⟨by rfl, ?_⟩) ?_ ?_
          rotate_left
          ·
           intro w'
           go_simp
           with_reducible rfl
          rotate_left
          ·
           simp only [Act.put, List.setIfInBounds_toArray, List.set_cons_zero, List.set_cons_succ, i64_w, i32_w]
           rfl
          refine pure_ (i := 14) (N := some 62) (v := ?_) (a' := ?_) #[true, true, true, true, true, true, true, false, true, false, false, false, true, true, true, false, false, false, false] rfl rfl (any_of HT_.out (by kernel_rfl)) (fun _ _ _ h => h) (Or.inl ⟨by rfl, ?_⟩) ?_ ?_
          rotate_left
          ·
           intro w'
           go_simp
           with_reducible rfl
          rotate_left
          ·
           simp only [Act.put, List.setIfInBounds_toArray, List.set_cons_zero, List.set_cons_succ, i64_w, i32_w]
           rfl
          refine pure_ (i := 15) (N := some 63) (v := ?_) (a' := ?_) #[true, true, true, true, true, true, true, false, true, false, false, false, true, true, true, true, false, false, false] rfl rfl (any_of HT_.out (by kernel_rfl)) (fun _ _ _ h => h) (Or.inl ⟨by rfl, ?_⟩) ?_ ?_
          rotate_left
          ·
           intro w'
           go_simp
           with_reducible rfl
          rotate_left
          ·
           simp only [Act.put, List.setIfInBounds_toArray, List.set_cons_zero, List.set_cons_succ, i64_w, i32_w]
           rfl
          refine take_ (i := 7) (N := some 55) (v := ?_) (a' := ?_) #[true, true, true, true, true, true, true, true, true, false, false, false, true, true, true, true, false, false, false] rfl rfl (take_ofW HT_.out HW_.out (by kernel_rfl)) (fun _ _ _ h => h) (Or.inl ⟨by rfl, ?_⟩) hHeld ?_ ?_
          rotate_left
          ·
           rintro w' ⟨s0, s1, s2, s3, s4, s5, s6⟩
           go_simp
           with_reducible rfl
          rotate_left
          ·
           simp only [Act.put, List.setIfInBounds_toArray, List.set_cons_zero, List.set_cons_succ, i64_w, i32_w]
           rfl
          refine pure_ (i := 9) (N := some 57) (v := ?_) (a' := ?_) #[true, true, true, true, true, true, true, true, true, true, false, false, true, true, true, true, false, false, false] rfl rfl (any_of HT_.out (by kernel_rfl)) (fun _ _ _ h => h) (Or.inl ⟨by rfl, ?_⟩) ?_ ?_
          rotate_left
          ·
           intro w'
           go_simp
           with_reducible rfl
          rotate_left
          ·
           simp only [Act.put, List.setIfInBounds_toArray, List.set_cons_zero, List.set_cons_succ, i64_w, i32_w]
           rfl
          refine pure_ (i := 10) (N := some 58) (v := ?_) (a' := ?_) #[true, true, true, true, true, true, true, true, true, true, true, false, true, true, true, true, false, false, false] rfl rfl (any_of HT_.out (by kernel_rfl)) (fun _ _ _ h => h) (Or.inl ⟨by rfl, ?_⟩) ?_ ?_
          rotate_left
          ·
           intro w'
           go_simp
           with_reducible rfl
          rotate_left
          ·
           simp only [Act.put, List.setIfInBounds_toArray, List.set_cons_zero, List.set_cons_succ, i64_w, i32_w]
           rfl
          refine take_ (i := 11) (N := some 59) (v := ?_) (a' := ?_) #[true, true, true, true, true, true, true, true, true, true, true, true, true, true, true, true, false, false, false] rfl rfl (take_ofW HT_.out HW_.out (by kernel_rfl)) (fun _ _ _ h => h) (Or.inl ⟨by rfl, ?_⟩) hHeld ?_ ?_
          rotate_left
          ·
           rintro w' ⟨s0, s1, s2, s3, s4, s5, s6⟩
           go_simp
           with_reducible rfl
          rotate_left
          ·
           simp only [Act.put, List.setIfInBounds_toArray, List.set_cons_zero, List.set_cons_succ, i64_w, i32_w]
           rfl
          refine take_ (i := 16) (N := some 64) (v := ?_) (a' := ?_) #[true, true, true, true, true, true, true, true, true, true, true, true, true, true, true, true, true, false, false] rfl rfl (take_ofW HT_.out HW_.out (by kernel_rfl)) (fun _ _ _ h => h) (Or.inl ⟨by rfl, ?_⟩) hHeld ?_ ?_
          rotate_left
          ·
           rintro w' ⟨s0, s1, s2, s3, s4, s5, s6⟩
           go_simp
           with_reducible rfl
          rotate_left
          ·
           simp only [Act.put, List.setIfInBounds_toArray, List.set_cons_zero, List.set_cons_succ, i64_w, i32_w]
           rfl
          refine pure_ (i := 17) (N := some 65) (v := ?_) (a' := ?_) #[true, true, true, true, true, true, true, true, true, true, true, true, true, true, true, true, true, true, false] rfl rfl (any_of HT_.out (by kernel_rfl)) (fun _ _ _ h => h) (Or.inl ⟨by rfl, ?_⟩) ?_ ?_
          rotate_left
          ·
           intro w'
           go_simp
           with_reducible rfl
          rotate_left
          ·
           simp only [Act.put, List.setIfInBounds_toArray, List.set_cons_zero, List.set_cons_succ, i64_w, i32_w]
           rfl
          refine pure_ (i := 18) (N := some 66) (v := ?_) (a' := ?_) #[true, true, true, true, true, true, true, true, true, true, true, true, true, true, true, true, true, true, true] rfl rfl (any_of HT_.out (by kernel_rfl)) (fun _ _ _ h => h) (Or.inl ⟨by rfl, ?_⟩) ?_ ?_
          rotate_left
          ·
           intro w'
           go_simp
           with_reducible rfl
          rotate_left
          ·
           simp only [Act.put, List.setIfInBounds_toArray, List.set_cons_zero, List.set_cons_succ, i64_w, i32_w]
           rfl
          refine done_ (done_of HT_.out (by kernel_rfl)) ?_
          try go_wp2
          go_meet
          case rel => exact ⟨_, ((((rd_T54 x600002_2 (ji53)).f0) == ((rd_T54 l3 x11_2).f0))), (by first | rfl | (simp; done) | (simp only [← hji53] <;> (first | rfl | simp)) | (simp [*]; done)), (by first | exact H' | (simp only [hji53]; exact H')), ⟨by have := HJ4.out; have := HK2.out; first | omega | exact Nat.le_refl _⟩, ⟨by (with_reducible repeat (first | apply R_alloc | apply R_drewN | apply R_drew)); exact HO_600002.out⟩, ⟨by (with_reducible repeat (first | refine Za ?_ _ | refine Zb ?_ | refine blk_alloc ?_ _)); exact BK585.out⟩, ⟨by (with_reducible repeat (first | refine Za ?_ _ | refine Zb ?_ | refine blk_alloc ?_ _)); exact BK586.out⟩, ⟨by (with_reducible repeat (first | refine Za ?_ _ | refine Zb ?_ | refine blk_alloc ?_ _)); exact BK599.out⟩, ⟨by repeat (first | (with_reducible first | exact HB.out | apply Zf | apply Zd | apply Ze | refine Zg ?_ GE585.out | refine Zg ?_ GE586.out | refine Zg ?_ GE599.out) | exact HB.out)⟩⟩
         rw [if_neg c55] at H
         exact absurd H (by simp)
        rw [if_neg c54] at H
        exact absurd H (by simp)
       rw [if_neg c52] at H
       have c52b0 : decide ((wrap64 ((wrap64 (a1 + x11_2)) - a0_0)) < (x600002_2.length : Int)) = false := decide_eq_false c52
       clear c52
       (first | rw [c52b0] | (simp only [i64_w, i32_w]; rw [c52b0]) | skip)
       have H' := Zh H
       clear H
       try go_wp2
       have n0_ := Zh (R_drew HO_600002.out)
       have n1_ := Zh (Zb BK585.out)
       have n2_ := Zh (Zb BK586.out)
       have n3_ := Zh (Zb BK599.out)
       have n4_ := Zh (Ze HB.out)
       clear HO_600002
       clear BK585
       clear BK586
       clear BK599
       clear HB
       have HO_600002 := n0_
       have BK585 := n1_
       have BK586 := n2_
       have BK599 := n3_
       have HB := n4_
       clear n0_ n1_ n2_ n3_ n4_
       obtain ⟨Ao59, co59, eo59⟩ := R_slice HO_600002.out
       (first | subst eo59 | (injection eo59 with f1_ f2_ f3_; have f4_ := f1_.symm; have f5_ := f3_.symm; clear f1_ f2_ f3_; subst f4_; subst f5_))
       refine start_ (n := 19) (S := fun w' => w'.cell? ⟨gb599, 0, none⟩ = some (.int .i64 t594) ∧ w'.cell? ⟨gb599, 1, none⟩ = some (.int .i64 t595) ∧ w'.cell? ⟨gb599, 2, none⟩ = some (.slice Ao59 x600002_2.length co59)) (ds := []) #[false, false, false, false, false, false, false, false, false, false, false, false, false, false, false, false, false, false, false] (by kernel_rfl) rfl rfl ⟨(blk_cell BK599.out 0).trans rfl, (blk_cell BK599.out 1).trans rfl, (blk_cell BK599.out 2).trans rfl⟩ (fun hHeld => ?_); refine with_tabW spec_AppendTo.tab8 spec_AppendTo.bits8 (fun HT_ HW_ => ?_)
       generalize wr.drew = w58 at HO_600002 BK585 BK586 BK599 HB hHeld ⊢
       refine pure_ (i := 0) (N := some 48) (v := ?_) (a' := ?_) #[true, false, false, false, false, false, false, false, false, false, false, false, false, false, false, false, false, false, false] rfl rfl (any_of HT_.out (by kernel_rfl)) (fun _ _ _ h => h) (Or.inl ⟨by rfl, ?_⟩) ?_ ?_
       rotate_left
       ·
        intro w'
        go_simp
        with_reducible rfl
       rotate_left
       ·
        simp only [Act.put, List.setIfInBounds_toArray, List.set_cons_zero, List.set_cons_succ, i64_w, i32_w]
        rfl
       refine pure_ (i := 1) (N := some 49) (v := ?_) (a' := ?_) #[true, true, false, false, false, false, false, false, false, false, false, false, false, false, false, false, false, false, false] rfl rfl (any_of HT_.out (by kernel_rfl)) (fun _ _ _ h => h) (Or.inl ⟨by rfl, ?_⟩) ?_ ?_
       rotate_left
       ·
        intro w'
        go_simp
        with_reducible rfl
       rotate_left
       ·
        simp only [Act.put, List.setIfInBounds_toArray, List.set_cons_zero, List.set_cons_succ, i64_w, i32_w]
        rfl
       refine take_ (i := 2) (N := some 50) (v := ?_) (a' := ?_) #[true, true, true, false, false, false, false, false, false, false, false, false, false, false, false, false, false, false, false] rfl rfl (take_ofW HT_.out HW_.out (by kernel_rfl)) (fun _ _ _ h => h) (Or.inl ⟨by rfl, ?_⟩) hHeld ?_ ?_
       rotate_left
       ·
        rintro w' ⟨s0, s1, s2⟩
        go_simp
        with_reducible rfl
       rotate_left
       ·
        simp only [Act.put, List.setIfInBounds_toArray, List.set_cons_zero, List.set_cons_succ, i64_w, i32_w]
        rfl
       refine pure_ (i := 3) (N := some 51) (v := ?_) (a' := ?_) #[true, true, true, true, false, false, false, false, false, false, false, false, false, false, false, false, false, false, false] rfl rfl (any_of HT_.out (by kernel_rfl)) (fun _ _ _ h => h) (Or.inl ⟨by rfl, ?_⟩) ?_ ?_
       rotate_left
       ·
        intro w'
        go_simp
        with_reducible rfl
       rotate_left
       ·
        simp only [Act.put, List.setIfInBounds_toArray, List.set_cons_zero, List.set_cons_succ, i64_w, i32_w]
        rfl
       refine pure_ (i := 4) (N := some 52) (v := ?_) (a' := ?_) #[true, true, true, true, true, false, false, false, false, false, false, false, false, false, false, false, false, false, false] rfl rfl (any_of HT_.out (by kernel_rfl)) (fun _ _ _ h => h) (Or.inl ⟨by rfl, ?_⟩) ?_ ?_
       rotate_left
       ·
        intro w'
        go_simp
        with_reducible rfl
       rotate_left
       ·
        simp only [Act.put, List.setIfInBounds_toArray, List.set_cons_zero, List.set_cons_succ, i64_w, i32_w]
        rfl
       refine pure_ (i := 5) (N := some 53) (v := ?_) (a' := ?_) #[true, true, true, true, true, true, false, false, false, false, false, false, false, false, false, false, false, false, false] rfl rfl (any_of HT_.out (by kernel_rfl)) (fun _ _ _ h => h) (Or.inl ⟨by rfl, ?_⟩) ?_ ?_
       rotate_left
       ·
        intro w'
        go_simp
        with_reducible rfl
       rotate_left
       ·
        simp only [Act.put, List.setIfInBounds_toArray, List.set_cons_zero, List.set_cons_succ, i64_w, i32_w]
        rfl
       refine pure_ (i := 6) (N := some 54) (v := undef) (a' := ?_) #[true, true, true, true, true, true, true, false, false, false, false, false, false, false, false, false, false, false, false] rfl rfl (any_of HT_.out (by kernel_rfl)) (fun _ _ _ h => h) (Or.inr ⟨by rfl, rfl⟩) ?_ ?_
       rotate_left
       ·
        simp only [Act.put, List.setIfInBounds_toArray, List.set_cons_zero, List.set_cons_succ, i64_w, i32_w]
        rfl
       refine pure_ (i := 7) (N := some 55) (v := undef) (a' := ?_) #[true, true, true, true, true, true, true, true, false, false, false, false, false, false, false, false, false, false, false] rfl rfl (any_of HT_.out (by kernel_rfl)) (fun _ _ _ h => h) (Or.inr ⟨by rfl, rfl⟩) ?_ ?_
       rotate_left
       ·
        simp only [Act.put, List.setIfInBounds_toArray, List.set_cons_zero, List.set_cons_succ, i64_w, i32_w]
        rfl
       refine pure_ (i := 8) (N := some 56) (v := undef) (a' := ?_) #[true, true, true, true, true, true, true, true, true, false, false, false, false, false, false, false, false, false, false] rfl rfl (any_of HT_.out (by kernel_rfl)) (fun _ _ _ h => h) (Or.inr ⟨by rfl, rfl⟩) ?_ ?_
       rotate_left
       ·
        simp only [Act.put, List.setIfInBounds_toArray, List.set_cons_zero, List.set_cons_succ, i64_w, i32_w]
        rfl
       refine pure_ (i := 9) (N := some 57) (v := undef) (a' := ?_) #[true, true, true, true, true, true, true, true, true, true, false, false, false, false, false, false, false, false, false] rfl rfl (any_of HT_.out (by kernel_rfl)) (fun _ _ _ h => h) (Or.inr ⟨by rfl, rfl⟩) ?_ ?_
       rotate_left
       ·
        simp only [Act.put, List.setIfInBounds_toArray, List.set_cons_zero, List.set_cons_succ, i64_w, i32_w]
        rfl
       refine pure_ (i := 10) (N := some 58) (v := undef) (a' := ?_) #[true, true, true, true, true, true, true, true, true, true, true, false, false, false, false, false, false, false, false] rfl rfl (any_of HT_.out (by kernel_rfl)) (fun _ _ _ h => h) (Or.inr ⟨by rfl, rfl⟩) ?_ ?_
       rotate_left
       ·
        simp only [Act.put, List.setIfInBounds_toArray, List.set_cons_zero, List.set_cons_succ, i64_w, i32_w]
        rfl
       refine pure_ (i := 11) (N := some 59) (v := undef) (a' := ?_) #[true, true, true, true, true, true, true, true, true, true, true, true, false, false, false, false, false, false, false] rfl rfl (any_of HT_.out (by kernel_rfl)) (fun _ _ _ h => h) (Or.inr ⟨by rfl, rfl⟩) ?_ ?_
       rotate_left
       ·
        simp only [Act.put, List.setIfInBounds_toArray, List.set_cons_zero, List.set_cons_succ, i64_w, i32_w]
        rfl
       refine pure_ (i := 12) (N := some 60) (v := undef) (a' := ?_) #[true, true, true, true, true, true, true, true, true, true, true, true, true, false, false, false, false, false, false] rfl rfl (any_of HT_.out (by kernel_rfl)) (fun _ _ _ h => h) (Or.inr ⟨by rfl, rfl⟩) ?_ ?_
       rotate_left
       ·
        simp only [Act.put, List.setIfInBounds_toArray, List.set_cons_zero, List.set_cons_succ, i64_w, i32_w]
        rfl
       refine pure_ (i := 13) (N := some 61) (v := undef) (a' := ?_) #[true, true, true, true, true, true, true, true, true, true, true, true, true, true, false, false, false, false, false] rfl rfl (any_of HT_.out (by kernel_rfl)) (fun _ _ _ h => h) (Or.inr ⟨by rfl, rfl⟩) ?_ ?_
       rotate_left
       ·
        simp only [Act.put, List.setIfInBounds_toArray, List.set_cons_zero, List.set_cons_succ, i64_w, i32_w]
        rfl
       refine pure_ (i := 14) (N := some 62) (v := undef) (a' := ?_) #[true, true, true, true, true, true, true, true, true, true, true, true, true, true, true, false, false, false, false] rfl rfl (any_of HT_.out (by kernel_rfl)) (fun _ _ _ h => h) (Or.inr ⟨by rfl, rfl⟩) ?_ ?_
       rotate_left
       ·
        simp only [Act.put, List.setIfInBounds_toArray, List.set_cons_zero, List.set_cons_succ, i64_w, i32_w]
        rfl
       refine pure_ (i := 15) (N := some 63) (v := undef) (a' := ?_) #[true, true, true, true, true, true, true, true, true, true, true, true, true, true, true, true, false, false, false] rfl rfl (any_of HT_.out (by kernel_rfl)) (fun _ _ _ h => h) (Or.inr ⟨by rfl, rfl⟩) ?_ ?_
       rotate_left
       ·
        simp only [Act.put, List.setIfInBounds_toArray, List.set_cons_zero, List.set_cons_succ, i64_w, i32_w]
        rfl
       refine pure_ (i := 16) (N := some 64) (v := undef) (a' := ?_) #[true, true, true, true, true, true, true, true, true, true, true, true, true, true, true, true, true, false, false] rfl rfl (any_of HT_.out (by kernel_rfl)) (fun _ _ _ h => h) (Or.inr ⟨by rfl, rfl⟩) ?_ ?_
       rotate_left
       ·
        simp only [Act.put, List.setIfInBounds_toArray, List.set_cons_zero, List.set_cons_succ, i64_w, i32_w]
        rfl
       refine pure_ (i := 17) (N := some 65) (v := undef) (a' := ?_) #[true, true, true, true, true, true, true, true, true, true, true, true, true, true, true, true, true, true, false] rfl rfl (any_of HT_.out (by kernel_rfl)) (fun _ _ _ h => h) (Or.inr ⟨by rfl, rfl⟩) ?_ ?_
       rotate_left
       ·
        simp only [Act.put, List.setIfInBounds_toArray, List.set_cons_zero, List.set_cons_succ, i64_w, i32_w]
        rfl
       refine pure_ (i := 18) (N := some 66) (v := ?_) (a' := ?_) #[true, true, true, true, true, true, true, true, true, true, true, true, true, true, true, true, true, true, true] rfl rfl (any_of HT_.out (by kernel_rfl)) (fun _ _ _ h => h) (Or.inl ⟨by rfl, ?_⟩) ?_ ?_
       rotate_left
       ·
        intro w'
        go_simp
        with_reducible rfl
       rotate_left
       ·
        simp only [Act.put, List.setIfInBounds_toArray, List.set_cons_zero, List.set_cons_succ, i64_w, i32_w]
        rfl
       refine done_ (done_of HT_.out (by kernel_rfl)) ?_
       try go_wp2
       go_meet
       case rel => exact ⟨_, (false), (by first | rfl | (simp; done) | (simp [*]; done)), H', ⟨by have := HJ4.out; have := HK2.out; first | omega | exact Nat.le_refl _⟩, ⟨by (with_reducible repeat (first | apply R_alloc | apply R_drewN | apply R_drew)); exact HO_600002.out⟩, ⟨by (with_reducible repeat (first | refine Za ?_ _ | refine Zb ?_ | refine blk_alloc ?_ _)); exact BK585.out⟩, ⟨by (with_reducible repeat (first | refine Za ?_ _ | refine Zb ?_ | refine blk_alloc ?_ _)); exact BK586.out⟩, ⟨by (with_reducible repeat (first | refine Za ?_ _ | refine Zb ?_ | refine blk_alloc ?_ _)); exact BK599.out⟩, ⟨by repeat (first | (with_reducible first | exact HB.out | apply Zf | apply Zd | apply Ze | refine Zg ?_ GE585.out | refine Zg ?_ GE586.out | refine Zg ?_ GE599.out) | exact HB.out)⟩⟩
      case rest =>
       clear HC48
       try clear c1
       try clear c2
       try clear p2
       try clear c3
       try clear c4
       try clear c5
       try clear p6
       try clear q6
       try clear hx6
       try clear c9
       try clear c11
       try clear c11b0
       try clear c11b1
       try clear c12
       try clear c12b0
       try clear c13
       try clear c14
       try clear c18
       try clear c23
       try clear c28
       try clear c31
       try clear c33
       try clear c36
       try clear c39
       try clear c43
       try clear c44
       try clear c47
       try clear c47b0
       try clear c49
       try clear c50
       try clear c51
       try clear c52
       try clear c52b0
       try clear c54
       try clear c54b0
       try clear c55
       try clear c55b0
       try clear hcz14_0
       try clear hcz14_1
       try clear hcz14_2
       try clear hcz16_0
       try clear hcz16_1
       try clear hcz16_2
       try clear hcz19_0
       try clear hcz19_1
       try clear hcz19_2
       try clear hcz21_0
       try clear hcz21_1
       try clear hcz21_2
       try clear hcz24_0
       try clear hcz24_1
       try clear hcz24_2
       try clear hcz26_0
       try clear hcz26_1
       try clear hcz26_2
       try clear hcz29_0
       try clear hcz29_1
       try clear hcz29_2
       try clear hcz34_0
       try clear hcz34_1
       try clear hcz34_2
       try clear hcz36_0
       try clear hcz36_1
       try clear hcz36_2
       try clear hcz40_0
       try clear hcz40_1
       try clear hcz40_2
       try clear hcz45_0
       try clear hcz45_1
       try clear hcz45_2
       try clear hcz51_0
       try clear hcz51_1
       try clear hcz51_2
       try clear hfz14_0
       try clear hfz14_1
       try clear hfz14_2
       try clear hfz16_0
       try clear hfz16_1
       try clear hfz16_2
       try clear hfz19_0
       try clear hfz19_1
       try clear hfz19_2
       try clear hfz21_0
       try clear hfz21_1
       try clear hfz21_2
       try clear hfz24_0
       try clear hfz24_1
       try clear hfz24_2
       try clear hfz26_0
       try clear hfz26_1
       try clear hfz26_2
       try clear hfz29_0
       try clear hfz29_1
       try clear hfz29_2
       try clear hfz34_0
       try clear hfz34_1
       try clear hfz34_2
       try clear hfz36_0
       try clear hfz36_1
       try clear hfz36_2
       try clear hfz40_0
       try clear hfz40_1
       try clear hfz40_2
       try clear hfz45_0
       try clear hfz45_1
       try clear hfz45_2
       try clear hfz51_0
       try clear hfz51_1
       try clear hfz51_2
       try clear hx600_0
       try clear hx600_1
       try clear hx601_0
       try clear hx601_1
       try clear p2
       try clear p600
       try clear p601
       try clear q600
       try clear q601
       obtain ⟨kq, x66_47, rfl, HA, HJ47, HO_600002, BK585, BK586, BK599, HB⟩ := hcut
       cases kq with
       | zero => exact absurd HA.out (by simp [spec_AppendTo.j2])
       | succ kj47 =>
        have H := HA.out
        clear HA
        simp only [spec_AppendTo.j2] at H
        by_cases c60 : x66_47 = true
        ·
         subst c60
         have H1 : (spec_AppendTo.l0 kj47 a1 l3 (wrap64 (x11_2 + 1)) a0_0 a0_1 l0_2 t594 t595 x600002_2) = some (r1, r2, r3, r4) := by rw [if_pos rfl] at H; exact H
         clear H
         have H := H1
         clear H1
         have H' := Zh H
         clear H
         go_wp2
         go_roundg kj47
         case measure => have := HJ4.out; have := HK2.out; have := HJ47.out; omega
         case rel => exact ⟨(wrap64 (x11_2 + 1)), (x600002_2), (u600002), (by first | rfl | (simp; done) | (simp [*]; done)), H', ⟨by have := HJ4.out; have := HK2.out; have := HJ47.out; omega⟩, ⟨by (with_reducible repeat (first | apply R_alloc | apply R_drewN | apply R_drew)); exact HO_600002.out⟩, ⟨by (with_reducible repeat (first | refine Za ?_ _ | refine Zb ?_ | refine blk_alloc ?_ _)); exact BK585.out⟩, ⟨by (with_reducible repeat (first | refine Za ?_ _ | refine Zb ?_ | refine blk_alloc ?_ _)); exact BK586.out⟩, ⟨by (with_reducible repeat (first | refine Za ?_ _ | refine Zb ?_ | refine blk_alloc ?_ _)); exact BK599.out⟩, ⟨by repeat (first | (with_reducible first | exact HB.out | apply Zf | apply Zd | apply Ze | refine Zg ?_ GE585.out | refine Zg ?_ GE586.out | refine Zg ?_ GE599.out) | exact HB.out)⟩⟩
        replace c60 := Bool.eq_false_iff.mpr c60
        subst c60
        have H1 : (if (wrap64 ((wrap64 (a1 + x11_2)) - a0_0)) < (x600002_2.length : Int) then (if 0 ≤ (wrap64 ((wrap64 (a1 + x11_2)) - a0_0)) then (if (wrap64 ((wrap64 (a1 + x11_2)) - a0_0)) ≤ (x600002_2.length : Int) then ((some (x600002_2.take ((wrap64 ((wrap64 (a1 + x11_2)) - a0_0)) : Int).toNat : List (S54))).bind fun y602 => (if 0 ≤ x11_2 then (if x11_2 < (l3.length : Int) then (if y602.length < 5864062014805 then (spec_AppendTo.l0 kj47 a1 l3 (wrap64 (x11_2 + 1)) a0_0 a0_1 l0_2 t594 t595 (y602 ++ [(⟨(rd_T54 l3 x11_2).f0, (rd_T54 l3 x11_2).f1⟩ : S54)])) else (none)) else (none)) else (none))) else (none)) else (none)) else (if 0 ≤ x11_2 then (if x11_2 < (l3.length : Int) then (if x600002_2.length < 5864062014805 then (spec_AppendTo.l0 kj47 a1 l3 (wrap64 (x11_2 + 1)) a0_0 a0_1 l0_2 t594 t595 (x600002_2 ++ [(⟨(rd_T54 l3 x11_2).f0, (rd_T54 l3 x11_2).f1⟩ : S54)])) else (none)) else (none)) else (none))) = some (r1, r2, r3, r4) := by rw [if_neg (show ¬ (false = true) by decide)] at H; exact H
        clear H
        have H := H1
        clear H1
        by_cases c61 : (wrap64 ((wrap64 (a1 + x11_2)) - a0_0)) < (x600002_2.length : Int)
        ·
         rw [if_pos c61] at H
         have c61b0 : decide ((wrap64 ((wrap64 (a1 + x11_2)) - a0_0)) < (x600002_2.length : Int)) = true := decide_eq_true c61
         clear c61
         obtain ⟨ji62, hji62⟩ : ∃ j_ : Int, (wrap64 ((wrap64 (a1 + x11_2)) - a0_0)) = j_ := ⟨_, rfl⟩
         replace H : (if 0 ≤ (ji62) then (if (ji62) ≤ (x600002_2.length : Int) then ((some (x600002_2.take ((ji62) : Int).toNat : List (S54))).bind fun y602 => (if 0 ≤ x11_2 then (if x11_2 < (l3.length : Int) then (if y602.length < 5864062014805 then (spec_AppendTo.l0 kj47 a1 l3 (wrap64 (x11_2 + 1)) a0_0 a0_1 l0_2 t594 t595 (y602 ++ [(⟨(rd_T54 l3 x11_2).f0, (rd_T54 l3 x11_2).f1⟩ : S54)])) else (none)) else (none)) else (none))) else (none)) else (none)) = some (r1, r2, r3, r4) := by first | (rw [hji62] at H; exact H) | (simp only [hji62] at H ⊢; exact H)
         (try rw [hji62] at c61b0)
         have hji62w : (IntKind.i64.wrap ((wrap64 (a1 + x11_2)) - a0_0)) = ji62 := (i64_w _).trans hji62
         by_cases c63 : 0 ≤ (ji62)
         ·
          rw [if_pos c63] at H
          have c63b0 := eq_true c63
          have c63b1 : decide (0 ≤ (ji62)) = true := decide_eq_true c63
          clear c63
          by_cases c64 : (ji62) ≤ (x600002_2.length : Int)
          ·
           rw [if_pos c64] at H
           have c64b0 := eq_true c64
           have c64b1 : decide ((ji62) ≤ (x600002_2.length : Int)) = true := decide_eq_true c64
           clear c64
           obtain ⟨y602, hy602⟩ : ∃ y_ : List (S54), y_ = (x600002_2.take ((ji62) : Int).toNat) := ⟨_, rfl⟩
           replace H : (if 0 ≤ x11_2 then (if x11_2 < (l3.length : Int) then (if y602.length < 5864062014805 then (spec_AppendTo.l0 kj47 a1 l3 (wrap64 (x11_2 + 1)) a0_0 a0_1 l0_2 t594 t595 (y602 ++ [(⟨(rd_T54 l3 x11_2).f0, (rd_T54 l3 x11_2).f1⟩ : S54)])) else (none)) else (none)) else (none)) = some (r1, r2, r3, r4) := by first | (rw [hy602]; with_reducible exact H) | (have H2_ := (Option.bind_some _ _).symm.trans H; rw [hy602]; with_reducible exact H2_) | (have H2_ := (Option.bind_some _ _).symm.trans H; with_reducible exact H2_) | with_reducible exact H | (rw [hy602]; exact H) | exact H
           have Ny602 := Zh hy602
           clear hy602
           by_cases c65 : 0 ≤ x11_2
           ·
            rw [if_pos c65] at H
            have c65b0 : decide (0 ≤ x11_2) = true := decide_eq_true c65
            clear c65
            by_cases c66 : x11_2 < (l3.length : Int)
            ·
             rw [if_pos c66] at H
             have c66b0 : decide (x11_2 < (l3.length : Int)) = true := decide_eq_true c66
             clear c66
             by_cases c67 : y602.length < 5864062014805
             ·
              rw [if_pos c67] at H
              have LMc67 := Zh c67
              clear c67
              obtain ⟨y606, hy606⟩ : ∃ y_ : List (S54), y_ = (y602 ++ [(⟨(rd_T54 l3 x11_2).f0, (rd_T54 l3 x11_2).f1⟩ : S54)]) := ⟨_, rfl⟩
              replace H : (spec_AppendTo.l0 kj47 a1 l3 (wrap64 (x11_2 + 1)) a0_0 a0_1 l0_2 t594 t595 y606) = some (r1, r2, r3, r4) := by first | (rw [hy606]; with_reducible exact H) | (have H2_ := (Option.bind_some _ _).symm.trans H; rw [hy606]; with_reducible exact H2_) | (have H2_ := (Option.bind_some _ _).symm.trans H; with_reducible exact H2_) | with_reducible exact H | (rw [hy606]; exact H) | exact H
              have Ny606 := Zh hy606
              clear hy606
              have H' := Zh H
              clear H
              have hnb68 := NB599_585.out
              have hnc68 := NB585_599.out
              have hnb69 := NB599_586.out
              have hnc69 := NB586_599.out
              have hcz70_0 : wc.cell? ⟨gb599, 0, none⟩ = some (.int .i64 t594) := (blk_cell BK599.out 0).trans rfl
              have hcz70_1 : wc.cell? ⟨gb599, 1, none⟩ = some (.int .i64 t595) := (blk_cell BK599.out 1).trans rfl
              have hcz70_2 : wc.cell? ⟨gb599, 2, none⟩ = some (u600002) := (blk_cell BK599.out 2).trans rfl
              have hfz70_0 := Zn BK599.out 0
              have hfz70_1 := Zn BK599.out 1
              have hfz70_2 := Zn BK599.out 2
              obtain ⟨Ao71, co71, eo71⟩ := R_slice HO_600002.out
              subst eo71
              have q72 : ((ji62) : Int) ≤ ((x600002_2.length : Int) : Int) := Zo
              obtain ⟨i072, hi072, _, hsz72, _⟩ := info_parts info54
              have hcut72 := cut_to (P := Try.prog) 27 54 .i64 Try.underlying27 hi072 Ao71 x600002_2.length co71 (ji62) (Zo) q72 (R_reads' HO_600002.out).2.1
              have hr72 := R_take (m := ((ji62) : Int).toNat) HO_600002.out (by omega)
              have hy72 : y602.length = ((ji62) : Int).toNat := (by rw [Ny602.out, List.length_take]; omega)
              rw [← Ny602.out] at hr72
              rw [← hy72] at hr72 hcut72
              clear hy72 hi072 hsz72 HO_600002
              have HO604 := Zh hr72
              clear hr72
              replace q72 := eq_true q72
              try go_wp2
              have n0_ : Aside0 (Kd.R k54 54 (wc.setCell ⟨gb599, 2, none⟩ (.slice Ao71 y602.length co71)) w.heap.size (fun _ => True) (.slice Ao71 y602.length co71) y602) := ⟨by (with_reducible repeat (first | apply R_alloc | apply R_drewN | apply R_drew)); exact R_mono (R_far (p := ⟨gb599, 2, none⟩) (R_types HO604.out BK599.out (by decide)) (fun _ hk => hk.2) (.slice Ao71 y602.length co71)) (fun _ hk => trivial)⟩
              have n1_ : Aside0 ((wc.setCell ⟨gb599, 2, none⟩ (.slice Ao71 y602.length co71)).heap[gb585]? = some (.cells #[.int .i64 a0_0, .int .i64 a0_1, .slice A0_2 l0_2.length c0_2] 29 (0, 0))) := ⟨by (with_reducible repeat (first | refine Za ?_ _ | refine Zb ?_ | refine blk_alloc ?_ _)); refine Zp ?_ NB585_599.out _; (with_reducible repeat (first | refine Za ?_ _ | refine Zb ?_ | refine blk_alloc ?_ _)); exact BK585.out⟩
              have n2_ : Aside0 ((wc.setCell ⟨gb599, 2, none⟩ (.slice Ao71 y602.length co71)).heap[gb586]? = some (.cells #[.int .i64 0, .int .i64 0, .slice none 0 0] 29 (0, 0))) := ⟨by (with_reducible repeat (first | refine Za ?_ _ | refine Zb ?_ | refine blk_alloc ?_ _)); refine Zp ?_ NB586_599.out _; (with_reducible repeat (first | refine Za ?_ _ | refine Zb ?_ | refine blk_alloc ?_ _)); exact BK586.out⟩
              have n3_ : Aside0 ((wc.setCell ⟨gb599, 2, none⟩ (.slice Ao71 y602.length co71)).heap[gb599]? = some (.cells #[.int .i64 t594, .int .i64 t595, .slice Ao71 y602.length co71] 29 (0, 0))) := ⟨by (with_reducible repeat (first | refine Za ?_ _ | refine Zb ?_ | refine blk_alloc ?_ _)); refine blk_put (cs := #[.int .i64 t594, .int .i64 t595, .slice Ao71 x600002_2.length co71]) ?_ 2 _ rfl; (with_reducible repeat (first | refine Za ?_ _ | refine Zb ?_ | refine blk_alloc ?_ _)); exact BK599.out⟩
              have n4_ : Aside0 (Below w.heap.size w (wc.setCell ⟨gb599, 2, none⟩ (.slice Ao71 y602.length co71))) := ⟨by repeat (first | (with_reducible first | exact HB.out | apply Zf | apply Zd | apply Ze | refine Zg ?_ GE585.out | refine Zg ?_ GE586.out | refine Zg ?_ GE599.out) | exact HB.out)⟩
              (try clear HO604)
              (try clear BK585)
              (try clear BK586)
              (try clear BK599)
              (try clear HB)
              generalize (wc.setCell ⟨gb599, 2, none⟩ (.slice Ao71 y602.length co71)) = w73 at n0_ n1_ n2_ n3_ n4_ ⊢
              have HO604 := n0_
              have BK585 := n1_
              have BK586 := n2_
              have BK599 := n3_
              have HB := n4_
              clear n0_ n1_ n2_ n3_ n4_
              have n0_ := Zh (R_drew HO604.out)
              have n1_ := Zh (Zb BK585.out)
              have n2_ := Zh (Zb BK586.out)
              have n3_ := Zh (Zb BK599.out)
              have n4_ := Zh (Ze HB.out)
              clear HO604
              clear BK585
              clear BK586
              clear BK599
              clear HB
              have HO604 := n0_
              have BK585 := n1_
              have BK586 := n2_
              have BK599 := n3_
              have HB := n4_
              clear n0_ n1_ n2_ n3_ n4_
              have p605 : 0 ≤ (x11_2 : Int) := Zo
              have q605 : x11_2 < (l3.length : Int) := Zo
              obtain ⟨ad605, e605, hx605_0, hx605_1⟩ := at_T54 HR3.out x11_2 p605 q605
              have hw605_1 := hx605_1
              have hw605_0 := hx605_0
              cases e605
              replace hx605_0 := Zc HB.out hx605_0
              replace hx605_1 := Zc HB.out hx605_1
              replace p605 := eq_true p605
              replace q605 := eq_true q605
              refine start_ (n := 10) (S := fun w' => w'.cell? ⟨gb599, 0, none⟩ = some (.int .i64 t594) ∧ w'.cell? ⟨gb599, 1, none⟩ = some (.int .i64 t595) ∧ w'.cell? ⟨gb599, 2, none⟩ = some (.slice Ao71 y602.length co71) ∧ w'.cell? (ad605.add ((x11_2).toNat * 2)) = some (.int .i64 ((rd_T54 l3 x11_2).f0)) ∧ w'.cell? ⟨(ad605.add ((x11_2).toNat * 2)).block, (ad605.add ((x11_2).toNat * 2)).off + 1, none⟩ = some (.string ((rd_T54 l3 x11_2).f1))) (ds := [9]) #[false, false, false, false, false, false, false, false, false, false] (by kernel_rfl) rfl rfl ⟨(blk_cell BK599.out 0).trans rfl, (blk_cell BK599.out 1).trans rfl, (blk_cell BK599.out 2).trans rfl, ((HB.out.cell (Zi w _ hw605_0)).trans hw605_0), ((HB.out.cell (Zi w _ hw605_1)).trans hw605_1)⟩ (fun hHeld => ?_); refine with_tabW spec_AppendTo.tab11 spec_AppendTo.bits11 (fun HT_ HW_ => ?_)
              generalize w73.drew = w74 at HO604 BK585 BK586 BK599 HB hx605_0 hx605_1 hHeld ⊢
              refine pure_ (i := 0) (N := some 77) (v := ?_) (a' := ?_) #[true, false, false, false, false, false, false, false, false, false] rfl rfl (any_of HT_.out (by kernel_rfl)) (fun _ _ _ h => h) (Or.inl ⟨by rfl, ?_⟩) ?_ ?_
              rotate_left
              ·
               intro w'
               go_simp
               with_reducible rfl
              rotate_left
              ·
               simp only [Act.put, List.setIfInBounds_toArray, List.set_cons_zero, List.set_cons_succ, i64_w, i32_w]
               rfl
              refine pure_ (i := 2) (N := some 79) (v := ?_) (a' := ?_) #[true, false, true, false, false, false, false, false, false, false] rfl rfl (any_of HT_.out (by kernel_rfl)) (fun _ _ _ h => h) (Or.inl ⟨by rfl, ?_⟩) ?_ ?_
              rotate_left
              ·
               intro w'
               go_simp
               with_reducible rfl
              rotate_left
              ·
               simp only [Act.put, List.setIfInBounds_toArray, List.set_cons_zero, List.set_cons_succ, i64_w, i32_w]
               rfl
              refine pure_ (i := 3) (N := some 80) (v := ?_) (a' := ?_) #[true, false, true, true, false, false, false, false, false, false] rfl rfl (any_of HT_.out (by kernel_rfl)) (fun _ _ _ h => h) (Or.inl ⟨by rfl, ?_⟩) ?_ ?_
              rotate_left
              ·
               intro w'
               go_simp
               with_reducible rfl
              rotate_left
              ·
               simp only [Act.put, List.setIfInBounds_toArray, List.set_cons_zero, List.set_cons_succ, i64_w, i32_w]
               rfl
              refine pure_ (i := 4) (N := some 81) (v := ?_) (a' := ?_) #[true, false, true, true, true, false, false, false, false, false] rfl rfl (any_of HT_.out (by kernel_rfl)) (fun _ _ _ h => h) (Or.inl ⟨by rfl, ?_⟩) ?_ ?_
              rotate_left
              ·
               intro w'
               go_simp
               with_reducible rfl
              rotate_left
              ·
               simp only [Act.put, List.setIfInBounds_toArray, List.set_cons_zero, List.set_cons_succ, i64_w, i32_w]
               rfl
              refine take_ (i := 1) (N := some 78) (v := ?_) (a' := ?_) #[true, true, true, true, true, false, false, false, false, false] rfl rfl (take_ofW HT_.out HW_.out (by kernel_rfl)) (fun _ _ _ h => h) (Or.inl ⟨by rfl, ?_⟩) hHeld ?_ ?_
              rotate_left
              ·
               rintro w' ⟨s0, s1, s2, s3, s4⟩
               go_simp
               with_reducible rfl
              rotate_left
              ·
               simp only [Act.put, List.setIfInBounds_toArray, List.set_cons_zero, List.set_cons_succ, i64_w, i32_w]
               rfl
              refine take_ (i := 5) (N := some 82) (v := ?_) (a' := ?_) #[true, true, true, true, true, true, false, false, false, false] rfl rfl (take_ofW HT_.out HW_.out (by kernel_rfl)) (fun _ _ _ h => h) (Or.inl ⟨by rfl, ?_⟩) hHeld ?_ ?_
              rotate_left
              ·
               rintro w' ⟨s0, s1, s2, s3, s4⟩
               go_simp
               with_reducible rfl
              rotate_left
              ·
               simp only [Act.put, List.setIfInBounds_toArray, List.set_cons_zero, List.set_cons_succ, i64_w, i32_w]
               rfl
              refine one_ (i := 6) (N := some 83) #[true, true, true, true, true, true, true, false, false, false] rfl rfl (one_of HT_.out (by kernel_rfl)) (by decide) (fun K hK => ?_)
              refine value_ (w1 := ?_) (v := ?_) (by rfl) rfl ?_ ?_
              rotate_left 2
              ·
               go_simp
               constructor
               ·
                rfl
               rfl
              refine hK.out _ _ ⟨(blk_cell (blk_alloc BK599.out _) 0).trans rfl, (blk_cell (blk_alloc BK599.out _) 1).trans rfl, (blk_cell (blk_alloc BK599.out _) 2).trans rfl, (World.cell?_alloc_lt _ _ _ (Zi _ _ (((HB.out.cell (Zi w _ hw605_0)).trans hw605_0)))).trans (((HB.out.cell (Zi w _ hw605_0)).trans hw605_0)), (World.cell?_alloc_lt _ _ _ (Zi _ _ (((HB.out.cell (Zi w _ hw605_1)).trans hw605_1)))).trans (((HB.out.cell (Zi w _ hw605_1)).trans hw605_1))⟩ (fun hHeld => ?_)
              clear hK K
              refine norm_ (a' := ?_) ?_ ?_
              rotate_left
              ·
               show Act.put _ (some 83) _ = _
               simp only [Act.put, List.setIfInBounds_toArray, List.set_cons_zero, List.set_cons_succ, i64_w, i32_w]
               rfl
              refine one_ (i := 7) (N := some 84) #[true, true, true, true, true, true, true, true, false, false] rfl rfl (one_of HT_.out (by kernel_rfl)) (by decide) (fun K hK => ?_)
              refine R_append_step k54 (w0 := w) w.heap.size (by rfl) (.tmp 78) (.tmp 83) 27 54 (.agg #[(.int .i64 0), (.string ⟨#[]⟩)]) 24 rfl Try.underlying27 info54 rfl (by decide) (by omega) (.slice Ao71 y602.length co71) y602 (⟨(rd_T54 l3 x11_2).f0, (rd_T54 l3 x11_2).f1⟩ : S54) [.int .i64 ((rd_T54 l3 x11_2).f0), .string ((rd_T54 l3 x11_2).f1)] (fun _ => True) (fun _ => False) rfl rfl ?aP (fun _ hk => hk.elim) ?aF ?aO ?aB ?aS ?aL ?_
              (case aP => exact k54_mkM _ _ _ (⟨(rd_T54 l3 x11_2).f0, (rd_T54 l3 x11_2).f1⟩ : S54))
              (case aB => exact Zs)
              (case aF => exact (fun _ _ => trivial))
              (case aO => exact (by (with_reducible repeat (first | apply R_alloc | apply R_drewN | apply R_drew)); exact HO604.out))
              (case aS => exact (below_size Zs))
              (case aL => have := LMc67.out; omega)
              intro v607 w75 ho hb hg hat
              rw [← Ny606.out] at ho
              have n0_ := Zh (blk_grown (g := gb585) (o := .cells #[.int .i64 a0_0, .int .i64 a0_1, .slice A0_2 l0_2.length c0_2] 29 (0, 0)) Zk hg (R_ne HO604.out BK585.out (by decide)))
              have n1_ := Zh (blk_grown (g := gb586) (o := .cells #[.int .i64 0, .int .i64 0, .slice none 0 0] 29 (0, 0)) Zk hg (R_ne HO604.out BK586.out (by decide)))
              have n2_ := Zh (blk_grown (g := gb599) (o := .cells #[.int .i64 t594, .int .i64 t595, .slice Ao71 y602.length co71] 29 (0, 0)) Zk hg (R_ne HO604.out BK599.out (by decide)))
              have n3_ := Zh (hb)
              have n4_ := Zh (ho)
              clear BK585
              clear BK586
              clear BK599
              clear HB
              clear HO604
              have BK585 := n0_
              have BK586 := n1_
              have BK599 := n2_
              have HB := n3_
              have HO608 := n4_
              clear n0_ n1_ n2_ n3_ n4_
              clear ho hb hg hat
              obtain ⟨Ao76, co76, eo76⟩ := R_slice HO608.out
              (first | subst eo76 | (injection eo76 with f1_ f2_ f3_; have f4_ := f1_.symm; have f5_ := f3_.symm; clear f1_ f2_ f3_; subst f4_; subst f5_))
              refine hK.out _ _ ⟨(blk_cell BK599.out 0).trans rfl, (blk_cell BK599.out 1).trans rfl, (blk_cell BK599.out 2).trans rfl, ((HB.out.cell (Zi w _ hw605_0)).trans hw605_0), ((HB.out.cell (Zi w _ hw605_1)).trans hw605_1)⟩ (fun hHeld => ?_)
              clear hK K
              refine norm_ (a' := ?_) ?_ ?_
              rotate_left
              ·
               show Act.put _ (some 84) _ = _
               simp only [Act.put, List.setIfInBounds_toArray, List.set_cons_zero, List.set_cons_succ, i64_w, i32_w]
               rfl
              refine pure_ (i := 8) (N := some 85) (v := ?_) (a' := ?_) #[true, true, true, true, true, true, true, true, true, false] rfl rfl (any_of HT_.out (by kernel_rfl)) (fun _ _ _ h => h) (Or.inl ⟨by rfl, ?_⟩) ?_ ?_
              rotate_left
              ·
               intro w'
               go_simp
               with_reducible rfl
              rotate_left
              ·
               simp only [Act.put, List.setIfInBounds_toArray, List.set_cons_zero, List.set_cons_succ, i64_w, i32_w]
               rfl
              refine last_ (i := 9) (N := none) #[true, true, true, true, true, true, true, true, true, true] rfl rfl (one_of HT_.out (by kernel_rfl)) (by decide) (fun K hK => ?_)
              have hs77 : w75.cell? ⟨gb599, 2, none⟩ = some (.slice Ao71 y602.length co71) := (blk_cell BK599.out 2).trans rfl
              have hfs77 := Zn BK599.out 2
              have hns77_0 := NB585_599.out
              have hns77_1 := NB586_599.out
              have hms77_0 := NB599_585.out
              have hms77_1 := NB599_586.out
              refine skip_ (w1 := ?_) (by rfl) rfl ?_ ?_
              rotate_left
              ·
               go_simp
               rfl
              refine hK.out _ _ ?_
              clear hK K
              refine done_ (done_of HT_.out (by kernel_rfl)) ?_
              try go_wp2
              go_roundg kj47
              case measure => have := HJ4.out; have := HK2.out; have := HJ47.out; omega
              case rel => exact ⟨(wrap64 (x11_2 + 1)), (y606), (.slice Ao76 y606.length co76), (by first | rfl | (simp; done) | (simp [*]; done)), H', ⟨by have := HJ4.out; have := HK2.out; have := HJ47.out; omega⟩, ⟨by (with_reducible repeat (first | apply R_alloc | apply R_drewN | apply R_drew)); exact R_mono (R_far (p := ⟨gb599, 2, none⟩) (R_types HO608.out BK599.out (by decide)) (fun _ hk => hk.2) (.slice Ao76 y606.length co76)) (fun _ hk => trivial)⟩, ⟨by (with_reducible repeat (first | refine Za ?_ _ | refine Zb ?_ | refine blk_alloc ?_ _)); refine Zp ?_ NB585_599.out _; (with_reducible repeat (first | refine Za ?_ _ | refine Zb ?_ | refine blk_alloc ?_ _)); exact BK585.out⟩, ⟨by (with_reducible repeat (first | refine Za ?_ _ | refine Zb ?_ | refine blk_alloc ?_ _)); refine Zp ?_ NB586_599.out _; (with_reducible repeat (first | refine Za ?_ _ | refine Zb ?_ | refine blk_alloc ?_ _)); exact BK586.out⟩, ⟨by (with_reducible repeat (first | refine Za ?_ _ | refine Zb ?_ | refine blk_alloc ?_ _)); refine blk_put (cs := #[.int .i64 t594, .int .i64 t595, .slice Ao71 y602.length co71]) ?_ 2 _ rfl; (with_reducible repeat (first | refine Za ?_ _ | refine Zb ?_ | refine blk_alloc ?_ _)); exact BK599.out⟩, ⟨by repeat (first | (with_reducible first | exact HB.out | apply Zf | apply Zd | apply Ze | refine Zg ?_ GE585.out | refine Zg ?_ GE586.out | refine Zg ?_ GE599.out) | exact HB.out)⟩⟩
             rw [if_neg c67] at H
             exact absurd H (by simp)
            rw [if_neg c66] at H
            exact absurd H (by simp)
           rw [if_neg c65] at H
           exact absurd H (by simp)
          rw [if_neg c64] at H
          exact absurd H (by simp)
         rw [if_neg c63] at H
         exact absurd H (by simp)
        rw [if_neg c61] at H
        have c61b0 : decide ((wrap64 ((wrap64 (a1 + x11_2)) - a0_0)) < (x600002_2.length : Int)) = false := decide_eq_false c61
        clear c61
        by_cases c78 : 0 ≤ x11_2
        ·
         rw [if_pos c78] at H
         have c78b0 : decide (0 ≤ x11_2) = true := decide_eq_true c78
         clear c78
         by_cases c79 : x11_2 < (l3.length : Int)
         ·
          rw [if_pos c79] at H
          have c79b0 : decide (x11_2 < (l3.length : Int)) = true := decide_eq_true c79
          clear c79
          by_cases c80 : x600002_2.length < 5864062014805
          ·
           rw [if_pos c80] at H
           have LMc80 := Zh c80
           clear c80
           obtain ⟨y610, hy610⟩ : ∃ y_ : List (S54), y_ = (x600002_2 ++ [(⟨(rd_T54 l3 x11_2).f0, (rd_T54 l3 x11_2).f1⟩ : S54)]) := ⟨_, rfl⟩
           replace H : (spec_AppendTo.l0 kj47 a1 l3 (wrap64 (x11_2 + 1)) a0_0 a0_1 l0_2 t594 t595 y610) = some (r1, r2, r3, r4) := by first | (rw [hy610]; with_reducible exact H) | (have H2_ := (Option.bind_some _ _).symm.trans H; rw [hy610]; with_reducible exact H2_) | (have H2_ := (Option.bind_some _ _).symm.trans H; with_reducible exact H2_) | with_reducible exact H | (rw [hy610]; exact H) | exact H
           have Ny610 := Zh hy610
           clear hy610
           have H' := Zh H
           clear H
           have hnb81 := NB599_585.out
           have hnc81 := NB585_599.out
           have hnb82 := NB599_586.out
           have hnc82 := NB586_599.out
           have hcz83_0 : wc.cell? ⟨gb599, 0, none⟩ = some (.int .i64 t594) := (blk_cell BK599.out 0).trans rfl
           have hcz83_1 : wc.cell? ⟨gb599, 1, none⟩ = some (.int .i64 t595) := (blk_cell BK599.out 1).trans rfl
           have hcz83_2 : wc.cell? ⟨gb599, 2, none⟩ = some (u600002) := (blk_cell BK599.out 2).trans rfl
           have hfz83_0 := Zn BK599.out 0
           have hfz83_1 := Zn BK599.out 1
           have hfz83_2 := Zn BK599.out 2
           obtain ⟨Ao84, co84, eo84⟩ := R_slice HO_600002.out
           subst eo84
           try go_wp2
           have n0_ := Zh (R_drew HO_600002.out)
           have n1_ := Zh (Zb BK585.out)
           have n2_ := Zh (Zb BK586.out)
           have n3_ := Zh (Zb BK599.out)
           have n4_ := Zh (Ze HB.out)
           clear HO_600002
           clear BK585
           clear BK586
           clear BK599
           clear HB
           have HO_600002 := n0_
           have BK585 := n1_
           have BK586 := n2_
           have BK599 := n3_
           have HB := n4_
           clear n0_ n1_ n2_ n3_ n4_
           have p609 : 0 ≤ (x11_2 : Int) := Zo
           have q609 : x11_2 < (l3.length : Int) := Zo
           obtain ⟨ad609, e609, hx609_0, hx609_1⟩ := at_T54 HR3.out x11_2 p609 q609
           have hw609_1 := hx609_1
           have hw609_0 := hx609_0
           cases e609
           replace hx609_0 := Zc HB.out hx609_0
           replace hx609_1 := Zc HB.out hx609_1
           replace p609 := eq_true p609
           replace q609 := eq_true q609
           refine start_ (n := 10) (S := fun w' => w'.cell? ⟨gb599, 0, none⟩ = some (.int .i64 t594) ∧ w'.cell? ⟨gb599, 1, none⟩ = some (.int .i64 t595) ∧ w'.cell? ⟨gb599, 2, none⟩ = some (.slice Ao84 x600002_2.length co84) ∧ w'.cell? (ad609.add ((x11_2).toNat * 2)) = some (.int .i64 ((rd_T54 l3 x11_2).f0)) ∧ w'.cell? ⟨(ad609.add ((x11_2).toNat * 2)).block, (ad609.add ((x11_2).toNat * 2)).off + 1, none⟩ = some (.string ((rd_T54 l3 x11_2).f1))) (ds := [9]) #[false, false, false, false, false, false, false, false, false, false] (by kernel_rfl) rfl rfl ⟨(blk_cell BK599.out 0).trans rfl, (blk_cell BK599.out 1).trans rfl, (blk_cell BK599.out 2).trans rfl, ((HB.out.cell (Zi w _ hw609_0)).trans hw609_0), ((HB.out.cell (Zi w _ hw609_1)).trans hw609_1)⟩ (fun hHeld => ?_); refine with_tabW spec_AppendTo.tab11 spec_AppendTo.bits11 (fun HT_ HW_ => ?_)
           generalize wc.drew = w85 at HO_600002 BK585 BK586 BK599 HB hx609_0 hx609_1 hHeld ⊢
           refine pure_ (i := 0) (N := some 77) (v := ?_) (a' := ?_) #[true, false, false, false, false, false, false, false, false, false] rfl rfl (any_of HT_.out (by kernel_rfl)) (fun _ _ _ h => h) (Or.inl ⟨by rfl, ?_⟩) ?_ ?_
           rotate_left
           ·
            intro w'
            go_simp
            with_reducible rfl
           rotate_left
           ·
            simp only [Act.put, List.setIfInBounds_toArray, List.set_cons_zero, List.set_cons_succ, i64_w, i32_w]
            rfl
           refine pure_ (i := 2) (N := some 79) (v := ?_) (a' := ?_) #[true, false, true, false, false, false, false, false, false, false] rfl rfl (any_of HT_.out (by kernel_rfl)) (fun _ _ _ h => h) (Or.inl ⟨by rfl, ?_⟩) ?_ ?_
           rotate_left
           ·
            intro w'
            go_simp
            with_reducible rfl
           rotate_left
           ·
            simp only [Act.put, List.setIfInBounds_toArray, List.set_cons_zero, List.set_cons_succ, i64_w, i32_w]
            rfl
           refine pure_ (i := 3) (N := some 80) (v := ?_) (a' := ?_) #[true, false, true, true, false, false, false, false, false, false] rfl rfl (any_of HT_.out (by kernel_rfl)) (fun _ _ _ h => h) (Or.inl ⟨by rfl, ?_⟩) ?_ ?_
           rotate_left
           ·
            intro w'
            go_simp
            with_reducible rfl
           rotate_left
           ·
            simp only [Act.put, List.setIfInBounds_toArray, List.set_cons_zero, List.set_cons_succ, i64_w, i32_w]
            rfl
           refine pure_ (i := 4) (N := some 81) (v := ?_) (a' := ?_) #[true, false, true, true, true, false, false, false, false, false] rfl rfl (any_of HT_.out (by kernel_rfl)) (fun _ _ _ h => h) (Or.inl ⟨by rfl, ?_⟩) ?_ ?_
           rotate_left
           ·
            intro w'
            go_simp
            with_reducible rfl
           rotate_left
           ·
            simp only [Act.put, List.setIfInBounds_toArray, List.set_cons_zero, List.set_cons_succ, i64_w, i32_w]
            rfl
           refine take_ (i := 1) (N := some 78) (v := ?_) (a' := ?_) #[true, true, true, true, true, false, false, false, false, false] rfl rfl (take_ofW HT_.out HW_.out (by kernel_rfl)) (fun _ _ _ h => h) (Or.inl ⟨by rfl, ?_⟩) hHeld ?_ ?_
           rotate_left
           ·
            rintro w' ⟨s0, s1, s2, s3, s4⟩
            go_simp
            with_reducible rfl
           rotate_left
           ·
            simp only [Act.put, List.setIfInBounds_toArray, List.set_cons_zero, List.set_cons_succ, i64_w, i32_w]
            rfl
           refine take_ (i := 5) (N := some 82) (v := ?_) (a' := ?_) #[true, true, true, true, true, true, false, false, false, false] rfl rfl (take_ofW HT_.out HW_.out (by kernel_rfl)) (fun _ _ _ h => h) (Or.inl ⟨by rfl, ?_⟩) hHeld ?_ ?_
           rotate_left
           ·
            rintro w' ⟨s0, s1, s2, s3, s4⟩
            go_simp
            with_reducible rfl
           rotate_left
           ·
            simp only [Act.put, List.setIfInBounds_toArray, List.set_cons_zero, List.set_cons_succ, i64_w, i32_w]
            rfl
           refine one_ (i := 6) (N := some 83) #[true, true, true, true, true, true, true, false, false, false] rfl rfl (one_of HT_.out (by kernel_rfl)) (by decide) (fun K hK => ?_)
           refine value_ (w1 := ?_) (v := ?_) (by rfl) rfl ?_ ?_
           rotate_left 2
           ·
            go_simp
            constructor
            ·
             rfl
            rfl
           refine hK.out _ _ ⟨(blk_cell (blk_alloc BK599.out _) 0).trans rfl, (blk_cell (blk_alloc BK599.out _) 1).trans rfl, (blk_cell (blk_alloc BK599.out _) 2).trans rfl, (World.cell?_alloc_lt _ _ _ (Zi _ _ (((HB.out.cell (Zi w _ hw609_0)).trans hw609_0)))).trans (((HB.out.cell (Zi w _ hw609_0)).trans hw609_0)), (World.cell?_alloc_lt _ _ _ (Zi _ _ (((HB.out.cell (Zi w _ hw609_1)).trans hw609_1)))).trans (((HB.out.cell (Zi w _ hw609_1)).trans hw609_1))⟩ (fun hHeld => ?_)
           clear hK K
           refine norm_ (a' := ?_) ?_ ?_
           rotate_left
           ·
            show Act.put _ (some 83) _ = _
            simp only [Act.put, List.setIfInBounds_toArray, List.set_cons_zero, List.set_cons_succ, i64_w, i32_w]
            rfl
           refine one_ (i := 7) (N := some 84) #[true, true, true, true, true, true, true, true, false, false] rfl rfl (one_of HT_.out (by kernel_rfl)) (by decide) (fun K hK => ?_)
           refine R_append_step k54 (w0 := w) w.heap.size (by rfl) (.tmp 78) (.tmp 83) 27 54 (.agg #[(.int .i64 0), (.string ⟨#[]⟩)]) 24 rfl Try.underlying27 info54 rfl (by decide) (by omega) (.slice Ao84 x600002_2.length co84) x600002_2 (⟨(rd_T54 l3 x11_2).f0, (rd_T54 l3 x11_2).f1⟩ : S54) [.int .i64 ((rd_T54 l3 x11_2).f0), .string ((rd_T54 l3 x11_2).f1)] (fun _ => True) (fun _ => False) rfl rfl ?aP (fun _ hk => hk.elim) ?aF ?aO ?aB ?aS ?aL ?_
           (case aP => exact k54_mkM _ _ _ (⟨(rd_T54 l3 x11_2).f0, (rd_T54 l3 x11_2).f1⟩ : S54))
           (case aB => exact Zs)
           (case aF => exact (fun _ _ => trivial))
           (case aO => exact (by (with_reducible repeat (first | apply R_alloc | apply R_drewN | apply R_drew)); exact HO_600002.out))
           (case aS => exact (below_size Zs))
           (case aL => have := LMc80.out; omega)
           intro v611 w86 ho hb hg hat
           rw [← Ny610.out] at ho
           have n0_ := Zh (blk_grown (g := gb585) (o := .cells #[.int .i64 a0_0, .int .i64 a0_1, .slice A0_2 l0_2.length c0_2] 29 (0, 0)) Zk hg (R_ne HO_600002.out BK585.out (by decide)))
           have n1_ := Zh (blk_grown (g := gb586) (o := .cells #[.int .i64 0, .int .i64 0, .slice none 0 0] 29 (0, 0)) Zk hg (R_ne HO_600002.out BK586.out (by decide)))
           have n2_ := Zh (blk_grown (g := gb599) (o := .cells #[.int .i64 t594, .int .i64 t595, .slice Ao84 x600002_2.length co84] 29 (0, 0)) Zk hg (R_ne HO_600002.out BK599.out (by decide)))
           have n3_ := Zh (hb)
           have n4_ := Zh (ho)
           clear BK585
           clear BK586
           clear BK599
           clear HB
           clear HO_600002
           have BK585 := n0_
           have BK586 := n1_
           have BK599 := n2_
           have HB := n3_
           have HO612 := n4_
           clear n0_ n1_ n2_ n3_ n4_
           clear ho hb hg hat
           obtain ⟨Ao87, co87, eo87⟩ := R_slice HO612.out
           (first | subst eo87 | (injection eo87 with f1_ f2_ f3_; have f4_ := f1_.symm; have f5_ := f3_.symm; clear f1_ f2_ f3_; subst f4_; subst f5_))
           refine hK.out _ _ ⟨(blk_cell BK599.out 0).trans rfl, (blk_cell BK599.out 1).trans rfl, (blk_cell BK599.out 2).trans rfl, ((HB.out.cell (Zi w _ hw609_0)).trans hw609_0), ((HB.out.cell (Zi w _ hw609_1)).trans hw609_1)⟩ (fun hHeld => ?_)
           clear hK K
           refine norm_ (a' := ?_) ?_ ?_
           rotate_left
           ·
            show Act.put _ (some 84) _ = _
            simp only [Act.put, List.setIfInBounds_toArray, List.set_cons_zero, List.set_cons_succ, i64_w, i32_w]
            rfl
           refine pure_ (i := 8) (N := some 85) (v := ?_) (a' := ?_) #[true, true, true, true, true, true, true, true, true, false] rfl rfl (any_of HT_.out (by kernel_rfl)) (fun _ _ _ h => h) (Or.inl ⟨by rfl, ?_⟩) ?_ ?_
           rotate_left
           ·
            intro w'
            go_simp
            with_reducible rfl
           rotate_left
           ·
            simp only [Act.put, List.setIfInBounds_toArray, List.set_cons_zero, List.set_cons_succ, i64_w, i32_w]
            rfl
           refine last_ (i := 9) (N := none) #[true, true, true, true, true, true, true, true, true, true] rfl rfl (one_of HT_.out (by kernel_rfl)) (by decide) (fun K hK => ?_)
           have hs88 : w86.cell? ⟨gb599, 2, none⟩ = some (.slice Ao84 x600002_2.length co84) := (blk_cell BK599.out 2).trans rfl
           have hfs88 := Zn BK599.out 2
           have hns88_0 := NB585_599.out
           have hns88_1 := NB586_599.out
           have hms88_0 := NB599_585.out
           have hms88_1 := NB599_586.out
           refine skip_ (w1 := ?_) (by rfl) rfl ?_ ?_
           rotate_left
           ·
            go_simp
            rfl
           refine hK.out _ _ ?_
           clear hK K
           refine done_ (done_of HT_.out (by kernel_rfl)) ?_
           try go_wp2
           go_roundg kj47
           case measure => have := HJ4.out; have := HK2.out; have := HJ47.out; omega
           case rel => exact ⟨(wrap64 (x11_2 + 1)), (y610), (.slice Ao87 y610.length co87), (by first | rfl | (simp; done) | (simp [*]; done)), H', ⟨by have := HJ4.out; have := HK2.out; have := HJ47.out; omega⟩, ⟨by (with_reducible repeat (first | apply R_alloc | apply R_drewN | apply R_drew)); exact R_mono (R_far (p := ⟨gb599, 2, none⟩) (R_types HO612.out BK599.out (by decide)) (fun _ hk => hk.2) (.slice Ao87 y610.length co87)) (fun _ hk => trivial)⟩, ⟨by (with_reducible repeat (first | refine Za ?_ _ | refine Zb ?_ | refine blk_alloc ?_ _)); refine Zp ?_ NB585_599.out _; (with_reducible repeat (first | refine Za ?_ _ | refine Zb ?_ | refine blk_alloc ?_ _)); exact BK585.out⟩, ⟨by (with_reducible repeat (first | refine Za ?_ _ | refine Zb ?_ | refine blk_alloc ?_ _)); refine Zp ?_ NB586_599.out _; (with_reducible repeat (first | refine Za ?_ _ | refine Zb ?_ | refine blk_alloc ?_ _)); exact BK586.out⟩, ⟨by (with_reducible repeat (first | refine Za ?_ _ | refine Zb ?_ | refine blk_alloc ?_ _)); refine blk_put (cs := #[.int .i64 t594, .int .i64 t595, .slice Ao84 x600002_2.length co84]) ?_ 2 _ rfl; (with_reducible repeat (first | refine Za ?_ _ | refine Zb ?_ | refine blk_alloc ?_ _)); exact BK599.out⟩, ⟨by repeat (first | (with_reducible first | exact HB.out | apply Zf | apply Zd | apply Ze | refine Zg ?_ GE585.out | refine Zg ?_ GE586.out | refine Zg ?_ GE599.out) | exact HB.out)⟩⟩
          rw [if_neg c80] at H
          exact absurd H (by simp)
         rw [if_neg c79] at H
         exact absurd H (by simp)
        rw [if_neg c78] at H
        exact absurd H (by simp)
     rw [if_neg c47] at H
     have c47b0 : decide (x11_2 < (l3.length : Int)) = false := decide_eq_false c47
     clear c47
     replace H := Option.bind_eq_some_iff.mp H
     obtain ⟨t613, A890, H⟩ := H
     replace H : (if t613 = true then ((spec_l05Copy.f k2 t594 t595 x600002_2).bind fun bt614 => (some (bt614.1, bt614.2.1, bt614.2.2, true))) else ((spec_l05Copy.f k2 a0_0 a0_1 l0_2).bind fun bt619 => (some (bt619.1, bt619.2.1, bt619.2.2, false)))) = some (r1, r2, r3, r4) := H
     have A89 := Zh A890
     clear A890
     by_cases c90 : t613 = true
     ·
      subst c90
      have H1 : ((spec_l05Copy.f k2 t594 t595 x600002_2).bind fun bt614 => (some (bt614.1, bt614.2.1, bt614.2.2, true))) = some (r1, r2, r3, r4) := by rw [if_pos rfl] at H; exact H
      clear H
      have H := H1
      clear H1
      replace H := Option.bind_eq_some_iff.mp H
      obtain ⟨⟨t614, t615, t616⟩, A910, H⟩ := H
      replace H : (some (t614, t615, t616, true)) = some (r1, r2, r3, r4) := H
      have A91 := Zh A910
      clear A910
      simp only [Option.some.injEq, Prod.mk.injEq] at H
      obtain ⟨rfl, rfl, rfl, rfl⟩ := H
      have hnb92 := NB599_585.out
      have hnc92 := NB585_599.out
      have hnb93 := NB599_586.out
      have hnc93 := NB586_599.out
      have hcz94_0 : wr.cell? ⟨gb599, 0, none⟩ = some (.int .i64 t594) := (blk_cell BK599.out 0).trans rfl
      have hcz94_1 : wr.cell? ⟨gb599, 1, none⟩ = some (.int .i64 t595) := (blk_cell BK599.out 1).trans rfl
      have hcz94_2 : wr.cell? ⟨gb599, 2, none⟩ = some (u600002) := (blk_cell BK599.out 2).trans rfl
      have hfz94_0 := Zn BK599.out 0
      have hfz94_1 := Zn BK599.out 1
      have hfz94_2 := Zn BK599.out 2
      obtain ⟨Ao95, co95, eo95⟩ := R_slice HO_600002.out
      subst eo95
      go_wp2_with (first | ((with_reducible refine gate_callee (f := 14) rfl ?_); refine goesL_ (some 87) rfl rfl Try.func14 (by kernel_rfl) rfl #[.agg #[.int .i64 t594, .int .i64 t595, .slice Ao95 x600002_2.length co95]] rfl (by (try simp only [List.map_toArray, List.map_cons, List.map_nil]); first | done | rfl | (simp only [List.length_drop, List.length_take]; rfl)) ?_; (with_reducible refine (spec_RLogOk.calls k2 t594 t595 _ _ x600002_2 true _ ?side1 ?side2 A89.out).mono ?_); (case side1 => repeat (first | exact (R_reads' HO_600002.out).2.2 | (with_reducible refine C_alloc ?_ _) | (with_reducible refine C_drewN ?_ _) | (with_reducible refine C_drew ?_))); (case side2 => exact (R_reads' HO_600002.out).2.1); rintro e w96 ⟨rfl, hb⟩; refine ⟨_, rfl, ?_⟩; have n0_ := Zh (R_below (by (with_reducible repeat (first | apply R_alloc | apply R_drewN | apply R_drew)); exact HO_600002.out) hb); have n1_ := Zh (Zm (g := gb585) (o := .cells #[.int .i64 a0_0, .int .i64 a0_1, .slice A0_2 l0_2.length c0_2] 29 (0, 0)) Zk hb); have n2_ := Zh (Zm (g := gb586) (o := .cells #[.int .i64 0, .int .i64 0, .slice none 0 0] 29 (0, 0)) Zk hb); have n3_ := Zh (Zm (g := gb599) (o := .cells #[.int .i64 t594, .int .i64 t595, .slice Ao95 x600002_2.length co95] 29 (0, 0)) Zk hb); have n4_ := Zh (Zl Zs hb); clear HO_600002; clear BK585; clear BK586; clear BK599; clear HB; have HO_600002 := n0_; have BK585 := n1_; have BK586 := n2_; have BK599 := n3_; have HB := n4_; clear n0_ n1_ n2_ n3_ n4_; (try clear hb); (try clear hb2); (try clear hk); (try clear hi); have hcz97_0 : w96.cell? ⟨gb599, 0, none⟩ = some (.int .i64 t594) := (blk_cell BK599.out 0).trans rfl; have hcz97_1 : w96.cell? ⟨gb599, 1, none⟩ = some (.int .i64 t595) := (blk_cell BK599.out 1).trans rfl; have hcz97_2 : w96.cell? ⟨gb599, 2, none⟩ = some (.slice Ao95 x600002_2.length co95) := (blk_cell BK599.out 2).trans rfl; have hfz97_0 := Zn BK599.out 0; have hfz97_1 := Zn BK599.out 1; have hfz97_2 := Zn BK599.out 2) | ((with_reducible refine gate_callee (f := 51) rfl ?_); refine goesL_ (some 92) rfl rfl Try.func51 (by kernel_rfl) rfl #[.agg #[.int .i64 t594, .int .i64 t595, .slice Ao95 x600002_2.length co95]] rfl (by (try simp only [List.map_toArray, List.map_cons, List.map_nil]); first | done | rfl | (simp only [List.length_drop, List.length_take]; rfl)) ?_; (with_reducible refine (spec_l05Copy.calls k2 t594 t595 _ _ x600002_2 t614 t615 t616 _ ?side1 ?side2 A91.out).mono ?_); (case side1 => repeat (first | exact (R_reads' HO_600002.out).2.2 | (with_reducible refine C_alloc ?_ _) | (with_reducible refine C_drewN ?_ _) | (with_reducible refine C_drew ?_))); (case side2 => exact (R_reads' HO_600002.out).2.1); rintro e w98 ⟨v617, rfl, ho0, hb⟩; refine ⟨_, rfl, ?_⟩; have n0_ := Zh (R_elder' (by (with_reducible repeat (first | apply R_alloc | apply R_drewN | apply R_drew)); exact HO_600002.out) (R_base ho0) hb); have n1_ := Zh (R_lower (R_new' ho0 (R_lt (by (with_reducible repeat (first | apply R_alloc | apply R_drewN | apply R_drew)); exact HO_600002.out))) (below_size Zs)); have n2_ := Zh (Zm (g := gb585) (o := .cells #[.int .i64 a0_0, .int .i64 a0_1, .slice A0_2 l0_2.length c0_2] 29 (0, 0)) Zk hb); have n3_ := Zh (Zm (g := gb586) (o := .cells #[.int .i64 0, .int .i64 0, .slice none 0 0] 29 (0, 0)) Zk hb); have n4_ := Zh (Zm (g := gb599) (o := .cells #[.int .i64 t594, .int .i64 t595, .slice Ao95 x600002_2.length co95] 29 (0, 0)) Zk hb); have n5_ := Zh (Zl Zs hb); clear HO_600002; clear BK585; clear BK586; clear BK599; clear HB; have HO_600002 := n0_; have HO618 := n1_; have BK585 := n2_; have BK586 := n3_; have BK599 := n4_; have HB := n5_; clear n0_ n1_ n2_ n3_ n4_ n5_; (try clear hb); (try clear hb2); (try clear hk); (try clear hi); (try clear ho0); have hnb99 := NB586_585.out; have hnc99 := NB585_586.out; have hcz100_0 : w98.cell? ⟨gb586, 0, none⟩ = some (.int .i64 0) := (blk_cell BK586.out 0).trans rfl; have hcz100_1 : w98.cell? ⟨gb586, 1, none⟩ = some (.int .i64 0) := (blk_cell BK586.out 1).trans rfl; have hcz100_2 : w98.cell? ⟨gb586, 2, none⟩ = some (.slice none 0 0) := (blk_cell BK586.out 2).trans rfl; have hfz100_0 := Zn BK586.out 0; have hfz100_1 := Zn BK586.out 1; have hfz100_2 := Zn BK586.out 2; obtain ⟨Ao101, co101, eo101⟩ := R_slice HO618.out; subst eo101))
      refine bodyPost_ret (results_ct rfl _ _ gb586 29 #[.int .i64 t614, .int .i64 t615, .slice Ao101 t616.length co101] (0, 0) _ rfl (by (with_reducible repeat (first | refine Za ?_ _ | refine Zb ?_ | refine blk_alloc ?_ _)); refine blk_put (cs := #[.int .i64 t614, .int .i64 t615, .slice none 0 0]) ?_ 2 _ rfl; (with_reducible repeat (first | refine Za ?_ _ | refine Zb ?_ | refine blk_alloc ?_ _)); refine blk_put (cs := #[.int .i64 t614, .int .i64 0, .slice none 0 0]) ?_ 1 _ rfl; (with_reducible repeat (first | refine Za ?_ _ | refine Zb ?_ | refine blk_alloc ?_ _)); refine blk_put (cs := #[.int .i64 0, .int .i64 0, .slice none 0 0]) ?_ 0 _ rfl; (with_reducible repeat (first | refine Za ?_ _ | refine Zb ?_ | refine blk_alloc ?_ _)); exact BK586.out) Try.underlying29 rfl (by kernel_rfl)) rfl ?_
      exact ⟨_, by first | rfl | (simp [errW_none, errW_some] <;> rfl) | (simp [*, errW_none, errW_some] <;> rfl), by (with_reducible repeat (first | apply R_alloc | apply R_drewN | apply R_drew)); exact R_mono (R_far (p := ⟨gb586, 2, none⟩) (R_far (p := ⟨gb586, 1, none⟩) (R_far (p := ⟨gb586, 0, none⟩) (R_types HO618.out BK586.out (by decide)) (fun _ hk => hk.2) (.int .i64 t614)) (fun _ hk => hk.2) (.int .i64 t615)) (fun _ hk => hk.2) (.slice Ao101 t616.length co101)) (fun _ hk => trivial), by repeat (first | (with_reducible first | exact HB.out | apply Zf | apply Zd | apply Ze | refine Zg ?_ GE585.out | refine Zg ?_ GE586.out | refine Zg ?_ GE599.out) | exact HB.out)⟩
     replace c90 := Bool.eq_false_iff.mpr c90
     subst c90
     have H1 : ((spec_l05Copy.f k2 a0_0 a0_1 l0_2).bind fun bt619 => (some (bt619.1, bt619.2.1, bt619.2.2, false))) = some (r1, r2, r3, r4) := by rw [if_neg (show ¬ (false = true) by decide)] at H; exact H
     clear H
     have H := H1
     clear H1
     replace H := Option.bind_eq_some_iff.mp H
     obtain ⟨⟨t619, t620, t621⟩, A1020, H⟩ := H
     replace H : (some (t619, t620, t621, false)) = some (r1, r2, r3, r4) := H
     have A102 := Zh A1020
     clear A1020
     simp only [Option.some.injEq, Prod.mk.injEq] at H
     obtain ⟨rfl, rfl, rfl, rfl⟩ := H
     have hnb103 := NB599_585.out
     have hnc103 := NB585_599.out
     have hnb104 := NB599_586.out
     have hnc104 := NB586_599.out
     have hcz105_0 : wr.cell? ⟨gb599, 0, none⟩ = some (.int .i64 t594) := (blk_cell BK599.out 0).trans rfl
     have hcz105_1 : wr.cell? ⟨gb599, 1, none⟩ = some (.int .i64 t595) := (blk_cell BK599.out 1).trans rfl
     have hcz105_2 : wr.cell? ⟨gb599, 2, none⟩ = some (u600002) := (blk_cell BK599.out 2).trans rfl
     have hfz105_0 := Zn BK599.out 0
     have hfz105_1 := Zn BK599.out 1
     have hfz105_2 := Zn BK599.out 2
     obtain ⟨Ao106, co106, eo106⟩ := R_slice HO_600002.out
     subst eo106
     go_wp2_with (first | ((with_reducible refine gate_callee (f := 14) rfl ?_); refine goesL_ (some 87) rfl rfl Try.func14 (by kernel_rfl) rfl #[.agg #[.int .i64 t594, .int .i64 t595, .slice Ao106 x600002_2.length co106]] rfl (by (try simp only [List.map_toArray, List.map_cons, List.map_nil]); first | done | rfl | (simp only [List.length_drop, List.length_take]; rfl)) ?_; (with_reducible refine (spec_RLogOk.calls k2 t594 t595 _ _ x600002_2 false _ ?side1 ?side2 A89.out).mono ?_); (case side1 => repeat (first | exact (R_reads' HO_600002.out).2.2 | (with_reducible refine C_alloc ?_ _) | (with_reducible refine C_drewN ?_ _) | (with_reducible refine C_drew ?_))); (case side2 => exact (R_reads' HO_600002.out).2.1); rintro e w107 ⟨rfl, hb⟩; refine ⟨_, rfl, ?_⟩; have n0_ := Zh (R_below (by (with_reducible repeat (first | apply R_alloc | apply R_drewN | apply R_drew)); exact HO_600002.out) hb); have n1_ := Zh (Zm (g := gb585) (o := .cells #[.int .i64 a0_0, .int .i64 a0_1, .slice A0_2 l0_2.length c0_2] 29 (0, 0)) Zk hb); have n2_ := Zh (Zm (g := gb586) (o := .cells #[.int .i64 0, .int .i64 0, .slice none 0 0] 29 (0, 0)) Zk hb); have n3_ := Zh (Zm (g := gb599) (o := .cells #[.int .i64 t594, .int .i64 t595, .slice Ao106 x600002_2.length co106] 29 (0, 0)) Zk hb); have n4_ := Zh (Zl Zs hb); clear HO_600002; clear BK585; clear BK586; clear BK599; clear HB; have HO_600002 := n0_; have BK585 := n1_; have BK586 := n2_; have BK599 := n3_; have HB := n4_; clear n0_ n1_ n2_ n3_ n4_; (try clear hb); (try clear hb2); (try clear hk); (try clear hi); have hnb108 := NB585_586.out; have hnc108 := NB586_585.out; have hcz109_0 : w107.cell? ⟨gb585, 0, none⟩ = some (.int .i64 a0_0) := (blk_cell BK585.out 0).trans rfl; have hcz109_1 : w107.cell? ⟨gb585, 1, none⟩ = some (.int .i64 a0_1) := (blk_cell BK585.out 1).trans rfl; have hcz109_2 : w107.cell? ⟨gb585, 2, none⟩ = some (.slice A0_2 l0_2.length c0_2) := (blk_cell BK585.out 2).trans rfl; have hfz109_0 := Zn BK585.out 0; have hfz109_1 := Zn BK585.out 1; have hfz109_2 := Zn BK585.out 2) | ((with_reducible refine gate_callee (f := 51) rfl ?_); refine goesL_ (some 90) rfl rfl Try.func51 (by kernel_rfl) rfl #[.agg #[.int .i64 a0_0, .int .i64 a0_1, .slice A0_2 l0_2.length c0_2]] rfl (by (try simp only [List.map_toArray, List.map_cons, List.map_nil]); first | done | rfl | (simp only [List.length_drop, List.length_take]; rfl)) ?_; (with_reducible refine (spec_l05Copy.calls k2 a0_0 a0_1 _ _ l0_2 t619 t620 t621 _ ?side1 ?side2 A102.out).mono ?_); (case side1 => repeat (first | exact (C_below HR0_2.out HB.out) | (with_reducible refine C_alloc ?_ _) | (with_reducible refine C_drewN ?_ _) | (with_reducible refine C_drew ?_))); (case side2 => exact HC0_2.out); rintro e w110 ⟨v622, rfl, ho0, hb⟩; refine ⟨_, rfl, ?_⟩; have n0_ := Zh (R_elder' (by (with_reducible repeat (first | apply R_alloc | apply R_drewN | apply R_drew)); exact HO_600002.out) (R_base ho0) hb); have n1_ := Zh (R_lower (R_new' ho0 (R_lt (by (with_reducible repeat (first | apply R_alloc | apply R_drewN | apply R_drew)); exact HO_600002.out))) (below_size Zs)); have n2_ := Zh (Zm (g := gb585) (o := .cells #[.int .i64 a0_0, .int .i64 a0_1, .slice A0_2 l0_2.length c0_2] 29 (0, 0)) Zk hb); have n3_ := Zh (Zm (g := gb586) (o := .cells #[.int .i64 0, .int .i64 0, .slice none 0 0] 29 (0, 0)) Zk hb); have n4_ := Zh (Zm (g := gb599) (o := .cells #[.int .i64 t594, .int .i64 t595, .slice Ao106 x600002_2.length co106] 29 (0, 0)) Zk hb); have n5_ := Zh (Zl Zs hb); clear HO_600002; clear BK585; clear BK586; clear BK599; clear HB; have HO_600002 := n0_; have HO623 := n1_; have BK585 := n2_; have BK586 := n3_; have BK599 := n4_; have HB := n5_; clear n0_ n1_ n2_ n3_ n4_ n5_; (try clear hb); (try clear hb2); (try clear hk); (try clear hi); (try clear ho0); have hcz111_0 : w110.cell? ⟨gb586, 0, none⟩ = some (.int .i64 0) := (blk_cell BK586.out 0).trans rfl; have hcz111_1 : w110.cell? ⟨gb586, 1, none⟩ = some (.int .i64 0) := (blk_cell BK586.out 1).trans rfl; have hcz111_2 : w110.cell? ⟨gb586, 2, none⟩ = some (.slice none 0 0) := (blk_cell BK586.out 2).trans rfl; have hfz111_0 := Zn BK586.out 0; have hfz111_1 := Zn BK586.out 1; have hfz111_2 := Zn BK586.out 2; obtain ⟨Ao112, co112, eo112⟩ := R_slice HO623.out; subst eo112))
     refine bodyPost_ret (results_ct rfl _ _ gb586 29 #[.int .i64 t619, .int .i64 t620, .slice Ao112 t621.length co112] (0, 0) _ rfl (by (with_reducible repeat (first | refine Za ?_ _ | refine Zb ?_ | refine blk_alloc ?_ _)); refine blk_put (cs := #[.int .i64 t619, .int .i64 t620, .slice none 0 0]) ?_ 2 _ rfl; (with_reducible repeat (first | refine Za ?_ _ | refine Zb ?_ | refine blk_alloc ?_ _)); refine blk_put (cs := #[.int .i64 t619, .int .i64 0, .slice none 0 0]) ?_ 1 _ rfl; (with_reducible repeat (first | refine Za ?_ _ | refine Zb ?_ | refine blk_alloc ?_ _)); refine blk_put (cs := #[.int .i64 0, .int .i64 0, .slice none 0 0]) ?_ 0 _ rfl; (with_reducible repeat (first | refine Za ?_ _ | refine Zb ?_ | refine blk_alloc ?_ _)); exact BK586.out) Try.underlying29 rfl (by kernel_rfl)) rfl ?_
     exact ⟨_, by first | rfl | (simp [errW_none, errW_some] <;> rfl) | (simp [*, errW_none, errW_some] <;> rfl), by (with_reducible repeat (first | apply R_alloc | apply R_drewN | apply R_drew)); exact R_mono (R_far (p := ⟨gb586, 2, none⟩) (R_far (p := ⟨gb586, 1, none⟩) (R_far (p := ⟨gb586, 0, none⟩) (R_types HO623.out BK586.out (by decide)) (fun _ hk => hk.2) (.int .i64 t619)) (fun _ hk => hk.2) (.int .i64 t620)) (fun _ hk => hk.2) (.slice Ao112 t621.length co112)) (fun _ hk => trivial), by repeat (first | (with_reducible first | exact HB.out | apply Zf | apply Zd | apply Ze | refine Zg ?_ GE585.out | refine Zg ?_ GE586.out | refine Zg ?_ GE599.out) | exact HB.out)⟩
def impl_copyRLog.f (a0_0 : Int) (a0_1 : Int) (l0_2 : List (S54)) : Option (Int × Int × (List (S54))) := (some (([] : List (S54)) : List (S54))).bind fun y439 => (if y439.length + l0_2.length < 5864062014805 then (some (a0_0, a0_1, (y439 ++ l0_2))) else (none))
set_option maxHeartbeats 8000000 in
set_option maxRecDepth 100000 in
theorem impl_copyRLog.calls (a0_0 : Int) (a0_1 : Int) (A0_2 : Option Addr) (c0_2 : Nat) (l0_2 : List (S54)) (r1 : Int) (r2 : Int) (r3 : List (S54)) (w : World) (hr0_2 : Kd.C k54 w A0_2 l0_2.length l0_2) (hc0_2 : l0_2.length ≤ c0_2) (h : impl_copyRLog.f a0_0 a0_1 l0_2 = some (r1, r2, r3)) :
  Calls Try.prog 52 #[.agg #[.int .i64 a0_0, .int .i64 a0_1, .slice A0_2 l0_2.length c0_2]] w fun e w' => ∃ v2_ : Value, e = .returned (.agg #[.int .i64 r1, .int .i64 r2, v2_]) ∧ Kd.R k54 54 w' w.heap.size (fun _ => True) v2_ r3 ∧ Below w.heap.size w w' := by
 have hu29 := Try.underlying29
 have HR0_2 := Zh hr0_2
 have HC0_2 := Zh hc0_2
 clear hr0_2 hc0_2
 have HB := Zh (Below.refl w.heap.size w)
 have H : ((some (([] : List (S54)) : List (S54))).bind fun y439 => (if y439.length + l0_2.length < 5864062014805 then (some (a0_0, a0_1, (y439 ++ l0_2))) else (none))) = some (r1, r2, r3) := h
 clear h
 obtain ⟨y439, hy439⟩ : ∃ y_ : List (S54), y_ = (([] : List (S54))) := ⟨_, rfl⟩
 replace H : (if y439.length + l0_2.length < 5864062014805 then (some (a0_0, a0_1, (y439 ++ l0_2))) else (none)) = some (r1, r2, r3) := by first | (rw [hy439]; with_reducible exact H) | (have H2_ := (Option.bind_some _ _).symm.trans H; rw [hy439]; with_reducible exact H2_) | (have H2_ := (Option.bind_some _ _).symm.trans H; with_reducible exact H2_) | with_reducible exact H | (rw [hy439]; exact H) | exact H
 have Ny439 := Zh hy439
 clear hy439
 by_cases c2 : y439.length + l0_2.length < 5864062014805
 ·
  rw [if_pos c2] at H
  have LMc2 := Zh c2
  clear c2
  obtain ⟨y442, hy442⟩ : ∃ y_ : List (S54), y_ = (y439 ++ l0_2) := ⟨_, rfl⟩
  replace H : (some (a0_0, a0_1, y442)) = some (r1, r2, r3) := by first | (rw [hy442]; with_reducible exact H) | (have H2_ := (Option.bind_some _ _).symm.trans H; rw [hy442]; with_reducible exact H2_) | (have H2_ := (Option.bind_some _ _).symm.trans H; with_reducible exact H2_) | with_reducible exact H | (rw [hy442]; exact H) | exact H
  have Ny442 := Zh hy442
  clear hy442
  simp only [Option.some.injEq, Prod.mk.injEq] at H
  obtain ⟨rfl, rfl, rfl⟩ := H
  go_enter Try.func52, Try.ntmps52
  go_wp2_with (first | ((with_reducible refine gate_dst (N := 1) rfl ?_); refine box_event ?hg (N := 1) ?hd (cs := #[.int .i64 a0_0, .int .i64 a0_1, .slice A0_2 l0_2.length c0_2]) (t := 29) ?hr ?_; (case hd => rfl); (case hg => rfl); (case hr => first | (go_simp; done) | (go_simp; rfl)); intro gb437 hg w3 hbox hb; have n0_ := Zh (Zl Zs hb); have n1_ := Zh (hbox); have n2_ := Zh ((by rw [hg]; exact (below_size Zs) : w.heap.size ≤ gb437)); have n3_ := Zh ((by rw [hg]; exact (below_size Zs) : w.heap.size ≤ gb437)); clear HB; have HB := n0_; have BK437 := n1_; have GW437 := n2_; have GE437 := n3_; clear n0_ n1_ n2_ n3_; clear hb hbox hg) | ((with_reducible refine gate_dst (N := 2) rfl ?_); refine box_event ?hg (N := 2) ?hd (cs := #[.int .i64 0, .int .i64 0, .slice none 0 0]) (t := 29) ?hr ?_; (case hd => rfl); (case hg => rfl); (case hr => first | (go_simp; done) | (go_simp; rfl)); intro gb438 hg w4 hbox hb; have n0_ := Zh (Zm (g := gb437) (o := .cells #[.int .i64 a0_0, .int .i64 a0_1, .slice A0_2 l0_2.length c0_2] 29 (0, 0)) Zk hb); have n1_ := Zh (Zl Zs hb); have n2_ := Zh (hbox); have n3_ := Zh ((by rw [hg]; exact (below_size Zs) : w.heap.size ≤ gb438)); have n4_ := Zh ((by rw [hg]; exact (below_size Zs) : w.heap.size ≤ gb438)); have n5_ := Zh ((by rw [hg]; exact Nat.ne_of_lt (blk_lt (g := gb437) (o := .cells #[.int .i64 a0_0, .int .i64 a0_1, .slice A0_2 l0_2.length c0_2] 29 (0, 0)) Zk) : gb437 ≠ gb438)); have n6_ := Zh ((by rw [hg]; exact Nat.ne_of_gt (blk_lt (g := gb437) (o := .cells #[.int .i64 a0_0, .int .i64 a0_1, .slice A0_2 l0_2.length c0_2] 29 (0, 0)) Zk) : gb438 ≠ gb437)); clear BK437; clear HB; have BK437 := n0_; have HB := n1_; have BK438 := n2_; have GW438 := n3_; have GE438 := n4_; have NB437_438 := n5_; have NB438_437 := n6_; clear n0_ n1_ n2_ n3_ n4_ n5_ n6_; clear hb hbox hg) | ((with_reducible refine gate_dst (N := 3) rfl ?_); refine R_lit k54 _ 54 ?hg (N := 3) ?hd (xs := ([] : List (S54))) (inner := []) (ok := fun _ => True) (okp := fun _ => True) ?hr ?hp (fun _ hk => hk) trivial (Below.refl _ _) (Nat.le_refl _) (by simp) ?_; (case hd => rfl); (case hg => rfl); (case hr => first | (go_simp; done) | (go_simp; rfl)); (case hp => exact (Reps.none _ _)); intro v440 w5 ho6 hb hg_ hnew_; clear hg_ hnew_; (first | rw [← Ny439.out] at ho6 | (simp only [Int.reduceToNat] at ho6; rw [← Ny439.out] at ho6)); have n0_ := Zh (R_lower ho6 (below_size Zs)); have n1_ := Zh (Zm (g := gb437) (o := .cells #[.int .i64 a0_0, .int .i64 a0_1, .slice A0_2 l0_2.length c0_2] 29 (0, 0)) Zk hb); have n2_ := Zh (Zm (g := gb438) (o := .cells #[.int .i64 0, .int .i64 0, .slice none 0 0] 29 (0, 0)) Zk hb); have n3_ := Zh (Zl Zs hb); clear BK437; clear BK438; clear HB; have HO441 := n0_; have BK437 := n1_; have BK438 := n2_; have HB := n3_; clear n0_ n1_ n2_ n3_; clear hb ho6; have hnb7 := NB437_438.out; have hnc7 := NB438_437.out; have hcz8_0 : w5.cell? ⟨gb437, 0, none⟩ = some (.int .i64 a0_0) := (blk_cell BK437.out 0).trans rfl; have hcz8_1 : w5.cell? ⟨gb437, 1, none⟩ = some (.int .i64 a0_1) := (blk_cell BK437.out 1).trans rfl; have hcz8_2 : w5.cell? ⟨gb437, 2, none⟩ = some (.slice A0_2 l0_2.length c0_2) := (blk_cell BK437.out 2).trans rfl; have hfz8_0 := Zn BK437.out 0; have hfz8_1 := Zn BK437.out 1; have hfz8_2 := Zn BK437.out 2) | ((with_reducible refine gate_builtin (b := .append) (xs := #[.tmp 3, .tmp 5]) rfl ?_); at_builtin; refine R_append_rows k54 (w0 := w) w.heap.size rfl (.tmp 3) (.tmp 5) 27 54 (.agg #[(.int .i64 0), (.string ⟨#[]⟩)]) 24 rfl Try.underlying27 info54 rfl (by decide) (by omega) v440 y439 l0_2 _ _ _ (fun _ => True) (fun _ => False) rfl rfl ?aO ?aR (fun _ _ h => h) (fun _ h => h.elim) ?aF ?aB ?aS ?aL ?_; (case aR => repeat (first | exact (C_below HR0_2.out HB.out) | (with_reducible refine C_alloc ?_ _) | (with_reducible refine C_drewN ?_ _) | (with_reducible refine C_drew ?_))); (case aB => exact Zs); (case aF => exact (fun _ _ => trivial)); (case aO => exact (by (with_reducible repeat (first | apply R_alloc | apply R_drewN | apply R_drew)); exact HO441.out)); (case aS => exact (below_size Zs)); (case aL => have := LMc2.out; omega); intro v443 w9 ho hb hg hat; rw [← Ny442.out] at ho; have n0_ := Zh (blk_grown (g := gb437) (o := .cells #[.int .i64 a0_0, .int .i64 a0_1, .slice A0_2 l0_2.length c0_2] 29 (0, 0)) Zk hg (R_ne HO441.out BK437.out (by decide))); have n1_ := Zh (blk_grown (g := gb438) (o := .cells #[.int .i64 0, .int .i64 0, .slice none 0 0] 29 (0, 0)) Zk hg (R_ne HO441.out BK438.out (by decide))); have n2_ := Zh (hb); have n3_ := Zh (ho); clear BK437; clear BK438; clear HB; clear HO441; have BK437 := n0_; have BK438 := n1_; have HB := n2_; have HO444 := n3_; clear n0_ n1_ n2_ n3_; clear ho hb hg hat; obtain ⟨Ao10, co10, eo10⟩ := R_slice HO444.out; subst eo10; have hcz11_0 : w9.cell? ⟨gb437, 0, none⟩ = some (.int .i64 a0_0) := (blk_cell BK437.out 0).trans rfl; have hcz11_1 : w9.cell? ⟨gb437, 1, none⟩ = some (.int .i64 a0_1) := (blk_cell BK437.out 1).trans rfl; have hcz11_2 : w9.cell? ⟨gb437, 2, none⟩ = some (.slice A0_2 l0_2.length c0_2) := (blk_cell BK437.out 2).trans rfl; have hfz11_0 := Zn BK437.out 0; have hfz11_1 := Zn BK437.out 1; have hfz11_2 := Zn BK437.out 2; have hcz12_0 : w9.cell? ⟨gb438, 0, none⟩ = some (.int .i64 0) := (blk_cell BK438.out 0).trans rfl; have hcz12_1 : w9.cell? ⟨gb438, 1, none⟩ = some (.int .i64 0) := (blk_cell BK438.out 1).trans rfl; have hcz12_2 : w9.cell? ⟨gb438, 2, none⟩ = some (.slice none 0 0) := (blk_cell BK438.out 2).trans rfl; have hfz12_0 := Zn BK438.out 0; have hfz12_1 := Zn BK438.out 1; have hfz12_2 := Zn BK438.out 2))
  refine bodyPost_ret (results_cell_row rfl _ _ gb438 29 #[.int .i64 a0_0, .int .i64 a0_1, .slice Ao10 y442.length co10] (0, 0) _ rfl (by (with_reducible repeat (first | refine Za ?_ _ | refine Zb ?_ | refine blk_alloc ?_ _)); refine blk_put (cs := #[.int .i64 a0_0, .int .i64 a0_1, .slice none 0 0]) ?_ 2 _ rfl; (with_reducible repeat (first | refine Za ?_ _ | refine Zb ?_ | refine blk_alloc ?_ _)); refine blk_put (cs := #[.int .i64 a0_0, .int .i64 0, .slice none 0 0]) ?_ 1 _ rfl; (with_reducible repeat (first | refine Za ?_ _ | refine Zb ?_ | refine blk_alloc ?_ _)); refine blk_put (cs := #[.int .i64 0, .int .i64 0, .slice none 0 0]) ?_ 0 _ rfl; (with_reducible repeat (first | refine Za ?_ _ | refine Zb ?_ | refine blk_alloc ?_ _)); refine Zp ?_ NB438_437.out _; (with_reducible repeat (first | refine Za ?_ _ | refine Zb ?_ | refine blk_alloc ?_ _)); exact BK438.out) Try.underlying29 rfl (by kernel_rfl)) rfl ?_
  exact ⟨_, by first | rfl | (simp [errW_none, errW_some] <;> rfl) | (simp [*, errW_none, errW_some] <;> rfl), by (with_reducible repeat (first | apply R_alloc | apply R_drewN | apply R_drew)); exact R_mono (R_far (p := ⟨gb438, 2, none⟩) (R_far (p := ⟨gb438, 1, none⟩) (R_far (p := ⟨gb438, 0, none⟩) (R_far (p := ⟨gb437, 2, none⟩) (R_types (R_types HO444.out BK437.out (by decide)) BK438.out (by decide)) (fun _ hk => hk.1.2) (.slice Ao10 y442.length co10)) (fun _ hk => hk.2) (.int .i64 a0_0)) (fun _ hk => hk.2) (.int .i64 a0_1)) (fun _ hk => hk.2) (.slice Ao10 y442.length co10)) (fun _ hk => trivial), by repeat (first | (with_reducible first | exact HB.out | apply Zf | apply Zd | apply Ze | refine Zg ?_ GE437.out | refine Zg ?_ GE438.out) | exact HB.out)⟩
 rw [if_neg c2] at H
 exact absurd H (by simp)
end Go.Proofs.Ytalbkbmnjpameaa.F
