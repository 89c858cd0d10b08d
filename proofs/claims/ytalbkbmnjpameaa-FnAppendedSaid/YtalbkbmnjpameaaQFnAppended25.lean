/- Merged texts below the law FnAppended: Go functions as Lean functions, their contracts, and plain lemmas. -/
import Derived.Test.YtalbkbmnjpameaaQFnAppended22
import Derived.Test.YtalbkbmnjpameaaQFnAppended24
namespace Go.Proofs.Ytalbkbmnjpameaa.F
open Go.RowKit Go.Proofs.YtalbkbmnjpameaaW.PrintWords Go.Proofs.YtalbkbmnjpameaaW.PrintWords.Kd Go.Proofs.YtalbkbmnjpameaaW.PrintMore.Kd Go.Proofs.YtalbkbmnjpameaaW.PrintLast Go.Proofs.YtalbkbmnjpameaaW.PrintMore
attribute [local go_sem] max2_int min2_int max_two min_two max_three min_three max_four min_four   -- for this text's walks alone
set_option linter.unusedVariables false
set_option linter.unusedSimpArgs false
mutual
def spec_TailOf.j0 : Nat → Int → Int → Bool → Int → Int → List (S54) → Option ((List (S54)))
 | 0, _, _, _, _, _, _ => none
 | k + 1, x1, x2, x25, x312000, x312001, x312002 => if x25 = true then (some ([] : List (S54))) else (spec_TailOf.l0 k x2 (([] : List (S54))) (wrap64 ((wrap64 (x1 - x312000)) - 1)) x312000 x312001 x312002)
def spec_TailOf.l0 : Nat → Int → List (S54) → Int → Int → Int → List (S54) → Option ((List (S54)))
 | 0, _, _, _, _, _, _ => none
 | k + 1, x2, x7, x8, x312000, x312001, x312002 => if x8 < (x312002.length : Int) then (if (x7.length : Int) < x2 then (if 0 ≤ x8 then (if x7.length < 5864062014805 then (spec_TailOf.l0 k x2 (x7 ++ [(⟨(rd_T54 x312002 x8).f0, (rd_T54 x312002 x8).f1⟩ : S54)]) (wrap64 (x8 + 1)) x312000 x312001 x312002) else (none)) else (none)) else (some x7)) else (some x7)
end
def spec_TailOf.f (k : Nat) (a0_0 : Int) (a0_1 : Int) (l0_2 : List (S54)) (a1 : Int) (a2 : Int) : Option ((List (S54))) := (spec_RLogOk.f k a0_0 a0_1 l0_2).bind fun t312 => (if t312 = true then ((spec_LastIndex.f k a0_0 a0_1 l0_2).bind fun t313 => ((spec_l01In.f a1 (wrap64 (a0_0 + 1)) t313).bind fun t314 => (if t314 = true then (spec_TailOf.j0 k a1 a2 (decide (a2 < 1)) a0_0 a0_1 l0_2) else (spec_TailOf.j0 k a1 a2 true a0_0 a0_1 l0_2)))) else (spec_TailOf.j0 k a1 a2 true a0_0 a0_1 l0_2))
def spec_TailOf.T1 : Bool × List (List Nat × List Nat) := (true, [([], []), ([0], [0]), ([1], [1]), ([2, 1], [2]), ([3], [3]), ([3], [3]), ([5, 3], [3, 5]), ([6, 3], [3, 6]), ([3], [3]), ([8, 3, 3], [3, 8]), ([4, 7, 9, 9, 3], [3, 4, 7, 9]), ([10, 3], [3, 10]), ([3, 11], [3, 11]), ([12, 10], [12]), ([13], [13]), ([14, 13], [13, 14]), ([13, 15], [13, 15])])
def spec_TailOf.B1 : List Nat := [0, 1, 3, 7, 15, 15, 47, 111, 15, 271, 1023, 2047, 4095, 8191, 16383, 32767, 65535]
theorem spec_TailOf.tab1 : rtab .any (opsOf Try.f26 1) = spec_TailOf.T1 := by kernel_rfl
theorem spec_TailOf.bits1 : waitsOk spec_TailOf.T1.2 spec_TailOf.B1 = true := by kernel_rfl
set_option maxHeartbeats 8000000 in
set_option maxRecDepth 100000 in
theorem spec_TailOf.calls (k : Nat) (a0_0 : Int) (a0_1 : Int) (A0_2 : Option Addr) (c0_2 : Nat) (l0_2 : List (S54)) (a1 : Int) (a2 : Int) (r : List (S54)) (w : World) (hr0_2 : Kd.C k54 w A0_2 l0_2.length l0_2) (hc0_2 : l0_2.length ≤ c0_2) (h : spec_TailOf.f k a0_0 a0_1 l0_2 a1 a2 = some r) :
  Calls Try.prog 26 #[.agg #[.int .i64 a0_0, .int .i64 a0_1, .slice A0_2 l0_2.length c0_2], .int .i64 a1, .int .i64 a2] w fun e w' => ∃ v0_ : Value, e = .returned (v0_) ∧ Kd.R k54 54 w' w.heap.size (fun _ => True) v0_ r ∧ Below w.heap.size w w' := by
 have hu29 := Try.underlying29
 have hu54 := Try.underlying54
 have HR0_2 := Zh hr0_2
 have HC0_2 := Zh hc0_2
 clear hr0_2 hc0_2
 have HB := Zh (Below.refl w.heap.size w)
 have H : ((spec_RLogOk.f k a0_0 a0_1 l0_2).bind fun t312 => (if t312 = true then ((spec_LastIndex.f k a0_0 a0_1 l0_2).bind fun t313 => ((spec_l01In.f a1 (wrap64 (a0_0 + 1)) t313).bind fun t314 => (if t314 = true then (spec_TailOf.j0 k a1 a2 (decide (a2 < 1)) a0_0 a0_1 l0_2) else (spec_TailOf.j0 k a1 a2 true a0_0 a0_1 l0_2)))) else (spec_TailOf.j0 k a1 a2 true a0_0 a0_1 l0_2))) = some r := h
 clear h
 have HC4 := Zh H
 clear H
 go_enter Try.func26, Try.ntmps26
 go_upto_region 1 with (first | ((with_reducible refine gate_dst (N := 3) rfl ?_); (try (refine gate_guard (by rfl) ?_; dsimp only)); refine box_event ?hg (N := 3) ?hd (cs := #[.int .i64 a0_0, .int .i64 a0_1, .slice A0_2 l0_2.length c0_2]) (t := 29) ?hr ?_; (case hd => rfl); (case hg => rfl); (case hr => first | (go_simp; done) | (go_simp; rfl)); intro gb311 hg w5 hbox hb; have n0_ := Zh (Zl Zs hb); have n1_ := Zh (hbox); have n2_ := Zh ((by rw [hg]; exact (below_size Zs) : w.heap.size ≤ gb311)); have n3_ := Zh ((by rw [hg]; exact (below_size Zs) : w.heap.size ≤ gb311)); clear HB; have HB := n0_; have BK311 := n1_; have GW311 := n2_; have GE311 := n3_; clear n0_ n1_ n2_ n3_; clear hb hbox hg))
 (try simp only [Act.put, List.setIfInBounds_toArray, List.set_cons_zero, List.set_cons_succ])
 go_cut [25] (fun v25 wc => ∃ (kq : Nat) (x25_3 : Bool), v25 = .bool x25_3 ∧ Aside0 (spec_TailOf.j0 kq a1 a2 x25_3 a0_0 a0_1 l0_2 = some r) ∧ Aside0 (kq ≤ k) ∧ Aside0 (wc.heap[gb311]? = some (.cells #[.int .i64 a0_0, .int .i64 a0_1, (.slice A0_2 l0_2.length c0_2)] 29 (0, 0))) ∧ Aside0 (Below w.heap.size w wc))
 case first =>
  have H := HC4.out
  clear HC4
  replace H := Option.bind_eq_some_iff.mp H
  obtain ⟨t312, A60, H⟩ := H
  replace H : (if t312 = true then ((spec_LastIndex.f k a0_0 a0_1 l0_2).bind fun t313 => ((spec_l01In.f a1 (wrap64 (a0_0 + 1)) t313).bind fun t314 => (if t314 = true then (spec_TailOf.j0 k a1 a2 (decide (a2 < 1)) a0_0 a0_1 l0_2) else (spec_TailOf.j0 k a1 a2 true a0_0 a0_1 l0_2)))) else (spec_TailOf.j0 k a1 a2 true a0_0 a0_1 l0_2)) = some r := H
  have A6 := Zh A60
  clear A60
  by_cases c7 : t312 = true
  ·
   subst c7
   have H1 : ((spec_LastIndex.f k a0_0 a0_1 l0_2).bind fun t313 => ((spec_l01In.f a1 (wrap64 (a0_0 + 1)) t313).bind fun t314 => (if t314 = true then (spec_TailOf.j0 k a1 a2 (decide (a2 < 1)) a0_0 a0_1 l0_2) else (spec_TailOf.j0 k a1 a2 true a0_0 a0_1 l0_2)))) = some r := by rw [if_pos rfl] at H; exact H
   clear H
   have H := H1
   clear H1
   replace H := Option.bind_eq_some_iff.mp H
   obtain ⟨t313, A80, H⟩ := H
   replace H : ((spec_l01In.f a1 (wrap64 (a0_0 + 1)) t313).bind fun t314 => (if t314 = true then (spec_TailOf.j0 k a1 a2 (decide (a2 < 1)) a0_0 a0_1 l0_2) else (spec_TailOf.j0 k a1 a2 true a0_0 a0_1 l0_2))) = some r := H
   have A8 := Zh A80
   clear A80
   replace H := Option.bind_eq_some_iff.mp H
   obtain ⟨t314, A90, H⟩ := H
   replace H : (if t314 = true then (spec_TailOf.j0 k a1 a2 (decide (a2 < 1)) a0_0 a0_1 l0_2) else (spec_TailOf.j0 k a1 a2 true a0_0 a0_1 l0_2)) = some r := H
   have A9 := Zh A90
   clear A90
   by_cases c10 : t314 = true
   ·
    subst c10
    have H1 : (spec_TailOf.j0 k a1 a2 (decide (a2 < 1)) a0_0 a0_1 l0_2) = some r := by rw [if_pos rfl] at H; exact H
    clear H
    have H := H1
    clear H1
    have H' := Zh H
    clear H
    try go_wp2
    have n0_ := Zh (Zb BK311.out)
    have n1_ := Zh (Ze HB.out)
    clear BK311
    clear HB
    have BK311 := n0_
    have HB := n1_
    clear n0_ n1_
    refine start_ (n := 17) (S := fun w' => w'.cell? ⟨gb311, 0, none⟩ = some (.int .i64 a0_0) ∧ w'.cell? ⟨gb311, 1, none⟩ = some (.int .i64 a0_1) ∧ w'.cell? ⟨gb311, 2, none⟩ = some (.slice A0_2 l0_2.length c0_2)) (ds := []) #[false, false, false, false, false, false, false, false, false, false, false, false, false, false, false, false, false] (by kernel_rfl) rfl rfl ⟨(blk_cell BK311.out 0).trans rfl, (blk_cell BK311.out 1).trans rfl, (blk_cell BK311.out 2).trans rfl⟩ (fun hHeld => ?_); refine with_tabW spec_TailOf.tab1 spec_TailOf.bits1 (fun HT_ HW_ => ?_)
    generalize w5.drew = w11 at BK311 HB hHeld ⊢
    refine take_ (i := 0) (N := some 9) (v := ?_) (a' := ?_) #[true, false, false, false, false, false, false, false, false, false, false, false, false, false, false, false, false] rfl rfl (take_ofW HT_.out HW_.out (by kernel_rfl)) (fun _ _ _ h => h) (Or.inl ⟨by rfl, ?_⟩) hHeld ?_ ?_
    rotate_left
    ·
     rintro w' ⟨s0, s1, s2⟩
     go_simp
     with_reducible rfl
    rotate_left
    ·
     simp only [Act.put, List.setIfInBounds_toArray, List.set_cons_zero, List.set_cons_succ, i64_w, i32_w]
     rfl
    refine one_ (i := 1) (N := some 10) #[true, true, false, false, false, false, false, false, false, false, false, false, false, false, false, false, false] rfl rfl (one_of HT_.out (by kernel_rfl)) (by decide) (fun K hK => ?_)
    refine goes_ Try.func14 (by kernel_rfl) rfl #[.agg #[.int .i64 a0_0, .int .i64 a0_1, .slice A0_2 l0_2.length c0_2]] (by rfl) rfl rfl (by (try simp only [List.map_toArray, List.map_cons, List.map_nil]); first | done | rfl | (simp only [List.length_drop, List.length_take]; rfl)) ?_
    with_reducible refine (spec_RLogOk.calls k a0_0 a0_1 _ _ l0_2 true _ ?side1 ?side2 A6.out).mono ?_
    (case side1 => repeat (first | exact (C_below HR0_2.out HB.out) | (with_reducible refine C_alloc ?_ _) | (with_reducible refine C_drewN ?_ _) | (with_reducible refine C_drew ?_)))
    (case side2 => exact HC0_2.out)
    rintro e w12 ⟨rfl, hb⟩
    refine ⟨_, rfl, ?_⟩
    have n0_ := Zh (Zm (g := gb311) (o := .cells #[.int .i64 a0_0, .int .i64 a0_1, .slice A0_2 l0_2.length c0_2] 29 (0, 0)) Zk hb)
    have n1_ := Zh (Zl Zs hb)
    clear BK311
    clear HB
    have BK311 := n0_
    have HB := n1_
    clear n0_ n1_
    (try clear hb)
    (try clear hb2)
    (try clear hk)
    (try clear hi)
    refine hK.out _ _ ⟨(blk_cell BK311.out 0).trans rfl, (blk_cell BK311.out 1).trans rfl, (blk_cell BK311.out 2).trans rfl⟩ (fun hHeld => ?_)
    clear hK K
    refine norm_ (a' := ?_) ?_ ?_
    rotate_left
    ·
     show Act.put _ (some 10) _ = _
     simp only [Act.put, List.setIfInBounds_toArray, List.set_cons_zero, List.set_cons_succ, i64_w, i32_w]
     rfl
    refine pure_ (i := 2) (N := some 11) (v := ?_) (a' := ?_) #[true, true, true, false, false, false, false, false, false, false, false, false, false, false, false, false, false] rfl rfl (any_of HT_.out (by kernel_rfl)) (fun _ _ _ h => h) (Or.inl ⟨by rfl, ?_⟩) ?_ ?_
    rotate_left
    ·
     intro w'
     go_simp
     with_reducible rfl
    rotate_left
    ·
     simp only [Act.put, List.setIfInBounds_toArray, List.set_cons_zero, List.set_cons_succ, i64_w, i32_w]
     rfl
    refine pure_ (i := 3) (N := some 12) (v := ?_) (a' := ?_) #[true, true, true, true, false, false, false, false, false, false, false, false, false, false, false, false, false] rfl rfl (any_of HT_.out (by kernel_rfl)) (fun _ _ _ h => h) (Or.inl ⟨by rfl, ?_⟩) ?_ ?_
    rotate_left
    ·
     intro w'
     go_simp
     with_reducible rfl
    rotate_left
    ·
     simp only [Act.put, List.setIfInBounds_toArray, List.set_cons_zero, List.set_cons_succ, i64_w, i32_w]
     rfl
    refine pure_ (i := 4) (N := some 13) (v := ?_) (a' := ?_) #[true, true, true, true, true, false, false, false, false, false, false, false, false, false, false, false, false] rfl rfl (any_of HT_.out (by kernel_rfl)) (fun _ _ _ h => h) (Or.inl ⟨by rfl, ?_⟩) ?_ ?_
    rotate_left
    ·
     intro w'
     go_simp
     with_reducible rfl
    rotate_left
    ·
     simp only [Act.put, List.setIfInBounds_toArray, List.set_cons_zero, List.set_cons_succ, i64_w, i32_w]
     rfl
    refine pure_ (i := 5) (N := some 14) (v := ?_) (a' := ?_) #[true, true, true, true, true, true, false, false, false, false, false, false, false, false, false, false, false] rfl rfl (any_of HT_.out (by kernel_rfl)) (fun _ _ _ h => h) (Or.inl ⟨by rfl, ?_⟩) ?_ ?_
    rotate_left
    ·
     intro w'
     go_simp
     with_reducible rfl
    rotate_left
    ·
     simp only [Act.put, List.setIfInBounds_toArray, List.set_cons_zero, List.set_cons_succ, i64_w, i32_w]
     rfl
    refine take_ (i := 6) (N := some 15) (v := ?_) (a' := ?_) #[true, true, true, true, true, true, true, false, false, false, false, false, false, false, false, false, false] rfl rfl (take_ofW HT_.out HW_.out (by kernel_rfl)) (fun _ _ _ h => h) (Or.inl ⟨by rfl, ?_⟩) hHeld ?_ ?_
    rotate_left
    ·
     rintro w' ⟨s0, s1, s2⟩
     go_simp
     with_reducible rfl
    rotate_left
    ·
     simp only [Act.put, List.setIfInBounds_toArray, List.set_cons_zero, List.set_cons_succ, i64_w, i32_w]
     rfl
    refine pure_ (i := 7) (N := some 16) (v := ?_) (a' := ?_) #[true, true, true, true, true, true, true, true, false, false, false, false, false, false, false, false, false] rfl rfl (any_of HT_.out (by kernel_rfl)) (fun _ _ _ h => h) (Or.inl ⟨by rfl, ?_⟩) ?_ ?_
    rotate_left
    ·
     intro w'
     go_simp
     with_reducible rfl
    rotate_left
    ·
     simp only [Act.put, List.setIfInBounds_toArray, List.set_cons_zero, List.set_cons_succ, i64_w, i32_w]
     rfl
    refine take_ (i := 8) (N := some 17) (v := ?_) (a' := ?_) #[true, true, true, true, true, true, true, true, true, false, false, false, false, false, false, false, false] rfl rfl (take_ofW HT_.out HW_.out (by kernel_rfl)) (fun _ _ _ h => h) (Or.inl ⟨by rfl, ?_⟩) hHeld ?_ ?_
    rotate_left
    ·
     rintro w' ⟨s0, s1, s2⟩
     go_simp
     with_reducible rfl
    rotate_left
    ·
     simp only [Act.put, List.setIfInBounds_toArray, List.set_cons_zero, List.set_cons_succ, i64_w, i32_w]
     rfl
    refine one_ (i := 9) (N := some 18) #[true, true, true, true, true, true, true, true, true, true, false, false, false, false, false, false, false] rfl rfl (one_of HT_.out (by kernel_rfl)) (by decide) (fun K hK => ?_)
    refine goes_ Try.func18 (by kernel_rfl) rfl #[.agg #[.int .i64 a0_0, .int .i64 a0_1, .slice A0_2 l0_2.length c0_2]] (by rfl) rfl rfl (by (try simp only [List.map_toArray, List.map_cons, List.map_nil]); first | done | rfl | (simp only [List.length_drop, List.length_take]; rfl)) ?_
    with_reducible refine (spec_LastIndex.calls k a0_0 a0_1 _ _ l0_2 t313 _ ?side1 ?side2 A8.out).mono ?_
    (case side1 => repeat (first | exact (C_below HR0_2.out HB.out) | (with_reducible refine C_alloc ?_ _) | (with_reducible refine C_drewN ?_ _) | (with_reducible refine C_drew ?_)))
    (case side2 => exact HC0_2.out)
    rintro e w13 ⟨rfl, hb⟩
    refine ⟨_, rfl, ?_⟩
    have n0_ := Zh (Zm (g := gb311) (o := .cells #[.int .i64 a0_0, .int .i64 a0_1, .slice A0_2 l0_2.length c0_2] 29 (0, 0)) Zk hb)
    have n1_ := Zh (Zl Zs hb)
    clear BK311
    clear HB
    have BK311 := n0_
    have HB := n1_
    clear n0_ n1_
    (try clear hb)
    (try clear hb2)
    (try clear hk)
    (try clear hi)
    refine hK.out _ _ ⟨(blk_cell BK311.out 0).trans rfl, (blk_cell BK311.out 1).trans rfl, (blk_cell BK311.out 2).trans rfl⟩ (fun hHeld => ?_)
    clear hK K
    refine norm_ (a' := ?_) ?_ ?_
    rotate_left
    ·
     show Act.put _ (some 18) _ = _
     simp only [Act.put, List.setIfInBounds_toArray, List.set_cons_zero, List.set_cons_succ, i64_w, i32_w]
     rfl
    refine one_ (i := 10) (N := some 19) #[true, true, true, true, true, true, true, true, true, true, true, false, false, false, false, false, false] rfl rfl (one_of HT_.out (by kernel_rfl)) (by decide) (fun K hK => ?_)
    refine goes_ Try.func43 (by kernel_rfl) rfl #[.int .i64 a1, .int .i64 (wrap64 (a0_0 + 1)), .int .i64 t313] (by rfl) rfl rfl (by (try simp only [List.map_toArray, List.map_cons, List.map_nil]); first | done | rfl | (simp only [List.length_drop, List.length_take]; rfl)) ?_
    with_reducible refine (spec_l01In.calls a1 (wrap64 (a0_0 + 1)) t313 true _ A9.out).mono ?_
    rintro e w' ⟨rfl, ⟨nd, rfl⟩⟩
    refine ⟨_, rfl, ?_⟩
    refine hK.out _ _ ⟨(blk_cell BK311.out 0).trans rfl, (blk_cell BK311.out 1).trans rfl, (blk_cell BK311.out 2).trans rfl⟩ (fun hHeld => ?_)
    clear hK K
    refine norm_ (a' := ?_) ?_ ?_
    rotate_left
    ·
     show Act.put _ (some 19) _ = _
     simp only [Act.put, List.setIfInBounds_toArray, List.set_cons_zero, List.set_cons_succ, i64_w, i32_w]
     rfl
    refine pure_ (i := 11) (N := some 20) (v := ?_) (a' := ?_) #[true, true, true, true, true, true, true, true, true, true, true, true, false, false, false, false, false] rfl rfl (any_of HT_.out (by kernel_rfl)) (fun _ _ _ h => h) (Or.inl ⟨by rfl, ?_⟩) ?_ ?_
    rotate_left
    ·
     intro w'
     go_simp
     with_reducible rfl
    rotate_left
    ·
     simp only [Act.put, List.setIfInBounds_toArray, List.set_cons_zero, List.set_cons_succ, i64_w, i32_w]
     rfl
    refine pure_ (i := 12) (N := some 21) (v := ?_) (a' := ?_) #[true, true, true, true, true, true, true, true, true, true, true, true, true, false, false, false, false] rfl rfl (any_of HT_.out (by kernel_rfl)) (fun _ _ _ h => h) (Or.inl ⟨by rfl, ?_⟩) ?_ ?_
    rotate_left
    ·
     intro w'
     go_simp
     with_reducible rfl
    rotate_left
    ·
     simp only [Act.put, List.setIfInBounds_toArray, List.set_cons_zero, List.set_cons_succ, i64_w, i32_w]
     rfl
    refine pure_ (i := 13) (N := some 22) (v := ?_) (a' := ?_) #[true, true, true, true, true, true, true, true, true, true, true, true, true, true, false, false, false] rfl rfl (any_of HT_.out (by kernel_rfl)) (fun _ _ _ h => h) (Or.inl ⟨by rfl, ?_⟩) ?_ ?_
    rotate_left
    ·
     intro w'
     go_simp
     with_reducible rfl
    rotate_left
    ·
     simp only [Act.put, List.setIfInBounds_toArray, List.set_cons_zero, List.set_cons_succ, i64_w, i32_w]
     rfl
    refine pure_ (i := 14) (N := some 23) (v := ?_) (a' := ?_) #[true, true, true, true, true, true, true, true, true, true, true, true, true, true, true, false, false] rfl rfl (any_of HT_.out (by kernel_rfl)) (fun _ _ _ h => h) (Or.inl ⟨by rfl, ?_⟩) ?_ ?_
    rotate_left
    ·
     intro w'
     go_simp
     with_reducible rfl
    rotate_left
    ·
     simp only [Act.put, List.setIfInBounds_toArray, List.set_cons_zero, List.set_cons_succ, i64_w, i32_w]
     rfl
    refine pure_ (i := 15) (N := some 24) (v := ?_) (a' := ?_) #[true, true, true, true, true, true, true, true, true, true, true, true, true, true, true, true, false] rfl rfl (any_of HT_.out (by kernel_rfl)) (fun _ _ _ h => h) (Or.inl ⟨by rfl, ?_⟩) ?_ ?_
    rotate_left
    ·
     intro w'
     go_simp
     with_reducible rfl
    rotate_left
    ·
     simp only [Act.put, List.setIfInBounds_toArray, List.set_cons_zero, List.set_cons_succ, i64_w, i32_w]
     rfl
    refine pure_ (i := 16) (N := some 25) (v := ?_) (a' := ?_) #[true, true, true, true, true, true, true, true, true, true, true, true, true, true, true, true, true] rfl rfl (any_of HT_.out (by kernel_rfl)) (fun _ _ _ h => h) (Or.inl ⟨by rfl, ?_⟩) ?_ ?_
    rotate_left
    ·
     intro w'
     go_simp
     with_reducible rfl
    rotate_left
    ·
     simp only [Act.put, List.setIfInBounds_toArray, List.set_cons_zero, List.set_cons_succ, i64_w, i32_w]
     rfl
    refine done_ (done_of HT_.out (by kernel_rfl)) ?_
    try go_wp2
    go_meet
    case rel => exact ⟨_, (decide (a2 < 1)), (by first | rfl | (simp; done) | (simp [*]; done)), H', ⟨by first | omega | exact Nat.le_refl _⟩, ⟨by (with_reducible repeat (first | refine Za ?_ _ | refine Zb ?_ | refine blk_alloc ?_ _)); exact BK311.out⟩, ⟨by repeat (first | (with_reducible first | exact HB.out | apply Zf | apply Zd | apply Ze | refine Zg ?_ GE311.out) | exact HB.out)⟩⟩
   replace c10 := Bool.eq_false_iff.mpr c10
   subst c10
   have H1 : (spec_TailOf.j0 k a1 a2 true a0_0 a0_1 l0_2) = some r := by rw [if_neg (show ¬ (false = true) by decide)] at H; exact H
   clear H
   have H := H1
   clear H1
   have H' := Zh H
   clear H
   try go_wp2
   have n0_ := Zh (Zb BK311.out)
   have n1_ := Zh (Ze HB.out)
   clear BK311
   clear HB
   have BK311 := n0_
   have HB := n1_
   clear n0_ n1_
   refine start_ (n := 17) (S := fun w' => w'.cell? ⟨gb311, 0, none⟩ = some (.int .i64 a0_0) ∧ w'.cell? ⟨gb311, 1, none⟩ = some (.int .i64 a0_1) ∧ w'.cell? ⟨gb311, 2, none⟩ = some (.slice A0_2 l0_2.length c0_2)) (ds := []) #[false, false, false, false, false, false, false, false, false, false, false, false, false, false, false, false, false] (by kernel_rfl) rfl rfl ⟨(blk_cell BK311.out 0).trans rfl, (blk_cell BK311.out 1).trans rfl, (blk_cell BK311.out 2).trans rfl⟩ (fun hHeld => ?_); refine with_tabW spec_TailOf.tab1 spec_TailOf.bits1 (fun HT_ HW_ => ?_)
   generalize w5.drew = w14 at BK311 HB hHeld ⊢
   refine take_ (i := 0) (N := some 9) (v := ?_) (a' := ?_) #[true, false, false, false, false, false, false, false, false, false, false, false, false, false, false, false, false] rfl rfl (take_ofW HT_.out HW_.out (by kernel_rfl)) (fun _ _ _ h => h) (Or.inl ⟨by rfl, ?_⟩) hHeld ?_ ?_
   rotate_left
   ·
    rintro w' ⟨s0, s1, s2⟩
    go_simp
    with_reducible rfl
   rotate_left
   ·
    simp only [Act.put, List.setIfInBounds_toArray, List.set_cons_zero, List.set_cons_succ, i64_w, i32_w]
    rfl
   refine one_ (i := 1) (N := some 10) #[true, true, false, false, false, false, false, false, false, false, false, false, false, false, false, false, false] rfl rfl (one_of HT_.out (by kernel_rfl)) (by decide) (fun K hK => ?_)
   refine goes_ Try.func14 (by kernel_rfl) rfl #[.agg #[.int .i64 a0_0, .int .i64 a0_1, .slice A0_2 l0_2.length c0_2]] (by rfl) rfl rfl (by (try simp only [List.map_toArray, List.map_cons, List.map_nil]); first | done | rfl | (simp only [List.length_drop, List.length_take]; rfl)) ?_
   with_reducible refine (spec_RLogOk.calls k a0_0 a0_1 _ _ l0_2 true _ ?side1 ?side2 A6.out).mono ?_
   (case side1 => repeat (first | exact (C_below HR0_2.out HB.out) | (with_reducible refine C_alloc ?_ _) | (with_reducible refine C_drewN ?_ _) | (with_reducible refine C_drew ?_)))
   (case side2 => exact HC0_2.out)
   rintro e w15 ⟨rfl, hb⟩
   refine ⟨_, rfl, ?_⟩
   have n0_ := Zh (Zm (g := gb311) (o := .cells #[.int .i64 a0_0, .int .i64 a0_1, .slice A0_2 l0_2.length c0_2] 29 (0, 0)) Zk hb)
   have n1_ := Zh (Zl Zs hb)
   clear BK311
   clear HB
   have BK311 := n0_
   have HB := n1_
   clear n0_ n1_
   (try clear hb)
   (try clear hb2)
   (try clear hk)
   (try clear hi)
   refine hK.out _ _ ⟨(blk_cell BK311.out 0).trans rfl, (blk_cell BK311.out 1).trans rfl, (blk_cell BK311.out 2).trans rfl⟩ (fun hHeld => ?_)
   clear hK K
   refine norm_ (a' := ?_) ?_ ?_
   rotate_left
   ·
    show Act.put _ (some 10) _ = _
    simp only [Act.put, List.setIfInBounds_toArray, List.set_cons_zero, List.set_cons_succ, i64_w, i32_w]
    rfl
   refine pure_ (i := 2) (N := some 11) (v := ?_) (a' := ?_) #[true, true, true, false, false, false, false, false, false, false, false, false, false, false, false, false, false] rfl rfl (any_of HT_.out (by kernel_rfl)) (fun _ _ _ h => h) (Or.inl ⟨by rfl, ?_⟩) ?_ ?_
   rotate_left
   ·
    intro w'
    go_simp
    with_reducible rfl
   rotate_left
   ·
    simp only [Act.put, List.setIfInBounds_toArray, List.set_cons_zero, List.set_cons_succ, i64_w, i32_w]
    rfl
   refine pure_ (i := 3) (N := some 12) (v := ?_) (a' := ?_) #[true, true, true, true, false, false, false, false, false, false, false, false, false, false, false, false, false] rfl rfl (any_of HT_.out (by kernel_rfl)) (fun _ _ _ h => h) (Or.inl ⟨by rfl, ?_⟩) ?_ ?_
   rotate_left
   ·
    intro w'
    go_simp
    with_reducible rfl
   rotate_left
   ·
    simp only [Act.put, List.setIfInBounds_toArray, List.set_cons_zero, List.set_cons_succ, i64_w, i32_w]
    rfl
   refine pure_ (i := 4) (N := some 13) (v := ?_) (a' := ?_) #[true, true, true, true, true, false, false, false, false, false, false, false, false, false, false, false, false] rfl rfl (any_of HT_.out (by kernel_rfl)) (fun _ _ _ h => h) (Or.inl ⟨by rfl, ?_⟩) ?_ ?_
   rotate_left
   ·
    intro w'
    go_simp
    with_reducible rfl
   rotate_left
   ·
    simp only [Act.put, List.setIfInBounds_toArray, List.set_cons_zero, List.set_cons_succ, i64_w, i32_w]
    rfl
   refine pure_ (i := 5) (N := some 14) (v := ?_) (a' := ?_) #[true, true, true, true, true, true, false, false, false, false, false, false, false, false, false, false, false] rfl rfl (any_of HT_.out (by kernel_rfl)) (fun _ _ _ h => h) (Or.inl ⟨by rfl, ?_⟩) ?_ ?_
   rotate_left
   ·
    intro w'
    go_simp
    with_reducible rfl
   rotate_left
   ·
    simp only [Act.put, List.setIfInBounds_toArray, List.set_cons_zero, List.set_cons_succ, i64_w, i32_w]
    rfl
   refine take_ (i := 6) (N := some 15) (v := ?_) (a' := ?_) #[true, true, true, true, true, true, true, false, false, false, false, false, false, false, false, false, false] rfl rfl (take_ofW HT_.out HW_.out (by kernel_rfl)) (fun _ _ _ h => h) (Or.inl ⟨by rfl, ?_⟩) hHeld ?_ ?_
   rotate_left
   ·
    rintro w' ⟨s0, s1, s2⟩
    go_simp
    with_reducible rfl
   rotate_left
   ·
    simp only [Act.put, List.setIfInBounds_toArray, List.set_cons_zero, List.set_cons_succ, i64_w, i32_w]
    rfl
   refine pure_ (i := 7) (N := some 16) (v := ?_) (a' := ?_) #[true, true, true, true, true, true, true, true, false, false, false, false, false, false, false, false, false] rfl rfl (any_of HT_.out (by kernel_rfl)) (fun _ _ _ h => h) (Or.inl ⟨by rfl, ?_⟩) ?_ ?_
   rotate_left
   ·
    intro w'
    go_simp
    with_reducible rfl
   rotate_left
   ·
    simp only [Act.put, List.setIfInBounds_toArray, List.set_cons_zero, List.set_cons_succ, i64_w, i32_w]
    rfl
   refine take_ (i := 8) (N := some 17) (v := ?_) (a' := ?_) #[true, true, true, true, true, true, true, true, true, false, false, false, false, false, false, false, false] rfl rfl (take_ofW HT_.out HW_.out (by kernel_rfl)) (fun _ _ _ h => h) (Or.inl ⟨by rfl, ?_⟩) hHeld ?_ ?_
   rotate_left
   ·
    rintro w' ⟨s0, s1, s2⟩
    go_simp
    with_reducible rfl
   rotate_left
   ·
    simp only [Act.put, List.setIfInBounds_toArray, List.set_cons_zero, List.set_cons_succ, i64_w, i32_w]
    rfl
   refine one_ (i := 9) (N := some 18) #[true, true, true, true, true, true, true, true, true, true, false, false, false, false, false, false, false] rfl rfl (one_of HT_.out (by kernel_rfl)) (by decide) (fun K hK => ?_)
   refine goes_ Try.func18 (by kernel_rfl) rfl #[.agg #[.int .i64 a0_0, .int .i64 a0_1, .slice A0_2 l0_2.length c0_2]] (by rfl) rfl rfl (by (try simp only [List.map_toArray, List.map_cons, List.map_nil]); first | done | rfl | (simp only [List.length_drop, List.length_take]; rfl)) ?_
   with_reducible refine (spec_LastIndex.calls k a0_0 a0_1 _ _ l0_2 t313 _ ?side1 ?side2 A8.out).mono ?_
   (case side1 => repeat (first | exact (C_below HR0_2.out HB.out) | (with_reducible refine C_alloc ?_ _) | (with_reducible refine C_drewN ?_ _) | (with_reducible refine C_drew ?_)))
   (case side2 => exact HC0_2.out)
   rintro e w16 ⟨rfl, hb⟩
   refine ⟨_, rfl, ?_⟩
   have n0_ := Zh (Zm (g := gb311) (o := .cells #[.int .i64 a0_0, .int .i64 a0_1, .slice A0_2 l0_2.length c0_2] 29 (0, 0)) Zk hb)
   have n1_ := Zh (Zl Zs hb)
   clear BK311
   clear HB
   have BK311 := n0_
   have HB := n1_
   clear n0_ n1_
   (try clear hb)
   (try clear hb2)
   (try clear hk)
   (try clear hi)
   refine hK.out _ _ ⟨(blk_cell BK311.out 0).trans rfl, (blk_cell BK311.out 1).trans rfl, (blk_cell BK311.out 2).trans rfl⟩ (fun hHeld => ?_)
   clear hK K
   refine norm_ (a' := ?_) ?_ ?_
   rotate_left
   ·
    show Act.put _ (some 18) _ = _
    simp only [Act.put, List.setIfInBounds_toArray, List.set_cons_zero, List.set_cons_succ, i64_w, i32_w]
    rfl
   refine one_ (i := 10) (N := some 19) #[true, true, true, true, true, true, true, true, true, true, true, false, false, false, false, false, false] rfl rfl (one_of HT_.out (by kernel_rfl)) (by decide) (fun K hK => ?_)
   refine goes_ Try.func43 (by kernel_rfl) rfl #[.int .i64 a1, .int .i64 (wrap64 (a0_0 + 1)), .int .i64 t313] (by rfl) rfl rfl (by (try simp only [List.map_toArray, List.map_cons, List.map_nil]); first | done | rfl | (simp only [List.length_drop, List.length_take]; rfl)) ?_
   with_reducible refine (spec_l01In.calls a1 (wrap64 (a0_0 + 1)) t313 false _ A9.out).mono ?_
   rintro e w' ⟨rfl, ⟨nd, rfl⟩⟩
   refine ⟨_, rfl, ?_⟩
   refine hK.out _ _ ⟨(blk_cell BK311.out 0).trans rfl, (blk_cell BK311.out 1).trans rfl, (blk_cell BK311.out 2).trans rfl⟩ (fun hHeld => ?_)
   clear hK K
   refine norm_ (a' := ?_) ?_ ?_
   rotate_left
   ·
    show Act.put _ (some 19) _ = _
    simp only [Act.put, List.setIfInBounds_toArray, List.set_cons_zero, List.set_cons_succ, i64_w, i32_w]
    rfl
   refine pure_ (i := 11) (N := some 20) (v := ?_) (a' := ?_) #[true, true, true, true, true, true, true, true, true, true, true, true, false, false, false, false, false] rfl rfl (any_of HT_.out (by kernel_rfl)) (fun _ _ _ h => h) (Or.inl ⟨by rfl, ?_⟩) ?_ ?_
   rotate_left
   ·
    intro w'
    go_simp
    with_reducible rfl
   rotate_left
   ·
    simp only [Act.put, List.setIfInBounds_toArray, List.set_cons_zero, List.set_cons_succ, i64_w, i32_w]
    rfl
   refine pure_ (i := 12) (N := some 21) (v := ?_) (a' := ?_) #[true, true, true, true, true, true, true, true, true, true, true, true, true, false, false, false, false] rfl rfl (any_of HT_.out (by kernel_rfl)) (fun _ _ _ h => h) (Or.inl ⟨by rfl, ?_⟩) ?_ ?_
   rotate_left
   ·
    intro w'
    go_simp
    with_reducible rfl
   rotate_left
   ·
    simp only [Act.put, List.setIfInBounds_toArray, List.set_cons_zero, List.set_cons_succ, i64_w, i32_w]
    rfl
   refine pure_ (i := 13) (N := some 22) (v := ?_) (a' := ?_) #[true, true, true, true, true, true, true, true, true, true, true, true, true, true, false, false, false] rfl rfl (any_of HT_.out (by kernel_rfl)) (fun _ _ _ h => h) (Or.inl ⟨by rfl, ?_⟩) ?_ ?_
   rotate_left
   ·
    intro w'
    go_simp
    with_reducible rfl
   rotate_left
   ·
    simp only [Act.put, List.setIfInBounds_toArray, List.set_cons_zero, List.set_cons_succ, i64_w, i32_w]
    rfl
   refine pure_ (i := 14) (N := some 23) (v := undef) (a' := ?_) #[true, true, true, true, true, true, true, true, true, true, true, true, true, true, true, false, false] rfl rfl (any_of HT_.out (by kernel_rfl)) (fun _ _ _ h => h) (Or.inr ⟨by rfl, rfl⟩) ?_ ?_
   rotate_left
   ·
    simp only [Act.put, List.setIfInBounds_toArray, List.set_cons_zero, List.set_cons_succ, i64_w, i32_w]
    rfl
   refine pure_ (i := 15) (N := some 24) (v := undef) (a' := ?_) #[true, true, true, true, true, true, true, true, true, true, true, true, true, true, true, true, false] rfl rfl (any_of HT_.out (by kernel_rfl)) (fun _ _ _ h => h) (Or.inr ⟨by rfl, rfl⟩) ?_ ?_
   rotate_left
   ·
    simp only [Act.put, List.setIfInBounds_toArray, List.set_cons_zero, List.set_cons_succ, i64_w, i32_w]
    rfl
   refine pure_ (i := 16) (N := some 25) (v := ?_) (a' := ?_) #[true, true, true, true, true, true, true, true, true, true, true, true, true, true, true, true, true] rfl rfl (any_of HT_.out (by kernel_rfl)) (fun _ _ _ h => h) (Or.inl ⟨by rfl, ?_⟩) ?_ ?_
   rotate_left
   ·
    intro w'
    go_simp
    with_reducible rfl
   rotate_left
   ·
    simp only [Act.put, List.setIfInBounds_toArray, List.set_cons_zero, List.set_cons_succ, i64_w, i32_w]
    rfl
   refine done_ (done_of HT_.out (by kernel_rfl)) ?_
   try go_wp2
   go_meet
   case rel => exact ⟨_, (true), (by first | rfl | (simp; done) | (simp [*]; done)), H', ⟨by first | omega | exact Nat.le_refl _⟩, ⟨by (with_reducible repeat (first | refine Za ?_ _ | refine Zb ?_ | refine blk_alloc ?_ _)); exact BK311.out⟩, ⟨by repeat (first | (with_reducible first | exact HB.out | apply Zf | apply Zd | apply Ze | refine Zg ?_ GE311.out) | exact HB.out)⟩⟩
  replace c7 := Bool.eq_false_iff.mpr c7
  subst c7
  have H1 : (spec_TailOf.j0 k a1 a2 true a0_0 a0_1 l0_2) = some r := by rw [if_neg (show ¬ (false = true) by decide)] at H; exact H
  clear H
  have H := H1
  clear H1
  have H' := Zh H
  clear H
  try go_wp2
  have n0_ := Zh (Zb BK311.out)
  have n1_ := Zh (Ze HB.out)
  clear BK311
  clear HB
  have BK311 := n0_
  have HB := n1_
  clear n0_ n1_
  refine start_ (n := 17) (S := fun w' => w'.cell? ⟨gb311, 0, none⟩ = some (.int .i64 a0_0) ∧ w'.cell? ⟨gb311, 1, none⟩ = some (.int .i64 a0_1) ∧ w'.cell? ⟨gb311, 2, none⟩ = some (.slice A0_2 l0_2.length c0_2)) (ds := []) #[false, false, false, false, false, false, false, false, false, false, false, false, false, false, false, false, false] (by kernel_rfl) rfl rfl ⟨(blk_cell BK311.out 0).trans rfl, (blk_cell BK311.out 1).trans rfl, (blk_cell BK311.out 2).trans rfl⟩ (fun hHeld => ?_); refine with_tabW spec_TailOf.tab1 spec_TailOf.bits1 (fun HT_ HW_ => ?_)
  generalize w5.drew = w17 at BK311 HB hHeld ⊢
  refine take_ (i := 0) (N := some 9) (v := ?_) (a' := ?_) #[true, false, false, false, false, false, false, false, false, false, false, false, false, false, false, false, false] rfl rfl (take_ofW HT_.out HW_.out (by kernel_rfl)) (fun _ _ _ h => h) (Or.inl ⟨by rfl, ?_⟩) hHeld ?_ ?_
  rotate_left
  ·
   rintro w' ⟨s0, s1, s2⟩
   go_simp
   with_reducible rfl
  rotate_left
  ·
   simp only [Act.put, List.setIfInBounds_toArray, List.set_cons_zero, List.set_cons_succ, i64_w, i32_w]
   rfl
  refine one_ (i := 1) (N := some 10) #[true, true, false, false, false, false, false, false, false, false, false, false, false, false, false, false, false] rfl rfl (one_of HT_.out (by kernel_rfl)) (by decide) (fun K hK => ?_)
  refine goes_ Try.func14 (by kernel_rfl) rfl #[.agg #[.int .i64 a0_0, .int .i64 a0_1, .slice A0_2 l0_2.length c0_2]] (by rfl) rfl rfl (by (try simp only [List.map_toArray, List.map_cons, List.map_nil]); first | done | rfl | (simp only [List.length_drop, List.length_take]; rfl)) ?_
  with_reducible refine (spec_RLogOk.calls k a0_0 a0_1 _ _ l0_2 false _ ?side1 ?side2 A6.out).mono ?_
  (case side1 => repeat (first | exact (C_below HR0_2.out HB.out) | (with_reducible refine C_alloc ?_ _) | (with_reducible refine C_drewN ?_ _) | (with_reducible refine C_drew ?_)))
  (case side2 => exact HC0_2.out)
  rintro e w18 ⟨rfl, hb⟩
  refine ⟨_, rfl, ?_⟩
  have n0_ := Zh (Zm (g := gb311) (o := .cells #[.int .i64 a0_0, .int .i64 a0_1, .slice A0_2 l0_2.length c0_2] 29 (0, 0)) Zk hb)
  have n1_ := Zh (Zl Zs hb)
  clear BK311
  clear HB
  have BK311 := n0_
  have HB := n1_
  clear n0_ n1_
  (try clear hb)
  (try clear hb2)
  (try clear hk)
  (try clear hi)
  refine hK.out _ _ ⟨(blk_cell BK311.out 0).trans rfl, (blk_cell BK311.out 1).trans rfl, (blk_cell BK311.out 2).trans rfl⟩ (fun hHeld => ?_)
  clear hK K
  refine norm_ (a' := ?_) ?_ ?_
  rotate_left
  ·
   show Act.put _ (some 10) _ = _
   simp only [Act.put, List.setIfInBounds_toArray, List.set_cons_zero, List.set_cons_succ, i64_w, i32_w]
   rfl
  refine pure_ (i := 2) (N := some 11) (v := ?_) (a' := ?_) #[true, true, true, false, false, false, false, false, false, false, false, false, false, false, false, false, false] rfl rfl (any_of HT_.out (by kernel_rfl)) (fun _ _ _ h => h) (Or.inl ⟨by rfl, ?_⟩) ?_ ?_
  rotate_left
  ·
   intro w'
   go_simp
   with_reducible rfl
  rotate_left
  ·
   simp only [Act.put, List.setIfInBounds_toArray, List.set_cons_zero, List.set_cons_succ, i64_w, i32_w]
   rfl
  refine pure_ (i := 3) (N := some 12) (v := ?_) (a' := ?_) #[true, true, true, true, false, false, false, false, false, false, false, false, false, false, false, false, false] rfl rfl (any_of HT_.out (by kernel_rfl)) (fun _ _ _ h => h) (Or.inl ⟨by rfl, ?_⟩) ?_ ?_
  rotate_left
  ·
   intro w'
   go_simp
   with_reducible rfl
  rotate_left
  ·
   simp only [Act.put, List.setIfInBounds_toArray, List.set_cons_zero, List.set_cons_succ, i64_w, i32_w]
   rfl
  refine pure_ (i := 4) (N := some 13) (v := undef) (a' := ?_) #[true, true, true, true, true, false, false, false, false, false, false, false, false, false, false, false, false] rfl rfl (any_of HT_.out (by kernel_rfl)) (fun _ _ _ h => h) (Or.inr ⟨by rfl, rfl⟩) ?_ ?_
  rotate_left
  ·
   simp only [Act.put, List.setIfInBounds_toArray, List.set_cons_zero, List.set_cons_succ, i64_w, i32_w]
   rfl
  refine pure_ (i := 5) (N := some 14) (v := undef) (a' := ?_) #[true, true, true, true, true, true, false, false, false, false, false, false, false, false, false, false, false] rfl rfl (any_of HT_.out (by kernel_rfl)) (fun _ _ _ h => h) (Or.inr ⟨by rfl, rfl⟩) ?_ ?_
  rotate_left
  ·
   simp only [Act.put, List.setIfInBounds_toArray, List.set_cons_zero, List.set_cons_succ, i64_w, i32_w]
   rfl
  refine pure_ (i := 6) (N := some 15) (v := undef) (a' := ?_) #[true, true, true, true, true, true, true, false, false, false, false, false, false, false, false, false, false] rfl rfl (any_of HT_.out (by kernel_rfl)) (fun _ _ _ h => h) (Or.inr ⟨by rfl, rfl⟩) ?_ ?_
  rotate_left
  ·
   simp only [Act.put, List.setIfInBounds_toArray, List.set_cons_zero, List.set_cons_succ, i64_w, i32_w]
   rfl
  refine pure_ (i := 7) (N := some 16) (v := undef) (a' := ?_) #[true, true, true, true, true, true, true, true, false, false, false, false, false, false, false, false, false] rfl rfl (any_of HT_.out (by kernel_rfl)) (fun _ _ _ h => h) (Or.inr ⟨by rfl, rfl⟩) ?_ ?_
  rotate_left
  ·
   simp only [Act.put, List.setIfInBounds_toArray, List.set_cons_zero, List.set_cons_succ, i64_w, i32_w]
   rfl
  refine pure_ (i := 8) (N := some 17) (v := undef) (a' := ?_) #[true, true, true, true, true, true, true, true, true, false, false, false, false, false, false, false, false] rfl rfl (any_of HT_.out (by kernel_rfl)) (fun _ _ _ h => h) (Or.inr ⟨by rfl, rfl⟩) ?_ ?_
  rotate_left
  ·
   simp only [Act.put, List.setIfInBounds_toArray, List.set_cons_zero, List.set_cons_succ, i64_w, i32_w]
   rfl
  refine pure_ (i := 9) (N := some 18) (v := undef) (a' := ?_) #[true, true, true, true, true, true, true, true, true, true, false, false, false, false, false, false, false] rfl rfl (any_of HT_.out (by kernel_rfl)) (fun _ _ _ h => h) (Or.inr ⟨by rfl, rfl⟩) ?_ ?_
  rotate_left
  ·
   simp only [Act.put, List.setIfInBounds_toArray, List.set_cons_zero, List.set_cons_succ, i64_w, i32_w]
   rfl
  refine pure_ (i := 10) (N := some 19) (v := undef) (a' := ?_) #[true, true, true, true, true, true, true, true, true, true, true, false, false, false, false, false, false] rfl rfl (any_of HT_.out (by kernel_rfl)) (fun _ _ _ h => h) (Or.inr ⟨by rfl, rfl⟩) ?_ ?_
  rotate_left
  ·
   simp only [Act.put, List.setIfInBounds_toArray, List.set_cons_zero, List.set_cons_succ, i64_w, i32_w]
   rfl
  refine pure_ (i := 11) (N := some 20) (v := undef) (a' := ?_) #[true, true, true, true, true, true, true, true, true, true, true, true, false, false, false, false, false] rfl rfl (any_of HT_.out (by kernel_rfl)) (fun _ _ _ h => h) (Or.inr ⟨by rfl, rfl⟩) ?_ ?_
  rotate_left
  ·
   simp only [Act.put, List.setIfInBounds_toArray, List.set_cons_zero, List.set_cons_succ, i64_w, i32_w]
   rfl
  refine pure_ (i := 12) (N := some 21) (v := ?_) (a' := ?_) #[true, true, true, true, true, true, true, true, true, true, true, true, true, false, false, false, false] rfl rfl (any_of HT_.out (by kernel_rfl)) (fun _ _ _ h => h) (Or.inl ⟨by rfl, ?_⟩) ?_ ?_
  rotate_left
  ·
   intro w'
   go_simp
   with_reducible rfl
  rotate_left
  ·
   simp only [Act.put, List.setIfInBounds_toArray, List.set_cons_zero, List.set_cons_succ, i64_w, i32_w]
   rfl
  refine pure_ (i := 13) (N := some 22) (v := ?_) (a' := ?_) #[true, true, true, true, true, true, true, true, true, true, true, true, true, true, false, false, false] rfl rfl (any_of HT_.out (by kernel_rfl)) (fun _ _ _ h => h) (Or.inl ⟨by rfl, ?_⟩) ?_ ?_
  rotate_left
  ·
   intro w'
   go_simp
   with_reducible rfl
  rotate_left
  ·
   simp only [Act.put, List.setIfInBounds_toArray, List.set_cons_zero, List.set_cons_succ, i64_w, i32_w]
   rfl
  refine pure_ (i := 14) (N := some 23) (v := undef) (a' := ?_) #[true, true, true, true, true, true, true, true, true, true, true, true, true, true, true, false, false] rfl rfl (any_of HT_.out (by kernel_rfl)) (fun _ _ _ h => h) (Or.inr ⟨by rfl, rfl⟩) ?_ ?_
  rotate_left
  ·
   simp only [Act.put, List.setIfInBounds_toArray, List.set_cons_zero, List.set_cons_succ, i64_w, i32_w]
   rfl
  refine pure_ (i := 15) (N := some 24) (v := undef) (a' := ?_) #[true, true, true, true, true, true, true, true, true, true, true, true, true, true, true, true, false] rfl rfl (any_of HT_.out (by kernel_rfl)) (fun _ _ _ h => h) (Or.inr ⟨by rfl, rfl⟩) ?_ ?_
  rotate_left
  ·
   simp only [Act.put, List.setIfInBounds_toArray, List.set_cons_zero, List.set_cons_succ, i64_w, i32_w]
   rfl
  refine pure_ (i := 16) (N := some 25) (v := ?_) (a' := ?_) #[true, true, true, true, true, true, true, true, true, true, true, true, true, true, true, true, true] rfl rfl (any_of HT_.out (by kernel_rfl)) (fun _ _ _ h => h) (Or.inl ⟨by rfl, ?_⟩) ?_ ?_
  rotate_left
  ·
   intro w'
   go_simp
   with_reducible rfl
  rotate_left
  ·
   simp only [Act.put, List.setIfInBounds_toArray, List.set_cons_zero, List.set_cons_succ, i64_w, i32_w]
   rfl
  refine done_ (done_of HT_.out (by kernel_rfl)) ?_
  try go_wp2
  go_meet
  case rel => exact ⟨_, (true), (by first | rfl | (simp; done) | (simp [*]; done)), H', ⟨by first | omega | exact Nat.le_refl _⟩, ⟨by (with_reducible repeat (first | refine Za ?_ _ | refine Zb ?_ | refine blk_alloc ?_ _)); exact BK311.out⟩, ⟨by repeat (first | (with_reducible first | exact HB.out | apply Zf | apply Zd | apply Ze | refine Zg ?_ GE311.out) | exact HB.out)⟩⟩
 case rest =>
  clear HC4
  try clear c1
  try clear c2
  try clear p2
  try clear c4
  try clear p6
  try clear c7
  try clear c10
  try clear c14
  try clear c18
  obtain ⟨kq, x25_3, rfl, HA, HJ3, BK311, HB⟩ := hcut
  cases kq with
  | zero => exact absurd HA.out (by simp [spec_TailOf.j0])
  | succ kj3 =>
   have H := HA.out
   clear HA
   simp only [spec_TailOf.j0] at H
   by_cases c19 : x25_3 = true
   ·
    subst c19
    have H1 : (some ([] : List (S54))) = some r := by rw [if_pos rfl] at H; exact H
    clear H
    have H := H1
    clear H1
    obtain rfl := Option.some.inj H
    go_wp2
    go_ret
    exact ⟨_, by first | rfl | (simp [errW_none, errW_some] <;> rfl) | (simp [*, errW_none, errW_some] <;> rfl), by first | exact R_nil _ _ _ _ _ | exact N_nil _ _ _ _ _ | exact V_nil _ _ _ _ _ | exact Q_nil _ _ _ _ _ | exact S_nil _ _ _ _ _, by repeat (first | (with_reducible first | exact HB.out | apply Zf | apply Zd | apply Ze | refine Zg ?_ GE311.out) | exact HB.out)⟩
   replace c19 := Bool.eq_false_iff.mpr c19
   subst c19
   have H1 : (spec_TailOf.l0 kj3 a2 (([] : List (S54))) (wrap64 ((wrap64 (a1 - a0_0)) - 1)) a0_0 a0_1 l0_2) = some r := by rw [if_neg (show ¬ (false = true) by decide)] at H; exact H
   clear H
   have H := H1
   clear H1
   obtain ⟨y315, hy315⟩ : ∃ y_ : List (S54), y_ = (([] : List (S54))) := ⟨_, rfl⟩
   replace H : (spec_TailOf.l0 kj3 a2 y315 (wrap64 ((wrap64 (a1 - a0_0)) - 1)) a0_0 a0_1 l0_2) = some r := by first | (rw [hy315]; with_reducible exact H) | (have H2_ := (Option.bind_some _ _).symm.trans H; rw [hy315]; with_reducible exact H2_) | (have H2_ := (Option.bind_some _ _).symm.trans H; with_reducible exact H2_) | with_reducible exact H | (rw [hy315]; exact H) | exact H
   have Ny315 := Zh hy315
   clear hy315
   have H' := Zh H
   clear H
   go_wp2_with (first | ((with_reducible refine gate_dst (N := 26) rfl ?_); (try (refine gate_guard (by rfl) ?_; dsimp only)); refine R_lit k54 _ 54 ?hg (N := 26) ?hd (xs := ([] : List (S54))) (inner := []) (ok := fun _ => True) (okp := fun _ => True) ?hr ?hp (fun _ hk => hk) trivial (Below.refl _ _) (Nat.le_refl _) (by simp) ?_; (case hd => rfl); (case hg => rfl); (case hr => first | (go_simp; done) | (go_simp; rfl)); (case hp => exact (Reps.none _ _)); intro v316 w20 ho21 hb hg_ hnew_; clear hg_ hnew_; (first | rw [← Ny315.out] at ho21 | (simp only [Int.reduceToNat] at ho21; rw [← Ny315.out] at ho21)); have n0_ := Zh (R_lower ho21 (below_size Zs)); have n1_ := Zh (Zm (g := gb311) (o := .cells #[.int .i64 a0_0, .int .i64 a0_1, .slice A0_2 l0_2.length c0_2] 29 (0, 0)) Zk hb); have n2_ := Zh (Zl Zs hb); clear BK311; clear HB; have HO317 := n0_; have BK311 := n1_; have HB := n2_; clear n0_ n1_ n2_; clear hb ho21; have hcz22_0 : w20.cell? ⟨gb311, 0, none⟩ = some (.int .i64 a0_0) := (blk_cell BK311.out 0).trans rfl; have hcz22_1 : w20.cell? ⟨gb311, 1, none⟩ = some (.int .i64 a0_1) := (blk_cell BK311.out 1).trans rfl; have hcz22_2 : w20.cell? ⟨gb311, 2, none⟩ = some (.slice A0_2 l0_2.length c0_2) := (blk_cell BK311.out 2).trans rfl; have hfz22_0 := Zn BK311.out 0; have hfz22_1 := Zn BK311.out 1; have hfz22_2 := Zn BK311.out 2))
   go_loopg [7, 8] kj3 (fun kq v7 v8 w' => ∃ (x7_2 : List (S54)) (x8_2 : Int), v8 = .int .i64 x8_2 ∧ Aside0 (spec_TailOf.l0 kq a2 x7_2 x8_2 a0_0 a0_1 l0_2 = some r) ∧ Aside0 (kq ≤ kj3) ∧ Aside0 (Kd.R k54 54 w' w.heap.size (fun _ => True) v7 x7_2) ∧ Aside0 (w'.heap[gb311]? = some (.cells #[.int .i64 a0_0, .int .i64 a0_1, (.slice A0_2 l0_2.length c0_2)] 29 (0, 0))) ∧ Aside0 (Below w.heap.size w w'))
   case atStart => exact ⟨(y315), (wrap64 ((wrap64 (a1 - a0_0)) - 1)), (by first | rfl | (simp; done) | (simp [*]; done)), H', ⟨Nat.le_refl _⟩, ⟨by (with_reducible repeat (first | apply R_alloc | apply R_drewN | apply R_drew)); exact HO317.out⟩, ⟨by (with_reducible repeat (first | refine Za ?_ _ | refine Zb ?_ | refine blk_alloc ?_ _)); exact BK311.out⟩, ⟨by repeat (first | (with_reducible first | exact HB.out | apply Zf | apply Zd | apply Ze | refine Zg ?_ GE311.out) | exact HB.out)⟩⟩
   case round =>
    clear H'
    try clear c1
    try clear c2
    try clear p2
    try clear c4
    try clear p6
    try clear c7
    try clear c10
    try clear c14
    try clear c18
    try clear c19
    try clear hcz22_0
    try clear hcz22_1
    try clear hcz22_2
    try clear hfz22_0
    try clear hfz22_1
    try clear hfz22_2
    try clear p2
    try clear p6
    obtain ⟨x7_2, x8_2, rfl, HA, HK2, HO_7, BK311, HB⟩ := hrel
    cases gk with
    | zero => exact absurd HA.out (by simp [spec_TailOf.l0])
    | succ k2 =>
     have H := HA.out
     clear HA
     simp only [spec_TailOf.l0] at H
     by_cases c23 : x8_2 < (l0_2.length : Int)
     ·
      rw [if_pos c23] at H
      have c23b0 : decide (x8_2 < (l0_2.length : Int)) = true := decide_eq_true c23
      clear c23
      by_cases c24 : (x7_2.length : Int) < a2
      ·
       rw [if_pos c24] at H
       have c24b0 : decide ((x7_2.length : Int) < a2) = true := decide_eq_true c24
       clear c24
       by_cases c25 : 0 ≤ x8_2
       ·
        rw [if_pos c25] at H
        have c25b0 : decide (0 ≤ x8_2) = true := decide_eq_true c25
        clear c25
        by_cases c26 : x7_2.length < 5864062014805
        ·
         rw [if_pos c26] at H
         have LMc26 := Zh c26
         clear c26
         obtain ⟨y319, hy319⟩ : ∃ y_ : List (S54), y_ = (x7_2 ++ [(⟨(rd_T54 l0_2 x8_2).f0, (rd_T54 l0_2 x8_2).f1⟩ : S54)]) := ⟨_, rfl⟩
         replace H : (spec_TailOf.l0 k2 a2 y319 (wrap64 (x8_2 + 1)) a0_0 a0_1 l0_2) = some r := by first | (rw [hy319]; with_reducible exact H) | (have H2_ := (Option.bind_some _ _).symm.trans H; rw [hy319]; with_reducible exact H2_) | (have H2_ := (Option.bind_some _ _).symm.trans H; with_reducible exact H2_) | with_reducible exact H | (rw [hy319]; exact H) | exact H
         have Ny319 := Zh hy319
         clear hy319
         have H' := Zh H
         clear H
         have hcz27_0 : wr.cell? ⟨gb311, 0, none⟩ = some (.int .i64 a0_0) := (blk_cell BK311.out 0).trans rfl
         have hcz27_1 : wr.cell? ⟨gb311, 1, none⟩ = some (.int .i64 a0_1) := (blk_cell BK311.out 1).trans rfl
         have hcz27_2 : wr.cell? ⟨gb311, 2, none⟩ = some (.slice A0_2 l0_2.length c0_2) := (blk_cell BK311.out 2).trans rfl
         have hfz27_0 := Zn BK311.out 0
         have hfz27_1 := Zn BK311.out 1
         have hfz27_2 := Zn BK311.out 2
         obtain ⟨Ao28, co28, eo28⟩ := R_slice HO_7.out
         subst eo28
         have p318 : 0 ≤ (x8_2 : Int) := Zo
         have q318 : x8_2 < (l0_2.length : Int) := Zo
         obtain ⟨ad318, e318, hx318_0, hx318_1⟩ := at_T54 HR0_2.out x8_2 p318 q318
         cases e318
         replace hx318_0 := Zc HB.out hx318_0
         replace hx318_1 := Zc HB.out hx318_1
         replace p318 := eq_true p318
         replace q318 := eq_true q318
         go_wp2_with (first | ((with_reducible refine gate_builtin (b := .append) (xs := #[.tmp 45, .tmp 51]) rfl ?_); (try (refine gate_guard (by rfl) ?_; dsimp only)); at_builtin; refine R_append k54 (w0 := w) w.heap.size rfl (.tmp 45) (.tmp 51) 27 54 (.agg #[(.int .i64 0), (.string ⟨#[]⟩)]) 24 rfl Try.underlying27 info54 rfl (by decide) (by omega) (.slice Ao28 x7_2.length co28) x7_2 (⟨(rd_T54 l0_2 x8_2).f0, (rd_T54 l0_2 x8_2).f1⟩ : S54) [.int .i64 ((rd_T54 l0_2 x8_2).f0), .string ((rd_T54 l0_2 x8_2).f1)] (fun _ => True) (fun _ => False) rfl rfl ?aP (fun _ hk => hk.elim) ?aF ?aO ?aB ?aS ?aL ?_; (case aP => exact k54_mkM _ _ _ (⟨(rd_T54 l0_2 x8_2).f0, (rd_T54 l0_2 x8_2).f1⟩ : S54)); (case aB => exact Zs); (case aF => exact (fun _ _ => trivial)); (case aO => exact (by (with_reducible repeat (first | apply R_alloc | apply R_drewN | apply R_drew)); exact HO_7.out)); (case aS => exact (below_size Zs)); (case aL => have := LMc26.out; omega); intro v320 w29 ho hb hg hat; rw [← Ny319.out] at ho; have n0_ := Zh (blk_grown (g := gb311) (o := .cells #[.int .i64 a0_0, .int .i64 a0_1, .slice (some ad318) l0_2.length c0_2] 29 (0, 0)) Zk hg (R_ne HO_7.out BK311.out (by decide))); have n1_ := Zh (hb); have n2_ := Zh (ho); clear BK311; clear HB; clear HO_7; have BK311 := n0_; have HB := n1_; have HO321 := n2_; clear n0_ n1_ n2_; clear ho hb hg hat))
         go_roundg k2
         case measure => have := HJ3.out; have := HK2.out; omega
         case rel => exact ⟨(y319), (wrap64 (x8_2 + 1)), (by first | rfl | (simp; done) | (simp [*]; done)), H', ⟨by have := HJ3.out; have := HK2.out; omega⟩, ⟨by (with_reducible repeat (first | apply R_alloc | apply R_drewN | apply R_drew)); exact HO321.out⟩, ⟨by (with_reducible repeat (first | refine Za ?_ _ | refine Zb ?_ | refine blk_alloc ?_ _)); exact BK311.out⟩, ⟨by repeat (first | (with_reducible first | exact HB.out | apply Zf | apply Zd | apply Ze | refine Zg ?_ GE311.out) | exact HB.out)⟩⟩
        rw [if_neg c26] at H
        exact absurd H (by simp)
       rw [if_neg c25] at H
       exact absurd H (by simp)
      rw [if_neg c24] at H
      have c24b0 : decide ((x7_2.length : Int) < a2) = false := decide_eq_false c24
      clear c24
      obtain rfl := Option.some.inj H
      have hcz30_0 : wr.cell? ⟨gb311, 0, none⟩ = some (.int .i64 a0_0) := (blk_cell BK311.out 0).trans rfl
      have hcz30_1 : wr.cell? ⟨gb311, 1, none⟩ = some (.int .i64 a0_1) := (blk_cell BK311.out 1).trans rfl
      have hcz30_2 : wr.cell? ⟨gb311, 2, none⟩ = some (.slice A0_2 l0_2.length c0_2) := (blk_cell BK311.out 2).trans rfl
      have hfz30_0 := Zn BK311.out 0
      have hfz30_1 := Zn BK311.out 1
      have hfz30_2 := Zn BK311.out 2
      obtain ⟨Ao31, co31, eo31⟩ := R_slice HO_7.out
      subst eo31
      go_wp2
      go_ret
      exact ⟨_, by first | rfl | (simp [errW_none, errW_some] <;> rfl) | (simp [*, errW_none, errW_some] <;> rfl), by (with_reducible repeat (first | apply R_alloc | apply R_drewN | apply R_drew)); exact HO_7.out, by repeat (first | (with_reducible first | exact HB.out | apply Zf | apply Zd | apply Ze | refine Zg ?_ GE311.out) | exact HB.out)⟩
     rw [if_neg c23] at H
     have c23b0 : decide (x8_2 < (l0_2.length : Int)) = false := decide_eq_false c23
     clear c23
     obtain rfl := Option.some.inj H
     have hcz32_0 : wr.cell? ⟨gb311, 0, none⟩ = some (.int .i64 a0_0) := (blk_cell BK311.out 0).trans rfl
     have hcz32_1 : wr.cell? ⟨gb311, 1, none⟩ = some (.int .i64 a0_1) := (blk_cell BK311.out 1).trans rfl
     have hcz32_2 : wr.cell? ⟨gb311, 2, none⟩ = some (.slice A0_2 l0_2.length c0_2) := (blk_cell BK311.out 2).trans rfl
     have hfz32_0 := Zn BK311.out 0
     have hfz32_1 := Zn BK311.out 1
     have hfz32_2 := Zn BK311.out 2
     go_wp2
     go_ret
     exact ⟨_, by first | rfl | (simp [errW_none, errW_some] <;> rfl) | (simp [*, errW_none, errW_some] <;> rfl), by (with_reducible repeat (first | apply R_alloc | apply R_drewN | apply R_drew)); exact HO_7.out, by repeat (first | (with_reducible first | exact HB.out | apply Zf | apply Zd | apply Ze | refine Zg ?_ GE311.out) | exact HB.out)⟩
mutual
def spec_l05DrawEntries.j0 : Nat → Int → List (S54) → Int → List Int → Int → Int → Int → Int → List (S54) → Option ((List (S54)) × Int × Int)
 | 0, _, _, _, _, _, _, _, _, _ => none
 | k + 1, x2, x7, x8, x1000, x1001, x1002, x865000, x865001, x865002 => (spec_l01Below.f x1000 x1001 x1002 4).bind fun bt869 => ((spec_TailOf.f k x865000 x865001 x865002 (wrap64 (x2 + 1)) bt869.1).bind fun t872 => (spec_l05DrawEntries.l0 k x7 x8 t872 0 x1000 bt869.2.1 bt869.2.2))
def spec_l05DrawEntries.l0 : Nat → List (S54) → Int → List (S54) → Int → List Int → Int → Int → Option ((List (S54)) × Int × Int)
 | 0, _, _, _, _, _, _, _ => none
 | k + 1, x7, x8, x9, x10, x1000, x1001, x1002 => if x10 < (x9.length : Int) then (if 0 ≤ x10 then ((spec_l01Once.f x1000 x1001 x1002 6).bind fun bt877 => (if bt877.1 = true then (if x7.length < 5864062014805 then (spec_l05DrawEntries.l0 k (x7 ++ [(⟨(rd_T54 x9 x10).f0, (⟨#[122]⟩ : ByteArray)⟩ : S54)]) ((rd_T54 x9 x10).f0) x9 (wrap64 (x10 + 1)) x1000 bt877.2.1 bt877.2.2) else (none)) else (if x7.length < 5864062014805 then (spec_l05DrawEntries.l0 k (x7 ++ [(⟨(rd_T54 x9 x10).f0, (rd_T54 x9 x10).f1⟩ : S54)]) ((rd_T54 x9 x10).f0) x9 (wrap64 (x10 + 1)) x1000 bt877.2.1 bt877.2.2) else (none)))) else (none)) else ((spec_l01Below.f x1000 x1001 x1002 4).bind fun bt886 => (spec_l05DrawEntries.l1 k x7 x8 bt886.1 x1000 bt886.2.1 bt886.2.2))
def spec_l05DrawEntries.l1 : Nat → List (S54) → Int → Int → List Int → Int → Int → Option ((List (S54)) × Int × Int)
 | 0, _, _, _, _, _, _ => none
 | k + 1, x7, x8, x12, x1000, x1001, x1002 => if x12 > 0 then ((spec_l01Below.f x1000 x1001 x1002 3).bind fun bt889 => ((spec_l01PickText.f x1000 bt889.2.1 bt889.2.2 (([(⟨#[110]⟩ : ByteArray), (⟨#[109]⟩ : ByteArray), (⟨#[]⟩ : ByteArray)] : List ByteArray))).bind fun bt895 => (if x7.length < 5864062014805 then (spec_l05DrawEntries.l1 k (x7 ++ [(⟨wrap64 (x8 + (wrap64 (Int.tdiv bt889.1 2))), bt895.1⟩ : S54)]) (wrap64 (x8 + (wrap64 (Int.tdiv bt889.1 2)))) (wrap64 (x12 - 1)) x1000 bt895.2.1 bt895.2.2) else (none)))) else (some (x7, x1001, x1002))
end
def spec_l05DrawEntries.f (k : Nat) (s0_0 : List Int) (s0_1 : Int) (s0_2 : Int) (a1_0 : Int) (a1_1 : Int) (l1_2 : List (S54)) (a2 : Int) : Option ((List (S54)) × Int × Int) := (some (([] : List (S54)) : List (S54))).bind fun y865 => ((spec_TermAt.f k a1_0 a1_1 l1_2 a2).bind fun t868 => (if t868 < 1 then (spec_l05DrawEntries.j0 k a2 y865 1 s0_0 s0_1 s0_2 a1_0 a1_1 l1_2) else (spec_l05DrawEntries.j0 k a2 y865 t868 s0_0 s0_1 s0_2 a1_0 a1_1 l1_2)))
set_option maxHeartbeats 8000000 in
set_option maxRecDepth 100000 in
theorem spec_l05DrawEntries.calls (k : Nat) (g : Nat) (s0_0 : List Int) (s0_1 : Int) (s0_2 : Int) (a1_0 : Int) (a1_1 : Int) (A1_2 : Option Addr) (c1_2 : Nat) (l1_2 : List (S54)) (a2 : Int) (r1 : List (S54)) (r2 : Int) (r3 : Int) (w0 w : World) (hI : IsS72 w0 w g s0_0 s0_1 s0_2) (hB : Below w0.heap.size w0 w) (hr1_2 : ∀ W_, KeepBut w W_ g none → Kd.C k54 W_ A1_2 l1_2.length l1_2) (hc1_2 : l1_2.length ≤ c1_2) (h : spec_l05DrawEntries.f k s0_0 s0_1 s0_2 a1_0 a1_1 l1_2 a2 = some (r1, r2, r3)) :
  Calls Try.prog 58 #[.pointer (some ⟨g, 0, none⟩), .agg #[.int .i64 a1_0, .int .i64 a1_1, .slice A1_2 l1_2.length c1_2], .int .i64 a2] w fun e w' => ∃ v0_ : Value, e = .returned (v0_) ∧ Kd.R k54 54 w' w.heap.size (fun _ => True) v0_ r1 ∧ IsS72 w0 w' g s0_0 r2 r3 ∧ Below w0.heap.size w0 w' ∧ KeepBut w w' g none := by
 have hu29 := Try.underlying29
 have hu54 := Try.underlying54
 have HR1_2 := Zh hr1_2
 have HC1_2 := Zh hc1_2
 clear hr1_2 hc1_2
 have HI0 := Zh hI
 have HK := Zh (KeepBut.refl w g none)
 have HL := Zh hB.size
 clear hI
 have HW0 := Zh hB.size
 have HB := Zh hB
 clear hB
 have H : ((some (([] : List (S54)) : List (S54))).bind fun y865 => ((spec_TermAt.f k a1_0 a1_1 l1_2 a2).bind fun t868 => (if t868 < 1 then (spec_l05DrawEntries.j0 k a2 y865 1 s0_0 s0_1 s0_2 a1_0 a1_1 l1_2) else (spec_l05DrawEntries.j0 k a2 y865 t868 s0_0 s0_1 s0_2 a1_0 a1_1 l1_2)))) = some (r1, r2, r3) := h
 clear h
 obtain ⟨y865, hy865⟩ : ∃ y_ : List (S54), y_ = (([] : List (S54))) := ⟨_, rfl⟩
 replace H : ((spec_TermAt.f k a1_0 a1_1 l1_2 a2).bind fun t868 => (if t868 < 1 then (spec_l05DrawEntries.j0 k a2 y865 1 s0_0 s0_1 s0_2 a1_0 a1_1 l1_2) else (spec_l05DrawEntries.j0 k a2 y865 t868 s0_0 s0_1 s0_2 a1_0 a1_1 l1_2))) = some (r1, r2, r3) := by first | (rw [hy865]; with_reducible exact H) | (have H2_ := (Option.bind_some _ _).symm.trans H; rw [hy865]; with_reducible exact H2_) | (have H2_ := (Option.bind_some _ _).symm.trans H; with_reducible exact H2_) | with_reducible exact H | (rw [hy865]; exact H) | exact H
 have Ny865 := Zh hy865
 clear hy865
 replace H := Option.bind_eq_some_iff.mp H
 obtain ⟨t868, A40, H⟩ := H
 replace H : (if t868 < 1 then (spec_l05DrawEntries.j0 k a2 y865 1 s0_0 s0_1 s0_2 a1_0 a1_1 l1_2) else (spec_l05DrawEntries.j0 k a2 y865 t868 s0_0 s0_1 s0_2 a1_0 a1_1 l1_2)) = some (r1, r2, r3) := H
 have A4 := Zh A40
 clear A40
 have HC5 := Zh H
 clear H
 go_enter Try.func58, Try.ntmps58
 go_upto_if 18 with (first | ((with_reducible refine gate_dst (N := 4) rfl ?_); refine box_event ?hg (N := 4) ?hd (cs := #[.int .i64 a1_0, .int .i64 a1_1, .slice A1_2 l1_2.length c1_2]) (t := 29) ?hr ?_; (case hd => rfl); (case hg => rfl); (case hr => first | (go_simp; done) | (go_simp; rfl)); intro gb864 hg w6 hbox hb; have n0_ := Zh (IsS72.below (by repeat (first | (with_reducible first | exact HI0.out | apply IsS72.alloc | apply IsS72.drewN | apply IsS72.drew | apply IsS72.set_1 | apply IsS72.set_2) | exact HI0.out)) hb); have n1_ := Zh (KeepBut.trans (by repeat (first | (with_reducible first | exact HK.out | apply KeepBut.set_ | apply keep_drewN | apply keep_drew | apply keep_alloc) | exact HK.out)) (KeepBut.of_below hb g none) (.inl rfl)); have n2_ := Zh (Zl (by repeat (first | (with_reducible first | exact HB.out | apply Zf | apply Zd | apply Ze | refine Zg ?_ (IsS72.ge HI0.out)) | exact HB.out)) hb); have n3_ := Zh (hbox); have n4_ := Zh ((by rw [hg]; exact (keep_size (w := w) (g := g) (row := none) (by repeat (first | (with_reducible first | exact HK.out | apply KeepBut.set_ | apply keep_drewN | apply keep_drew | apply keep_alloc) | exact HK.out))) : w.heap.size ≤ gb864)); have n5_ := Zh ((Nat.le_trans HW0.out (by rw [hg]; exact (keep_size (w := w) (g := g) (row := none) (by repeat (first | (with_reducible first | exact HK.out | apply KeepBut.set_ | apply keep_drewN | apply keep_drew | apply keep_alloc) | exact HK.out))) : w.heap.size ≤ gb864) : w0.heap.size ≤ gb864)); have n6_ := Zh ((by rw [hg]; exact Nat.ne_of_lt (IsS72.lt (show IsS72 w0 _ g s0_0 s0_1 s0_2 from by repeat (first | (with_reducible first | exact HI0.out | apply IsS72.alloc | apply IsS72.drewN | apply IsS72.drew | apply IsS72.set_1 | apply IsS72.set_2) | exact HI0.out))) : g ≠ gb864)); have n7_ := Zh ((by rw [hg]; exact Nat.ne_of_gt (IsS72.lt (show IsS72 w0 _ g s0_0 s0_1 s0_2 from by repeat (first | (with_reducible first | exact HI0.out | apply IsS72.alloc | apply IsS72.drewN | apply IsS72.drew | apply IsS72.set_1 | apply IsS72.set_2) | exact HI0.out))) : gb864 ≠ g)); clear HI0; clear HK; clear HB; have HI0 := n0_; have HK := n1_; have HB := n2_; have BK864 := n3_; have GW864 := n4_; have GE864 := n5_; have NB0_864 := n6_; have NB864_0 := n7_; clear n0_ n1_ n2_ n3_ n4_ n5_ n6_ n7_; clear hb hbox hg) | ((with_reducible refine gate_dst (N := 13) rfl ?_); refine R_lit k54 _ 54 ?hg (N := 13) ?hd (xs := ([] : List (S54))) (inner := []) (ok := fun _ => True) (okp := fun _ => True) ?hr ?hp (fun _ hk => hk) trivial (Below.refl _ _) (Nat.le_refl _) (by simp) ?_; (case hd => rfl); (case hg => rfl); (case hr => first | (go_simp; done) | (go_simp; rfl)); (case hp => exact (Reps.none _ _)); intro v866 w7 ho8 hb hg_ hnew_; clear hg_ hnew_; (first | rw [← Ny865.out] at ho8 | (simp only [Int.reduceToNat] at ho8; rw [← Ny865.out] at ho8)); have n0_ := Zh (R_lower ho8 (keep_size (w := w) (g := g) (row := none) (by repeat (first | (with_reducible first | exact HK.out | apply KeepBut.set_ | apply keep_drewN | apply keep_drew | apply keep_alloc | refine keep_far ?_ GW864.out _) | exact HK.out)))); have n1_ := Zh (IsS72.below (by repeat (first | (with_reducible first | exact HI0.out | apply IsS72.alloc | apply IsS72.drewN | apply IsS72.drew | apply IsS72.set_1 | apply IsS72.set_2 | refine IsS72.far ?_ NB0_864.out _) | exact HI0.out)) hb); have n2_ := Zh (Zm (g := gb864) (o := .cells #[.int .i64 a1_0, .int .i64 a1_1, .slice A1_2 l1_2.length c1_2] 29 (0, 0)) Zk hb); have n3_ := Zh (KeepBut.trans (by repeat (first | (with_reducible first | exact HK.out | apply KeepBut.set_ | apply keep_drewN | apply keep_drew | apply keep_alloc | refine keep_far ?_ GW864.out _) | exact HK.out)) (KeepBut.of_below hb g none) (.inl rfl)); have n4_ := Zh (Zl (by repeat (first | (with_reducible first | exact HB.out | apply Zf | apply Zd | apply Ze | refine Zg ?_ (IsS72.ge HI0.out) | refine Zg ?_ GE864.out) | exact HB.out)) hb); clear HI0; clear BK864; clear HK; clear HB; have HO867 := n0_; have HI0 := n1_; have BK864 := n2_; have HK := n3_; have HB := n4_; clear n0_ n1_ n2_ n3_ n4_; clear hb ho8; have hnb9 := NB864_0.out; have hnc9 := NB0_864.out; have hcz10_0 : w7.cell? ⟨gb864, 0, none⟩ = some (.int .i64 a1_0) := (blk_cell BK864.out 0).trans rfl; have hcz10_1 : w7.cell? ⟨gb864, 1, none⟩ = some (.int .i64 a1_1) := (blk_cell BK864.out 1).trans rfl; have hcz10_2 : w7.cell? ⟨gb864, 2, none⟩ = some (.slice A1_2 l1_2.length c1_2) := (blk_cell BK864.out 2).trans rfl; have hfz10_0 := Zn BK864.out 0; have hfz10_1 := Zn BK864.out 1; have hfz10_2 := Zn BK864.out 2) | ((with_reducible refine gate_callee (f := 20) rfl ?_); refine goesL_ (some 16) rfl rfl Try.func20 (by kernel_rfl) rfl #[.agg #[.int .i64 a1_0, .int .i64 a1_1, .slice A1_2 l1_2.length c1_2], .int .i64 a2] rfl (by (try simp only [List.map_toArray, List.map_cons, List.map_nil]); first | done | rfl | (simp only [List.length_drop, List.length_take]; rfl)) ?_; (with_reducible refine (spec_TermAt.calls k a1_0 a1_1 _ _ l1_2 a2 t868 _ ?side1 ?side2 A4.out).mono ?_); (case side1 => exact C_foot_now HR1_2.out (by repeat (first | (with_reducible first | exact HK.out | apply KeepBut.set_ | apply keep_drewN | apply keep_drew | apply keep_alloc | refine keep_far ?_ GW864.out _) | exact HK.out))); (case side2 => exact HC1_2.out); rintro e w11 ⟨rfl, hb⟩; refine ⟨_, rfl, ?_⟩; have n0_ := Zh (R_below (by (with_reducible repeat (first | apply R_alloc | apply R_drewN | apply R_drew)); exact HO867.out) hb); have n1_ := Zh (IsS72.below (by repeat (first | (with_reducible first | exact HI0.out | apply IsS72.alloc | apply IsS72.drewN | apply IsS72.drew | apply IsS72.set_1 | apply IsS72.set_2 | refine IsS72.far ?_ NB0_864.out _) | exact HI0.out)) hb); have n2_ := Zh (Zm (g := gb864) (o := .cells #[.int .i64 a1_0, .int .i64 a1_1, .slice A1_2 l1_2.length c1_2] 29 (0, 0)) Zk hb); have n3_ := Zh (KeepBut.trans (by repeat (first | (with_reducible first | exact HK.out | apply KeepBut.set_ | apply keep_drewN | apply keep_drew | apply keep_alloc | refine keep_far ?_ GW864.out _) | exact HK.out)) (KeepBut.of_below hb g none) (.inl rfl)); have n4_ := Zh (Zl (by repeat (first | (with_reducible first | exact HB.out | apply Zf | apply Zd | apply Ze | refine Zg ?_ (IsS72.ge HI0.out) | refine Zg ?_ GE864.out) | exact HB.out)) hb); clear HO867; clear HI0; clear BK864; clear HK; clear HB; have HO867 := n0_; have HI0 := n1_; have BK864 := n2_; have HK := n3_; have HB := n4_; clear n0_ n1_ n2_ n3_ n4_; (try clear hb); (try clear hb2); (try clear hk); (try clear hi)))
 (try simp only [Act.put, List.setIfInBounds_toArray, List.set_cons_zero, List.set_cons_succ])
 go_cut [8] (fun v8 wc => ∃ (kq : Nat) (x8_4 : Int), v8 = .int .i64 x8_4 ∧ Aside0 (spec_l05DrawEntries.j0 kq a2 y865 x8_4 s0_0 s0_1 s0_2 a1_0 a1_1 l1_2 = some (r1, r2, r3)) ∧ Aside0 (kq ≤ k) ∧ Aside0 (Kd.R k54 54 wc w.heap.size (fun _ => True) v866 y865) ∧ Aside0 (wc.heap[gb864]? = some (.cells #[.int .i64 a1_0, .int .i64 a1_1, (.slice A1_2 l1_2.length c1_2)] 29 (0, 0))) ∧ Aside0 (IsS72 w0 wc g s0_0 s0_1 s0_2) ∧ Aside0 (KeepBut w wc g none) ∧ Aside0 (Below w0.heap.size w0 wc))
 case first =>
  have H := HC5.out
  clear HC5
  by_cases c12 : t868 < 1
  ·
   rw [if_pos c12] at H
   have c12b0 : decide (t868 < 1) = true := decide_eq_true c12
   clear c12
   (first | rw [c12b0] | (simp only [i64_w, i32_w]; rw [c12b0]) | skip)
   have H' := Zh H
   clear H
   go_wp2
   go_meet
   case rel => exact ⟨_, (1), (by first | rfl | (simp; done) | (simp [*]; done)), H', ⟨by first | omega | exact Nat.le_refl _⟩, ⟨by (with_reducible repeat (first | apply R_alloc | apply R_drewN | apply R_drew)); exact HO867.out⟩, ⟨by (with_reducible repeat (first | refine Za ?_ _ | refine Zb ?_ | refine blk_alloc ?_ _)); exact BK864.out⟩, ⟨by repeat (first | (with_reducible first | exact HI0.out | apply IsS72.alloc | apply IsS72.drewN | apply IsS72.drew | apply IsS72.set_1 | apply IsS72.set_2 | refine IsS72.far ?_ NB0_864.out _) | exact HI0.out)⟩, ⟨by repeat (first | (with_reducible first | exact HK.out | apply KeepBut.set_ | apply keep_drewN | apply keep_drew | apply keep_alloc | refine keep_far ?_ GW864.out _) | exact HK.out)⟩, ⟨by repeat (first | (with_reducible first | exact HB.out | apply Zf | apply Zd | apply Ze | refine Zg ?_ (IsS72.ge HI0.out) | refine Zg ?_ GE864.out) | exact HB.out)⟩⟩
  rw [if_neg c12] at H
  have c12b0 : decide (t868 < 1) = false := decide_eq_false c12
  clear c12
  (first | rw [c12b0] | (simp only [i64_w, i32_w]; rw [c12b0]) | skip)
  have H' := Zh H
  clear H
  go_wp2
  go_meet
  case rel => exact ⟨_, (t868), (by first | rfl | (simp; done) | (simp [*]; done)), H', ⟨by first | omega | exact Nat.le_refl _⟩, ⟨by (with_reducible repeat (first | apply R_alloc | apply R_drewN | apply R_drew)); exact HO867.out⟩, ⟨by (with_reducible repeat (first | refine Za ?_ _ | refine Zb ?_ | refine blk_alloc ?_ _)); exact BK864.out⟩, ⟨by repeat (first | (with_reducible first | exact HI0.out | apply IsS72.alloc | apply IsS72.drewN | apply IsS72.drew | apply IsS72.set_1 | apply IsS72.set_2 | refine IsS72.far ?_ NB0_864.out _) | exact HI0.out)⟩, ⟨by repeat (first | (with_reducible first | exact HK.out | apply KeepBut.set_ | apply keep_drewN | apply keep_drew | apply keep_alloc | refine keep_far ?_ GW864.out _) | exact HK.out)⟩, ⟨by repeat (first | (with_reducible first | exact HB.out | apply Zf | apply Zd | apply Ze | refine Zg ?_ (IsS72.ge HI0.out) | refine Zg ?_ GE864.out) | exact HB.out)⟩⟩
 case rest =>
  clear HC5
  try clear c1
  try clear c2
  try clear p2
  try clear c5
  try clear c9
  try clear c12
  try clear c12b0
  try clear hcz10_0
  try clear hcz10_1
  try clear hcz10_2
  try clear hfz10_0
  try clear hfz10_1
  try clear hfz10_2
  obtain ⟨kq, x8_4, rfl, HA, HJ4, HO_7, BK864, HI0, HK, HB⟩ := hcut
  cases kq with
  | zero => exact absurd HA.out (by simp [spec_l05DrawEntries.j0])
  | succ kj4 =>
   have H := HA.out
   clear HA
   simp only [spec_l05DrawEntries.j0] at H
   replace H := Option.bind_eq_some_iff.mp H
   obtain ⟨⟨t869, t870, t871⟩, A130, H⟩ := H
   replace H : ((spec_TailOf.f kj4 a1_0 a1_1 l1_2 (wrap64 (a2 + 1)) t869).bind fun t872 => (spec_l05DrawEntries.l0 kj4 y865 x8_4 t872 0 s0_0 t870 t871)) = some (r1, r2, r3) := H
   have A13 := Zh A130
   clear A130
   replace H := Option.bind_eq_some_iff.mp H
   obtain ⟨t872, A140, H⟩ := H
   replace H : (spec_l05DrawEntries.l0 kj4 y865 x8_4 t872 0 s0_0 t870 t871) = some (r1, r2, r3) := H
   have A14 := Zh A140
   clear A140
   have H' := Zh H
   clear H
   try go_wp2
   have n0_ := Zh (R_drew HO_7.out)
   have n1_ := Zh (Zb BK864.out)
   have n2_ := Zh (IsS72.drew HI0.out)
   have n3_ := Zh (keep_drew HK.out)
   have n4_ := Zh (Ze HB.out)
   clear HO_7
   clear BK864
   clear HI0
   clear HK
   clear HB
   have HO_7 := n0_
   have BK864 := n1_
   have HI0 := n2_
   have HK := n3_
   have HB := n4_
   clear n0_ n1_ n2_ n3_ n4_
   refine start_ (n := 7) (S := fun w' => w'.cell? ⟨gb864, 0, none⟩ = some (.int .i64 a1_0) ∧ w'.cell? ⟨gb864, 1, none⟩ = some (.int .i64 a1_1) ∧ w'.cell? ⟨gb864, 2, none⟩ = some (.slice A1_2 l1_2.length c1_2)) (ds := []) #[false, false, false, false, false, false, false] (by kernel_rfl) rfl rfl ⟨(blk_cell BK864.out 0).trans rfl, (blk_cell BK864.out 1).trans rfl, (blk_cell BK864.out 2).trans rfl⟩ (fun hHeld => ?_)
   generalize wc.drew = w15 at HO_7 BK864 HI0 HK HB hHeld ⊢
   refine pure_ (i := 1) (N := some 20) (v := ?_) (a' := ?_) #[false, true, false, false, false, false, false] rfl rfl (by kernel_rfl) (fun _ _ _ h => h) (Or.inl ⟨by rfl, ?_⟩) ?_ ?_
   rotate_left
   ·
    intro w'
    go_simp
    with_reducible rfl
   rotate_left
   ·
    simp only [Act.put, List.setIfInBounds_toArray, List.set_cons_zero, List.set_cons_succ, i64_w, i32_w]
    rfl
   refine pure_ (i := 2) (N := some 21) (v := ?_) (a' := ?_) #[false, true, true, false, false, false, false] rfl rfl (by kernel_rfl) (fun _ _ _ h => h) (Or.inl ⟨by rfl, ?_⟩) ?_ ?_
   rotate_left
   ·
    intro w'
    go_simp
    with_reducible rfl
   rotate_left
   ·
    simp only [Act.put, List.setIfInBounds_toArray, List.set_cons_zero, List.set_cons_succ, i64_w, i32_w]
    rfl
   refine pure_ (i := 3) (N := some 22) (v := ?_) (a' := ?_) #[false, true, true, true, false, false, false] rfl rfl (by kernel_rfl) (fun _ _ _ h => h) (Or.inl ⟨by rfl, ?_⟩) ?_ ?_
   rotate_left
   ·
    intro w'
    go_simp
    with_reducible rfl
   rotate_left
   ·
    simp only [Act.put, List.setIfInBounds_toArray, List.set_cons_zero, List.set_cons_succ, i64_w, i32_w]
    rfl
   refine take_ (i := 0) (N := some 19) (v := ?_) (a' := ?_) #[true, true, true, true, false, false, false] rfl rfl (by kernel_rfl) (fun _ _ _ h => h) (Or.inl ⟨by rfl, ?_⟩) hHeld ?_ ?_
   rotate_left
   ·
    rintro w' ⟨s0, s1, s2⟩
    go_simp
    with_reducible rfl
   rotate_left
   ·
    simp only [Act.put, List.setIfInBounds_toArray, List.set_cons_zero, List.set_cons_succ, i64_w, i32_w]
    rfl
   refine one_ (i := 4) (N := some 23) #[true, true, true, true, true, false, false] rfl rfl (by kernel_rfl) (by decide) (fun K hK => ?_)
   refine goes_ Try.func57 (by kernel_rfl) rfl #[.pointer (some ⟨g, 0, none⟩), .int .i64 4] (by rfl) rfl rfl (by (try simp only [List.map_toArray, List.map_cons, List.map_nil]); first | done | rfl | (simp only [List.length_drop, List.length_take]; rfl)) ?_
   with_reducible refine (spec_l01Below.calls g s0_0 s0_1 s0_2 4 t869 t870 t871 w0 _ ?side1 ?side2 A13.out).mono ?_
   (case side1 => repeat (first | (with_reducible first | exact HI0.out | apply IsS72.alloc | apply IsS72.drewN | apply IsS72.drew | apply IsS72.set_1 | apply IsS72.set_2 | refine IsS72.far ?_ NB0_864.out _) | exact HI0.out))
   (case side2 => repeat (first | (with_reducible first | exact HB.out | apply Zf | apply Zd | apply Ze | refine Zg ?_ (IsS72.ge HI0.out) | refine Zg ?_ GE864.out) | exact HB.out))
   rintro e w16 ⟨rfl, hi, hb, hk⟩
   refine ⟨_, rfl, ?_⟩
   have n0_ := Zh (R_mono (R_keep (IsS72.apart (show IsS72 w0 _ g s0_0 s0_1 s0_2 from by repeat (first | (with_reducible first | exact HI0.out | apply IsS72.alloc | apply IsS72.drewN | apply IsS72.drew | apply IsS72.set_1 | apply IsS72.set_2 | refine IsS72.far ?_ NB0_864.out _) | exact HI0.out)) (by (with_reducible repeat (first | apply R_alloc | apply R_drewN | apply R_drew)); exact HO_7.out) (by decide)) hk (fun _ h => h.2)) (fun _ h => h.1))
   have n1_ := Zh (KeepBut.blk hk (g' := gb864) (o := .cells #[.int .i64 a1_0, .int .i64 a1_1, .slice A1_2 l1_2.length c1_2] 29 (0, 0)) Zk NB864_0.out (by simp))
   have n2_ := Zh (KeepBut.trans (by repeat (first | (with_reducible first | exact HK.out | apply KeepBut.set_ | apply keep_drewN | apply keep_drew | apply keep_alloc | refine keep_far ?_ GW864.out _) | exact HK.out)) hk (.inl rfl))
   have n3_ := Zh (hb)
   have n4_ := Zh (hi)
   clear HO_7
   clear BK864
   clear HK
   clear HB
   clear HI0
   have HO_7 := n0_
   have BK864 := n1_
   have HK := n2_
   have HB := n3_
   have HI0 := n4_
   clear n0_ n1_ n2_ n3_ n4_
   (try clear hb)
   (try clear hb2)
   (try clear hk)
   (try clear hi)
   refine hK.out _ _ ⟨(blk_cell BK864.out 0).trans rfl, (blk_cell BK864.out 1).trans rfl, (blk_cell BK864.out 2).trans rfl⟩ (fun hHeld => ?_)
   clear hK K
   refine norm_ (a' := ?_) ?_ ?_
   rotate_left
   ·
    show Act.put _ (some 23) _ = _
    simp only [Act.put, List.setIfInBounds_toArray, List.set_cons_zero, List.set_cons_succ, i64_w, i32_w]
    rfl
   refine one_ (i := 5) (N := some 24) #[true, true, true, true, true, true, false] rfl rfl (by kernel_rfl) (by decide) (fun K hK => ?_)
   refine goes_ Try.func26 (by kernel_rfl) rfl #[.agg #[.int .i64 a1_0, .int .i64 a1_1, .slice A1_2 l1_2.length c1_2], .int .i64 (wrap64 (a2 + 1)), .int .i64 t869] (by rfl) rfl rfl (by (try simp only [List.map_toArray, List.map_cons, List.map_nil]); first | done | rfl | (simp only [List.length_drop, List.length_take]; rfl)) ?_
   with_reducible refine (spec_TailOf.calls kj4 a1_0 a1_1 _ _ l1_2 (wrap64 (a2 + 1)) t869 t872 _ ?side1 ?side2 A14.out).mono ?_
   (case side1 => exact C_foot_now HR1_2.out (by repeat (first | (with_reducible first | exact HK.out | apply KeepBut.set_ | apply keep_drewN | apply keep_drew | apply keep_alloc | refine keep_far ?_ GW864.out _) | exact HK.out)))
   (case side2 => exact HC1_2.out)
   rintro e w17 ⟨v873, rfl, ho0, hb⟩
   refine ⟨_, rfl, ?_⟩
   have n0_ := Zh (R_elder' (by (with_reducible repeat (first | apply R_alloc | apply R_drewN | apply R_drew)); exact HO_7.out) (R_base ho0) hb)
   have n1_ := Zh (R_lower (R_new' ho0 (R_lt (by (with_reducible repeat (first | apply R_alloc | apply R_drewN | apply R_drew)); exact HO_7.out))) (keep_size (w := w) (g := g) (row := none) (by repeat (first | (with_reducible first | exact HK.out | apply KeepBut.set_ | apply keep_drewN | apply keep_drew | apply keep_alloc | refine keep_far ?_ GW864.out _) | exact HK.out))))
   have n2_ := Zh (Zm (g := gb864) (o := .cells #[.int .i64 a1_0, .int .i64 a1_1, .slice A1_2 l1_2.length c1_2] 29 (0, 0)) Zk hb)
   have n3_ := Zh (IsS72.below (by repeat (first | (with_reducible first | exact HI0.out | apply IsS72.alloc | apply IsS72.drewN | apply IsS72.drew | apply IsS72.set_1 | apply IsS72.set_2 | refine IsS72.far ?_ NB0_864.out _) | exact HI0.out)) hb)
   have n4_ := Zh (KeepBut.trans (by repeat (first | (with_reducible first | exact HK.out | apply KeepBut.set_ | apply keep_drewN | apply keep_drew | apply keep_alloc | refine keep_far ?_ GW864.out _) | exact HK.out)) (KeepBut.of_below hb g none) (.inl rfl))
   have n5_ := Zh (Zl (by repeat (first | (with_reducible first | exact HB.out | apply Zf | apply Zd | apply Ze | refine Zg ?_ (IsS72.ge HI0.out) | refine Zg ?_ GE864.out) | exact HB.out)) hb)
   clear HO_7
   clear BK864
   clear HI0
   clear HK
   clear HB
   have HO_7 := n0_
   have HO874 := n1_
   have BK864 := n2_
   have HI0 := n3_
   have HK := n4_
   have HB := n5_
   clear n0_ n1_ n2_ n3_ n4_ n5_
   (try clear hb)
   (try clear hb2)
   (try clear hk)
   (try clear hi)
   (try clear ho0)
   refine hK.out _ _ ⟨(blk_cell BK864.out 0).trans rfl, (blk_cell BK864.out 1).trans rfl, (blk_cell BK864.out 2).trans rfl⟩ (fun hHeld => ?_)
   clear hK K
   refine norm_ (a' := ?_) ?_ ?_
   rotate_left
   ·
    show Act.put _ (some 24) _ = _
    simp only [Act.put, List.setIfInBounds_toArray, List.set_cons_zero, List.set_cons_succ, i64_w, i32_w]
    rfl
   refine pure_ (i := 6) (N := some 9) (v := ?_) (a' := ?_) #[true, true, true, true, true, true, true] rfl rfl (by kernel_rfl) (fun _ _ _ h => h) (Or.inl ⟨by rfl, ?_⟩) ?_ ?_
   rotate_left
   ·
    intro w'
    go_simp
    with_reducible rfl
   rotate_left
   ·
    simp only [Act.put, List.setIfInBounds_toArray, List.set_cons_zero, List.set_cons_succ, i64_w, i32_w]
    rfl
   refine done_ (by kernel_rfl) ?_
   try go_wp2
   go_loopg [7, 8, 10] kj4 (fun kq v7 v8 v10 w' => ∃ (x7_2 : List (S54)) (x8_2 : Int) (x10_2 : Int) (x1001_2 : Int) (x1002_2 : Int), v8 = .int .i64 x8_2 ∧ v10 = .int .i64 x10_2 ∧ Aside0 (spec_l05DrawEntries.l0 kq x7_2 x8_2 t872 x10_2 s0_0 x1001_2 x1002_2 = some (r1, r2, r3)) ∧ Aside0 (kq ≤ kj4) ∧ Aside0 (Kd.R k54 54 w' w.heap.size (fun k_ => some k_ ≠ (v873 : Value).ownBlock) v7 x7_2) ∧ Aside0 (Kd.R k54 54 w' w.heap.size (fun k_ => some k_ ≠ (v7 : Value).ownBlock) v873 t872) ∧ Aside0 (w'.heap[gb864]? = some (.cells #[.int .i64 a1_0, .int .i64 a1_1, (.slice A1_2 l1_2.length c1_2)] 29 (0, 0))) ∧ Aside0 (IsS72 w0 w' g s0_0 x1001_2 x1002_2) ∧ Aside0 (KeepBut w w' g none) ∧ Aside0 (Below w0.heap.size w0 w'))
   case atStart => exact ⟨(y865), (x8_4), (0), (t870), (t871), (by first | rfl | (simp; done) | (simp [*]; done)), (by first | rfl | (simp; done) | (simp [*]; done)), H', ⟨Nat.le_refl _⟩, ⟨by (with_reducible repeat (first | apply R_alloc | apply R_drewN | apply R_drew)); exact R_mono HO_7.out (fun _ hk => hk.2)⟩, ⟨by (with_reducible repeat (first | apply R_alloc | apply R_drewN | apply R_drew)); exact R_mono HO874.out (fun _ hk => hk.2)⟩, ⟨by (with_reducible repeat (first | refine Za ?_ _ | refine Zb ?_ | refine blk_alloc ?_ _)); exact BK864.out⟩, ⟨by repeat (first | (with_reducible first | exact HI0.out | apply IsS72.alloc | apply IsS72.drewN | apply IsS72.drew | apply IsS72.set_1 | apply IsS72.set_2 | refine IsS72.far ?_ NB0_864.out _) | exact HI0.out)⟩, ⟨by repeat (first | (with_reducible first | exact HK.out | apply KeepBut.set_ | apply keep_drewN | apply keep_drew | apply keep_alloc | refine keep_far ?_ GW864.out _) | exact HK.out)⟩, ⟨by repeat (first | (with_reducible first | exact HB.out | apply Zf | apply Zd | apply Ze | refine Zg ?_ (IsS72.ge HI0.out) | refine Zg ?_ GE864.out) | exact HB.out)⟩⟩
   case round =>
    clear H'
    try clear c1
    try clear c2
    try clear p2
    try clear c5
    try clear p6
    try clear c9
    try clear c12
    try clear c12b0
    try clear hcz10_0
    try clear hcz10_1
    try clear hcz10_2
    try clear hfz10_0
    try clear hfz10_1
    try clear hfz10_2
    try clear p2
    obtain ⟨x7_2, x8_2, x10_2, x1001_2, x1002_2, rfl, rfl, HA, HK2, HO_7, HO_9, BK864, HI0, HK, HB⟩ := hrel
    cases gk with
    | zero => exact absurd HA.out (by simp [spec_l05DrawEntries.l0])
    | succ k2 =>
     have H := HA.out
     clear HA
     simp only [spec_l05DrawEntries.l0] at H
     by_cases c18 : x10_2 < (t872.length : Int)
     ·
      rw [if_pos c18] at H
      have c18b0 : decide (x10_2 < (t872.length : Int)) = true := decide_eq_true c18
      clear c18
      by_cases c19 : 0 ≤ x10_2
      ·
       rw [if_pos c19] at H
       have c19b0 : decide (0 ≤ x10_2) = true := decide_eq_true c19
       clear c19
       replace H := Option.bind_eq_some_iff.mp H
       obtain ⟨⟨t877, t878, t879⟩, A200, H⟩ := H
       replace H : (if t877 = true then (if x7_2.length < 5864062014805 then (spec_l05DrawEntries.l0 k2 (x7_2 ++ [(⟨(rd_T54 t872 x10_2).f0, (⟨#[122]⟩ : ByteArray)⟩ : S54)]) ((rd_T54 t872 x10_2).f0) t872 (wrap64 (x10_2 + 1)) s0_0 t878 t879) else (none)) else (if x7_2.length < 5864062014805 then (spec_l05DrawEntries.l0 k2 (x7_2 ++ [(⟨(rd_T54 t872 x10_2).f0, (rd_T54 t872 x10_2).f1⟩ : S54)]) ((rd_T54 t872 x10_2).f0) t872 (wrap64 (x10_2 + 1)) s0_0 t878 t879) else (none))) = some (r1, r2, r3) := H
       have A20 := Zh A200
       clear A200
       by_cases c21 : t877 = true
       ·
        subst c21
        have H1 : (if x7_2.length < 5864062014805 then (spec_l05DrawEntries.l0 k2 (x7_2 ++ [(⟨(rd_T54 t872 x10_2).f0, (⟨#[122]⟩ : ByteArray)⟩ : S54)]) ((rd_T54 t872 x10_2).f0) t872 (wrap64 (x10_2 + 1)) s0_0 t878 t879) else (none)) = some (r1, r2, r3) := by rw [if_pos rfl] at H; exact H
        clear H
        have H := H1
        clear H1
        by_cases c22 : x7_2.length < 5864062014805
        ·
         rw [if_pos c22] at H
         have LMc22 := Zh c22
         clear c22
         obtain ⟨y880, hy880⟩ : ∃ y_ : List (S54), y_ = (x7_2 ++ [(⟨(rd_T54 t872 x10_2).f0, (⟨#[122]⟩ : ByteArray)⟩ : S54)]) := ⟨_, rfl⟩
         replace H : (spec_l05DrawEntries.l0 k2 y880 ((rd_T54 t872 x10_2).f0) t872 (wrap64 (x10_2 + 1)) s0_0 t878 t879) = some (r1, r2, r3) := by first | (rw [hy880]; with_reducible exact H) | (have H2_ := (Option.bind_some _ _).symm.trans H; rw [hy880]; with_reducible exact H2_) | (have H2_ := (Option.bind_some _ _).symm.trans H; with_reducible exact H2_) | with_reducible exact H | (rw [hy880]; exact H) | exact H
         have Ny880 := Zh hy880
         clear hy880
         have H' := Zh H
         clear H
         obtain ⟨Ao23, co23, eo23⟩ := R_slice HO_9.out
         subst eo23
         have p875 : 0 ≤ (x10_2 : Int) := Zo
         have q875 : x10_2 < (t872.length : Int) := Zo
         obtain ⟨ad875, e875, hx875_0, hx875_1⟩ := at_T54 (R_reads' HO_9.out).2.2 x10_2 p875 q875
         cases e875
         replace p875 := eq_true p875
         replace q875 := eq_true q875
         go_wp2_with (first | ((with_reducible refine gate_dst (N := 11) rfl ?_); refine box_event ?hg (N := 11) ?hd (cs := #[.int .i64 0, .string (⟨#[]⟩ : ByteArray)]) (t := 54) ?hr ?_; (case hd => rfl); (case hg => rfl); (case hr => first | (go_simp; done) | (go_simp; rfl)); intro gb876 hg w24 hbox hb; have n0_ := Zh (R_below (R_elderB (by (with_reducible repeat (first | apply R_alloc | apply R_drewN | apply R_drew)); exact HO_7.out) gb876 (Nat.le_of_eq hg.symm)) hb); have n1_ := Zh (R_below (R_elderB (by (with_reducible repeat (first | apply R_alloc | apply R_drewN | apply R_drew)); exact HO_9.out) gb876 (Nat.le_of_eq hg.symm)) hb); have n2_ := Zh (Zm (g := gb864) (o := .cells #[.int .i64 a1_0, .int .i64 a1_1, .slice A1_2 l1_2.length c1_2] 29 (0, 0)) Zk hb); have n3_ := Zh (IsS72.below (by repeat (first | (with_reducible first | exact HI0.out | apply IsS72.alloc | apply IsS72.drewN | apply IsS72.drew | apply IsS72.set_1 | apply IsS72.set_2 | refine IsS72.far ?_ NB0_864.out _) | exact HI0.out)) hb); have n4_ := Zh (KeepBut.trans (by repeat (first | (with_reducible first | exact HK.out | apply KeepBut.set_ | apply keep_drewN | apply keep_drew | apply keep_alloc | refine keep_far ?_ GW864.out _) | exact HK.out)) (KeepBut.of_below hb g none) (.inl rfl)); have n5_ := Zh (Zl (by repeat (first | (with_reducible first | exact HB.out | apply Zf | apply Zd | apply Ze | refine Zg ?_ (IsS72.ge HI0.out) | refine Zg ?_ GE864.out) | exact HB.out)) hb); have n6_ := Zh (hbox); have n7_ := Zh ((by rw [hg]; exact (keep_size (w := w) (g := g) (row := none) (by repeat (first | (with_reducible first | exact HK.out | apply KeepBut.set_ | apply keep_drewN | apply keep_drew | apply keep_alloc | refine keep_far ?_ GW864.out _) | exact HK.out))) : w.heap.size ≤ gb876)); have n8_ := Zh ((Nat.le_trans HW0.out (by rw [hg]; exact (keep_size (w := w) (g := g) (row := none) (by repeat (first | (with_reducible first | exact HK.out | apply KeepBut.set_ | apply keep_drewN | apply keep_drew | apply keep_alloc | refine keep_far ?_ GW864.out _) | exact HK.out))) : w.heap.size ≤ gb876) : w0.heap.size ≤ gb876)); have n9_ := Zh ((by rw [hg]; exact Nat.ne_of_lt (blk_lt (g := gb864) (o := .cells #[.int .i64 a1_0, .int .i64 a1_1, .slice A1_2 l1_2.length c1_2] 29 (0, 0)) Zk) : gb864 ≠ gb876)); have n10_ := Zh ((by rw [hg]; exact Nat.ne_of_gt (blk_lt (g := gb864) (o := .cells #[.int .i64 a1_0, .int .i64 a1_1, .slice A1_2 l1_2.length c1_2] 29 (0, 0)) Zk) : gb876 ≠ gb864)); have n11_ := Zh ((by rw [hg]; exact Nat.ne_of_lt (IsS72.lt (show IsS72 w0 _ g s0_0 x1001_2 x1002_2 from by repeat (first | (with_reducible first | exact HI0.out | apply IsS72.alloc | apply IsS72.drewN | apply IsS72.drew | apply IsS72.set_1 | apply IsS72.set_2 | refine IsS72.far ?_ NB0_864.out _) | exact HI0.out))) : g ≠ gb876)); have n12_ := Zh ((by rw [hg]; exact Nat.ne_of_gt (IsS72.lt (show IsS72 w0 _ g s0_0 x1001_2 x1002_2 from by repeat (first | (with_reducible first | exact HI0.out | apply IsS72.alloc | apply IsS72.drewN | apply IsS72.drew | apply IsS72.set_1 | apply IsS72.set_2 | refine IsS72.far ?_ NB0_864.out _) | exact HI0.out))) : gb876 ≠ g)); clear HO_7; clear HO_9; clear BK864; clear HI0; clear HK; clear HB; have HO_7 := n0_; have HO_9 := n1_; have BK864 := n2_; have HI0 := n3_; have HK := n4_; have HB := n5_; have BK876 := n6_; have GW876 := n7_; have GE876 := n8_; have NB864_876 := n9_; have NB876_864 := n10_; have NB0_876 := n11_; have NB876_0 := n12_; clear n0_ n1_ n2_ n3_ n4_ n5_ n6_ n7_ n8_ n9_ n10_ n11_ n12_; clear hb hbox hg; have hnb25 := NB876_864.out; have hnc25 := NB864_876.out; have hnb26 := NB876_0.out; have hnc26 := NB0_876.out; have hcz27_0 : w24.cell? ⟨gb876, 0, none⟩ = some (.int .i64 0) := (blk_cell BK876.out 0).trans rfl; have hcz27_1 : w24.cell? ⟨gb876, 1, none⟩ = some (.string (⟨#[]⟩ : ByteArray)) := (blk_cell BK876.out 1).trans rfl; have hfz27_0 := Zn BK876.out 0; have hfz27_1 := Zn BK876.out 1) | ((with_reducible refine gate_callee (f := 60) rfl ?_); refine goesL_ (some 36) rfl rfl Try.func60 (by kernel_rfl) rfl #[.pointer (some ⟨g, 0, none⟩), .int .i64 6] rfl (by (try simp only [List.map_toArray, List.map_cons, List.map_nil]); first | done | rfl | (simp only [List.length_drop, List.length_take]; rfl)) ?_; (with_reducible refine (spec_l01Once.calls g s0_0 x1001_2 x1002_2 6 true t878 t879 w0 _ ?side1 ?side2 A20.out).mono ?_); (case side1 => repeat (first | (with_reducible first | exact HI0.out | apply IsS72.alloc | apply IsS72.drewN | apply IsS72.drew | apply IsS72.set_1 | apply IsS72.set_2 | refine IsS72.far ?_ NB0_864.out _ | refine IsS72.far ?_ NB0_876.out _) | exact HI0.out)); (case side2 => repeat (first | (with_reducible first | exact HB.out | apply Zf | apply Zd | apply Ze | refine Zg ?_ (IsS72.ge HI0.out) | refine Zg ?_ GE864.out | refine Zg ?_ GE876.out) | exact HB.out)); rintro e w28 ⟨rfl, hi, hb, hk⟩; refine ⟨_, rfl, ?_⟩; have n0_ := Zh (R_mono (R_keep (IsS72.apart (show IsS72 w0 _ g s0_0 x1001_2 x1002_2 from by repeat (first | (with_reducible first | exact HI0.out | apply IsS72.alloc | apply IsS72.drewN | apply IsS72.drew | apply IsS72.set_1 | apply IsS72.set_2 | refine IsS72.far ?_ NB0_864.out _ | refine IsS72.far ?_ NB0_876.out _) | exact HI0.out)) (by (with_reducible repeat (first | apply R_alloc | apply R_drewN | apply R_drew)); exact (R_mono (R_far (p := ⟨gb876, 1, none⟩) (R_far (p := ⟨gb876, 0, none⟩) (R_mono HO_7.out (fun k_ hk => (⟨hk, hk.2⟩ : _ ∧ k_ ≠ gb876))) (fun _ hk => hk.2) (.int .i64 ((rd_T54 t872 x10_2).f0))) (fun _ hk => hk.2) (.string ((rd_T54 t872 x10_2).f1))) (fun _ h_ => h_.1))) (by decide)) hk (fun _ h => h.2)) (fun _ h => h.1)); have n1_ := Zh (R_mono (R_keep (IsS72.apart (show IsS72 w0 _ g s0_0 x1001_2 x1002_2 from by repeat (first | (with_reducible first | exact HI0.out | apply IsS72.alloc | apply IsS72.drewN | apply IsS72.drew | apply IsS72.set_1 | apply IsS72.set_2 | refine IsS72.far ?_ NB0_864.out _ | refine IsS72.far ?_ NB0_876.out _) | exact HI0.out)) (by (with_reducible repeat (first | apply R_alloc | apply R_drewN | apply R_drew)); exact (R_mono (R_far (p := ⟨gb876, 1, none⟩) (R_far (p := ⟨gb876, 0, none⟩) (R_mono HO_9.out (fun k_ hk => (⟨hk, hk.2⟩ : _ ∧ k_ ≠ gb876))) (fun _ hk => hk.2) (.int .i64 ((rd_T54 t872 x10_2).f0))) (fun _ hk => hk.2) (.string ((rd_T54 t872 x10_2).f1))) (fun _ h_ => h_.1))) (by decide)) hk (fun _ h => h.2)) (fun _ h => h.1)); have n2_ := Zh (KeepBut.blk hk (g' := gb864) (o := .cells #[.int .i64 a1_0, .int .i64 a1_1, .slice A1_2 l1_2.length c1_2] 29 (0, 0)) (by (with_reducible repeat (first | refine Za ?_ _ | refine Zb ?_ | refine blk_alloc ?_ _)); refine Zp ?_ NB864_876.out _; (with_reducible repeat (first | refine Za ?_ _ | refine Zb ?_ | refine blk_alloc ?_ _)); refine Zp ?_ NB864_876.out _; (with_reducible repeat (first | refine Za ?_ _ | refine Zb ?_ | refine blk_alloc ?_ _)); exact BK864.out) NB864_0.out (by simp)); have n3_ := Zh (KeepBut.blk hk (g' := gb876) (o := .cells #[.int .i64 ((rd_T54 t872 x10_2).f0), .string ((rd_T54 t872 x10_2).f1)] 54 (0, 0)) (by (with_reducible repeat (first | refine Za ?_ _ | refine Zb ?_ | refine blk_alloc ?_ _)); refine blk_put (cs := #[.int .i64 ((rd_T54 t872 x10_2).f0), .string (⟨#[]⟩ : ByteArray)]) ?_ 1 _ rfl; (with_reducible repeat (first | refine Za ?_ _ | refine Zb ?_ | refine blk_alloc ?_ _)); refine blk_put (cs := #[.int .i64 0, .string (⟨#[]⟩ : ByteArray)]) ?_ 0 _ rfl; (with_reducible repeat (first | refine Za ?_ _ | refine Zb ?_ | refine blk_alloc ?_ _)); exact BK876.out) NB876_0.out (by simp)); have n4_ := Zh (KeepBut.trans (by repeat (first | (with_reducible first | exact HK.out | apply KeepBut.set_ | apply keep_drewN | apply keep_drew | apply keep_alloc | refine keep_far ?_ GW864.out _ | refine keep_far ?_ GW876.out _) | exact HK.out)) hk (.inl rfl)); have n5_ := Zh (hb); have n6_ := Zh (hi); clear HO_7; clear HO_9; clear BK864; clear BK876; clear HK; clear HB; clear HI0; have HO_7 := n0_; have HO_9 := n1_; have BK864 := n2_; have BK876 := n3_; have HK := n4_; have HB := n5_; have HI0 := n6_; clear n0_ n1_ n2_ n3_ n4_ n5_ n6_; (try clear hb); (try clear hb2); (try clear hk); (try clear hi); have hcz29_0 : w28.cell? ⟨gb876, 0, none⟩ = some (.int .i64 ((rd_T54 t872 x10_2).f0)) := (blk_cell BK876.out 0).trans rfl; have hcz29_1 : w28.cell? ⟨gb876, 1, none⟩ = some (.string ((rd_T54 t872 x10_2).f1)) := (blk_cell BK876.out 1).trans rfl; have hfz29_0 := Zn BK876.out 0; have hfz29_1 := Zn BK876.out 1) | ((with_reducible refine gate_builtin (b := .append) (xs := #[.tmp 38, .tmp 40]) rfl ?_); at_builtin; refine R_append k54 w.heap.size rfl (.tmp 38) (.tmp 40) 27 54 (.agg #[(.int .i64 0), (.string ⟨#[]⟩)]) 24 rfl Try.underlying27 info54 rfl (by decide) (by omega) u7 x7_2 (⟨(rd_T54 t872 x10_2).f0, (⟨#[122]⟩ : ByteArray)⟩ : S54) [.int .i64 ((rd_T54 t872 x10_2).f0), .string (⟨#[122]⟩ : ByteArray)] (fun k_ => some k_ ≠ (.slice (some ad875) t872.length co23 : Value).ownBlock ∧ k_ ≠ gb876) (fun _ => False) rfl (by first | (go_simp; done) | (go_simp; rfl)) ?aP (fun _ hk => hk.elim) ?aF ?aO (Below.refl _ _) ?aS ?aL ?_; (case aP => exact k54_mkM _ _ _ (⟨(rd_T54 t872 x10_2).f0, (⟨#[122]⟩ : ByteArray)⟩ : S54)); (case aF => exact (fun k_ hk => ⟨Kd.fresh' (R_lt (by (with_reducible repeat (first | apply R_alloc | apply R_drewN | apply R_drew)); exact (R_mono (R_far (p := ⟨gb876, 1, none⟩) (R_mono HO_9.out (fun k_ hk => (⟨hk, hk.2⟩ : _ ∧ k_ ≠ gb876))) (fun _ hk => hk.2) (.string (⟨#[122]⟩ : ByteArray))) (fun _ h_ => h_.1)))) k_ hk, Kd.freshB (g := gb876) (o := .cells #[.int .i64 ((rd_T54 t872 x10_2).f0), .string (⟨#[122]⟩ : ByteArray)] 54 (0, 0)) (by (with_reducible repeat (first | refine Za ?_ _ | refine Zb ?_ | refine blk_alloc ?_ _)); refine blk_put (cs := #[.int .i64 ((rd_T54 t872 x10_2).f0), .string ((rd_T54 t872 x10_2).f1)]) ?_ 1 _ rfl; (with_reducible repeat (first | refine Za ?_ _ | refine Zb ?_ | refine blk_alloc ?_ _)); exact BK876.out) k_ hk⟩)); (case aO => exact (by (with_reducible repeat (first | apply R_alloc | apply R_drewN | apply R_drew)); exact R_mono (R_far (p := ⟨gb876, 1, none⟩) (R_mono HO_7.out (fun k_ hk => (⟨hk, hk.2⟩ : _ ∧ k_ ≠ gb876))) (fun _ hk => hk.2) (.string (⟨#[122]⟩ : ByteArray))) (fun _ hk => ⟨hk.1.1, hk.1.2⟩))); (case aS => exact (keep_size (w := w) (g := g) (row := none) (by repeat (first | (with_reducible first | exact HK.out | apply KeepBut.set_ | apply keep_drewN | apply keep_drew | apply keep_alloc | refine keep_far ?_ GW864.out _ | refine keep_far ?_ GW876.out _) | exact HK.out)))); (case aL => have := LMc22.out; omega); intro v881 w30 ho hb hg hat; rw [← Ny880.out] at ho; have n0_ := Zh (R_after (ok := (fun k_ => k_ ≠ gb876)) (by (with_reducible repeat (first | apply R_alloc | apply R_drewN | apply R_drew)); exact R_mono (R_far (p := ⟨gb876, 1, none⟩) (R_mono HO_9.out (fun k_ hk => (⟨hk, hk.2⟩ : _ ∧ k_ ≠ gb876))) (fun _ hk => hk.2) (.string (⟨#[122]⟩ : ByteArray))) (fun _ hk => ⟨hk.1.2, hk.1.1⟩)) hg hat); have n1_ := Zh (blk_grown (g := gb864) (o := .cells #[.int .i64 a1_0, .int .i64 a1_1, .slice A1_2 l1_2.length c1_2] 29 (0, 0)) (by (with_reducible repeat (first | refine Za ?_ _ | refine Zb ?_ | refine blk_alloc ?_ _)); refine Zp ?_ NB864_876.out _; (with_reducible repeat (first | refine Za ?_ _ | refine Zb ?_ | refine blk_alloc ?_ _)); exact BK864.out) hg (R_ne HO_7.out BK864.out (by decide))); have n2_ := Zh (IsS72.grown (show IsS72 w0 _ g s0_0 t878 t879 from by repeat (first | (with_reducible first | exact HI0.out | apply IsS72.alloc | apply IsS72.drewN | apply IsS72.drew | apply IsS72.set_1 | apply IsS72.set_2 | refine IsS72.far ?_ NB0_864.out _ | refine IsS72.far ?_ NB0_876.out _) | exact HI0.out)) hg (IsS72.own_ne HI0.out HO_7.out (by decide))); have n3_ := Zh (blk_grown (g := gb876) (o := .cells #[.int .i64 ((rd_T54 t872 x10_2).f0), .string (⟨#[122]⟩ : ByteArray)] 54 (0, 0)) (by (with_reducible repeat (first | refine Za ?_ _ | refine Zb ?_ | refine blk_alloc ?_ _)); refine blk_put (cs := #[.int .i64 ((rd_T54 t872 x10_2).f0), .string ((rd_T54 t872 x10_2).f1)]) ?_ 1 _ rfl; (with_reducible repeat (first | refine Za ?_ _ | refine Zb ?_ | refine blk_alloc ?_ _)); exact BK876.out) hg (R_away HO_7.out (fun _ hk => hk.2))); have n4_ := Zh (below_weaken (by repeat (first | (with_reducible first | exact HB.out | apply Zf | apply Zd | apply Ze | refine Zg ?_ (IsS72.ge HI0.out) | refine Zg ?_ GE864.out | refine Zg ?_ GE876.out) | exact HB.out)) HL.out hb); have n5_ := Zh (KeepBut.trans (by repeat (first | (with_reducible first | exact HK.out | apply KeepBut.set_ | apply keep_drewN | apply keep_drew | apply keep_alloc | refine keep_far ?_ GW864.out _ | refine keep_far ?_ GW876.out _) | exact HK.out)) (KeepBut.of_grown hg g) (R_base2 HO_7.out)); have n6_ := Zh (ho); clear HO_9; clear BK864; clear HI0; clear BK876; clear HB; clear HK; clear HO_7; have HO_9 := n0_; have BK864 := n1_; have HI0 := n2_; have BK876 := n3_; have HB := n4_; have HK := n5_; have HO882 := n6_; clear n0_ n1_ n2_ n3_ n4_ n5_ n6_; clear ho hb hg hat; have hcz31_0 : w30.cell? ⟨gb876, 0, none⟩ = some (.int .i64 ((rd_T54 t872 x10_2).f0)) := (blk_cell BK876.out 0).trans rfl; have hcz31_1 : w30.cell? ⟨gb876, 1, none⟩ = some (.string (⟨#[122]⟩ : ByteArray)) := (blk_cell BK876.out 1).trans rfl; have hfz31_0 := Zn BK876.out 0; have hfz31_1 := Zn BK876.out 1))
         go_roundg k2
         case measure => have := HJ4.out; have := HK2.out; omega
         case rel => exact ⟨(y880), ((rd_T54 t872 x10_2).f0), (wrap64 (x10_2 + 1)), (t878), (t879), (by first | rfl | (simp; done) | (simp [*]; done)), (by first | rfl | (simp; done) | (simp [*]; done)), H', ⟨by have := HJ4.out; have := HK2.out; omega⟩, ⟨by (with_reducible repeat (first | apply R_alloc | apply R_drewN | apply R_drew)); exact R_mono HO882.out (fun _ hk => hk.1)⟩, ⟨by (with_reducible repeat (first | apply R_alloc | apply R_drewN | apply R_drew)); exact R_mono HO_9.out (fun _ hk => hk.2)⟩, ⟨by (with_reducible repeat (first | refine Za ?_ _ | refine Zb ?_ | refine blk_alloc ?_ _)); exact BK864.out⟩, ⟨by repeat (first | (with_reducible first | exact HI0.out | apply IsS72.alloc | apply IsS72.drewN | apply IsS72.drew | apply IsS72.set_1 | apply IsS72.set_2 | refine IsS72.far ?_ NB0_864.out _ | refine IsS72.far ?_ NB0_876.out _) | exact HI0.out)⟩, ⟨by repeat (first | (with_reducible first | exact HK.out | apply KeepBut.set_ | apply keep_drewN | apply keep_drew | apply keep_alloc | refine keep_far ?_ GW864.out _ | refine keep_far ?_ GW876.out _) | exact HK.out)⟩, ⟨by repeat (first | (with_reducible first | exact HB.out | apply Zf | apply Zd | apply Ze | refine Zg ?_ (IsS72.ge HI0.out) | refine Zg ?_ GE864.out | refine Zg ?_ GE876.out) | exact HB.out)⟩⟩
        rw [if_neg c22] at H
        exact absurd H (by simp)
       replace c21 := Bool.eq_false_iff.mpr c21
       subst c21
       have H1 : (if x7_2.length < 5864062014805 then (spec_l05DrawEntries.l0 k2 (x7_2 ++ [(⟨(rd_T54 t872 x10_2).f0, (rd_T54 t872 x10_2).f1⟩ : S54)]) ((rd_T54 t872 x10_2).f0) t872 (wrap64 (x10_2 + 1)) s0_0 t878 t879) else (none)) = some (r1, r2, r3) := by rw [if_neg (show ¬ (false = true) by decide)] at H; exact H
       clear H
       have H := H1
       clear H1
       by_cases c32 : x7_2.length < 5864062014805
       ·
        rw [if_pos c32] at H
        have LMc32 := Zh c32
        clear c32
        obtain ⟨y883, hy883⟩ : ∃ y_ : List (S54), y_ = (x7_2 ++ [(⟨(rd_T54 t872 x10_2).f0, (rd_T54 t872 x10_2).f1⟩ : S54)]) := ⟨_, rfl⟩
        replace H : (spec_l05DrawEntries.l0 k2 y883 ((rd_T54 t872 x10_2).f0) t872 (wrap64 (x10_2 + 1)) s0_0 t878 t879) = some (r1, r2, r3) := by first | (rw [hy883]; with_reducible exact H) | (have H2_ := (Option.bind_some _ _).symm.trans H; rw [hy883]; with_reducible exact H2_) | (have H2_ := (Option.bind_some _ _).symm.trans H; with_reducible exact H2_) | with_reducible exact H | (rw [hy883]; exact H) | exact H
        have Ny883 := Zh hy883
        clear hy883
        have H' := Zh H
        clear H
        obtain ⟨Ao33, co33, eo33⟩ := R_slice HO_9.out
        subst eo33
        have p875 : 0 ≤ (x10_2 : Int) := Zo
        have q875 : x10_2 < (t872.length : Int) := Zo
        obtain ⟨ad875, e875, hx875_0, hx875_1⟩ := at_T54 (R_reads' HO_9.out).2.2 x10_2 p875 q875
        cases e875
        replace p875 := eq_true p875
        replace q875 := eq_true q875
        go_wp2_with (first | ((with_reducible refine gate_dst (N := 11) rfl ?_); refine box_event ?hg (N := 11) ?hd (cs := #[.int .i64 0, .string (⟨#[]⟩ : ByteArray)]) (t := 54) ?hr ?_; (case hd => rfl); (case hg => rfl); (case hr => first | (go_simp; done) | (go_simp; rfl)); intro gb876 hg w34 hbox hb; have n0_ := Zh (R_below (R_elderB (by (with_reducible repeat (first | apply R_alloc | apply R_drewN | apply R_drew)); exact HO_7.out) gb876 (Nat.le_of_eq hg.symm)) hb); have n1_ := Zh (R_below (R_elderB (by (with_reducible repeat (first | apply R_alloc | apply R_drewN | apply R_drew)); exact HO_9.out) gb876 (Nat.le_of_eq hg.symm)) hb); have n2_ := Zh (Zm (g := gb864) (o := .cells #[.int .i64 a1_0, .int .i64 a1_1, .slice A1_2 l1_2.length c1_2] 29 (0, 0)) Zk hb); have n3_ := Zh (IsS72.below (by repeat (first | (with_reducible first | exact HI0.out | apply IsS72.alloc | apply IsS72.drewN | apply IsS72.drew | apply IsS72.set_1 | apply IsS72.set_2 | refine IsS72.far ?_ NB0_864.out _) | exact HI0.out)) hb); have n4_ := Zh (KeepBut.trans (by repeat (first | (with_reducible first | exact HK.out | apply KeepBut.set_ | apply keep_drewN | apply keep_drew | apply keep_alloc | refine keep_far ?_ GW864.out _) | exact HK.out)) (KeepBut.of_below hb g none) (.inl rfl)); have n5_ := Zh (Zl (by repeat (first | (with_reducible first | exact HB.out | apply Zf | apply Zd | apply Ze | refine Zg ?_ (IsS72.ge HI0.out) | refine Zg ?_ GE864.out) | exact HB.out)) hb); have n6_ := Zh (hbox); have n7_ := Zh ((by rw [hg]; exact (keep_size (w := w) (g := g) (row := none) (by repeat (first | (with_reducible first | exact HK.out | apply KeepBut.set_ | apply keep_drewN | apply keep_drew | apply keep_alloc | refine keep_far ?_ GW864.out _) | exact HK.out))) : w.heap.size ≤ gb876)); have n8_ := Zh ((Nat.le_trans HW0.out (by rw [hg]; exact (keep_size (w := w) (g := g) (row := none) (by repeat (first | (with_reducible first | exact HK.out | apply KeepBut.set_ | apply keep_drewN | apply keep_drew | apply keep_alloc | refine keep_far ?_ GW864.out _) | exact HK.out))) : w.heap.size ≤ gb876) : w0.heap.size ≤ gb876)); have n9_ := Zh ((by rw [hg]; exact Nat.ne_of_lt (blk_lt (g := gb864) (o := .cells #[.int .i64 a1_0, .int .i64 a1_1, .slice A1_2 l1_2.length c1_2] 29 (0, 0)) Zk) : gb864 ≠ gb876)); have n10_ := Zh ((by rw [hg]; exact Nat.ne_of_gt (blk_lt (g := gb864) (o := .cells #[.int .i64 a1_0, .int .i64 a1_1, .slice A1_2 l1_2.length c1_2] 29 (0, 0)) Zk) : gb876 ≠ gb864)); have n11_ := Zh ((by rw [hg]; exact Nat.ne_of_lt (IsS72.lt (show IsS72 w0 _ g s0_0 x1001_2 x1002_2 from by repeat (first | (with_reducible first | exact HI0.out | apply IsS72.alloc | apply IsS72.drewN | apply IsS72.drew | apply IsS72.set_1 | apply IsS72.set_2 | refine IsS72.far ?_ NB0_864.out _) | exact HI0.out))) : g ≠ gb876)); have n12_ := Zh ((by rw [hg]; exact Nat.ne_of_gt (IsS72.lt (show IsS72 w0 _ g s0_0 x1001_2 x1002_2 from by repeat (first | (with_reducible first | exact HI0.out | apply IsS72.alloc | apply IsS72.drewN | apply IsS72.drew | apply IsS72.set_1 | apply IsS72.set_2 | refine IsS72.far ?_ NB0_864.out _) | exact HI0.out))) : gb876 ≠ g)); clear HO_7; clear HO_9; clear BK864; clear HI0; clear HK; clear HB; have HO_7 := n0_; have HO_9 := n1_; have BK864 := n2_; have HI0 := n3_; have HK := n4_; have HB := n5_; have BK876 := n6_; have GW876 := n7_; have GE876 := n8_; have NB864_876 := n9_; have NB876_864 := n10_; have NB0_876 := n11_; have NB876_0 := n12_; clear n0_ n1_ n2_ n3_ n4_ n5_ n6_ n7_ n8_ n9_ n10_ n11_ n12_; clear hb hbox hg; have hnb35 := NB876_864.out; have hnc35 := NB864_876.out; have hnb36 := NB876_0.out; have hnc36 := NB0_876.out; have hcz37_0 : w34.cell? ⟨gb876, 0, none⟩ = some (.int .i64 0) := (blk_cell BK876.out 0).trans rfl; have hcz37_1 : w34.cell? ⟨gb876, 1, none⟩ = some (.string (⟨#[]⟩ : ByteArray)) := (blk_cell BK876.out 1).trans rfl; have hfz37_0 := Zn BK876.out 0; have hfz37_1 := Zn BK876.out 1) | ((with_reducible refine gate_callee (f := 60) rfl ?_); refine goesL_ (some 36) rfl rfl Try.func60 (by kernel_rfl) rfl #[.pointer (some ⟨g, 0, none⟩), .int .i64 6] rfl (by (try simp only [List.map_toArray, List.map_cons, List.map_nil]); first | done | rfl | (simp only [List.length_drop, List.length_take]; rfl)) ?_; (with_reducible refine (spec_l01Once.calls g s0_0 x1001_2 x1002_2 6 false t878 t879 w0 _ ?side1 ?side2 A20.out).mono ?_); (case side1 => repeat (first | (with_reducible first | exact HI0.out | apply IsS72.alloc | apply IsS72.drewN | apply IsS72.drew | apply IsS72.set_1 | apply IsS72.set_2 | refine IsS72.far ?_ NB0_864.out _ | refine IsS72.far ?_ NB0_876.out _) | exact HI0.out)); (case side2 => repeat (first | (with_reducible first | exact HB.out | apply Zf | apply Zd | apply Ze | refine Zg ?_ (IsS72.ge HI0.out) | refine Zg ?_ GE864.out | refine Zg ?_ GE876.out) | exact HB.out)); rintro e w38 ⟨rfl, hi, hb, hk⟩; refine ⟨_, rfl, ?_⟩; have n0_ := Zh (R_mono (R_keep (IsS72.apart (show IsS72 w0 _ g s0_0 x1001_2 x1002_2 from by repeat (first | (with_reducible first | exact HI0.out | apply IsS72.alloc | apply IsS72.drewN | apply IsS72.drew | apply IsS72.set_1 | apply IsS72.set_2 | refine IsS72.far ?_ NB0_864.out _ | refine IsS72.far ?_ NB0_876.out _) | exact HI0.out)) (by (with_reducible repeat (first | apply R_alloc | apply R_drewN | apply R_drew)); exact (R_mono (R_far (p := ⟨gb876, 1, none⟩) (R_far (p := ⟨gb876, 0, none⟩) (R_mono HO_7.out (fun k_ hk => (⟨hk, hk.2⟩ : _ ∧ k_ ≠ gb876))) (fun _ hk => hk.2) (.int .i64 ((rd_T54 t872 x10_2).f0))) (fun _ hk => hk.2) (.string ((rd_T54 t872 x10_2).f1))) (fun _ h_ => h_.1))) (by decide)) hk (fun _ h => h.2)) (fun _ h => h.1)); have n1_ := Zh (R_mono (R_keep (IsS72.apart (show IsS72 w0 _ g s0_0 x1001_2 x1002_2 from by repeat (first | (with_reducible first | exact HI0.out | apply IsS72.alloc | apply IsS72.drewN | apply IsS72.drew | apply IsS72.set_1 | apply IsS72.set_2 | refine IsS72.far ?_ NB0_864.out _ | refine IsS72.far ?_ NB0_876.out _) | exact HI0.out)) (by (with_reducible repeat (first | apply R_alloc | apply R_drewN | apply R_drew)); exact (R_mono (R_far (p := ⟨gb876, 1, none⟩) (R_far (p := ⟨gb876, 0, none⟩) (R_mono HO_9.out (fun k_ hk => (⟨hk, hk.2⟩ : _ ∧ k_ ≠ gb876))) (fun _ hk => hk.2) (.int .i64 ((rd_T54 t872 x10_2).f0))) (fun _ hk => hk.2) (.string ((rd_T54 t872 x10_2).f1))) (fun _ h_ => h_.1))) (by decide)) hk (fun _ h => h.2)) (fun _ h => h.1)); have n2_ := Zh (KeepBut.blk hk (g' := gb864) (o := .cells #[.int .i64 a1_0, .int .i64 a1_1, .slice A1_2 l1_2.length c1_2] 29 (0, 0)) (by (with_reducible repeat (first | refine Za ?_ _ | refine Zb ?_ | refine blk_alloc ?_ _)); refine Zp ?_ NB864_876.out _; (with_reducible repeat (first | refine Za ?_ _ | refine Zb ?_ | refine blk_alloc ?_ _)); refine Zp ?_ NB864_876.out _; (with_reducible repeat (first | refine Za ?_ _ | refine Zb ?_ | refine blk_alloc ?_ _)); exact BK864.out) NB864_0.out (by simp)); have n3_ := Zh (KeepBut.blk hk (g' := gb876) (o := .cells #[.int .i64 ((rd_T54 t872 x10_2).f0), .string ((rd_T54 t872 x10_2).f1)] 54 (0, 0)) (by (with_reducible repeat (first | refine Za ?_ _ | refine Zb ?_ | refine blk_alloc ?_ _)); refine blk_put (cs := #[.int .i64 ((rd_T54 t872 x10_2).f0), .string (⟨#[]⟩ : ByteArray)]) ?_ 1 _ rfl; (with_reducible repeat (first | refine Za ?_ _ | refine Zb ?_ | refine blk_alloc ?_ _)); refine blk_put (cs := #[.int .i64 0, .string (⟨#[]⟩ : ByteArray)]) ?_ 0 _ rfl; (with_reducible repeat (first | refine Za ?_ _ | refine Zb ?_ | refine blk_alloc ?_ _)); exact BK876.out) NB876_0.out (by simp)); have n4_ := Zh (KeepBut.trans (by repeat (first | (with_reducible first | exact HK.out | apply KeepBut.set_ | apply keep_drewN | apply keep_drew | apply keep_alloc | refine keep_far ?_ GW864.out _ | refine keep_far ?_ GW876.out _) | exact HK.out)) hk (.inl rfl)); have n5_ := Zh (hb); have n6_ := Zh (hi); clear HO_7; clear HO_9; clear BK864; clear BK876; clear HK; clear HB; clear HI0; have HO_7 := n0_; have HO_9 := n1_; have BK864 := n2_; have BK876 := n3_; have HK := n4_; have HB := n5_; have HI0 := n6_; clear n0_ n1_ n2_ n3_ n4_ n5_ n6_; (try clear hb); (try clear hb2); (try clear hk); (try clear hi); have hcz39_0 : w38.cell? ⟨gb876, 0, none⟩ = some (.int .i64 ((rd_T54 t872 x10_2).f0)) := (blk_cell BK876.out 0).trans rfl; have hcz39_1 : w38.cell? ⟨gb876, 1, none⟩ = some (.string ((rd_T54 t872 x10_2).f1)) := (blk_cell BK876.out 1).trans rfl; have hfz39_0 := Zn BK876.out 0; have hfz39_1 := Zn BK876.out 1) | ((with_reducible refine gate_builtin (b := .append) (xs := #[.tmp 38, .tmp 40]) rfl ?_); at_builtin; refine R_append k54 w.heap.size rfl (.tmp 38) (.tmp 40) 27 54 (.agg #[(.int .i64 0), (.string ⟨#[]⟩)]) 24 rfl Try.underlying27 info54 rfl (by decide) (by omega) u7 x7_2 (⟨(rd_T54 t872 x10_2).f0, (rd_T54 t872 x10_2).f1⟩ : S54) [.int .i64 ((rd_T54 t872 x10_2).f0), .string ((rd_T54 t872 x10_2).f1)] (fun k_ => some k_ ≠ (.slice (some ad875) t872.length co33 : Value).ownBlock ∧ k_ ≠ gb876) (fun _ => False) rfl rfl ?aP (fun _ hk => hk.elim) ?aF ?aO (Below.refl _ _) ?aS ?aL ?_; (case aP => exact k54_mkM _ _ _ (⟨(rd_T54 t872 x10_2).f0, (rd_T54 t872 x10_2).f1⟩ : S54)); (case aF => exact (fun k_ hk => ⟨Kd.fresh' (R_lt (by (with_reducible repeat (first | apply R_alloc | apply R_drewN | apply R_drew)); exact HO_9.out)) k_ hk, Kd.freshB (g := gb876) (o := .cells #[.int .i64 ((rd_T54 t872 x10_2).f0), .string ((rd_T54 t872 x10_2).f1)] 54 (0, 0)) Zk k_ hk⟩)); (case aO => exact (by (with_reducible repeat (first | apply R_alloc | apply R_drewN | apply R_drew)); exact HO_7.out)); (case aS => exact (keep_size (w := w) (g := g) (row := none) (by repeat (first | (with_reducible first | exact HK.out | apply KeepBut.set_ | apply keep_drewN | apply keep_drew | apply keep_alloc | refine keep_far ?_ GW864.out _ | refine keep_far ?_ GW876.out _) | exact HK.out)))); (case aL => have := LMc32.out; omega); intro v884 w40 ho hb hg hat; rw [← Ny883.out] at ho; have n0_ := Zh (R_after (ok := (fun k_ => k_ ≠ gb876)) (by (with_reducible repeat (first | apply R_alloc | apply R_drewN | apply R_drew)); exact R_mono HO_9.out (fun _ hk => ⟨hk.2, hk.1⟩)) hg hat); have n1_ := Zh (blk_grown (g := gb864) (o := .cells #[.int .i64 a1_0, .int .i64 a1_1, .slice A1_2 l1_2.length c1_2] 29 (0, 0)) Zk hg (R_ne HO_7.out BK864.out (by decide))); have n2_ := Zh (IsS72.grown (show IsS72 w0 _ g s0_0 t878 t879 from by repeat (first | (with_reducible first | exact HI0.out | apply IsS72.alloc | apply IsS72.drewN | apply IsS72.drew | apply IsS72.set_1 | apply IsS72.set_2 | refine IsS72.far ?_ NB0_864.out _ | refine IsS72.far ?_ NB0_876.out _) | exact HI0.out)) hg (IsS72.own_ne HI0.out HO_7.out (by decide))); have n3_ := Zh (blk_grown (g := gb876) (o := .cells #[.int .i64 ((rd_T54 t872 x10_2).f0), .string ((rd_T54 t872 x10_2).f1)] 54 (0, 0)) Zk hg (R_away HO_7.out (fun _ hk => hk.2))); have n4_ := Zh (below_weaken (by repeat (first | (with_reducible first | exact HB.out | apply Zf | apply Zd | apply Ze | refine Zg ?_ (IsS72.ge HI0.out) | refine Zg ?_ GE864.out | refine Zg ?_ GE876.out) | exact HB.out)) HL.out hb); have n5_ := Zh (KeepBut.trans (by repeat (first | (with_reducible first | exact HK.out | apply KeepBut.set_ | apply keep_drewN | apply keep_drew | apply keep_alloc | refine keep_far ?_ GW864.out _ | refine keep_far ?_ GW876.out _) | exact HK.out)) (KeepBut.of_grown hg g) (R_base2 HO_7.out)); have n6_ := Zh (ho); clear HO_9; clear BK864; clear HI0; clear BK876; clear HB; clear HK; clear HO_7; have HO_9 := n0_; have BK864 := n1_; have HI0 := n2_; have BK876 := n3_; have HB := n4_; have HK := n5_; have HO885 := n6_; clear n0_ n1_ n2_ n3_ n4_ n5_ n6_; clear ho hb hg hat; have hcz41_0 : w40.cell? ⟨gb876, 0, none⟩ = some (.int .i64 ((rd_T54 t872 x10_2).f0)) := (blk_cell BK876.out 0).trans rfl; have hcz41_1 : w40.cell? ⟨gb876, 1, none⟩ = some (.string ((rd_T54 t872 x10_2).f1)) := (blk_cell BK876.out 1).trans rfl; have hfz41_0 := Zn BK876.out 0; have hfz41_1 := Zn BK876.out 1))
        go_roundg k2
        case measure => have := HJ4.out; have := HK2.out; omega
        case rel => exact ⟨(y883), ((rd_T54 t872 x10_2).f0), (wrap64 (x10_2 + 1)), (t878), (t879), (by first | rfl | (simp; done) | (simp [*]; done)), (by first | rfl | (simp; done) | (simp [*]; done)), H', ⟨by have := HJ4.out; have := HK2.out; omega⟩, ⟨by (with_reducible repeat (first | apply R_alloc | apply R_drewN | apply R_drew)); exact R_mono HO885.out (fun _ hk => hk.1)⟩, ⟨by (with_reducible repeat (first | apply R_alloc | apply R_drewN | apply R_drew)); exact R_mono HO_9.out (fun _ hk => hk.2)⟩, ⟨by (with_reducible repeat (first | refine Za ?_ _ | refine Zb ?_ | refine blk_alloc ?_ _)); exact BK864.out⟩, ⟨by repeat (first | (with_reducible first | exact HI0.out | apply IsS72.alloc | apply IsS72.drewN | apply IsS72.drew | apply IsS72.set_1 | apply IsS72.set_2 | refine IsS72.far ?_ NB0_864.out _ | refine IsS72.far ?_ NB0_876.out _) | exact HI0.out)⟩, ⟨by repeat (first | (with_reducible first | exact HK.out | apply KeepBut.set_ | apply keep_drewN | apply keep_drew | apply keep_alloc | refine keep_far ?_ GW864.out _ | refine keep_far ?_ GW876.out _) | exact HK.out)⟩, ⟨by repeat (first | (with_reducible first | exact HB.out | apply Zf | apply Zd | apply Ze | refine Zg ?_ (IsS72.ge HI0.out) | refine Zg ?_ GE864.out | refine Zg ?_ GE876.out) | exact HB.out)⟩⟩
       rw [if_neg c32] at H
       exact absurd H (by simp)
      rw [if_neg c19] at H
      exact absurd H (by simp)
     rw [if_neg c18] at H
     have c18b0 : decide (x10_2 < (t872.length : Int)) = false := decide_eq_false c18
     clear c18
     replace H := Option.bind_eq_some_iff.mp H
     obtain ⟨⟨t886, t887, t888⟩, A420, H⟩ := H
     replace H : (spec_l05DrawEntries.l1 k2 x7_2 x8_2 t886 s0_0 t887 t888) = some (r1, r2, r3) := H
     have A42 := Zh A420
     clear A420
     have H' := Zh H
     clear H
     obtain ⟨Ao43, co43, eo43⟩ := R_slice HO_9.out
     subst eo43
     go_wp2_with (first | ((with_reducible refine gate_callee (f := 57) rfl ?_); refine goesL_ (some 45) rfl rfl Try.func57 (by kernel_rfl) rfl #[.pointer (some ⟨g, 0, none⟩), .int .i64 4] rfl (by (try simp only [List.map_toArray, List.map_cons, List.map_nil]); first | done | rfl | (simp only [List.length_drop, List.length_take]; rfl)) ?_; (with_reducible refine (spec_l01Below.calls g s0_0 x1001_2 x1002_2 4 t886 t887 t888 w0 _ ?side1 ?side2 A42.out).mono ?_); (case side1 => repeat (first | (with_reducible first | exact HI0.out | apply IsS72.alloc | apply IsS72.drewN | apply IsS72.drew | apply IsS72.set_1 | apply IsS72.set_2 | refine IsS72.far ?_ NB0_864.out _) | exact HI0.out)); (case side2 => repeat (first | (with_reducible first | exact HB.out | apply Zf | apply Zd | apply Ze | refine Zg ?_ (IsS72.ge HI0.out) | refine Zg ?_ GE864.out) | exact HB.out)); rintro e w44 ⟨rfl, hi, hb, hk⟩; refine ⟨_, rfl, ?_⟩; have n0_ := Zh (R_mono (R_keep (IsS72.apart (show IsS72 w0 _ g s0_0 x1001_2 x1002_2 from by repeat (first | (with_reducible first | exact HI0.out | apply IsS72.alloc | apply IsS72.drewN | apply IsS72.drew | apply IsS72.set_1 | apply IsS72.set_2 | refine IsS72.far ?_ NB0_864.out _) | exact HI0.out)) (by (with_reducible repeat (first | apply R_alloc | apply R_drewN | apply R_drew)); exact HO_7.out) (by decide)) hk (fun _ h => h.2)) (fun _ h => h.1)); have n1_ := Zh (R_mono (R_keep (IsS72.apart (show IsS72 w0 _ g s0_0 x1001_2 x1002_2 from by repeat (first | (with_reducible first | exact HI0.out | apply IsS72.alloc | apply IsS72.drewN | apply IsS72.drew | apply IsS72.set_1 | apply IsS72.set_2 | refine IsS72.far ?_ NB0_864.out _) | exact HI0.out)) (by (with_reducible repeat (first | apply R_alloc | apply R_drewN | apply R_drew)); exact HO_9.out) (by decide)) hk (fun _ h => h.2)) (fun _ h => h.1)); have n2_ := Zh (KeepBut.blk hk (g' := gb864) (o := .cells #[.int .i64 a1_0, .int .i64 a1_1, .slice A1_2 l1_2.length c1_2] 29 (0, 0)) Zk NB864_0.out (by simp)); have n3_ := Zh (KeepBut.trans (by repeat (first | (with_reducible first | exact HK.out | apply KeepBut.set_ | apply keep_drewN | apply keep_drew | apply keep_alloc | refine keep_far ?_ GW864.out _) | exact HK.out)) hk (.inl rfl)); have n4_ := Zh (hb); have n5_ := Zh (hi); clear HO_7; clear HO_9; clear BK864; clear HK; clear HB; clear HI0; have HO_7 := n0_; have HO_9 := n1_; have BK864 := n2_; have HK := n3_; have HB := n4_; have HI0 := n5_; clear n0_ n1_ n2_ n3_ n4_ n5_; (try clear hb); (try clear hb2); (try clear hk); (try clear hi)))
     go_loopg [7, 8, 12] k2 (fun kq v7 v8 v12 w' => ∃ (x7_3 : List (S54)) (x8_3 : Int) (x12_3 : Int) (x1001_3 : Int) (x1002_3 : Int), v8 = .int .i64 x8_3 ∧ v12 = .int .i64 x12_3 ∧ Aside0 (spec_l05DrawEntries.l1 kq x7_3 x8_3 x12_3 s0_0 x1001_3 x1002_3 = some (r1, r2, r3)) ∧ Aside0 (kq ≤ k2) ∧ Aside0 (Kd.R k54 54 w' w.heap.size (fun _ => True) v7 x7_3) ∧ Aside0 (w'.heap[gb864]? = some (.cells #[.int .i64 a1_0, .int .i64 a1_1, (.slice A1_2 l1_2.length c1_2)] 29 (0, 0))) ∧ Aside0 (IsS72 w0 w' g s0_0 x1001_3 x1002_3) ∧ Aside0 (KeepBut w w' g none) ∧ Aside0 (Below w0.heap.size w0 w'))
     case atStart => exact ⟨(x7_2), (x8_2), (t886), (t887), (t888), (by first | rfl | (simp; done) | (simp [*]; done)), (by first | rfl | (simp; done) | (simp [*]; done)), H', ⟨Nat.le_refl _⟩, ⟨by (with_reducible repeat (first | apply R_alloc | apply R_drewN | apply R_drew)); exact R_mono HO_7.out (fun _ hk => trivial)⟩, ⟨by (with_reducible repeat (first | refine Za ?_ _ | refine Zb ?_ | refine blk_alloc ?_ _)); exact BK864.out⟩, ⟨by repeat (first | (with_reducible first | exact HI0.out | apply IsS72.alloc | apply IsS72.drewN | apply IsS72.drew | apply IsS72.set_1 | apply IsS72.set_2 | refine IsS72.far ?_ NB0_864.out _) | exact HI0.out)⟩, ⟨by repeat (first | (with_reducible first | exact HK.out | apply KeepBut.set_ | apply keep_drewN | apply keep_drew | apply keep_alloc | refine keep_far ?_ GW864.out _) | exact HK.out)⟩, ⟨by repeat (first | (with_reducible first | exact HB.out | apply Zf | apply Zd | apply Ze | refine Zg ?_ (IsS72.ge HI0.out) | refine Zg ?_ GE864.out) | exact HB.out)⟩⟩
     case round =>
      clear H'
      try clear c1
      try clear c2
      try clear p2
      try clear c3
      try clear c5
      try clear c6
      try clear p6
      try clear p8
      try clear q8
      try clear hx8
      try clear c9
      try clear c12
      try clear c12b0
      try clear c18
      try clear c18b0
      try clear c19
      try clear c19b0
      try clear c20
      try clear c21
      try clear c22
      try clear c25
      try clear c26
      try clear c32
      try clear c35
      try clear c36
      try clear hcz10_0
      try clear hcz10_1
      try clear hcz10_2
      try clear hcz27_0
      try clear hcz27_1
      try clear hcz29_0
      try clear hcz29_1
      try clear hcz31_0
      try clear hcz31_1
      try clear hcz37_0
      try clear hcz37_1
      try clear hcz39_0
      try clear hcz39_1
      try clear hcz41_0
      try clear hcz41_1
      try clear hfz10_0
      try clear hfz10_1
      try clear hfz10_2
      try clear hfz27_0
      try clear hfz27_1
      try clear hfz29_0
      try clear hfz29_1
      try clear hfz31_0
      try clear hfz31_1
      try clear hfz37_0
      try clear hfz37_1
      try clear hfz39_0
      try clear hfz39_1
      try clear hfz41_0
      try clear hfz41_1
      try clear hx875_0
      try clear hx875_1
      try clear p2
      try clear p6
      try clear p875
      try clear q875
      obtain ⟨x7_3, x8_3, x12_3, x1001_3, x1002_3, rfl, rfl, HA, HK3, HO_7, BK864, HI0, HK, HB⟩ := hrel
      cases gk with
      | zero => exact absurd HA.out (by simp [spec_l05DrawEntries.l1])
      | succ k3 =>
       have H := HA.out
       clear HA
       simp only [spec_l05DrawEntries.l1] at H
       by_cases c45 : x12_3 > 0
       ·
        rw [if_pos c45] at H
        have c45b0 : decide (0 < x12_3) = true := decide_eq_true c45
        clear c45
        replace H := Option.bind_eq_some_iff.mp H
        obtain ⟨⟨t889, t890, t891⟩, A460, H⟩ := H
        replace H : ((spec_l01PickText.f s0_0 t890 t891 (([(⟨#[110]⟩ : ByteArray), (⟨#[109]⟩ : ByteArray), (⟨#[]⟩ : ByteArray)] : List ByteArray))).bind fun bt895 => (if x7_3.length < 5864062014805 then (spec_l05DrawEntries.l1 k3 (x7_3 ++ [(⟨wrap64 (x8_3 + (wrap64 (Int.tdiv t889 2))), bt895.1⟩ : S54)]) (wrap64 (x8_3 + (wrap64 (Int.tdiv t889 2)))) (wrap64 (x12_3 - 1)) s0_0 bt895.2.1 bt895.2.2) else (none))) = some (r1, r2, r3) := H
        have A46 := Zh A460
        clear A460
        obtain ⟨y892, hy892⟩ : ∃ y_ : List ByteArray, y_ = (([(⟨#[110]⟩ : ByteArray), (⟨#[109]⟩ : ByteArray), (⟨#[]⟩ : ByteArray)] : List ByteArray)) := ⟨_, rfl⟩
        replace H : ((spec_l01PickText.f s0_0 t890 t891 y892).bind fun bt895 => (if x7_3.length < 5864062014805 then (spec_l05DrawEntries.l1 k3 (x7_3 ++ [(⟨wrap64 (x8_3 + (wrap64 (Int.tdiv t889 2))), bt895.1⟩ : S54)]) (wrap64 (x8_3 + (wrap64 (Int.tdiv t889 2)))) (wrap64 (x12_3 - 1)) s0_0 bt895.2.1 bt895.2.2) else (none))) = some (r1, r2, r3) := by first | (rw [hy892]; with_reducible exact H) | (have H2_ := (Option.bind_some _ _).symm.trans H; rw [hy892]; with_reducible exact H2_) | (have H2_ := (Option.bind_some _ _).symm.trans H; with_reducible exact H2_) | with_reducible exact H | (rw [hy892]; exact H) | exact H
        have Ny892 := Zh hy892
        clear hy892
        replace H := Option.bind_eq_some_iff.mp H
        obtain ⟨⟨t895, t896, t897⟩, A470, H⟩ := H
        replace H : (if x7_3.length < 5864062014805 then (spec_l05DrawEntries.l1 k3 (x7_3 ++ [(⟨wrap64 (x8_3 + (wrap64 (Int.tdiv t889 2))), t895⟩ : S54)]) (wrap64 (x8_3 + (wrap64 (Int.tdiv t889 2)))) (wrap64 (x12_3 - 1)) s0_0 t896 t897) else (none)) = some (r1, r2, r3) := H
        have A47 := Zh A470
        clear A470
        by_cases c48 : x7_3.length < 5864062014805
        ·
         rw [if_pos c48] at H
         have LMc48 := Zh c48
         clear c48
         obtain ⟨y898, hy898⟩ : ∃ y_ : List (S54), y_ = (x7_3 ++ [(⟨wrap64 (x8_3 + (wrap64 (Int.tdiv t889 2))), t895⟩ : S54)]) := ⟨_, rfl⟩
         replace H : (spec_l05DrawEntries.l1 k3 y898 (wrap64 (x8_3 + (wrap64 (Int.tdiv t889 2)))) (wrap64 (x12_3 - 1)) s0_0 t896 t897) = some (r1, r2, r3) := by first | (rw [hy898]; with_reducible exact H) | (have H2_ := (Option.bind_some _ _).symm.trans H; rw [hy898]; with_reducible exact H2_) | (have H2_ := (Option.bind_some _ _).symm.trans H; with_reducible exact H2_) | with_reducible exact H | (rw [hy898]; exact H) | exact H
         have Ny898 := Zh hy898
         clear hy898
         have H' := Zh H
         clear H
         go_wp2_with (first | ((with_reducible refine gate_callee (f := 57) rfl ?_); refine goesL_ (some 52) rfl rfl Try.func57 (by kernel_rfl) rfl #[.pointer (some ⟨g, 0, none⟩), .int .i64 3] rfl (by (try simp only [List.map_toArray, List.map_cons, List.map_nil]); first | done | rfl | (simp only [List.length_drop, List.length_take]; rfl)) ?_; (with_reducible refine (spec_l01Below.calls g s0_0 x1001_3 x1002_3 3 t889 t890 t891 w0 _ ?side1 ?side2 A46.out).mono ?_); (case side1 => repeat (first | (with_reducible first | exact HI0.out | apply IsS72.alloc | apply IsS72.drewN | apply IsS72.drew | apply IsS72.set_1 | apply IsS72.set_2 | refine IsS72.far ?_ NB0_864.out _) | exact HI0.out)); (case side2 => repeat (first | (with_reducible first | exact HB.out | apply Zf | apply Zd | apply Ze | refine Zg ?_ (IsS72.ge HI0.out) | refine Zg ?_ GE864.out) | exact HB.out)); rintro e w49 ⟨rfl, hi, hb, hk⟩; refine ⟨_, rfl, ?_⟩; have n0_ := Zh (R_mono (R_keep (IsS72.apart (show IsS72 w0 _ g s0_0 x1001_3 x1002_3 from by repeat (first | (with_reducible first | exact HI0.out | apply IsS72.alloc | apply IsS72.drewN | apply IsS72.drew | apply IsS72.set_1 | apply IsS72.set_2 | refine IsS72.far ?_ NB0_864.out _) | exact HI0.out)) (by (with_reducible repeat (first | apply R_alloc | apply R_drewN | apply R_drew)); exact HO_7.out) (by decide)) hk (fun _ h => h.2)) (fun _ h => h.1)); have n1_ := Zh (KeepBut.blk hk (g' := gb864) (o := .cells #[.int .i64 a1_0, .int .i64 a1_1, .slice A1_2 l1_2.length c1_2] 29 (0, 0)) Zk NB864_0.out (by simp)); have n2_ := Zh (KeepBut.trans (by repeat (first | (with_reducible first | exact HK.out | apply KeepBut.set_ | apply keep_drewN | apply keep_drew | apply keep_alloc | refine keep_far ?_ GW864.out _) | exact HK.out)) hk (.inl rfl)); have n3_ := Zh (hb); have n4_ := Zh (hi); clear HO_7; clear BK864; clear HK; clear HB; clear HI0; have HO_7 := n0_; have BK864 := n1_; have HK := n2_; have HB := n3_; have HI0 := n4_; clear n0_ n1_ n2_ n3_ n4_; (try clear hb); (try clear hb2); (try clear hk); (try clear hi)) | ((with_reducible refine gate_dst (N := 58) rfl ?_); refine R_lit Kd.string _ 9 ?hg (N := 58) ?hd (xs := ([(⟨#[110]⟩ : ByteArray), (⟨#[109]⟩ : ByteArray), (⟨#[]⟩ : ByteArray)] : List ByteArray)) (inner := [.string (⟨#[110]⟩ : ByteArray), .string (⟨#[109]⟩ : ByteArray), .string (⟨#[]⟩ : ByteArray)]) (ok := fun _ => True) (okp := fun _ => True) ?hr ?hp (fun _ hk => hk) trivial (Below.refl _ _) (Nat.le_refl _) (by simp) ?_; (case hd => rfl); (case hg => rfl); (case hr => first | (go_simp; done) | (go_simp; rfl)); (case hp => exact (Reps.one (show Kd.M Kd.string _ _ _ (⟨#[110]⟩ : ByteArray) [.string (⟨#[110]⟩ : ByteArray)] from rfl) (Reps.one (show Kd.M Kd.string _ _ _ (⟨#[109]⟩ : ByteArray) [.string (⟨#[109]⟩ : ByteArray)] from rfl) (Reps.one (show Kd.M Kd.string _ _ _ (⟨#[]⟩ : ByteArray) [.string (⟨#[]⟩ : ByteArray)] from rfl) (Reps.none _ _))))); intro v893 w50 ho51 hb hg_ hnew_; clear hg_ hnew_; (first | rw [← Ny892.out] at ho51 | (simp only [Int.reduceToNat] at ho51; rw [← Ny892.out] at ho51)); have n0_ := Zh (R_below (by (with_reducible repeat (first | apply R_alloc | apply R_drewN | apply R_drew)); exact HO_7.out) hb); have n1_ := Zh (R_lower ho51 (keep_size (w := w) (g := g) (row := none) (by repeat (first | (with_reducible first | exact HK.out | apply KeepBut.set_ | apply keep_drewN | apply keep_drew | apply keep_alloc | refine keep_far ?_ GW864.out _) | exact HK.out)))); have n2_ := Zh (Zm (g := gb864) (o := .cells #[.int .i64 a1_0, .int .i64 a1_1, .slice A1_2 l1_2.length c1_2] 29 (0, 0)) Zk hb); have n3_ := Zh (IsS72.below (by repeat (first | (with_reducible first | exact HI0.out | apply IsS72.alloc | apply IsS72.drewN | apply IsS72.drew | apply IsS72.set_1 | apply IsS72.set_2 | refine IsS72.far ?_ NB0_864.out _) | exact HI0.out)) hb); have n4_ := Zh (KeepBut.trans (by repeat (first | (with_reducible first | exact HK.out | apply KeepBut.set_ | apply keep_drewN | apply keep_drew | apply keep_alloc | refine keep_far ?_ GW864.out _) | exact HK.out)) (KeepBut.of_below hb g none) (.inl rfl)); have n5_ := Zh (Zl (by repeat (first | (with_reducible first | exact HB.out | apply Zf | apply Zd | apply Ze | refine Zg ?_ (IsS72.ge HI0.out) | refine Zg ?_ GE864.out) | exact HB.out)) hb); clear HO_7; clear BK864; clear HI0; clear HK; clear HB; have HO_7 := n0_; have HO894 := n1_; have BK864 := n2_; have HI0 := n3_; have HK := n4_; have HB := n5_; clear n0_ n1_ n2_ n3_ n4_ n5_; clear hb ho51; obtain ⟨Ao52, co52, eo52⟩ := R_slice HO894.out; subst eo52) | ((with_reducible refine gate_callee (f := 62) rfl ?_); refine goesL_ (some 59) rfl rfl Try.func62 (by kernel_rfl) rfl #[.pointer (some ⟨g, 0, none⟩), .slice Ao52 y892.length co52] rfl (by (try simp only [List.map_toArray, List.map_cons, List.map_nil]); first | done | rfl | (simp only [List.length_drop, List.length_take]; rfl)) ?_; (with_reducible refine (spec_l01PickText.calls g s0_0 t890 t891 _ _ y892 t895 t896 t897 w0 _ ?side1 ?side2 ?side3 ?side4 ?side5 A47.out).mono ?_); (case side1 => repeat (first | (with_reducible first | exact HI0.out | apply IsS72.alloc | apply IsS72.drewN | apply IsS72.drew | apply IsS72.set_1 | apply IsS72.set_2 | refine IsS72.far ?_ NB0_864.out _) | exact HI0.out)); (case side2 => repeat (first | (with_reducible first | exact HB.out | apply Zf | apply Zd | apply Ze | refine Zg ?_ (IsS72.ge HI0.out) | refine Zg ?_ GE864.out) | exact HB.out)); (case side3 => repeat (first | exact (R_reads' HO894.out).2.2 | (with_reducible refine C_alloc ?_ _) | (with_reducible refine C_drewN ?_ _) | (with_reducible refine C_drew ?_))); (case side4 => exact (R_reads' HO894.out).2.1); (case side5 => exact far_slice (IsS72.own_ne HI0.out HO894.out (by decide))); rintro e w53 ⟨rfl, hi, hb, hk⟩; refine ⟨_, rfl, ?_⟩; have n0_ := Zh (R_mono (R_keep (IsS72.apart (show IsS72 w0 _ g s0_0 t890 t891 from by repeat (first | (with_reducible first | exact HI0.out | apply IsS72.alloc | apply IsS72.drewN | apply IsS72.drew | apply IsS72.set_1 | apply IsS72.set_2 | refine IsS72.far ?_ NB0_864.out _) | exact HI0.out)) (by (with_reducible repeat (first | apply R_alloc | apply R_drewN | apply R_drew)); exact HO_7.out) (by decide)) hk (fun _ h => h.2)) (fun _ h => h.1)); have n1_ := Zh (KeepBut.blk hk (g' := gb864) (o := .cells #[.int .i64 a1_0, .int .i64 a1_1, .slice A1_2 l1_2.length c1_2] 29 (0, 0)) Zk NB864_0.out (by simp)); have n2_ := Zh (R_mono (R_keep (IsS72.apart (show IsS72 w0 _ g s0_0 t890 t891 from by repeat (first | (with_reducible first | exact HI0.out | apply IsS72.alloc | apply IsS72.drewN | apply IsS72.drew | apply IsS72.set_1 | apply IsS72.set_2 | refine IsS72.far ?_ NB0_864.out _) | exact HI0.out)) (by (with_reducible repeat (first | apply R_alloc | apply R_drewN | apply R_drew)); exact HO894.out) (by decide)) hk (fun _ h => h.2)) (fun _ h => h.1)); have n3_ := Zh (KeepBut.trans (by repeat (first | (with_reducible first | exact HK.out | apply KeepBut.set_ | apply keep_drewN | apply keep_drew | apply keep_alloc | refine keep_far ?_ GW864.out _) | exact HK.out)) hk (.inl rfl)); have n4_ := Zh (hb); have n5_ := Zh (hi); clear HO_7; clear BK864; clear HO894; clear HK; clear HB; clear HI0; have HO_7 := n0_; have BK864 := n1_; have HO894 := n2_; have HK := n3_; have HB := n4_; have HI0 := n5_; clear n0_ n1_ n2_ n3_ n4_ n5_; (try clear hb); (try clear hb2); (try clear hk); (try clear hi)) | ((with_reducible refine gate_builtin (b := .append) (xs := #[.tmp 55, .tmp 61]) rfl ?_); at_builtin; refine R_append k54 w.heap.size rfl (.tmp 55) (.tmp 61) 27 54 (.agg #[(.int .i64 0), (.string ⟨#[]⟩)]) 24 rfl Try.underlying27 info54 rfl (by decide) (by omega) u7 x7_3 (⟨wrap64 (x8_3 + (wrap64 (Int.tdiv t889 2))), t895⟩ : S54) [.int .i64 (wrap64 (x8_3 + (wrap64 (Int.tdiv t889 2)))), .string t895] (fun _ => True) (fun _ => False) rfl rfl ?aP (fun _ hk => hk.elim) ?aF ?aO (Below.refl _ _) ?aS ?aL ?_; (case aP => exact k54_mkM _ _ _ (⟨wrap64 (x8_3 + (wrap64 (Int.tdiv t889 2))), t895⟩ : S54)); (case aF => exact (fun _ _ => trivial)); (case aO => exact (by (with_reducible repeat (first | apply R_alloc | apply R_drewN | apply R_drew)); exact HO_7.out)); (case aS => exact (keep_size (w := w) (g := g) (row := none) (by repeat (first | (with_reducible first | exact HK.out | apply KeepBut.set_ | apply keep_drewN | apply keep_drew | apply keep_alloc | refine keep_far ?_ GW864.out _) | exact HK.out)))); (case aL => have := LMc48.out; omega); intro v899 w54 ho hb hg hat; rw [← Ny898.out] at ho; have n0_ := Zh (blk_grown (g := gb864) (o := .cells #[.int .i64 a1_0, .int .i64 a1_1, .slice A1_2 l1_2.length c1_2] 29 (0, 0)) Zk hg (R_ne HO_7.out BK864.out (by decide))); have n1_ := Zh (IsS72.grown (show IsS72 w0 _ g s0_0 t896 t897 from by repeat (first | (with_reducible first | exact HI0.out | apply IsS72.alloc | apply IsS72.drewN | apply IsS72.drew | apply IsS72.set_1 | apply IsS72.set_2 | refine IsS72.far ?_ NB0_864.out _) | exact HI0.out)) hg (IsS72.own_ne HI0.out HO_7.out (by decide))); have n2_ := Zh (R_over' (by (with_reducible repeat (first | apply R_alloc | apply R_drewN | apply R_drew)); exact HO894.out) (R_typed (by (with_reducible repeat (first | apply R_alloc | apply R_drewN | apply R_drew)); exact HO_7.out)) (by decide) hg); have n3_ := Zh (below_weaken (by repeat (first | (with_reducible first | exact HB.out | apply Zf | apply Zd | apply Ze | refine Zg ?_ (IsS72.ge HI0.out) | refine Zg ?_ GE864.out) | exact HB.out)) HL.out hb); have n4_ := Zh (KeepBut.trans (by repeat (first | (with_reducible first | exact HK.out | apply KeepBut.set_ | apply keep_drewN | apply keep_drew | apply keep_alloc | refine keep_far ?_ GW864.out _) | exact HK.out)) (KeepBut.of_grown hg g) (R_base2 HO_7.out)); have n5_ := Zh (ho); clear BK864; clear HI0; clear HO894; clear HB; clear HK; clear HO_7; have BK864 := n0_; have HI0 := n1_; have HO894 := n2_; have HB := n3_; have HK := n4_; have HO900 := n5_; clear n0_ n1_ n2_ n3_ n4_ n5_; clear ho hb hg hat))
         go_roundg k3
         case measure => have := HJ4.out; have := HK2.out; have := HK3.out; omega
         case rel => exact ⟨(y898), (wrap64 (x8_3 + (wrap64 (Int.tdiv t889 2)))), (wrap64 (x12_3 - 1)), (t896), (t897), (by first | rfl | (simp; done) | (simp [*]; done)), (by first | rfl | (simp; done) | (simp [*]; done)), H', ⟨by have := HJ4.out; have := HK2.out; have := HK3.out; omega⟩, ⟨by (with_reducible repeat (first | apply R_alloc | apply R_drewN | apply R_drew)); exact HO900.out⟩, ⟨by (with_reducible repeat (first | refine Za ?_ _ | refine Zb ?_ | refine blk_alloc ?_ _)); exact BK864.out⟩, ⟨by repeat (first | (with_reducible first | exact HI0.out | apply IsS72.alloc | apply IsS72.drewN | apply IsS72.drew | apply IsS72.set_1 | apply IsS72.set_2 | refine IsS72.far ?_ NB0_864.out _) | exact HI0.out)⟩, ⟨by repeat (first | (with_reducible first | exact HK.out | apply KeepBut.set_ | apply keep_drewN | apply keep_drew | apply keep_alloc | refine keep_far ?_ GW864.out _) | exact HK.out)⟩, ⟨by repeat (first | (with_reducible first | exact HB.out | apply Zf | apply Zd | apply Ze | refine Zg ?_ (IsS72.ge HI0.out) | refine Zg ?_ GE864.out) | exact HB.out)⟩⟩
        rw [if_neg c48] at H
        exact absurd H (by simp)
       rw [if_neg c45] at H
       have c45b0 : decide (0 < x12_3) = false := decide_eq_false c45
       clear c45
       simp only [Option.some.injEq, Prod.mk.injEq] at H
       obtain ⟨rfl, rfl, rfl⟩ := H
       go_wp2
       go_ret
       exact ⟨_, by first | rfl | (simp [errW_none, errW_some] <;> rfl) | (simp [*, errW_none, errW_some] <;> rfl), by (with_reducible repeat (first | apply R_alloc | apply R_drewN | apply R_drew)); exact HO_7.out, by repeat (first | (with_reducible first | exact HI0.out | apply IsS72.alloc | apply IsS72.drewN | apply IsS72.drew | apply IsS72.set_1 | apply IsS72.set_2 | refine IsS72.far ?_ NB0_864.out _) | exact HI0.out), by repeat (first | (with_reducible first | exact HB.out | apply Zf | apply Zd | apply Ze | refine Zg ?_ (IsS72.ge HI0.out) | refine Zg ?_ GE864.out) | exact HB.out), by repeat (first | (with_reducible first | exact HK.out | apply KeepBut.set_ | apply keep_drewN | apply keep_drew | apply keep_alloc | refine keep_far ?_ GW864.out _) | exact HK.out)⟩
def spec_DrawRightLog.f (k : Nat) (l0 : List Int) : Option (Int × Int × (List (S54)) × Int × (List (S54))) := (spec_l01New.f k l0).bind fun bt902 => ((spec_l05DrawLog.f k bt902.1 bt902.2.1 bt902.2.2 l0).bind fun bt906 => ((spec_l01Below.f bt902.1 bt906.2.2.2.1 bt906.2.2.2.2 (wrap64 ((bt906.2.2.1.length : Int) + 1))).bind fun bt914 => ((spec_l05DrawEntries.f k bt902.1 bt914.2.1 bt914.2.2 bt906.1 bt906.2.1 bt906.2.2.1 (wrap64 (bt906.1 + bt914.1))).bind fun bt917 => (some (bt906.1, bt906.2.1, bt906.2.2.1, wrap64 (bt906.1 + bt914.1), bt917.1)))))
def spec_DrawRightLog.T3 : Bool × List (List Nat × List Nat) := (true, [([], []), ([0], [0]), ([], []), ([], []), ([3], [3]), ([4], [4]), ([5], [5]), ([2, 6], [2, 6]), ([1, 7], [1, 7]), ([8, 7, 0, 1, 2, 3, 4, 5, 6, 7, 8], [8])])
def spec_DrawRightLog.B3 : List Nat := [0, 1, 0, 0, 8, 24, 56, 124, 255, 511]
theorem spec_DrawRightLog.tab3 : rtab .any (opsOf Try.f40 3) = spec_DrawRightLog.T3 := by kernel_rfl
theorem spec_DrawRightLog.bits3 : waitsOk spec_DrawRightLog.T3.2 spec_DrawRightLog.B3 = true := by kernel_rfl
def spec_DrawRightLog.T4 : Bool × List (List Nat × List Nat) := (true, [([], []), ([], []), ([], []), ([], []), ([], []), ([2, 3, 4], [2, 3, 4]), ([0, 5, 0], [0]), ([1, 6, 0, 1, 6], [1]), ([5, 7, 0, 1, 2, 3, 4, 5, 6, 7], [5])])
def spec_DrawRightLog.B4 : List Nat := [0, 0, 0, 0, 0, 28, 61, 127, 255]
theorem spec_DrawRightLog.tab4 : rtab .any (opsOf Try.f40 4) = spec_DrawRightLog.T4 := by kernel_rfl
theorem spec_DrawRightLog.bits4 : waitsOk spec_DrawRightLog.T4.2 spec_DrawRightLog.B4 = true := by kernel_rfl
set_option maxHeartbeats 8000000 in
set_option maxRecDepth 100000 in
theorem spec_DrawRightLog.calls (k : Nat) (A0 : Option Addr) (c0 : Nat) (l0 : List Int) (r1 : Int) (r2 : Int) (r3 : List (S54)) (r4 : Int) (r5 : List (S54)) (w : World) (hr0 : Kd.C (Kd.int .u8) w A0 l0.length l0) (hc0 : l0.length ≤ c0) (h : spec_DrawRightLog.f k l0 = some (r1, r2, r3, r4, r5)) :
  Calls Try.prog 40 #[.slice A0 l0.length c0] w fun e w' => ∃ v2_ v4_ : Value, e = .returned (.tuple #[.agg #[.int .i64 r1, .int .i64 r2, v2_], .int .i64 r4, v4_]) ∧ Kd.R k54 54 w' w.heap.size (fun k_ => some k_ ≠ (v4_ : Value).ownBlock) v2_ r3 ∧ Kd.R k54 54 w' w.heap.size (fun k_ => some k_ ≠ (v2_ : Value).ownBlock) v4_ r5 ∧ Below w.heap.size w w' := by
 have hu29 := Try.underlying29
 have HR0 := Zh hr0
 have HC0 := Zh hc0
 clear hr0 hc0
 have HB := Zh (Below.refl w.heap.size w)
 have H : ((spec_l01New.f k l0).bind fun bt902 => ((spec_l05DrawLog.f k bt902.1 bt902.2.1 bt902.2.2 l0).bind fun bt906 => ((spec_l01Below.f bt902.1 bt906.2.2.2.1 bt906.2.2.2.2 (wrap64 ((bt906.2.2.1.length : Int) + 1))).bind fun bt914 => ((spec_l05DrawEntries.f k bt902.1 bt914.2.1 bt914.2.2 bt906.1 bt906.2.1 bt906.2.2.1 (wrap64 (bt906.1 + bt914.1))).bind fun bt917 => (some (bt906.1, bt906.2.1, bt906.2.2.1, wrap64 (bt906.1 + bt914.1), bt917.1)))))) = some (r1, r2, r3, r4, r5) := h
 clear h
 replace H := Option.bind_eq_some_iff.mp H
 obtain ⟨⟨t902, t903, t904⟩, A20, H⟩ := H
 replace H : ((spec_l05DrawLog.f k t902 t903 t904 l0).bind fun bt906 => ((spec_l01Below.f t902 bt906.2.2.2.1 bt906.2.2.2.2 (wrap64 ((bt906.2.2.1.length : Int) + 1))).bind fun bt914 => ((spec_l05DrawEntries.f k t902 bt914.2.1 bt914.2.2 bt906.1 bt906.2.1 bt906.2.2.1 (wrap64 (bt906.1 + bt914.1))).bind fun bt917 => (some (bt906.1, bt906.2.1, bt906.2.2.1, wrap64 (bt906.1 + bt914.1), bt917.1))))) = some (r1, r2, r3, r4, r5) := H
 have A2 := Zh A20
 clear A20
 replace H := Option.bind_eq_some_iff.mp H
 obtain ⟨⟨t906, t907, t908, t911, t912⟩, A30, H⟩ := H
 replace H : ((spec_l01Below.f t902 t911 t912 (wrap64 ((t908.length : Int) + 1))).bind fun bt914 => ((spec_l05DrawEntries.f k t902 bt914.2.1 bt914.2.2 t906 t907 t908 (wrap64 (t906 + bt914.1))).bind fun bt917 => (some (t906, t907, t908, wrap64 (t906 + bt914.1), bt917.1)))) = some (r1, r2, r3, r4, r5) := H
 have A3 := Zh A30
 clear A30
 replace H := Option.bind_eq_some_iff.mp H
 obtain ⟨⟨t914, t915, t916⟩, A40, H⟩ := H
 replace H : ((spec_l05DrawEntries.f k t902 t915 t916 t906 t907 t908 (wrap64 (t906 + t914))).bind fun bt917 => (some (t906, t907, t908, wrap64 (t906 + t914), bt917.1))) = some (r1, r2, r3, r4, r5) := H
 have A4 := Zh A40
 clear A40
 replace H := Option.bind_eq_some_iff.mp H
 obtain ⟨⟨t917, t920, t921⟩, A50, H⟩ := H
 replace H : (some (t906, t907, t908, wrap64 (t906 + t914), t917)) = some (r1, r2, r3, r4, r5) := H
 have A5 := Zh A50
 clear A50
 simp only [Option.some.injEq, Prod.mk.injEq] at H
 obtain ⟨rfl, rfl, rfl, rfl, rfl⟩ := H
 go_enter Try.func40, Try.ntmps40
 try go_wp2_with (first | ((with_reducible refine gate_dst (N := 2) rfl ?_); refine box_event ?hg (N := 2) ?hd (cs := #[.int .i64 0, .int .i64 0, .slice none 0 0]) (t := 29) ?hr ?_; (case hd => rfl); (case hg => rfl); (case hr => first | (go_simp; done) | (go_simp; rfl)); intro gb901 hg w6 hbox hb; have n0_ := Zh (Zl Zs hb); have n1_ := Zh (hbox); have n2_ := Zh ((by rw [hg]; exact (below_size Zs) : w.heap.size ≤ gb901)); have n3_ := Zh ((by rw [hg]; exact (below_size Zs) : w.heap.size ≤ gb901)); clear HB; have HB := n0_; have BK901 := n1_; have GW901 := n2_; have GE901 := n3_; clear n0_ n1_ n2_ n3_; clear hb hbox hg) | ((with_reducible refine gate_callee (f := 55) rfl ?_); refine goesL_ (some 9) rfl rfl Try.func55 (by kernel_rfl) rfl #[.slice A0 l0.length c0] rfl (by (try simp only [List.map_toArray, List.map_cons, List.map_nil]); first | done | rfl | (simp only [List.length_drop, List.length_take]; rfl)) ?_; (with_reducible refine (spec_l01New.calls k _ _ l0 t902 t903 t904 w _ ?side1 ?side2 ?side3 A2.out).mono ?_); (case side1 => repeat (first | (with_reducible first | exact HB.out | apply Zf | apply Zd | apply Ze | refine Zg ?_ GE901.out) | exact HB.out)); (case side2 => exact HR0.out); (case side3 => exact HC0.out); rintro e w7 ⟨g905, rfl, hi, hb, hb2⟩; refine ⟨_, rfl, ?_⟩; have n0_ := Zh (Zm (g := gb901) (o := .cells #[.int .i64 0, .int .i64 0, .slice none 0 0] 29 (0, 0)) Zk hb2); have n1_ := Zh (hb); have n2_ := Zh (hi); have n3_ := Zh (IsS72.ne_blk hi (Zm (g := gb901) (o := .cells #[.int .i64 0, .int .i64 0, .slice none 0 0] 29 (0, 0)) Zk hb2) (by decide)); have n4_ := Zh (Ne.symm (IsS72.ne_blk hi (Zm (g := gb901) (o := .cells #[.int .i64 0, .int .i64 0, .slice none 0 0] 29 (0, 0)) Zk hb2) (by decide))); clear BK901; clear HB; have BK901 := n0_; have HB := n1_; have HI905 := n2_; have NB905_901 := n3_; have NB901_905 := n4_; clear n0_ n1_ n2_ n3_ n4_; (try clear hb); (try clear hb2); (try clear hk); (try clear hi)) | ((with_reducible refine gate_callee (f := 56) rfl ?_); refine goesL_ (some 12) rfl rfl Try.func56 (by kernel_rfl) rfl #[.pointer (some ⟨g905, 0, none⟩), .slice A0 l0.length c0] rfl (by (try simp only [List.map_toArray, List.map_cons, List.map_nil]); first | done | rfl | (simp only [List.length_drop, List.length_take]; rfl)) ?_; (with_reducible refine (spec_l05DrawLog.calls k g905 t902 t903 t904 _ _ l0 t906 t907 t908 t911 t912 w _ ?side1 ?side2 ?side3 ?side4 ?side5 A3.out).mono ?_); (case side1 => repeat (first | (with_reducible first | exact HI905.out | apply IsS72.alloc | apply IsS72.drewN | apply IsS72.drew | apply IsS72.set_1 | apply IsS72.set_2 | refine IsS72.far ?_ NB905_901.out _) | exact HI905.out)); (case side2 => repeat (first | (with_reducible first | exact HB.out | apply Zf | apply Zd | apply Ze | refine Zg ?_ (IsS72.ge HI905.out) | refine Zg ?_ GE901.out) | exact HB.out)); (case side3 => repeat (first | exact (C_below HR0.out HB.out) | (with_reducible refine C_alloc ?_ _) | (with_reducible refine C_drewN ?_ _) | (with_reducible refine C_drew ?_))); (case side4 => exact HC0.out); (case side5 => exact Kd.far_C 0 HR0.out (IsS72.ge HI905.out)); rintro e w8 ⟨v909, rfl, ho0, hi, hb, hk⟩; refine ⟨_, rfl, ?_⟩; have n0_ := Zh (KeepBut.blk hk (g' := gb901) (o := .cells #[.int .i64 0, .int .i64 0, .slice none 0 0] 29 (0, 0)) Zk NB901_905.out (by simp)); have n1_ := Zh (R_lower ho0 (below_size (by repeat (first | (with_reducible first | exact HB.out | apply Zf | apply Zd | apply Ze | refine Zg ?_ (IsS72.ge HI905.out) | refine Zg ?_ GE901.out) | exact HB.out)))); have n2_ := Zh (hb); have n3_ := Zh (hi); clear BK901; clear HB; clear HI905; have BK901 := n0_; have HO910 := n1_; have HB := n2_; have HI905 := n3_; clear n0_ n1_ n2_ n3_; (try clear hb); (try clear hb2); (try clear hk); (try clear hi); (try clear ho0)) | ((with_reducible refine gate_dst (N := 6) rfl ?_); refine box_event ?hg (N := 6) ?hd (cs := #[.int .i64 0, .int .i64 0, .slice none 0 0]) (t := 29) ?hr ?_; (case hd => rfl); (case hg => rfl); (case hr => first | (go_simp; done) | (go_simp; rfl)); intro gb913 hg w9 hbox hb; have n0_ := Zh (R_below (by (with_reducible repeat (first | apply R_alloc | apply R_drewN | apply R_drew)); exact HO910.out) hb); have n1_ := Zh (Zm (g := gb901) (o := .cells #[.int .i64 0, .int .i64 0, .slice none 0 0] 29 (0, 0)) Zk hb); have n2_ := Zh (IsS72.below (by repeat (first | (with_reducible first | exact HI905.out | apply IsS72.alloc | apply IsS72.drewN | apply IsS72.drew | apply IsS72.set_1 | apply IsS72.set_2 | refine IsS72.far ?_ NB905_901.out _) | exact HI905.out)) hb); have n3_ := Zh (Zl (by repeat (first | (with_reducible first | exact HB.out | apply Zf | apply Zd | apply Ze | refine Zg ?_ (IsS72.ge HI905.out) | refine Zg ?_ GE901.out) | exact HB.out)) hb); have n4_ := Zh (hbox); have n5_ := Zh ((by rw [hg]; exact (below_size (by repeat (first | (with_reducible first | exact HB.out | apply Zf | apply Zd | apply Ze | refine Zg ?_ (IsS72.ge HI905.out) | refine Zg ?_ GE901.out) | exact HB.out))) : w.heap.size ≤ gb913)); have n6_ := Zh ((by rw [hg]; exact (below_size (by repeat (first | (with_reducible first | exact HB.out | apply Zf | apply Zd | apply Ze | refine Zg ?_ (IsS72.ge HI905.out) | refine Zg ?_ GE901.out) | exact HB.out))) : w.heap.size ≤ gb913)); have n7_ := Zh ((by rw [hg]; exact Nat.ne_of_lt (blk_lt (g := gb901) (o := .cells #[.int .i64 0, .int .i64 0, .slice none 0 0] 29 (0, 0)) Zk) : gb901 ≠ gb913)); have n8_ := Zh ((by rw [hg]; exact Nat.ne_of_gt (blk_lt (g := gb901) (o := .cells #[.int .i64 0, .int .i64 0, .slice none 0 0] 29 (0, 0)) Zk) : gb913 ≠ gb901)); have n9_ := Zh ((by rw [hg]; exact Nat.ne_of_lt (IsS72.lt (show IsS72 w _ g905 t902 t911 t912 from by repeat (first | (with_reducible first | exact HI905.out | apply IsS72.alloc | apply IsS72.drewN | apply IsS72.drew | apply IsS72.set_1 | apply IsS72.set_2 | refine IsS72.far ?_ NB905_901.out _) | exact HI905.out))) : g905 ≠ gb913)); have n10_ := Zh ((by rw [hg]; exact Nat.ne_of_gt (IsS72.lt (show IsS72 w _ g905 t902 t911 t912 from by repeat (first | (with_reducible first | exact HI905.out | apply IsS72.alloc | apply IsS72.drewN | apply IsS72.drew | apply IsS72.set_1 | apply IsS72.set_2 | refine IsS72.far ?_ NB905_901.out _) | exact HI905.out))) : gb913 ≠ g905)); clear HO910; clear BK901; clear HI905; clear HB; have HO910 := n0_; have BK901 := n1_; have HI905 := n2_; have HB := n3_; have BK913 := n4_; have GW913 := n5_; have GE913 := n6_; have NB901_913 := n7_; have NB913_901 := n8_; have NB905_913 := n9_; have NB913_905 := n10_; clear n0_ n1_ n2_ n3_ n4_ n5_ n6_ n7_ n8_ n9_ n10_; clear hb hbox hg; have hnb10 := NB913_901.out; have hnc10 := NB901_913.out; have hnb11 := NB913_905.out; have hnc11 := NB905_913.out; have hcz12_0 : w9.cell? ⟨gb913, 0, none⟩ = some (.int .i64 0) := (blk_cell BK913.out 0).trans rfl; have hcz12_1 : w9.cell? ⟨gb913, 1, none⟩ = some (.int .i64 0) := (blk_cell BK913.out 1).trans rfl; have hcz12_2 : w9.cell? ⟨gb913, 2, none⟩ = some (.slice none 0 0) := (blk_cell BK913.out 2).trans rfl; have hfz12_0 := Zn BK913.out 0; have hfz12_1 := Zn BK913.out 1; have hfz12_2 := Zn BK913.out 2; obtain ⟨Ao13, co13, eo13⟩ := R_slice HO910.out; subst eo13))
 have n0_ : Aside0 (Kd.R k54 54 (((w9.setCell ⟨gb913, 0, none⟩ (.int .i64 t906)).setCell ⟨gb913, 1, none⟩ (.int .i64 t907)).setCell ⟨gb913, 2, none⟩ (.slice Ao13 t908.length co13)) w.heap.size (fun _ => True) (.slice Ao13 t908.length co13) t908) := ⟨by (with_reducible repeat (first | apply R_alloc | apply R_drewN | apply R_drew)); exact R_mono (R_far (p := ⟨gb913, 2, none⟩) (R_far (p := ⟨gb913, 1, none⟩) (R_far (p := ⟨gb913, 0, none⟩) (R_types HO910.out BK913.out (by decide)) (fun _ hk => hk.2) (.int .i64 t906)) (fun _ hk => hk.2) (.int .i64 t907)) (fun _ hk => hk.2) (.slice Ao13 t908.length co13)) (fun _ hk => trivial)⟩
 have n1_ : Aside0 ((((w9.setCell ⟨gb913, 0, none⟩ (.int .i64 t906)).setCell ⟨gb913, 1, none⟩ (.int .i64 t907)).setCell ⟨gb913, 2, none⟩ (.slice Ao13 t908.length co13)).heap[gb901]? = some (.cells #[.int .i64 0, .int .i64 0, .slice none 0 0] 29 (0, 0))) := ⟨by (with_reducible repeat (first | refine Za ?_ _ | refine Zb ?_ | refine blk_alloc ?_ _)); refine Zp ?_ NB901_913.out _; (with_reducible repeat (first | refine Za ?_ _ | refine Zb ?_ | refine blk_alloc ?_ _)); refine Zp ?_ NB901_913.out _; (with_reducible repeat (first | refine Za ?_ _ | refine Zb ?_ | refine blk_alloc ?_ _)); refine Zp ?_ NB901_913.out _; (with_reducible repeat (first | refine Za ?_ _ | refine Zb ?_ | refine blk_alloc ?_ _)); exact BK901.out⟩
 have n2_ : Aside0 ((((w9.setCell ⟨gb913, 0, none⟩ (.int .i64 t906)).setCell ⟨gb913, 1, none⟩ (.int .i64 t907)).setCell ⟨gb913, 2, none⟩ (.slice Ao13 t908.length co13)).heap[gb913]? = some (.cells #[.int .i64 t906, .int .i64 t907, .slice Ao13 t908.length co13] 29 (0, 0))) := ⟨by (with_reducible repeat (first | refine Za ?_ _ | refine Zb ?_ | refine blk_alloc ?_ _)); refine blk_put (cs := #[.int .i64 t906, .int .i64 t907, .slice none 0 0]) ?_ 2 _ rfl; (with_reducible repeat (first | refine Za ?_ _ | refine Zb ?_ | refine blk_alloc ?_ _)); refine blk_put (cs := #[.int .i64 t906, .int .i64 0, .slice none 0 0]) ?_ 1 _ rfl; (with_reducible repeat (first | refine Za ?_ _ | refine Zb ?_ | refine blk_alloc ?_ _)); refine blk_put (cs := #[.int .i64 0, .int .i64 0, .slice none 0 0]) ?_ 0 _ rfl; (with_reducible repeat (first | refine Za ?_ _ | refine Zb ?_ | refine blk_alloc ?_ _)); exact BK913.out⟩
 have n3_ : Aside0 (IsS72 w (((w9.setCell ⟨gb913, 0, none⟩ (.int .i64 t906)).setCell ⟨gb913, 1, none⟩ (.int .i64 t907)).setCell ⟨gb913, 2, none⟩ (.slice Ao13 t908.length co13)) g905 t902 t911 t912) := ⟨by repeat (first | (with_reducible first | exact HI905.out | apply IsS72.alloc | apply IsS72.drewN | apply IsS72.drew | apply IsS72.set_1 | apply IsS72.set_2 | refine IsS72.far ?_ NB905_901.out _ | refine IsS72.far ?_ NB905_913.out _) | exact HI905.out)⟩
 have n4_ : Aside0 (Below w.heap.size w (((w9.setCell ⟨gb913, 0, none⟩ (.int .i64 t906)).setCell ⟨gb913, 1, none⟩ (.int .i64 t907)).setCell ⟨gb913, 2, none⟩ (.slice Ao13 t908.length co13))) := ⟨by repeat (first | (with_reducible first | exact HB.out | apply Zf | apply Zd | apply Ze | refine Zg ?_ (IsS72.ge HI905.out) | refine Zg ?_ GE901.out | refine Zg ?_ GE913.out) | exact HB.out)⟩
 (try clear HO910)
 (try clear BK901)
 (try clear BK913)
 (try clear HI905)
 (try clear HB)
 generalize (((w9.setCell ⟨gb913, 0, none⟩ (.int .i64 t906)).setCell ⟨gb913, 1, none⟩ (.int .i64 t907)).setCell ⟨gb913, 2, none⟩ (.slice Ao13 t908.length co13)) = w14 at n0_ n1_ n2_ n3_ n4_ ⊢
 have HO910 := n0_
 have BK901 := n1_
 have BK913 := n2_
 have HI905 := n3_
 have HB := n4_
 clear n0_ n1_ n2_ n3_ n4_
 have n0_ := Zh (R_drew HO910.out)
 have n1_ := Zh (Zb BK901.out)
 have n2_ := Zh (Zb BK913.out)
 have n3_ := Zh (IsS72.drew HI905.out)
 have n4_ := Zh (Ze HB.out)
 clear HO910
 clear BK901
 clear BK913
 clear HI905
 clear HB
 have HO910 := n0_
 have BK901 := n1_
 have BK913 := n2_
 have HI905 := n3_
 have HB := n4_
 clear n0_ n1_ n2_ n3_ n4_
 refine start_ (n := 10) (S := fun w' => w'.cell? ⟨gb913, 0, none⟩ = some (.int .i64 t906) ∧ w'.cell? ⟨gb913, 1, none⟩ = some (.int .i64 t907) ∧ w'.cell? ⟨gb913, 2, none⟩ = some (.slice Ao13 t908.length co13)) (ds := []) #[false, false, false, false, false, false, false, false, false, false] (by kernel_rfl) rfl rfl ⟨(blk_cell BK913.out 0).trans rfl, (blk_cell BK913.out 1).trans rfl, (blk_cell BK913.out 2).trans rfl⟩ (fun hHeld => ?_); refine with_tabW spec_DrawRightLog.tab3 spec_DrawRightLog.bits3 (fun HT_ HW_ => ?_)
 generalize w14.drew = w15 at HO910 BK901 BK913 HI905 HB hHeld ⊢
 refine pure_ (i := 0) (N := some 13) (v := ?_) (a' := ?_) #[true, false, false, false, false, false, false, false, false, false] rfl rfl (any_of HT_.out (by kernel_rfl)) (fun _ _ _ h => h) (Or.inl ⟨by rfl, ?_⟩) ?_ ?_
 rotate_left
 ·
  intro w'
  go_simp
  with_reducible rfl
 rotate_left
 ·
  simp only [Act.put, List.setIfInBounds_toArray, List.set_cons_zero, List.set_cons_succ, i64_w, i32_w]
  rfl
 refine pure_ (i := 2) (N := some 15) (v := ?_) (a' := ?_) #[true, false, true, false, false, false, false, false, false, false] rfl rfl (any_of HT_.out (by kernel_rfl)) (fun _ _ _ h => h) (Or.inl ⟨by rfl, ?_⟩) ?_ ?_
 rotate_left
 ·
  intro w'
  go_simp
  with_reducible rfl
 rotate_left
 ·
  simp only [Act.put, List.setIfInBounds_toArray, List.set_cons_zero, List.set_cons_succ, i64_w, i32_w]
  rfl
 refine pure_ (i := 3) (N := some 16) (v := ?_) (a' := ?_) #[true, false, true, true, false, false, false, false, false, false] rfl rfl (any_of HT_.out (by kernel_rfl)) (fun _ _ _ h => h) (Or.inl ⟨by rfl, ?_⟩) ?_ ?_
 rotate_left
 ·
  intro w'
  go_simp
  with_reducible rfl
 rotate_left
 ·
  simp only [Act.put, List.setIfInBounds_toArray, List.set_cons_zero, List.set_cons_succ, i64_w, i32_w]
  rfl
 refine take_ (i := 1) (N := some 14) (v := ?_) (a' := ?_) #[true, true, true, true, false, false, false, false, false, false] rfl rfl (take_ofW HT_.out HW_.out (by kernel_rfl)) (fun _ _ _ h => h) (Or.inl ⟨by rfl, ?_⟩) hHeld ?_ ?_
 rotate_left
 ·
  rintro w' ⟨s0, s1, s2⟩
  go_simp
  with_reducible rfl
 rotate_left
 ·
  simp only [Act.put, List.setIfInBounds_toArray, List.set_cons_zero, List.set_cons_succ, i64_w, i32_w]
  rfl
 refine take_ (i := 4) (N := some 17) (v := ?_) (a' := ?_) #[true, true, true, true, true, false, false, false, false, false] rfl rfl (take_ofW HT_.out HW_.out (by kernel_rfl)) (fun _ _ _ h => h) (Or.inl ⟨by rfl, ?_⟩) hHeld ?_ ?_
 rotate_left
 ·
  rintro w' ⟨s0, s1, s2⟩
  go_simp
  with_reducible rfl
 rotate_left
 ·
  simp only [Act.put, List.setIfInBounds_toArray, List.set_cons_zero, List.set_cons_succ, i64_w, i32_w]
  rfl
 refine pure_ (i := 5) (N := some 18) (v := ?_) (a' := ?_) #[true, true, true, true, true, true, false, false, false, false] rfl rfl (any_of HT_.out (by kernel_rfl)) (fun _ _ _ h => h) (Or.inl ⟨by rfl, ?_⟩) ?_ ?_
 rotate_left
 ·
  intro w'
  go_simp
  with_reducible rfl
 rotate_left
 ·
  simp only [Act.put, List.setIfInBounds_toArray, List.set_cons_zero, List.set_cons_succ, i64_w, i32_w]
  rfl
 refine pure_ (i := 6) (N := some 19) (v := ?_) (a' := ?_) #[true, true, true, true, true, true, true, false, false, false] rfl rfl (any_of HT_.out (by kernel_rfl)) (fun _ _ _ h => h) (Or.inl ⟨by rfl, ?_⟩) ?_ ?_
 rotate_left
 ·
  intro w'
  go_simp
  with_reducible rfl
 rotate_left
 ·
  simp only [Act.put, List.setIfInBounds_toArray, List.set_cons_zero, List.set_cons_succ, i64_w, i32_w]
  rfl
 refine one_ (i := 7) (N := some 20) #[true, true, true, true, true, true, true, true, false, false] rfl rfl (one_of HT_.out (by kernel_rfl)) (by decide) (fun K hK => ?_)
 refine goes_ Try.func57 (by kernel_rfl) rfl #[.pointer (some ⟨g905, 0, none⟩), .int .i64 (wrap64 ((t908.length : Int) + 1))] (by rfl) rfl rfl (by (try simp only [List.map_toArray, List.map_cons, List.map_nil]); first | done | rfl | (simp only [List.length_drop, List.length_take]; rfl)) ?_
 with_reducible refine (spec_l01Below.calls g905 t902 t911 t912 (wrap64 ((t908.length : Int) + 1)) t914 t915 t916 w _ ?side1 ?side2 A4.out).mono ?_
 (case side1 => repeat (first | (with_reducible first | exact HI905.out | apply IsS72.alloc | apply IsS72.drewN | apply IsS72.drew | apply IsS72.set_1 | apply IsS72.set_2 | refine IsS72.far ?_ NB905_901.out _ | refine IsS72.far ?_ NB905_913.out _) | exact HI905.out))
 (case side2 => repeat (first | (with_reducible first | exact HB.out | apply Zf | apply Zd | apply Ze | refine Zg ?_ (IsS72.ge HI905.out) | refine Zg ?_ GE901.out | refine Zg ?_ GE913.out) | exact HB.out))
 rintro e w16 ⟨rfl, hi, hb, hk⟩
 refine ⟨_, rfl, ?_⟩
 have n0_ := Zh (KeepBut.blk hk (g' := gb901) (o := .cells #[.int .i64 0, .int .i64 0, .slice none 0 0] 29 (0, 0)) Zk NB901_905.out (by simp))
 have n1_ := Zh (R_mono (R_keep (IsS72.apart (show IsS72 w _ g905 t902 t911 t912 from by repeat (first | (with_reducible first | exact HI905.out | apply IsS72.alloc | apply IsS72.drewN | apply IsS72.drew | apply IsS72.set_1 | apply IsS72.set_2 | refine IsS72.far ?_ NB905_901.out _ | refine IsS72.far ?_ NB905_913.out _) | exact HI905.out)) (by (with_reducible repeat (first | apply R_alloc | apply R_drewN | apply R_drew)); exact HO910.out) (by decide)) hk (fun _ h => h.2)) (fun _ h => h.1))
 have n2_ := Zh (KeepBut.blk hk (g' := gb913) (o := .cells #[.int .i64 t906, .int .i64 t907, .slice Ao13 t908.length co13] 29 (0, 0)) Zk NB913_905.out (by simp))
 have n3_ := Zh (hb)
 have n4_ := Zh (hi)
 clear BK901
 clear HO910
 clear BK913
 clear HB
 clear HI905
 have BK901 := n0_
 have HO910 := n1_
 have BK913 := n2_
 have HB := n3_
 have HI905 := n4_
 clear n0_ n1_ n2_ n3_ n4_
 (try clear hb)
 (try clear hb2)
 (try clear hk)
 (try clear hi)
 refine hK.out _ _ ⟨(blk_cell BK913.out 0).trans rfl, (blk_cell BK913.out 1).trans rfl, (blk_cell BK913.out 2).trans rfl⟩ (fun hHeld => ?_)
 clear hK K
 refine norm_ (a' := ?_) ?_ ?_
 rotate_left
 ·
  show Act.put _ (some 20) _ = _
  simp only [Act.put, List.setIfInBounds_toArray, List.set_cons_zero, List.set_cons_succ, i64_w, i32_w]
  rfl
 refine pure_ (i := 8) (N := some 21) (v := ?_) (a' := ?_) #[true, true, true, true, true, true, true, true, true, false] rfl rfl (any_of HT_.out (by kernel_rfl)) (fun _ _ _ h => h) (Or.inl ⟨by rfl, ?_⟩) ?_ ?_
 rotate_left
 ·
  intro w'
  go_simp
  with_reducible rfl
 rotate_left
 ·
  simp only [Act.put, List.setIfInBounds_toArray, List.set_cons_zero, List.set_cons_succ, i64_w, i32_w]
  rfl
 refine pure_ (i := 9) (N := some 7) (v := ?_) (a' := ?_) #[true, true, true, true, true, true, true, true, true, true] rfl rfl (any_of HT_.out (by kernel_rfl)) (fun _ _ _ h => h) (Or.inl ⟨by rfl, ?_⟩) ?_ ?_
 rotate_left
 ·
  intro w'
  go_simp
  with_reducible rfl
 rotate_left
 ·
  simp only [Act.put, List.setIfInBounds_toArray, List.set_cons_zero, List.set_cons_succ, i64_w, i32_w]
  rfl
 refine done_ (done_of HT_.out (by kernel_rfl)) ?_
 try go_wp2
 have n0_ := Zh (R_drew HO910.out)
 have n1_ := Zh (Zb BK901.out)
 have n2_ := Zh (Zb BK913.out)
 have n3_ := Zh (IsS72.drew HI905.out)
 have n4_ := Zh (Ze HB.out)
 clear HO910
 clear BK901
 clear BK913
 clear HI905
 clear HB
 have HO910 := n0_
 have BK901 := n1_
 have BK913 := n2_
 have HI905 := n3_
 have HB := n4_
 clear n0_ n1_ n2_ n3_ n4_
 refine start_ (n := 9) (S := fun w' => w'.cell? ⟨gb913, 0, none⟩ = some (.int .i64 t906) ∧ w'.cell? ⟨gb913, 1, none⟩ = some (.int .i64 t907) ∧ w'.cell? ⟨gb913, 2, none⟩ = some (.slice Ao13 t908.length co13)) (ds := []) #[false, false, false, false, false, false, false, false, false] (by kernel_rfl) rfl rfl ⟨(blk_cell BK913.out 0).trans rfl, (blk_cell BK913.out 1).trans rfl, (blk_cell BK913.out 2).trans rfl⟩ (fun hHeld => ?_); refine with_tabW spec_DrawRightLog.tab4 spec_DrawRightLog.bits4 (fun HT_ HW_ => ?_)
 generalize w16.drew = w17 at HO910 BK901 BK913 HI905 HB hHeld ⊢
 refine pure_ (i := 1) (N := some 23) (v := ?_) (a' := ?_) #[false, true, false, false, false, false, false, false, false] rfl rfl (any_of HT_.out (by kernel_rfl)) (fun _ _ _ h => h) (Or.inl ⟨by rfl, ?_⟩) ?_ ?_
 rotate_left
 ·
  intro w'
  go_simp
  with_reducible rfl
 rotate_left
 ·
  simp only [Act.put, List.setIfInBounds_toArray, List.set_cons_zero, List.set_cons_succ, i64_w, i32_w]
  rfl
 refine pure_ (i := 2) (N := some 24) (v := ?_) (a' := ?_) #[false, true, true, false, false, false, false, false, false] rfl rfl (any_of HT_.out (by kernel_rfl)) (fun _ _ _ h => h) (Or.inl ⟨by rfl, ?_⟩) ?_ ?_
 rotate_left
 ·
  intro w'
  go_simp
  with_reducible rfl
 rotate_left
 ·
  simp only [Act.put, List.setIfInBounds_toArray, List.set_cons_zero, List.set_cons_succ, i64_w, i32_w]
  rfl
 refine pure_ (i := 4) (N := some 26) (v := ?_) (a' := ?_) #[false, true, true, false, true, false, false, false, false] rfl rfl (any_of HT_.out (by kernel_rfl)) (fun _ _ _ h => h) (Or.inl ⟨by rfl, ?_⟩) ?_ ?_
 rotate_left
 ·
  intro w'
  go_simp
  with_reducible rfl
 rotate_left
 ·
  simp only [Act.put, List.setIfInBounds_toArray, List.set_cons_zero, List.set_cons_succ, i64_w, i32_w]
  rfl
 refine take_ (i := 0) (N := some 22) (v := ?_) (a' := ?_) #[true, true, true, false, true, false, false, false, false] rfl rfl (take_ofW HT_.out HW_.out (by kernel_rfl)) (fun _ _ _ h => h) (Or.inl ⟨by rfl, ?_⟩) hHeld ?_ ?_
 rotate_left
 ·
  rintro w' ⟨s0, s1, s2⟩
  go_simp
  with_reducible rfl
 rotate_left
 ·
  simp only [Act.put, List.setIfInBounds_toArray, List.set_cons_zero, List.set_cons_succ, i64_w, i32_w]
  rfl
 refine take_ (i := 3) (N := some 25) (v := ?_) (a' := ?_) #[true, true, true, true, true, false, false, false, false] rfl rfl (take_ofW HT_.out HW_.out (by kernel_rfl)) (fun _ _ _ h => h) (Or.inl ⟨by rfl, ?_⟩) hHeld ?_ ?_
 rotate_left
 ·
  rintro w' ⟨s0, s1, s2⟩
  go_simp
  with_reducible rfl
 rotate_left
 ·
  simp only [Act.put, List.setIfInBounds_toArray, List.set_cons_zero, List.set_cons_succ, i64_w, i32_w]
  rfl
 refine one_ (i := 5) (N := some 27) #[true, true, true, true, true, true, false, false, false] rfl rfl (one_of HT_.out (by kernel_rfl)) (by decide) (fun K hK => ?_)
 refine goes_ Try.func58 (by kernel_rfl) rfl #[.pointer (some ⟨g905, 0, none⟩), .agg #[.int .i64 t906, .int .i64 t907, .slice Ao13 t908.length co13], .int .i64 (wrap64 (t906 + t914))] (by rfl) rfl rfl (by (try simp only [List.map_toArray, List.map_cons, List.map_nil]); first | done | rfl | (simp only [List.length_drop, List.length_take]; rfl)) ?_
 with_reducible refine (spec_l05DrawEntries.calls k g905 t902 t915 t916 t906 t907 _ _ t908 (wrap64 (t906 + t914)) t917 t920 t921 w _ ?side1 ?side2 ?side3 ?side4 A5.out).mono ?_
 (case side1 => repeat (first | (with_reducible first | exact HI905.out | apply IsS72.alloc | apply IsS72.drewN | apply IsS72.drew | apply IsS72.set_1 | apply IsS72.set_2 | refine IsS72.far ?_ NB905_901.out _ | refine IsS72.far ?_ NB905_913.out _) | exact HI905.out))
 (case side2 => repeat (first | (with_reducible first | exact HB.out | apply Zf | apply Zd | apply Ze | refine Zg ?_ (IsS72.ge HI905.out) | refine Zg ?_ GE901.out | refine Zg ?_ GE913.out) | exact HB.out))
 (case side3 => exact C_foot_own (IsS72.apart (show IsS72 w _ g905 t902 t915 t916 from by repeat (first | (with_reducible first | exact HI905.out | apply IsS72.alloc | apply IsS72.drewN | apply IsS72.drew | apply IsS72.set_1 | apply IsS72.set_2 | refine IsS72.far ?_ NB905_901.out _ | refine IsS72.far ?_ NB905_913.out _) | exact HI905.out)) (by (with_reducible repeat (first | apply R_alloc | apply R_drewN | apply R_drew)); exact HO910.out) (by decide)) (fun _ h_ => h_.2))
 (case side4 => exact (R_reads' HO910.out).2.1)
 rintro e w18 ⟨v918, rfl, ho0, hi, hb, hk⟩
 refine ⟨_, rfl, ?_⟩
 have n0_ := Zh (KeepBut.blk hk (g' := gb901) (o := .cells #[.int .i64 0, .int .i64 0, .slice none 0 0] 29 (0, 0)) Zk NB901_905.out (by simp))
 have n1_ := Zh (R_mono (R_told (R_oldK (IsS72.apart (show IsS72 w _ g905 t902 t915 t916 from by repeat (first | (with_reducible first | exact HI905.out | apply IsS72.alloc | apply IsS72.drewN | apply IsS72.drew | apply IsS72.set_1 | apply IsS72.set_2 | refine IsS72.far ?_ NB905_901.out _ | refine IsS72.far ?_ NB905_913.out _) | exact HI905.out)) (by (with_reducible repeat (first | apply R_alloc | apply R_drewN | apply R_drew)); exact HO910.out) (by decide)) hk) (R_base ho0)) (fun _ h_ => h_.1))
 have n2_ := Zh (KeepBut.blk hk (g' := gb913) (o := .cells #[.int .i64 t906, .int .i64 t907, .slice Ao13 t908.length co13] 29 (0, 0)) Zk NB913_905.out (by simp))
 have n3_ := Zh (R_lower (R_new' ho0 (R_lt (by (with_reducible repeat (first | apply R_alloc | apply R_drewN | apply R_drew)); exact HO910.out))) (below_size (by repeat (first | (with_reducible first | exact HB.out | apply Zf | apply Zd | apply Ze | refine Zg ?_ (IsS72.ge HI905.out) | refine Zg ?_ GE901.out | refine Zg ?_ GE913.out) | exact HB.out))))
 have n4_ := Zh (hb)
 have n5_ := Zh (hi)
 clear BK901
 clear HO910
 clear BK913
 clear HB
 clear HI905
 have BK901 := n0_
 have HO910 := n1_
 have BK913 := n2_
 have HO919 := n3_
 have HB := n4_
 have HI905 := n5_
 clear n0_ n1_ n2_ n3_ n4_ n5_
 (try clear hb)
 (try clear hb2)
 (try clear hk)
 (try clear hi)
 (try clear ho0)
 refine hK.out _ _ ⟨(blk_cell BK913.out 0).trans rfl, (blk_cell BK913.out 1).trans rfl, (blk_cell BK913.out 2).trans rfl⟩ (fun hHeld => ?_)
 clear hK K
 refine norm_ (a' := ?_) ?_ ?_
 rotate_left
 ·
  show Act.put _ (some 27) _ = _
  simp only [Act.put, List.setIfInBounds_toArray, List.set_cons_zero, List.set_cons_succ, i64_w, i32_w]
  rfl
 refine one_ (i := 6) (N := none) #[true, true, true, true, true, true, true, false, false] rfl rfl (one_of HT_.out (by kernel_rfl)) (by decide) (fun K hK => ?_)
 have hs19 : w18.cell? ⟨gb901, 0, none⟩ = some (.int .i64 0) := (blk_cell BK901.out 0).trans rfl
 have hfs19 := Zn BK901.out 0
 have hns19_1 := NB913_901.out
 have hms19_1 := NB901_913.out
 have hs20 : w18.cell? ⟨gb901, 1, none⟩ = some (.int .i64 0) := (blk_cell BK901.out 1).trans rfl
 have hfs20 := Zn BK901.out 1
 have hns20_1 := NB913_901.out
 have hms20_1 := NB901_913.out
 have hs21 : w18.cell? ⟨gb901, 2, none⟩ = some (.slice none 0 0) := (blk_cell BK901.out 2).trans rfl
 have hfs21 := Zn BK901.out 2
 have hns21_1 := NB913_901.out
 have hms21_1 := NB901_913.out
 refine skip_ (w1 := ?_) (by rfl) rfl ?_ ?_
 rotate_left
 ·
  go_simp
  rfl
 refine hK.out _ _ ⟨((cell_far (p := ⟨gb901, _, none⟩) NB913_901.out _).trans (((cell_far (p := ⟨gb901, _, none⟩) NB913_901.out _).trans (((cell_far (p := ⟨gb901, _, none⟩) NB913_901.out _).trans (hHeld.1)))))), ((cell_far (p := ⟨gb901, _, none⟩) NB913_901.out _).trans (((cell_far (p := ⟨gb901, _, none⟩) NB913_901.out _).trans (((cell_far (p := ⟨gb901, _, none⟩) NB913_901.out _).trans (hHeld.2.1)))))), ((cell_far (p := ⟨gb901, _, none⟩) NB913_901.out _).trans (((cell_far (p := ⟨gb901, _, none⟩) NB913_901.out _).trans (((cell_far (p := ⟨gb901, _, none⟩) NB913_901.out _).trans (hHeld.2.2))))))⟩ (fun hHeld => ?_)
 clear hK K
 refine pure_ (i := 7) (N := some 3) (v := ?_) (a' := ?_) #[true, true, true, true, true, true, true, true, false] rfl rfl (any_of HT_.out (by kernel_rfl)) (fun _ _ _ h => h) (Or.inl ⟨by rfl, ?_⟩) ?_ ?_
 rotate_left
 ·
  intro w'
  go_simp
  with_reducible rfl
 rotate_left
 ·
  simp only [Act.put, List.setIfInBounds_toArray, List.set_cons_zero, List.set_cons_succ, i64_w, i32_w]
  rfl
 refine pure_ (i := 8) (N := some 4) (v := ?_) (a' := ?_) #[true, true, true, true, true, true, true, true, true] rfl rfl (any_of HT_.out (by kernel_rfl)) (fun _ _ _ h => h) (Or.inl ⟨by rfl, ?_⟩) ?_ ?_
 rotate_left
 ·
  intro w'
  go_simp
  with_reducible rfl
 rotate_left
 ·
  simp only [Act.put, List.setIfInBounds_toArray, List.set_cons_zero, List.set_cons_succ, i64_w, i32_w]
  rfl
 refine done_ (done_of HT_.out (by kernel_rfl)) ?_
 try go_wp2
 refine bodyPost_ret (results_ctt rfl _ _ gb901 29 #[.int .i64 t906, .int .i64 t907, .slice Ao13 t908.length co13] (0, 0) _ rfl (by (with_reducible repeat (first | refine Za ?_ _ | refine Zb ?_ | refine blk_alloc ?_ _)); refine blk_put (cs := #[.int .i64 t906, .int .i64 t907, .slice none 0 0]) ?_ 2 _ rfl; (with_reducible repeat (first | refine Za ?_ _ | refine Zb ?_ | refine blk_alloc ?_ _)); refine blk_put (cs := #[.int .i64 t906, .int .i64 0, .slice none 0 0]) ?_ 1 _ rfl; (with_reducible repeat (first | refine Za ?_ _ | refine Zb ?_ | refine blk_alloc ?_ _)); refine blk_put (cs := #[.int .i64 0, .int .i64 0, .slice none 0 0]) ?_ 0 _ rfl; (with_reducible repeat (first | refine Za ?_ _ | refine Zb ?_ | refine blk_alloc ?_ _)); exact BK901.out) Try.underlying29 rfl (by kernel_rfl)) rfl ?_
 exact ⟨_, _, by first | rfl | (simp [errW_none, errW_some] <;> rfl) | (simp [*, errW_none, errW_some] <;> rfl), by (with_reducible repeat (first | apply R_alloc | apply R_drewN | apply R_drew)); exact R_mono (R_far (p := ⟨gb901, 2, none⟩) (R_far (p := ⟨gb901, 1, none⟩) (R_far (p := ⟨gb901, 0, none⟩) (R_types HO910.out BK901.out (by decide)) (fun _ hk => hk.2) (.int .i64 t906)) (fun _ hk => hk.2) (.int .i64 t907)) (fun _ hk => hk.2) (.slice Ao13 t908.length co13)) (fun _ hk => hk.1.2), by (with_reducible repeat (first | apply R_alloc | apply R_drewN | apply R_drew)); exact R_mono (R_far (p := ⟨gb901, 2, none⟩) (R_far (p := ⟨gb901, 1, none⟩) (R_far (p := ⟨gb901, 0, none⟩) (R_types HO919.out BK901.out (by decide)) (fun _ hk => hk.2) (.int .i64 t906)) (fun _ hk => hk.2) (.int .i64 t907)) (fun _ hk => hk.2) (.slice Ao13 t908.length co13)) (fun _ hk => hk.1.2), by repeat (first | (with_reducible first | exact HB.out | apply Zf | apply Zd | apply Ze | refine Zg ?_ (IsS72.ge HI905.out) | refine Zg ?_ GE901.out | refine Zg ?_ GE913.out) | exact HB.out)⟩
end Go.Proofs.Ytalbkbmnjpameaa.F

namespace Go.Proofs.Ytalbkbmnjpameaa.F
open Go.RowKit Go.Proofs.YtalbkbmnjpameaaW.PrintWords Go.Proofs.YtalbkbmnjpameaaW.PrintLast Go.Proofs.YtalbkbmnjpameaaW.PrintMore
attribute [local go_sem] max2_int min2_int max_two min_two max_three min_three max_four min_four   -- for this text's walks alone
set_option linter.unusedVariables false
set_option linter.unusedSimpArgs false
theorem eqA54 (d : Nat) (w : World) (x0 y0 : Int) (x1 y1 : ByteArray) :
    (Op.equalIn (d + 2) 54 (.agg #[.int .i64 x0, .string x1]) (.agg #[.int .i64 y0, .string y1])).run Try.prog w = .ok (x0 == y0 && (x1.toList == y1.toList)) w := by
  refine eqA_of Try.underlying54 (by kernel_rfl) ?_
  refine eqf_cons (by rfl) (by go_simp; rfl) (by go_simp; rfl) (by go_simp) ?_
  exact eqf_last (by rfl) (by go_simp; rfl) (by go_simp; rfl) (by go_simp)
end Go.Proofs.Ytalbkbmnjpameaa.F

namespace Go.Proofs.Ytalbkbmnjpameaa.F
open Go.RowKit Go.Proofs.YtalbkbmnjpameaaW.PrintWords Go.Proofs.YtalbkbmnjpameaaW.PrintWords.Kd Go.Proofs.YtalbkbmnjpameaaW.PrintMore.Kd Go.Proofs.YtalbkbmnjpameaaW.PrintLast Go.Proofs.YtalbkbmnjpameaaW.PrintMore
attribute [local go_sem] max2_int min2_int max_two min_two max_three min_three max_four min_four   -- for this text's walks alone
set_option linter.unusedVariables false
set_option linter.unusedSimpArgs false
attribute [local go_sem high] eqA54
def laws_sameEntries.l0 : Nat → List (S54) → List (S54) → Int → Option (Bool)
 | 0, _, _, _ => none
 | k + 1, x0, x1, x5 => if x5 < (x0.length : Int) then (if 0 ≤ x5 then (if x5 < (x1.length : Int) then (if (!(((rd_T54 x0 x5).f0) == ((rd_T54 x1 x5).f0)) || (!((((rd_T54 x0 x5).f1).toList) == (((rd_T54 x1 x5).f1).toList)))) = true then (some false) else (laws_sameEntries.l0 k x0 x1 (wrap64 (x5 + 1)))) else (none)) else (none)) else (some true)
def laws_sameEntries.f (k : Nat) (l0 : List (S54)) (l1 : List (S54)) : Option (Bool) := if (l0.length : Int) = (l1.length : Int) then (laws_sameEntries.l0 k l0 l1 0) else (some false)
set_option maxHeartbeats 8000000 in
set_option maxRecDepth 100000 in
theorem laws_sameEntries.calls (k : Nat) (A0 : Option Addr) (c0 : Nat) (l0 : List (S54)) (A1 : Option Addr) (c1 : Nat) (l1 : List (S54)) (r : Bool) (w : World) (hr0 : Kd.C k54 w A0 l0.length l0) (hc0 : l0.length ≤ c0) (hr1 : Kd.C k54 w A1 l1.length l1) (hc1 : l1.length ≤ c1) (h : laws_sameEntries.f k l0 l1 = some r) :
  Calls Try.prog 42 #[.slice A0 l0.length c0, .slice A1 l1.length c1] w fun e w' => e = .returned (.bool r) ∧ Drawn0 w w' := by
 have hu54 := Try.underlying54
 have HR0 := Zh hr0
 have HC0 := Zh hc0
 clear hr0 hc0
 have HR1 := Zh hr1
 have HC1 := Zh hc1
 clear hr1 hc1
 have H : (if (l0.length : Int) = (l1.length : Int) then (laws_sameEntries.l0 k l0 l1 0) else (some false)) = some r := h
 clear h
 by_cases c3 : (l0.length : Int) = (l1.length : Int)
 ·
  rw [if_pos c3] at H
  have c3b0 : ((l0.length : Int) == (l1.length : Int)) = true := beq_iff_eq.mpr c3
  have c3b1 : ((l0.length : Int) != (l1.length : Int)) = false := bne_eq_false_iff_eq.mpr c3
  have c3b2 : (l0.length == l1.length) = true := by first | simpa using c3 | (simp at c3 ⊢; omega)
  clear c3
  have H' := Zh H
  clear H
  go_enter Try.func42, Try.ntmps42
  go_wp2
  repeat (go_quiet (fail); try go_wp2)
  go_loopg [5] k (fun kq v5 w' => ∃ (x5_1 : Int), v5 = .int .i64 x5_1 ∧ Aside0 (laws_sameEntries.l0 kq l0 l1 x5_1 = some r) ∧ Aside0 (kq ≤ k) ∧ Drawn0 w w')
  case atStart => exact ⟨(0), (by first | rfl | (simp; done) | (simp [*]; done)), H', ⟨Nat.le_refl _⟩, by repeat (first | exact Drawn0.refl _ | apply Drawn0.step)⟩
  case round =>
   clear H'
   try clear c1
   try clear p2
   try clear c3
   try clear c3b0
   try clear c3b1
   try clear c3b2
   obtain ⟨x5_1, rfl, HA, HK1, ⟨m1, rfl⟩⟩ := hrel
   cases gk with
   | zero => exact absurd HA.out (by simp [laws_sameEntries.l0])
   | succ k1 =>
    have H := HA.out
    clear HA
    simp only [laws_sameEntries.l0] at H
    by_cases c4 : x5_1 < (l0.length : Int)
    ·
     rw [if_pos c4] at H
     have c4b0 : decide (x5_1 < (l0.length : Int)) = true := decide_eq_true c4
     clear c4
     by_cases c5 : 0 ≤ x5_1
     ·
      rw [if_pos c5] at H
      have c5b0 : decide (0 ≤ x5_1) = true := decide_eq_true c5
      clear c5
      by_cases c6 : x5_1 < (l1.length : Int)
      ·
       rw [if_pos c6] at H
       have c6b0 : decide (x5_1 < (l1.length : Int)) = true := decide_eq_true c6
       clear c6
       by_cases c7 : (!(((rd_T54 l0 x5_1).f0) == ((rd_T54 l1 x5_1).f0)) || (!((((rd_T54 l0 x5_1).f1).toList) == (((rd_T54 l1 x5_1).f1).toList)))) = true
       ·
        rw [if_pos c7] at H
        have c7b0 : (!(((rd_T54 l0 x5_1).f0) == ((rd_T54 l1 x5_1).f0)) || (!((((rd_T54 l0 x5_1).f1).toList) == (((rd_T54 l1 x5_1).f1).toList)))) = true := c7
        clear c7
        obtain rfl := Option.some.inj H
        have p922 : 0 ≤ (x5_1 : Int) := Zo
        have q922 : x5_1 < (l0.length : Int) := Zo
        obtain ⟨ad922, e922, hx922_0, hx922_1⟩ := at_T54 HR0.out x5_1 p922 q922
        cases e922
        replace p922 := eq_true p922
        replace q922 := eq_true q922
        have p923 : 0 ≤ (x5_1 : Int) := Zo
        have q923 : x5_1 < (l1.length : Int) := Zo
        obtain ⟨ad923, e923, hx923_0, hx923_1⟩ := at_T54 HR1.out x5_1 p923 q923
        cases e923
        replace p923 := eq_true p923
        replace q923 := eq_true q923
        go_wp2
        repeat (go_quiet (fail); try go_wp2)
        go_ret
        exact ⟨by first | rfl | (simp; done) | (simp [*]; done), by repeat (first | exact Drawn0.refl _ | apply Drawn0.step)⟩
       rw [if_neg c7] at H
       have c7b0 : (!(((rd_T54 l0 x5_1).f0) == ((rd_T54 l1 x5_1).f0)) || (!((((rd_T54 l0 x5_1).f1).toList) == (((rd_T54 l1 x5_1).f1).toList)))) = false := by simpa using c7
       clear c7
       have H' := Zh H
       clear H
       have p922 : 0 ≤ (x5_1 : Int) := Zo
       have q922 : x5_1 < (l0.length : Int) := Zo
       obtain ⟨ad922, e922, hx922_0, hx922_1⟩ := at_T54 HR0.out x5_1 p922 q922
       cases e922
       replace p922 := eq_true p922
       replace q922 := eq_true q922
       have p923 : 0 ≤ (x5_1 : Int) := Zo
       have q923 : x5_1 < (l1.length : Int) := Zo
       obtain ⟨ad923, e923, hx923_0, hx923_1⟩ := at_T54 HR1.out x5_1 p923 q923
       cases e923
       replace p923 := eq_true p923
       replace q923 := eq_true q923
       go_wp2
       repeat (go_quiet (fail); try go_wp2)
       go_roundg k1
       case measure => have := HK1.out; omega
       case rel => exact ⟨(wrap64 (x5_1 + 1)), (by first | rfl | (simp; done) | (simp [*]; done)), H', ⟨by have := HK1.out; omega⟩, by repeat (first | exact Drawn0.refl _ | apply Drawn0.step)⟩
      rw [if_neg c6] at H
      exact absurd H (by simp)
     rw [if_neg c5] at H
     exact absurd H (by simp)
    rw [if_neg c4] at H
    have c4b0 : decide (x5_1 < (l0.length : Int)) = false := decide_eq_false c4
    clear c4
    obtain rfl := Option.some.inj H
    go_wp2
    repeat (go_quiet (fail); try go_wp2)
    go_ret
    exact ⟨by first | rfl | (simp; done) | (simp [*]; done), by repeat (first | exact Drawn0.refl _ | apply Drawn0.step)⟩
 rw [if_neg c3] at H
 have c3b0 : ((l0.length : Int) == (l1.length : Int)) = false := beq_eq_false_iff_ne.mpr c3
 have c3b1 : ((l0.length : Int) != (l1.length : Int)) = true := bne_iff_ne.mpr c3
 have c3b2 : (l0.length == l1.length) = false := by first | simpa using c3 | (simp at c3 ⊢; omega)
 obtain rfl := Option.some.inj H
 go_enter Try.func42, Try.ntmps42
 go_wp2
 repeat (go_quiet (fail); try go_wp2)
 go_ret
 exact ⟨by first | rfl | (simp; done) | (simp [*]; done), by repeat (first | exact Drawn0.refl _ | apply Drawn0.step)⟩
end Go.Proofs.Ytalbkbmnjpameaa.F

namespace Go.Proofs.Ytalbkbmnjpameaa.F
open Go.RowKit Go.Proofs.YtalbkbmnjpameaaW.PrintWords Go.Proofs.YtalbkbmnjpameaaW.PrintWords.Kd Go.Proofs.YtalbkbmnjpameaaW.PrintMore.Kd Go.Proofs.YtalbkbmnjpameaaW.PrintLast Go.Proofs.YtalbkbmnjpameaaW.PrintMore
attribute [local go_sem] max2_int min2_int max_two min_two max_three min_three max_four min_four   -- for this text's walks alone
set_option linter.unusedVariables false
set_option linter.unusedSimpArgs false
def laws_sameLog.f (k : Nat) (a0_0 : Int) (a0_1 : Int) (l0_2 : List (S54)) (a1_0 : Int) (a1_1 : Int) (l1_2 : List (S54)) : Option (Bool) := if a0_0 = a1_0 then (if a0_1 = a1_1 then ((laws_sameEntries.f k l0_2 l1_2).bind fun t926 => (some t926)) else (some false)) else (some false)
set_option maxHeartbeats 8000000 in
set_option maxRecDepth 100000 in
theorem laws_sameLog.calls (k : Nat) (a0_0 : Int) (a0_1 : Int) (A0_2 : Option Addr) (c0_2 : Nat) (l0_2 : List (S54)) (a1_0 : Int) (a1_1 : Int) (A1_2 : Option Addr) (c1_2 : Nat) (l1_2 : List (S54)) (r : Bool) (w : World) (hr0_2 : Kd.C k54 w A0_2 l0_2.length l0_2) (hc0_2 : l0_2.length ≤ c0_2) (hr1_2 : Kd.C k54 w A1_2 l1_2.length l1_2) (hc1_2 : l1_2.length ≤ c1_2) (h : laws_sameLog.f k a0_0 a0_1 l0_2 a1_0 a1_1 l1_2 = some r) :
  Calls Try.prog 41 #[.agg #[.int .i64 a0_0, .int .i64 a0_1, .slice A0_2 l0_2.length c0_2], .agg #[.int .i64 a1_0, .int .i64 a1_1, .slice A1_2 l1_2.length c1_2]] w fun e w' => e = .returned (.bool r) ∧ Below w.heap.size w w' := by
 have hu29 := Try.underlying29
 have HR0_2 := Zh hr0_2
 have HC0_2 := Zh hc0_2
 clear hr0_2 hc0_2
 have HR1_2 := Zh hr1_2
 have HC1_2 := Zh hc1_2
 clear hr1_2 hc1_2
 have HB := Zh (Below.refl w.heap.size w)
 have H : (if a0_0 = a1_0 then (if a0_1 = a1_1 then ((laws_sameEntries.f k l0_2 l1_2).bind fun t926 => (some t926)) else (some false)) else (some false)) = some r := h
 clear h
 by_cases c3 : a0_0 = a1_0
 ·
  rw [if_pos c3] at H
  have c3b0 : (a0_0 == a1_0) = true := beq_iff_eq.mpr c3
  have c3b1 : (a0_0 != a1_0) = false := bne_eq_false_iff_eq.mpr c3
  clear c3
  by_cases c4 : a0_1 = a1_1
  ·
   rw [if_pos c4] at H
   have c4b0 : (a0_1 == a1_1) = true := beq_iff_eq.mpr c4
   have c4b1 : (a0_1 != a1_1) = false := bne_eq_false_iff_eq.mpr c4
   clear c4
   replace H := Option.bind_eq_some_iff.mp H
   obtain ⟨t926, A50, H⟩ := H
   replace H : (some t926) = some r := H
   have A5 := Zh A50
   clear A50
   obtain rfl := Option.some.inj H
   go_enter Try.func41, Try.ntmps41
   go_wp2_with (first | ((with_reducible refine gate_dst (N := 2) rfl ?_); refine box_event ?hg (N := 2) ?hd (cs := #[.int .i64 a0_0, .int .i64 a0_1, .slice A0_2 l0_2.length c0_2]) (t := 29) ?hr ?_; (case hd => rfl); (case hg => rfl); (case hr => first | (go_simp; done) | (go_simp; rfl)); intro gb924 hg w6 hbox hb; have n0_ := Zh (Zl Zs hb); have n1_ := Zh (hbox); have n2_ := Zh ((by rw [hg]; exact (below_size Zs) : w.heap.size ≤ gb924)); have n3_ := Zh ((by rw [hg]; exact (below_size Zs) : w.heap.size ≤ gb924)); clear HB; have HB := n0_; have BK924 := n1_; have GW924 := n2_; have GE924 := n3_; clear n0_ n1_ n2_ n3_; clear hb hbox hg) | ((with_reducible refine gate_dst (N := 3) rfl ?_); refine box_event ?hg (N := 3) ?hd (cs := #[.int .i64 a1_0, .int .i64 a1_1, .slice A1_2 l1_2.length c1_2]) (t := 29) ?hr ?_; (case hd => rfl); (case hg => rfl); (case hr => first | (go_simp; done) | (go_simp; rfl)); intro gb925 hg w7 hbox hb; have n0_ := Zh (Zm (g := gb924) (o := .cells #[.int .i64 a0_0, .int .i64 a0_1, .slice A0_2 l0_2.length c0_2] 29 (0, 0)) Zk hb); have n1_ := Zh (Zl Zs hb); have n2_ := Zh (hbox); have n3_ := Zh ((by rw [hg]; exact (below_size Zs) : w.heap.size ≤ gb925)); have n4_ := Zh ((by rw [hg]; exact (below_size Zs) : w.heap.size ≤ gb925)); have n5_ := Zh ((by rw [hg]; exact Nat.ne_of_lt (blk_lt (g := gb924) (o := .cells #[.int .i64 a0_0, .int .i64 a0_1, .slice A0_2 l0_2.length c0_2] 29 (0, 0)) Zk) : gb924 ≠ gb925)); have n6_ := Zh ((by rw [hg]; exact Nat.ne_of_gt (blk_lt (g := gb924) (o := .cells #[.int .i64 a0_0, .int .i64 a0_1, .slice A0_2 l0_2.length c0_2] 29 (0, 0)) Zk) : gb925 ≠ gb924)); clear BK924; clear HB; have BK924 := n0_; have HB := n1_; have BK925 := n2_; have GW925 := n3_; have GE925 := n4_; have NB924_925 := n5_; have NB925_924 := n6_; clear n0_ n1_ n2_ n3_ n4_ n5_ n6_; clear hb hbox hg; have hnb8 := NB924_925.out; have hnc8 := NB925_924.out; have hcz9_0 : w7.cell? ⟨gb924, 0, none⟩ = some (.int .i64 a0_0) := (blk_cell BK924.out 0).trans rfl; have hcz9_1 : w7.cell? ⟨gb924, 1, none⟩ = some (.int .i64 a0_1) := (blk_cell BK924.out 1).trans rfl; have hcz9_2 : w7.cell? ⟨gb924, 2, none⟩ = some (.slice A0_2 l0_2.length c0_2) := (blk_cell BK924.out 2).trans rfl; have hfz9_0 := Zn BK924.out 0; have hfz9_1 := Zn BK924.out 1; have hfz9_2 := Zn BK924.out 2; have hcz10_0 : w7.cell? ⟨gb925, 0, none⟩ = some (.int .i64 a1_0) := (blk_cell BK925.out 0).trans rfl; have hcz10_1 : w7.cell? ⟨gb925, 1, none⟩ = some (.int .i64 a1_1) := (blk_cell BK925.out 1).trans rfl; have hcz10_2 : w7.cell? ⟨gb925, 2, none⟩ = some (.slice A1_2 l1_2.length c1_2) := (blk_cell BK925.out 2).trans rfl; have hfz10_0 := Zn BK925.out 0; have hfz10_1 := Zn BK925.out 1; have hfz10_2 := Zn BK925.out 2) | (go_at_call 42; (with_reducible refine (laws_sameEntries.calls k _ _ l0_2 _ _ l1_2 t926 _ ?side1 ?side2 ?side3 ?side4 A5.out).mono ?_); (case side1 => repeat (first | exact (C_below HR0_2.out HB.out) | (with_reducible refine C_alloc ?_ _) | (with_reducible refine C_drewN ?_ _) | (with_reducible refine C_drew ?_))); (case side2 => exact HC0_2.out); (case side3 => repeat (first | exact (C_below HR1_2.out HB.out) | (with_reducible refine C_alloc ?_ _) | (with_reducible refine C_drewN ?_ _) | (with_reducible refine C_drew ?_))); (case side4 => exact HC1_2.out); rintro e w' ⟨rfl, ⟨nd, rfl⟩⟩))
   go_ret
   exact ⟨by first | rfl | (simp [errW_none, errW_some] <;> rfl) | (simp [*, errW_none, errW_some] <;> rfl), by repeat (first | (with_reducible first | exact HB.out | apply Zf | apply Zd | apply Ze | refine Zg ?_ GE924.out | refine Zg ?_ GE925.out) | exact HB.out)⟩
  rw [if_neg c4] at H
  have c4b0 : (a0_1 == a1_1) = false := beq_eq_false_iff_ne.mpr c4
  have c4b1 : (a0_1 != a1_1) = true := bne_iff_ne.mpr c4
  obtain rfl := Option.some.inj H
  go_enter Try.func41, Try.ntmps41
  go_wp2_with (first | ((with_reducible refine gate_dst (N := 2) rfl ?_); refine box_event ?hg (N := 2) ?hd (cs := #[.int .i64 a0_0, .int .i64 a0_1, .slice A0_2 l0_2.length c0_2]) (t := 29) ?hr ?_; (case hd => rfl); (case hg => rfl); (case hr => first | (go_simp; done) | (go_simp; rfl)); intro gb924 hg w11 hbox hb; have n0_ := Zh (Zl Zs hb); have n1_ := Zh (hbox); have n2_ := Zh ((by rw [hg]; exact (below_size Zs) : w.heap.size ≤ gb924)); have n3_ := Zh ((by rw [hg]; exact (below_size Zs) : w.heap.size ≤ gb924)); clear HB; have HB := n0_; have BK924 := n1_; have GW924 := n2_; have GE924 := n3_; clear n0_ n1_ n2_ n3_; clear hb hbox hg) | ((with_reducible refine gate_dst (N := 3) rfl ?_); refine box_event ?hg (N := 3) ?hd (cs := #[.int .i64 a1_0, .int .i64 a1_1, .slice A1_2 l1_2.length c1_2]) (t := 29) ?hr ?_; (case hd => rfl); (case hg => rfl); (case hr => first | (go_simp; done) | (go_simp; rfl)); intro gb925 hg w12 hbox hb; have n0_ := Zh (Zm (g := gb924) (o := .cells #[.int .i64 a0_0, .int .i64 a0_1, .slice A0_2 l0_2.length c0_2] 29 (0, 0)) Zk hb); have n1_ := Zh (Zl Zs hb); have n2_ := Zh (hbox); have n3_ := Zh ((by rw [hg]; exact (below_size Zs) : w.heap.size ≤ gb925)); have n4_ := Zh ((by rw [hg]; exact (below_size Zs) : w.heap.size ≤ gb925)); have n5_ := Zh ((by rw [hg]; exact Nat.ne_of_lt (blk_lt (g := gb924) (o := .cells #[.int .i64 a0_0, .int .i64 a0_1, .slice A0_2 l0_2.length c0_2] 29 (0, 0)) Zk) : gb924 ≠ gb925)); have n6_ := Zh ((by rw [hg]; exact Nat.ne_of_gt (blk_lt (g := gb924) (o := .cells #[.int .i64 a0_0, .int .i64 a0_1, .slice A0_2 l0_2.length c0_2] 29 (0, 0)) Zk) : gb925 ≠ gb924)); clear BK924; clear HB; have BK924 := n0_; have HB := n1_; have BK925 := n2_; have GW925 := n3_; have GE925 := n4_; have NB924_925 := n5_; have NB925_924 := n6_; clear n0_ n1_ n2_ n3_ n4_ n5_ n6_; clear hb hbox hg; have hnb13 := NB924_925.out; have hnc13 := NB925_924.out; have hcz14_0 : w12.cell? ⟨gb924, 0, none⟩ = some (.int .i64 a0_0) := (blk_cell BK924.out 0).trans rfl; have hcz14_1 : w12.cell? ⟨gb924, 1, none⟩ = some (.int .i64 a0_1) := (blk_cell BK924.out 1).trans rfl; have hcz14_2 : w12.cell? ⟨gb924, 2, none⟩ = some (.slice A0_2 l0_2.length c0_2) := (blk_cell BK924.out 2).trans rfl; have hfz14_0 := Zn BK924.out 0; have hfz14_1 := Zn BK924.out 1; have hfz14_2 := Zn BK924.out 2; have hcz15_0 : w12.cell? ⟨gb925, 0, none⟩ = some (.int .i64 a1_0) := (blk_cell BK925.out 0).trans rfl; have hcz15_1 : w12.cell? ⟨gb925, 1, none⟩ = some (.int .i64 a1_1) := (blk_cell BK925.out 1).trans rfl; have hcz15_2 : w12.cell? ⟨gb925, 2, none⟩ = some (.slice A1_2 l1_2.length c1_2) := (blk_cell BK925.out 2).trans rfl; have hfz15_0 := Zn BK925.out 0; have hfz15_1 := Zn BK925.out 1; have hfz15_2 := Zn BK925.out 2))
  go_ret
  exact ⟨by first | rfl | (simp [errW_none, errW_some] <;> rfl) | (simp [*, errW_none, errW_some] <;> rfl), by repeat (first | (with_reducible first | exact HB.out | apply Zf | apply Zd | apply Ze | refine Zg ?_ GE924.out | refine Zg ?_ GE925.out) | exact HB.out)⟩
 rw [if_neg c3] at H
 have c3b0 : (a0_0 == a1_0) = false := beq_eq_false_iff_ne.mpr c3
 have c3b1 : (a0_0 != a1_0) = true := bne_iff_ne.mpr c3
 obtain rfl := Option.some.inj H
 go_enter Try.func41, Try.ntmps41
 go_wp2_with (first | ((with_reducible refine gate_dst (N := 2) rfl ?_); refine box_event ?hg (N := 2) ?hd (cs := #[.int .i64 a0_0, .int .i64 a0_1, .slice A0_2 l0_2.length c0_2]) (t := 29) ?hr ?_; (case hd => rfl); (case hg => rfl); (case hr => first | (go_simp; done) | (go_simp; rfl)); intro gb924 hg w16 hbox hb; have n0_ := Zh (Zl Zs hb); have n1_ := Zh (hbox); have n2_ := Zh ((by rw [hg]; exact (below_size Zs) : w.heap.size ≤ gb924)); have n3_ := Zh ((by rw [hg]; exact (below_size Zs) : w.heap.size ≤ gb924)); clear HB; have HB := n0_; have BK924 := n1_; have GW924 := n2_; have GE924 := n3_; clear n0_ n1_ n2_ n3_; clear hb hbox hg) | ((with_reducible refine gate_dst (N := 3) rfl ?_); refine box_event ?hg (N := 3) ?hd (cs := #[.int .i64 a1_0, .int .i64 a1_1, .slice A1_2 l1_2.length c1_2]) (t := 29) ?hr ?_; (case hd => rfl); (case hg => rfl); (case hr => first | (go_simp; done) | (go_simp; rfl)); intro gb925 hg w17 hbox hb; have n0_ := Zh (Zm (g := gb924) (o := .cells #[.int .i64 a0_0, .int .i64 a0_1, .slice A0_2 l0_2.length c0_2] 29 (0, 0)) Zk hb); have n1_ := Zh (Zl Zs hb); have n2_ := Zh (hbox); have n3_ := Zh ((by rw [hg]; exact (below_size Zs) : w.heap.size ≤ gb925)); have n4_ := Zh ((by rw [hg]; exact (below_size Zs) : w.heap.size ≤ gb925)); have n5_ := Zh ((by rw [hg]; exact Nat.ne_of_lt (blk_lt (g := gb924) (o := .cells #[.int .i64 a0_0, .int .i64 a0_1, .slice A0_2 l0_2.length c0_2] 29 (0, 0)) Zk) : gb924 ≠ gb925)); have n6_ := Zh ((by rw [hg]; exact Nat.ne_of_gt (blk_lt (g := gb924) (o := .cells #[.int .i64 a0_0, .int .i64 a0_1, .slice A0_2 l0_2.length c0_2] 29 (0, 0)) Zk) : gb925 ≠ gb924)); clear BK924; clear HB; have BK924 := n0_; have HB := n1_; have BK925 := n2_; have GW925 := n3_; have GE925 := n4_; have NB924_925 := n5_; have NB925_924 := n6_; clear n0_ n1_ n2_ n3_ n4_ n5_ n6_; clear hb hbox hg; have hnb18 := NB924_925.out; have hnc18 := NB925_924.out; have hcz19_0 : w17.cell? ⟨gb924, 0, none⟩ = some (.int .i64 a0_0) := (blk_cell BK924.out 0).trans rfl; have hcz19_1 : w17.cell? ⟨gb924, 1, none⟩ = some (.int .i64 a0_1) := (blk_cell BK924.out 1).trans rfl; have hcz19_2 : w17.cell? ⟨gb924, 2, none⟩ = some (.slice A0_2 l0_2.length c0_2) := (blk_cell BK924.out 2).trans rfl; have hfz19_0 := Zn BK924.out 0; have hfz19_1 := Zn BK924.out 1; have hfz19_2 := Zn BK924.out 2; have hcz20_0 : w17.cell? ⟨gb925, 0, none⟩ = some (.int .i64 a1_0) := (blk_cell BK925.out 0).trans rfl; have hcz20_1 : w17.cell? ⟨gb925, 1, none⟩ = some (.int .i64 a1_1) := (blk_cell BK925.out 1).trans rfl; have hcz20_2 : w17.cell? ⟨gb925, 2, none⟩ = some (.slice A1_2 l1_2.length c1_2) := (blk_cell BK925.out 2).trans rfl; have hfz20_0 := Zn BK925.out 0; have hfz20_1 := Zn BK925.out 1; have hfz20_2 := Zn BK925.out 2))
 go_ret
 exact ⟨by first | rfl | (simp [errW_none, errW_some] <;> rfl) | (simp [*, errW_none, errW_some] <;> rfl), by repeat (first | (with_reducible first | exact HB.out | apply Zf | apply Zd | apply Ze | refine Zg ?_ GE924.out | refine Zg ?_ GE925.out) | exact HB.out)⟩
end Go.Proofs.Ytalbkbmnjpameaa.F
