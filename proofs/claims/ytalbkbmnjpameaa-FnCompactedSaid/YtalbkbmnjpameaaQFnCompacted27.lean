/- Merged texts below the law FnCompacted: Go functions as Lean functions, their contracts, and plain lemmas. -/
import Derived.Test.YtalbkbmnjpameaaQFnCompacted14
import Derived.Test.YtalbkbmnjpameaaQFnCompacted23
import Derived.Test.YtalbkbmnjpameaaQFnCompacted24
import Derived.Test.YtalbkbmnjpameaaQFnCompacted25
import Derived.Test.YtalbkbmnjpameaaQFnCompacted26
namespace Go.Proofs.Ytalbkbmnjpameaa.F
open Go.Proofs.Ytalbkbmnjpameaa
open Go.RowKit Go.Proofs.YtalbkbmnjpameaaW.PrintWords Go.Proofs.YtalbkbmnjpameaaW.PrintWords.Kd Go.Proofs.YtalbkbmnjpameaaW.PrintMore.Kd Go.Proofs.YtalbkbmnjpameaaW.PrintLast Go.Proofs.YtalbkbmnjpameaaW.PrintMore
attribute [local go_sem] max2_int min2_int max_two min_two max_three min_three max_four min_four   -- for this text's walks alone
set_option linter.unusedVariables false
set_option linter.unusedSimpArgs false
mutual
def laws_FnCompacted.l0 : Nat → Int → List (S54) → Int → Int → Int → List (S54) → Int → Int → List (S54) → Option (Bool)
 | 0, _, _, _, _, _, _, _, _, _ => none
 | k + 1, x4, x5, x8, x938000, x938001, x938002, x945000, x945001, x945002 => (impl_LastIndex.f k x938000 x938001 x938002).bind fun t978 => (if x8 ≤ t978 then ((impl_TermAt.f k x945000 x945001 x945002 x8).bind fun t979 => ((impl_TermAt.f k x938000 x938001 x938002 x8).bind fun t980 => (if t979 = t980 then (laws_FnCompacted.l0 k x4 x5 (wrap64 (x8 + 1)) x938000 x938001 x938002 x945000 x945001 x945002) else (none)))) else (if x4 > 0 then ((impl_TermAt.f k x945000 x945001 x945002 (wrap64 (x4 - 1))).bind fun t981 => (laws_FnCompacted.j1 k x4 x5 (t981 != (-1)) x938000 x938001 x938002 x945000 x945001 x945002)) else (laws_FnCompacted.j1 k x4 x5 false x938000 x938001 x938002 x945000 x945001 x945002)))
def laws_FnCompacted.j1 : Nat → Int → List (S54) → Bool → Int → Int → List (S54) → Int → Int → List (S54) → Option (Bool)
 | 0, _, _, _, _, _, _, _, _, _ => none
 | k + 1, x4, x5, x69, x938000, x938001, x938002, x945000, x945001, x945002 => if x69 = true then (none) else ((spec_TermAt.f k x938000 x938001 x938002 x4).bind fun t982 => ((impl_AppendTo.f k x938000 x938001 x938002 x4 t982 x5).bind fun bt983 => ((spec_TermAt.f k x938000 x938001 x938002 x4).bind fun t990 => ((impl_AppendTo.f k x945000 x945001 x945002 x4 t990 x5).bind fun bt991 => (if bt983.2.2.2 = true then (if bt991.2.2.2 = true then (laws_FnCompacted.j2 k x4 bt983.2.2.2 false x938000 x938001 x938002 x945000 x945001 x945002 bt983.1 bt983.2.1 bt983.2.2.1 bt991.1 bt991.2.1 bt991.2.2.1) else (none)) else (if bt991.2.2.2 = true then (laws_FnCompacted.j2 k x4 bt983.2.2.2 false x938000 x938001 x938002 x945000 x945001 x945002 bt983.1 bt983.2.1 bt983.2.2.1 bt991.1 bt991.2.1 bt991.2.2.1) else ((laws_sameLog.f k bt991.1 bt991.2.1 bt991.2.2.1 x945000 x945001 x945002).bind fun t998 => (laws_FnCompacted.j2 k x4 bt983.2.2.2 (!t998) x938000 x938001 x938002 x945000 x945001 x945002 bt983.1 bt983.2.1 bt983.2.2.1 bt991.1 bt991.2.1 bt991.2.2.1))))))))
def laws_FnCompacted.j2 : Nat → Int → Bool → Bool → Int → Int → List (S54) → Int → Int → List (S54) → Int → Int → List (S54) → Int → Int → List (S54) → Option (Bool)
 | 0, _, _, _, _, _, _, _, _, _, _, _, _, _, _, _ => none
 | k + 1, x4, x10, x104, x938000, x938001, x938002, x945000, x945001, x945002, x990000, x990001, x990002, x998000, x998001, x998002 => if x104 = true then (none) else (if x10 = true then ((impl_TailOf.f k x990000 x990001 x990002 (wrap64 (x4 + 1)) 60).bind fun t999 => ((impl_TailOf.f k x998000 x998001 x998002 (wrap64 (x4 + 1)) 60).bind fun t1002 => ((laws_sameEntries.f k t999 t1002).bind fun t1005 => (if t1005 = true then ((impl_Agree.f k x945000 x945001 x945002 x938000 x938001 x938002).bind fun t1006 => ((impl_LastIndex.f k x938000 x938001 x938002).bind fun t1007 => (some (t1006 == t1007)))) else (none))))) else (some true))
end
def laws_FnCompacted.f (k : Nat) (l0 : List Int) : Option (Bool) := (laws_big.f l0).bind fun t927 => (if t927 = true then (some true) else ((spec_DrawRightLog.f k l0).bind fun bt928 => ((impl_CompactTo.f k bt928.1 bt928.2.1 bt928.2.2.1 bt928.2.2.2.1).bind fun bt938 => (if bt938.2.2.2 = true then ((impl_RLogOk.f k bt938.1 bt938.2.1 bt938.2.2.1).bind fun t945 => (if t945 = true then ((impl_LastIndex.f k bt938.1 bt938.2.1 bt938.2.2.1).bind fun t946 => ((impl_LastIndex.f k bt928.1 bt928.2.1 bt928.2.2.1).bind fun t947 => (if t946 = t947 then (if bt938.1 = bt928.2.2.2.1 then (laws_FnCompacted.l0 k bt928.2.2.2.1 bt928.2.2.2.2 bt928.2.2.2.1 bt928.1 bt928.2.1 bt928.2.2.1 bt938.1 bt938.2.1 bt938.2.2.1) else (none)) else (none)))) else (none))) else (none)))))
def laws_FnCompacted.T5 : Bool × List (List Nat × List Nat) := (true, [([], []), ([0], [0]), ([1], [1]), ([2], [2]), ([3, 2, 2], [2, 3]), ([4, 2], [2, 4]), ([2, 5], [2, 5]), ([6, 4], [6]), ([7], [7]), ([8, 7, 7], [7, 8]), ([7], [7]), ([10, 9, 7], [7, 10]), ([9, 11, 7], [7, 9, 11]), ([7, 12], [7, 12]), ([13, 11], [13]), ([14], [14]), ([15, 14], [14, 15]), ([14], [14]), ([16, 17, 14], [14, 16, 17]), ([14, 18], [14, 18])])
def laws_FnCompacted.B5 : List Nat := [0, 1, 3, 7, 15, 31, 63, 127, 255, 511, 255, 2047, 4095, 8191, 16383, 32767, 65535, 32767, 262143, 524287]
theorem laws_FnCompacted.tab5 : rtab .any (opsOf Try.f11 5) = laws_FnCompacted.T5 := by kernel_rfl
theorem laws_FnCompacted.bits5 : waitsOk laws_FnCompacted.T5.2 laws_FnCompacted.B5 = true := by kernel_rfl
def laws_FnCompacted.T14 : Bool × List (List Nat × List Nat) := (true, [([], []), ([], []), ([], []), ([], []), ([2, 3], [2, 3]), ([], []), ([0, 1, 4, 5, 4], [0, 1, 4, 5]), ([6], [6]), ([7], [7]), ([7], [7]), ([], []), ([10, 8, 6, 0, 1, 2, 3, 4, 5, 6, 7, 8, 10], [8, 10]), ([9, 11, 0, 1, 2, 3, 4, 5, 6, 7, 8, 9, 10, 11], [9])])
def laws_FnCompacted.B14 : List Nat := [0, 0, 0, 0, 12, 0, 63, 127, 255, 255, 0, 1535, 4095]
theorem laws_FnCompacted.tab14 : rtab .any (opsOf Try.f11 14) = laws_FnCompacted.T14 := by kernel_rfl
theorem laws_FnCompacted.bits14 : waitsOk laws_FnCompacted.T14.2 laws_FnCompacted.B14 = true := by kernel_rfl
def laws_FnCompacted.T15 : Bool × List (List Nat × List Nat) := (true, [([], []), ([], []), ([], []), ([], []), ([2, 3], [2, 3]), ([], []), ([0, 1, 4, 5, 4], [0, 1, 4, 5]), ([6], [6]), ([7], [7]), ([7], [7]), ([], []), ([10, 8, 6, 0, 1, 2, 3, 4, 5, 6, 7, 8, 10], [8, 10]), ([9, 11, 0, 1, 2, 3, 4, 5, 6, 7, 8, 9, 10, 11], [9])])
def laws_FnCompacted.B15 : List Nat := [0, 0, 0, 0, 12, 0, 63, 127, 255, 255, 0, 1535, 4095]
theorem laws_FnCompacted.tab15 : rtab .any (opsOf Try.f11 15) = laws_FnCompacted.T15 := by kernel_rfl
theorem laws_FnCompacted.bits15 : waitsOk laws_FnCompacted.T15.2 laws_FnCompacted.B15 = true := by kernel_rfl
def laws_FnCompacted.T18 : Bool × List (List Nat × List Nat) := (true, [([], []), ([0], [0]), ([1], [1]), ([2], [2]), ([2], [2]), ([4, 2], [2, 4]), ([3, 5, 2, 2], [2, 3, 5]), ([2], [2]), ([2], [2]), ([8, 2], [2, 8]), ([7, 9, 6, 2], [2, 7, 9]), ([6, 10, 10, 2], [2, 6, 10]), ([11, 11, 2], [2, 11]), ([12], [12]), ([12], [12]), ([13, 14, 12, 12], [12, 13, 14]), ([12], [12]), ([16, 15, 12], [12, 16]), ([15, 17, 12], [12, 15, 17]), ([12, 18, 2], [2, 12, 18]), ([2, 19], [2, 19]), ([20, 17, 0, 1, 2, 3, 4, 5, 6, 7, 8, 9, 10, 11, 12, 13, 14, 15, 16, 17, 18, 19, 20], [20])])
def laws_FnCompacted.B18 : List Nat := [0, 1, 3, 7, 7, 23, 63, 7, 7, 263, 1023, 2047, 4095, 8191, 8191, 32767, 8191, 131071, 262143, 524287, 1048575, 2097151]
theorem laws_FnCompacted.tab18 : rtab .any (opsOf Try.f11 18) = laws_FnCompacted.T18 := by kernel_rfl
theorem laws_FnCompacted.bits18 : waitsOk laws_FnCompacted.T18.2 laws_FnCompacted.B18 = true := by kernel_rfl
set_option maxHeartbeats 8000000 in
set_option maxRecDepth 100000 in
theorem laws_FnCompacted.calls (k : Nat) (A0 : Option Addr) (c0 : Nat) (l0 : List Int) (r : Bool) (w : World) (hr0 : Kd.C (Kd.int .u8) w A0 l0.length l0) (hc0 : l0.length ≤ c0) (h : laws_FnCompacted.f k l0 = some r) :
  Calls Try.prog 11 #[.slice A0 l0.length c0] w fun e w' => e = .returned (.bool r) ∧ Below w.heap.size w w' := by
 have hu29 := Try.underlying29
 have HR0 := Aside0.mk hr0
 have HC0 := Aside0.mk hc0
 clear hr0 hc0
 have HB := Aside0.mk (Below.refl w.heap.size w)
 have H : ((laws_big.f l0).bind fun t927 => (if t927 = true then (some true) else ((spec_DrawRightLog.f k l0).bind fun bt928 => ((impl_CompactTo.f k bt928.1 bt928.2.1 bt928.2.2.1 bt928.2.2.2.1).bind fun bt938 => (if bt938.2.2.2 = true then ((impl_RLogOk.f k bt938.1 bt938.2.1 bt938.2.2.1).bind fun t945 => (if t945 = true then ((impl_LastIndex.f k bt938.1 bt938.2.1 bt938.2.2.1).bind fun t946 => ((impl_LastIndex.f k bt928.1 bt928.2.1 bt928.2.2.1).bind fun t947 => (if t946 = t947 then (if bt938.1 = bt928.2.2.2.1 then (laws_FnCompacted.l0 k bt928.2.2.2.1 bt928.2.2.2.2 bt928.2.2.2.1 bt928.1 bt928.2.1 bt928.2.2.1 bt938.1 bt938.2.1 bt938.2.2.1) else (none)) else (none)))) else (none))) else (none)))))) = some r := h
 clear h
 replace H := Option.bind_eq_some_iff.mp H
 obtain ⟨t927, A20, H⟩ := H
 replace H : (if t927 = true then (some true) else ((spec_DrawRightLog.f k l0).bind fun bt928 => ((impl_CompactTo.f k bt928.1 bt928.2.1 bt928.2.2.1 bt928.2.2.2.1).bind fun bt938 => (if bt938.2.2.2 = true then ((impl_RLogOk.f k bt938.1 bt938.2.1 bt938.2.2.1).bind fun t945 => (if t945 = true then ((impl_LastIndex.f k bt938.1 bt938.2.1 bt938.2.2.1).bind fun t946 => ((impl_LastIndex.f k bt928.1 bt928.2.1 bt928.2.2.1).bind fun t947 => (if t946 = t947 then (if bt938.1 = bt928.2.2.2.1 then (laws_FnCompacted.l0 k bt928.2.2.2.1 bt928.2.2.2.2 bt928.2.2.2.1 bt928.1 bt928.2.1 bt928.2.2.1 bt938.1 bt938.2.1 bt938.2.2.1) else (none)) else (none)))) else (none))) else (none))))) = some r := H
 have A2 := Aside0.mk A20
 clear A20
 by_cases c3 : t927 = true
 ·
  subst c3
  have H1 : (some true) = some r := by rw [if_pos rfl] at H; exact H
  clear H
  have H := H1
  clear H1
  obtain rfl := Option.some.inj H
  go_enter Try.func11, Try.ntmps11
  go_wp2_with (first | ((with_reducible refine gate_callee (f := 39) rfl ?_); refine goesL_ (some 14) rfl rfl Try.func39 (by kernel_rfl) rfl #[.slice A0 l0.length c0] rfl (by (try simp only [List.map_toArray, List.map_cons, List.map_nil]); first | done | rfl | (simp only [List.length_drop, List.length_take]; rfl)) ?_; (with_reducible refine (laws_big.calls _ _ l0 true _ ?side1 ?side2 A2.out).mono ?_); (case side1 => repeat (first | exact HR0.out | (with_reducible refine C_alloc ?_ _) | (with_reducible refine C_drewN ?_ _) | (with_reducible refine C_drew ?_))); (case side2 => exact HC0.out); rintro e w' ⟨rfl, ⟨nd, rfl⟩⟩; refine ⟨_, rfl, ?_⟩))
  go_ret
  exact ⟨by first | rfl | (simp [errW_none, errW_some] <;> rfl) | (simp [*, errW_none, errW_some] <;> rfl), by repeat (first | (with_reducible first | exact HB.out | apply below_alloc | apply pw_below_drewN | apply below_drew1) | exact HB.out)⟩
 ·
  replace c3 := Bool.eq_false_iff.mpr c3
  subst c3
  have H1 : ((spec_DrawRightLog.f k l0).bind fun bt928 => ((impl_CompactTo.f k bt928.1 bt928.2.1 bt928.2.2.1 bt928.2.2.2.1).bind fun bt938 => (if bt938.2.2.2 = true then ((impl_RLogOk.f k bt938.1 bt938.2.1 bt938.2.2.1).bind fun t945 => (if t945 = true then ((impl_LastIndex.f k bt938.1 bt938.2.1 bt938.2.2.1).bind fun t946 => ((impl_LastIndex.f k bt928.1 bt928.2.1 bt928.2.2.1).bind fun t947 => (if t946 = t947 then (if bt938.1 = bt928.2.2.2.1 then (laws_FnCompacted.l0 k bt928.2.2.2.1 bt928.2.2.2.2 bt928.2.2.2.1 bt928.1 bt928.2.1 bt928.2.2.1 bt938.1 bt938.2.1 bt938.2.2.1) else (none)) else (none)))) else (none))) else (none)))) = some r := by rw [if_neg (show ¬ (false = true) by decide)] at H; exact H
  clear H
  have H := H1
  clear H1
  replace H := Option.bind_eq_some_iff.mp H
  obtain ⟨⟨t928, t929, t930, t933, t934⟩, A40, H⟩ := H
  replace H : ((impl_CompactTo.f k t928 t929 t930 t933).bind fun bt938 => (if bt938.2.2.2 = true then ((impl_RLogOk.f k bt938.1 bt938.2.1 bt938.2.2.1).bind fun t945 => (if t945 = true then ((impl_LastIndex.f k bt938.1 bt938.2.1 bt938.2.2.1).bind fun t946 => ((impl_LastIndex.f k t928 t929 t930).bind fun t947 => (if t946 = t947 then (if bt938.1 = t933 then (laws_FnCompacted.l0 k t933 t934 t933 t928 t929 t930 bt938.1 bt938.2.1 bt938.2.2.1) else (none)) else (none)))) else (none))) else (none))) = some r := H
  have A4 := Aside0.mk A40
  clear A40
  replace H := Option.bind_eq_some_iff.mp H
  obtain ⟨⟨t938, t939, t940, t943⟩, A50, H⟩ := H
  replace H : (if t943 = true then ((impl_RLogOk.f k t938 t939 t940).bind fun t945 => (if t945 = true then ((impl_LastIndex.f k t938 t939 t940).bind fun t946 => ((impl_LastIndex.f k t928 t929 t930).bind fun t947 => (if t946 = t947 then (if t938 = t933 then (laws_FnCompacted.l0 k t933 t934 t933 t928 t929 t930 t938 t939 t940) else (none)) else (none)))) else (none))) else (none)) = some r := H
  have A5 := Aside0.mk A50
  clear A50
  by_cases c6 : t943 = true
  ·
   subst c6
   have H1 : ((impl_RLogOk.f k t938 t939 t940).bind fun t945 => (if t945 = true then ((impl_LastIndex.f k t938 t939 t940).bind fun t946 => ((impl_LastIndex.f k t928 t929 t930).bind fun t947 => (if t946 = t947 then (if t938 = t933 then (laws_FnCompacted.l0 k t933 t934 t933 t928 t929 t930 t938 t939 t940) else (none)) else (none)))) else (none))) = some r := by rw [if_pos rfl] at H; exact H
   clear H
   have H := H1
   clear H1
   replace H := Option.bind_eq_some_iff.mp H
   obtain ⟨t945, A70, H⟩ := H
   replace H : (if t945 = true then ((impl_LastIndex.f k t938 t939 t940).bind fun t946 => ((impl_LastIndex.f k t928 t929 t930).bind fun t947 => (if t946 = t947 then (if t938 = t933 then (laws_FnCompacted.l0 k t933 t934 t933 t928 t929 t930 t938 t939 t940) else (none)) else (none)))) else (none)) = some r := H
   have A7 := Aside0.mk A70
   clear A70
   by_cases c8 : t945 = true
   ·
    subst c8
    have H1 : ((impl_LastIndex.f k t938 t939 t940).bind fun t946 => ((impl_LastIndex.f k t928 t929 t930).bind fun t947 => (if t946 = t947 then (if t938 = t933 then (laws_FnCompacted.l0 k t933 t934 t933 t928 t929 t930 t938 t939 t940) else (none)) else (none)))) = some r := by rw [if_pos rfl] at H; exact H
    clear H
    have H := H1
    clear H1
    replace H := Option.bind_eq_some_iff.mp H
    obtain ⟨t946, A90, H⟩ := H
    replace H : ((impl_LastIndex.f k t928 t929 t930).bind fun t947 => (if t946 = t947 then (if t938 = t933 then (laws_FnCompacted.l0 k t933 t934 t933 t928 t929 t930 t938 t939 t940) else (none)) else (none))) = some r := H
    have A9 := Aside0.mk A90
    clear A90
    replace H := Option.bind_eq_some_iff.mp H
    obtain ⟨t947, A100, H⟩ := H
    replace H : (if t946 = t947 then (if t938 = t933 then (laws_FnCompacted.l0 k t933 t934 t933 t928 t929 t930 t938 t939 t940) else (none)) else (none)) = some r := H
    have A10 := Aside0.mk A100
    clear A100
    by_cases c11 : t946 = t947
    ·
     rw [if_pos c11] at H
     have c11b0 : (t946 == t947) = true := beq_iff_eq.mpr c11
     have c11b1 : (t946 != t947) = false := bne_eq_false_iff_eq.mpr c11
     clear c11
     by_cases c12 : t938 = t933
     ·
      rw [if_pos c12] at H
      have c12b0 : (t938 == t933) = true := beq_iff_eq.mpr c12
      have c12b1 : (t938 != t933) = false := bne_eq_false_iff_eq.mpr c12
      clear c12
      have H' := Aside0.mk H
      clear H
      go_enter Try.func11, Try.ntmps11
      try go_wp2_with (first | ((with_reducible refine gate_callee (f := 39) rfl ?_); refine goesL_ (some 14) rfl rfl Try.func39 (by kernel_rfl) rfl #[.slice A0 l0.length c0] rfl (by (try simp only [List.map_toArray, List.map_cons, List.map_nil]); first | done | rfl | (simp only [List.length_drop, List.length_take]; rfl)) ?_; (with_reducible refine (laws_big.calls _ _ l0 false _ ?side1 ?side2 A2.out).mono ?_); (case side1 => repeat (first | exact HR0.out | (with_reducible refine C_alloc ?_ _) | (with_reducible refine C_drewN ?_ _) | (with_reducible refine C_drew ?_))); (case side2 => exact HC0.out); rintro e w' ⟨rfl, ⟨nd, rfl⟩⟩; refine ⟨_, rfl, ?_⟩) | ((with_reducible refine gate_callee (f := 40) rfl ?_); refine goesL_ (some 17) rfl rfl Try.func40 (by kernel_rfl) rfl #[.slice A0 l0.length c0] rfl (by (try simp only [List.map_toArray, List.map_cons, List.map_nil]); first | done | rfl | (simp only [List.length_drop, List.length_take]; rfl)) ?_; (with_reducible refine (spec_DrawRightLog.calls k _ _ l0 t928 t929 t930 t933 t934 _ ?side1 ?side2 A4.out).mono ?_); (case side1 => repeat (first | exact HR0.out | (with_reducible refine C_alloc ?_ _) | (with_reducible refine C_drewN ?_ _) | (with_reducible refine C_drew ?_))); (case side2 => exact HC0.out); rintro e w13 ⟨v931, v935, rfl, ho0, ho1, hb⟩; refine ⟨_, rfl, ?_⟩; have n0_ := Aside0.mk (R_lower ho0 (below_size (by repeat (first | (with_reducible first | exact HB.out | apply below_alloc | apply pw_below_drewN | apply below_drew1) | exact HB.out)))); have n1_ := Aside0.mk (R_lower ho1 (below_size (by repeat (first | (with_reducible first | exact HB.out | apply below_alloc | apply pw_below_drewN | apply below_drew1) | exact HB.out)))); have n2_ := Aside0.mk (below_step (by repeat (first | (with_reducible first | exact HB.out | apply below_alloc | apply pw_below_drewN | apply below_drew1) | exact HB.out)) hb); clear HB; have HO932 := n0_; have HO936 := n1_; have HB := n2_; clear n0_ n1_ n2_; (try clear hb); (try clear hb2); (try clear hk); (try clear hi); (try clear ho0); (try clear ho1)) | ((with_reducible refine gate_dst (N := 3) rfl ?_); refine box_event ?hg (N := 3) ?hd (cs := #[.int .i64 0, .int .i64 0, .slice none 0 0]) (t := 29) ?hr ?_; (case hd => rfl); (case hg => rfl); (case hr => first | (go_simp; done) | (go_simp; rfl)); intro gb937 hg w14 hbox hb; have n0_ := Aside0.mk (R_below (by (with_reducible repeat (first | apply R_alloc | apply R_drewN | apply R_drew)); exact HO932.out) hb); have n1_ := Aside0.mk (R_below (by (with_reducible repeat (first | apply R_alloc | apply R_drewN | apply R_drew)); exact HO936.out) hb); have n2_ := Aside0.mk (below_step (by repeat (first | (with_reducible first | exact HB.out | apply below_alloc | apply pw_below_drewN | apply below_drew1) | exact HB.out)) hb); have n3_ := Aside0.mk (hbox); have n4_ := Aside0.mk ((by rw [hg]; exact (below_size (by repeat (first | (with_reducible first | exact HB.out | apply below_alloc | apply pw_below_drewN | apply below_drew1) | exact HB.out))) : w.heap.size ≤ gb937)); have n5_ := Aside0.mk ((by rw [hg]; exact (below_size (by repeat (first | (with_reducible first | exact HB.out | apply below_alloc | apply pw_below_drewN | apply below_drew1) | exact HB.out))) : w.heap.size ≤ gb937)); clear HO932; clear HO936; clear HB; have HO932 := n0_; have HO936 := n1_; have HB := n2_; have BK937 := n3_; have GW937 := n4_; have GE937 := n5_; clear n0_ n1_ n2_ n3_ n4_ n5_; clear hb hbox hg; have hcz15_0 : w14.cell? ⟨gb937, 0, none⟩ = some (.int .i64 0) := (blk_cell BK937.out 0).trans rfl; have hcz15_1 : w14.cell? ⟨gb937, 1, none⟩ = some (.int .i64 0) := (blk_cell BK937.out 1).trans rfl; have hcz15_2 : w14.cell? ⟨gb937, 2, none⟩ = some (.slice none 0 0) := (blk_cell BK937.out 2).trans rfl; have hfz15_0 := blk_frozen BK937.out 0; have hfz15_1 := blk_frozen BK937.out 1; have hfz15_2 := blk_frozen BK937.out 2; obtain ⟨Ao16, co16, eo16⟩ := R_slice HO932.out; subst eo16) | ((with_reducible refine gate_callee (f := 33) rfl ?_); refine goesL_ (some 24) rfl rfl Try.func33 (by kernel_rfl) rfl #[.agg #[.int .i64 t928, .int .i64 t929, .slice Ao16 t930.length co16], .int .i64 t933] rfl (by (try simp only [List.map_toArray, List.map_cons, List.map_nil]); first | done | rfl | (simp only [List.length_drop, List.length_take]; rfl)) ?_; (with_reducible refine (impl_CompactTo.calls k t928 t929 _ _ t930 t933 t938 t939 t940 true _ ?side1 ?side2 A5.out).mono ?_); (case side1 => refine (R_reads' (e := 54) (base := w.heap.size) (ok := fun k_ => some k_ ≠ (v935 : Value).ownBlock) (n := t930.length) (c := co16) ?_).2.2; exact (by (with_reducible repeat (first | apply R_alloc | apply R_drewN | apply R_drew)); exact (R_mono (R_far (p := ⟨gb937, 2, none⟩) (R_far (p := ⟨gb937, 1, none⟩) (R_far (p := ⟨gb937, 0, none⟩) (R_types HO932.out BK937.out (by decide)) (fun _ hk => hk.2) (.int .i64 t928)) (fun _ hk => hk.2) (.int .i64 t929)) (fun _ hk => hk.2) (.slice Ao16 t930.length co16)) (fun _ h_ => h_.1)))); (case side2 => exact (R_reads' HO932.out).2.1); rintro e w17 ⟨v941, rfl, ho0, hb⟩; refine ⟨_, rfl, ?_⟩; have n0_ := Aside0.mk (R_elder' (by (with_reducible repeat (first | apply R_alloc | apply R_drewN | apply R_drew)); exact (R_mono (R_far (p := ⟨gb937, 2, none⟩) (R_far (p := ⟨gb937, 1, none⟩) (R_far (p := ⟨gb937, 0, none⟩) (R_types HO932.out BK937.out (by decide)) (fun _ hk => hk.2) (.int .i64 t928)) (fun _ hk => hk.2) (.int .i64 t929)) (fun _ hk => hk.2) (.slice Ao16 t930.length co16)) (fun _ h_ => h_.1))) (R_base ho0) hb); have n1_ := Aside0.mk (R_elder' (by (with_reducible repeat (first | apply R_alloc | apply R_drewN | apply R_drew)); exact (R_mono (R_far (p := ⟨gb937, 2, none⟩) (R_far (p := ⟨gb937, 1, none⟩) (R_far (p := ⟨gb937, 0, none⟩) (R_types HO936.out BK937.out (by decide)) (fun _ hk => hk.2) (.int .i64 t928)) (fun _ hk => hk.2) (.int .i64 t929)) (fun _ hk => hk.2) (.slice Ao16 t930.length co16)) (fun _ h_ => h_.1))) (R_base ho0) hb); have n2_ := Aside0.mk (R_lower (R_new' (R_new' ho0 (R_lt (by (with_reducible repeat (first | apply R_alloc | apply R_drewN | apply R_drew)); exact (R_mono (R_far (p := ⟨gb937, 2, none⟩) (R_far (p := ⟨gb937, 1, none⟩) (R_far (p := ⟨gb937, 0, none⟩) (R_types HO932.out BK937.out (by decide)) (fun _ hk => hk.2) (.int .i64 t928)) (fun _ hk => hk.2) (.int .i64 t929)) (fun _ hk => hk.2) (.slice Ao16 t930.length co16)) (fun _ h_ => h_.1))))) (R_lt (by (with_reducible repeat (first | apply R_alloc | apply R_drewN | apply R_drew)); exact (R_mono (R_far (p := ⟨gb937, 2, none⟩) (R_far (p := ⟨gb937, 1, none⟩) (R_far (p := ⟨gb937, 0, none⟩) (R_types HO936.out BK937.out (by decide)) (fun _ hk => hk.2) (.int .i64 t928)) (fun _ hk => hk.2) (.int .i64 t929)) (fun _ hk => hk.2) (.slice Ao16 t930.length co16)) (fun _ h_ => h_.1))))) (below_size (by repeat (first | (with_reducible first | exact HB.out | apply below_alloc | apply pw_below_drewN | apply below_drew1 | refine below_set ?_ GE937.out) | exact HB.out)))); have n3_ := Aside0.mk (blk_below (g := gb937) (o := .cells #[.int .i64 t928, .int .i64 t929, .slice Ao16 t930.length co16] 29 (0, 0)) (by (with_reducible repeat (first | refine blk_drewN ?_ _ | refine blk_drew ?_ | refine blk_alloc ?_ _)); refine blk_put (cs := #[.int .i64 t928, .int .i64 t929, .slice none 0 0]) ?_ 2 _ rfl; (with_reducible repeat (first | refine blk_drewN ?_ _ | refine blk_drew ?_ | refine blk_alloc ?_ _)); refine blk_put (cs := #[.int .i64 t928, .int .i64 0, .slice none 0 0]) ?_ 1 _ rfl; (with_reducible repeat (first | refine blk_drewN ?_ _ | refine blk_drew ?_ | refine blk_alloc ?_ _)); refine blk_put (cs := #[.int .i64 0, .int .i64 0, .slice none 0 0]) ?_ 0 _ rfl; (with_reducible repeat (first | refine blk_drewN ?_ _ | refine blk_drew ?_ | refine blk_alloc ?_ _)); exact BK937.out) hb); have n4_ := Aside0.mk (below_step (by repeat (first | (with_reducible first | exact HB.out | apply below_alloc | apply pw_below_drewN | apply below_drew1 | refine below_set ?_ GE937.out) | exact HB.out)) hb); clear HO932; clear HO936; clear BK937; clear HB; have HO932 := n0_; have HO936 := n1_; have HO942 := n2_; have BK937 := n3_; have HB := n4_; clear n0_ n1_ n2_ n3_ n4_; (try clear hb); (try clear hb2); (try clear hk); (try clear hi); (try clear ho0)) | ((with_reducible refine gate_dst (N := 6) rfl ?_); refine box_event ?hg (N := 6) ?hd (cs := #[.int .i64 0, .int .i64 0, .slice none 0 0]) (t := 29) ?hr ?_; (case hd => rfl); (case hg => rfl); (case hr => first | (go_simp; done) | (go_simp; rfl)); intro gb944 hg w18 hbox hb; have n0_ := Aside0.mk (R_below (by (with_reducible repeat (first | apply R_alloc | apply R_drewN | apply R_drew)); exact HO932.out) hb); have n1_ := Aside0.mk (R_below (by (with_reducible repeat (first | apply R_alloc | apply R_drewN | apply R_drew)); exact HO936.out) hb); have n2_ := Aside0.mk (R_below (by (with_reducible repeat (first | apply R_alloc | apply R_drewN | apply R_drew)); exact HO942.out) hb); have n3_ := Aside0.mk (blk_below (g := gb937) (o := .cells #[.int .i64 t928, .int .i64 t929, .slice Ao16 t930.length co16] 29 (0, 0)) (by (with_reducible repeat (first | refine blk_drewN ?_ _ | refine blk_drew ?_ | refine blk_alloc ?_ _)); exact BK937.out) hb); have n4_ := Aside0.mk (below_step (by repeat (first | (with_reducible first | exact HB.out | apply below_alloc | apply pw_below_drewN | apply below_drew1 | refine below_set ?_ GE937.out) | exact HB.out)) hb); have n5_ := Aside0.mk (hbox); have n6_ := Aside0.mk ((by rw [hg]; exact (below_size (by repeat (first | (with_reducible first | exact HB.out | apply below_alloc | apply pw_below_drewN | apply below_drew1 | refine below_set ?_ GE937.out) | exact HB.out))) : w.heap.size ≤ gb944)); have n7_ := Aside0.mk ((by rw [hg]; exact (below_size (by repeat (first | (with_reducible first | exact HB.out | apply below_alloc | apply pw_below_drewN | apply below_drew1 | refine below_set ?_ GE937.out) | exact HB.out))) : w.heap.size ≤ gb944)); have n8_ := Aside0.mk ((by rw [hg]; exact Nat.ne_of_lt (blk_lt (g := gb937) (o := .cells #[.int .i64 t928, .int .i64 t929, .slice Ao16 t930.length co16] 29 (0, 0)) (by (with_reducible repeat (first | refine blk_drewN ?_ _ | refine blk_drew ?_ | refine blk_alloc ?_ _)); exact BK937.out)) : gb937 ≠ gb944)); have n9_ := Aside0.mk ((by rw [hg]; exact Nat.ne_of_gt (blk_lt (g := gb937) (o := .cells #[.int .i64 t928, .int .i64 t929, .slice Ao16 t930.length co16] 29 (0, 0)) (by (with_reducible repeat (first | refine blk_drewN ?_ _ | refine blk_drew ?_ | refine blk_alloc ?_ _)); exact BK937.out)) : gb944 ≠ gb937)); clear HO932; clear HO936; clear HO942; clear BK937; clear HB; have HO932 := n0_; have HO936 := n1_; have HO942 := n2_; have BK937 := n3_; have HB := n4_; have BK944 := n5_; have GW944 := n6_; have GE944 := n7_; have NB937_944 := n8_; have NB944_937 := n9_; clear n0_ n1_ n2_ n3_ n4_ n5_ n6_ n7_ n8_ n9_; clear hb hbox hg; have hnb19 := NB944_937.out; have hnc19 := NB937_944.out; have hcz20_0 : w18.cell? ⟨gb944, 0, none⟩ = some (.int .i64 0) := (blk_cell BK944.out 0).trans rfl; have hcz20_1 : w18.cell? ⟨gb944, 1, none⟩ = some (.int .i64 0) := (blk_cell BK944.out 1).trans rfl; have hcz20_2 : w18.cell? ⟨gb944, 2, none⟩ = some (.slice none 0 0) := (blk_cell BK944.out 2).trans rfl; have hfz20_0 := blk_frozen BK944.out 0; have hfz20_1 := blk_frozen BK944.out 1; have hfz20_2 := blk_frozen BK944.out 2; obtain ⟨Ao21, co21, eo21⟩ := R_slice HO942.out; subst eo21))
      have n0_ : Aside0 (Kd.R k54 54 (((w18.setCell ⟨gb944, 0, none⟩ (.int .i64 t938)).setCell ⟨gb944, 1, none⟩ (.int .i64 t939)).setCell ⟨gb944, 2, none⟩ (.slice Ao21 t940.length co21)) w.heap.size (fun k_ => some k_ ≠ (v935 : Value).ownBlock ∧ some k_ ≠ (.slice Ao21 t940.length co21 : Value).ownBlock) (.slice Ao16 t930.length co16) t930) := ⟨by (with_reducible repeat (first | apply R_alloc | apply R_drewN | apply R_drew)); exact R_mono (R_far (p := ⟨gb944, 2, none⟩) (R_far (p := ⟨gb944, 1, none⟩) (R_far (p := ⟨gb944, 0, none⟩) (R_types HO932.out BK944.out (by decide)) (fun _ hk => hk.2) (.int .i64 t938)) (fun _ hk => hk.2) (.int .i64 t939)) (fun _ hk => hk.2) (.slice Ao21 t940.length co21)) (fun _ hk => ⟨hk.1.1, hk.1.2⟩)⟩
      have n1_ : Aside0 (Kd.R k54 54 (((w18.setCell ⟨gb944, 0, none⟩ (.int .i64 t938)).setCell ⟨gb944, 1, none⟩ (.int .i64 t939)).setCell ⟨gb944, 2, none⟩ (.slice Ao21 t940.length co21)) w.heap.size (fun k_ => some k_ ≠ (.slice Ao16 t930.length co16 : Value).ownBlock ∧ some k_ ≠ (.slice Ao21 t940.length co21 : Value).ownBlock) v935 t934) := ⟨by (with_reducible repeat (first | apply R_alloc | apply R_drewN | apply R_drew)); exact R_mono (R_far (p := ⟨gb944, 2, none⟩) (R_far (p := ⟨gb944, 1, none⟩) (R_far (p := ⟨gb944, 0, none⟩) (R_types HO936.out BK944.out (by decide)) (fun _ hk => hk.2) (.int .i64 t938)) (fun _ hk => hk.2) (.int .i64 t939)) (fun _ hk => hk.2) (.slice Ao21 t940.length co21)) (fun _ hk => ⟨hk.1.1, hk.1.2⟩)⟩
      have n2_ : Aside0 (Kd.R k54 54 (((w18.setCell ⟨gb944, 0, none⟩ (.int .i64 t938)).setCell ⟨gb944, 1, none⟩ (.int .i64 t939)).setCell ⟨gb944, 2, none⟩ (.slice Ao21 t940.length co21)) w.heap.size (fun k_ => some k_ ≠ (.slice Ao16 t930.length co16 : Value).ownBlock ∧ some k_ ≠ (v935 : Value).ownBlock) (.slice Ao21 t940.length co21) t940) := ⟨by (with_reducible repeat (first | apply R_alloc | apply R_drewN | apply R_drew)); exact R_mono (R_far (p := ⟨gb944, 2, none⟩) (R_far (p := ⟨gb944, 1, none⟩) (R_far (p := ⟨gb944, 0, none⟩) (R_types HO942.out BK944.out (by decide)) (fun _ hk => hk.2) (.int .i64 t938)) (fun _ hk => hk.2) (.int .i64 t939)) (fun _ hk => hk.2) (.slice Ao21 t940.length co21)) (fun _ hk => ⟨hk.1.1.2, hk.1.2⟩)⟩
      have n3_ : Aside0 ((((w18.setCell ⟨gb944, 0, none⟩ (.int .i64 t938)).setCell ⟨gb944, 1, none⟩ (.int .i64 t939)).setCell ⟨gb944, 2, none⟩ (.slice Ao21 t940.length co21)).heap[gb937]? = some (.cells #[.int .i64 t928, .int .i64 t929, .slice Ao16 t930.length co16] 29 (0, 0))) := ⟨by (with_reducible repeat (first | refine blk_drewN ?_ _ | refine blk_drew ?_ | refine blk_alloc ?_ _)); refine blk_far ?_ NB937_944.out _; (with_reducible repeat (first | refine blk_drewN ?_ _ | refine blk_drew ?_ | refine blk_alloc ?_ _)); refine blk_far ?_ NB937_944.out _; (with_reducible repeat (first | refine blk_drewN ?_ _ | refine blk_drew ?_ | refine blk_alloc ?_ _)); refine blk_far ?_ NB937_944.out _; (with_reducible repeat (first | refine blk_drewN ?_ _ | refine blk_drew ?_ | refine blk_alloc ?_ _)); exact BK937.out⟩
      have n4_ : Aside0 ((((w18.setCell ⟨gb944, 0, none⟩ (.int .i64 t938)).setCell ⟨gb944, 1, none⟩ (.int .i64 t939)).setCell ⟨gb944, 2, none⟩ (.slice Ao21 t940.length co21)).heap[gb944]? = some (.cells #[.int .i64 t938, .int .i64 t939, .slice Ao21 t940.length co21] 29 (0, 0))) := ⟨by (with_reducible repeat (first | refine blk_drewN ?_ _ | refine blk_drew ?_ | refine blk_alloc ?_ _)); refine blk_put (cs := #[.int .i64 t938, .int .i64 t939, .slice none 0 0]) ?_ 2 _ rfl; (with_reducible repeat (first | refine blk_drewN ?_ _ | refine blk_drew ?_ | refine blk_alloc ?_ _)); refine blk_put (cs := #[.int .i64 t938, .int .i64 0, .slice none 0 0]) ?_ 1 _ rfl; (with_reducible repeat (first | refine blk_drewN ?_ _ | refine blk_drew ?_ | refine blk_alloc ?_ _)); refine blk_put (cs := #[.int .i64 0, .int .i64 0, .slice none 0 0]) ?_ 0 _ rfl; (with_reducible repeat (first | refine blk_drewN ?_ _ | refine blk_drew ?_ | refine blk_alloc ?_ _)); exact BK944.out⟩
      have n5_ : Aside0 (Below w.heap.size w (((w18.setCell ⟨gb944, 0, none⟩ (.int .i64 t938)).setCell ⟨gb944, 1, none⟩ (.int .i64 t939)).setCell ⟨gb944, 2, none⟩ (.slice Ao21 t940.length co21))) := ⟨by repeat (first | (with_reducible first | exact HB.out | apply below_alloc | apply pw_below_drewN | apply below_drew1 | refine below_set ?_ GE937.out | refine below_set ?_ GE944.out) | exact HB.out)⟩
      (try clear HO932)
      (try clear HO936)
      (try clear HO942)
      (try clear BK937)
      (try clear BK944)
      (try clear HB)
      generalize (((w18.setCell ⟨gb944, 0, none⟩ (.int .i64 t938)).setCell ⟨gb944, 1, none⟩ (.int .i64 t939)).setCell ⟨gb944, 2, none⟩ (.slice Ao21 t940.length co21)) = w22 at n0_ n1_ n2_ n3_ n4_ n5_ ⊢
      have HO932 := n0_
      have HO936 := n1_
      have HO942 := n2_
      have BK937 := n3_
      have BK944 := n4_
      have HB := n5_
      clear n0_ n1_ n2_ n3_ n4_ n5_
      have n0_ := Aside0.mk (R_drew HO932.out)
      have n1_ := Aside0.mk (R_drew HO936.out)
      have n2_ := Aside0.mk (R_drew HO942.out)
      have n3_ := Aside0.mk (blk_drew BK937.out)
      have n4_ := Aside0.mk (blk_drew BK944.out)
      have n5_ := Aside0.mk (below_drew1 HB.out)
      clear HO932
      clear HO936
      clear HO942
      clear BK937
      clear BK944
      clear HB
      have HO932 := n0_
      have HO936 := n1_
      have HO942 := n2_
      have BK937 := n3_
      have BK944 := n4_
      have HB := n5_
      clear n0_ n1_ n2_ n3_ n4_ n5_
      refine start_ (n := 20) (S := fun w' => w'.cell? ⟨gb944, 0, none⟩ = some (.int .i64 t938) ∧ w'.cell? ⟨gb944, 1, none⟩ = some (.int .i64 t939) ∧ w'.cell? ⟨gb944, 2, none⟩ = some (.slice Ao21 t940.length co21) ∧ w'.cell? ⟨gb937, 0, none⟩ = some (.int .i64 t928) ∧ w'.cell? ⟨gb937, 1, none⟩ = some (.int .i64 t929) ∧ w'.cell? ⟨gb937, 2, none⟩ = some (.slice Ao16 t930.length co16)) (ds := []) #[false, false, false, false, false, false, false, false, false, false, false, false, false, false, false, false, false, false, false, false] (by kernel_rfl) rfl rfl ⟨(blk_cell BK944.out 0).trans rfl, (blk_cell BK944.out 1).trans rfl, (blk_cell BK944.out 2).trans rfl, (blk_cell BK937.out 0).trans rfl, (blk_cell BK937.out 1).trans rfl, (blk_cell BK937.out 2).trans rfl⟩ (fun hHeld => ?_); refine with_tabW laws_FnCompacted.tab5 laws_FnCompacted.bits5 (fun HT_ HW_ => ?_)
      generalize w22.drew = w23 at HO932 HO936 HO942 BK937 BK944 HB hHeld ⊢
      refine SQ.pu 0 27 HT_ ?_
      refine SQ.pu 1 28 HT_ ?_
      refine SQ.pu 2 29 HT_ ?_
      refine SQ.tk 3 30 HT_ HW_ hHeld ?_
      refine one_ (i := 4) (N := some 31) #[true, true, true, true, true, false, false, false, false, false, false, false, false, false, false, false, false, false, false, false] rfl rfl (one_of HT_.out (by kernel_rfl)) (by decide) (fun K hK => ?_)
      refine goes_ Try.func16 (by kernel_rfl) rfl #[.agg #[.int .i64 t938, .int .i64 t939, .slice Ao21 t940.length co21]] (by rfl) rfl rfl (by (try simp only [List.map_toArray, List.map_cons, List.map_nil]); first | done | rfl | (simp only [List.length_drop, List.length_take]; rfl)) ?_
      with_reducible refine (impl_RLogOk.calls k t938 t939 _ _ t940 true _ ?side1 ?side2 A7.out).mono ?_
      (case side1 => repeat (first | exact (R_reads' HO942.out).2.2 | (with_reducible refine C_alloc ?_ _) | (with_reducible refine C_drewN ?_ _) | (with_reducible refine C_drew ?_)))
      (case side2 => exact (R_reads' HO942.out).2.1)
      rintro e w24 ⟨rfl, hb⟩
      refine ⟨_, rfl, ?_⟩
      have n0_ := Aside0.mk (R_below (by (with_reducible repeat (first | apply R_alloc | apply R_drewN | apply R_drew)); exact HO932.out) hb)
      have n1_ := Aside0.mk (R_below (by (with_reducible repeat (first | apply R_alloc | apply R_drewN | apply R_drew)); exact HO936.out) hb)
      have n2_ := Aside0.mk (R_below (by (with_reducible repeat (first | apply R_alloc | apply R_drewN | apply R_drew)); exact HO942.out) hb)
      have n3_ := Aside0.mk (blk_below (g := gb937) (o := .cells #[.int .i64 t928, .int .i64 t929, .slice Ao16 t930.length co16] 29 (0, 0)) (by (with_reducible repeat (first | refine blk_drewN ?_ _ | refine blk_drew ?_ | refine blk_alloc ?_ _)); exact BK937.out) hb)
      have n4_ := Aside0.mk (blk_below (g := gb944) (o := .cells #[.int .i64 t938, .int .i64 t939, .slice Ao21 t940.length co21] 29 (0, 0)) (by (with_reducible repeat (first | refine blk_drewN ?_ _ | refine blk_drew ?_ | refine blk_alloc ?_ _)); exact BK944.out) hb)
      have n5_ := Aside0.mk (below_step (by repeat (first | (with_reducible first | exact HB.out | apply below_alloc | apply pw_below_drewN | apply below_drew1 | refine below_set ?_ GE937.out | refine below_set ?_ GE944.out) | exact HB.out)) hb)
      clear HO932
      clear HO936
      clear HO942
      clear BK937
      clear BK944
      clear HB
      have HO932 := n0_
      have HO936 := n1_
      have HO942 := n2_
      have BK937 := n3_
      have BK944 := n4_
      have HB := n5_
      clear n0_ n1_ n2_ n3_ n4_ n5_
      (try clear hb)
      (try clear hb2)
      (try clear hk)
      (try clear hi)
      refine hK.out _ _ ⟨(blk_cell BK944.out 0).trans rfl, (blk_cell BK944.out 1).trans rfl, (blk_cell BK944.out 2).trans rfl, (blk_cell BK937.out 0).trans rfl, (blk_cell BK937.out 1).trans rfl, (blk_cell BK937.out 2).trans rfl⟩ (fun hHeld => ?_)
      clear hK K
      refine norm_ (a' := ?_) ?_ ?_
      rotate_left
      ·
       show Act.put _ (some 31) _ = _
       simp only [Act.put, List.setIfInBounds_toArray, List.set_cons_zero, List.set_cons_succ, i64_w, i32_w]
       rfl
      refine SQ.pu 5 32 HT_ ?_
      refine SQ.pu 6 33 HT_ ?_
      refine SQ.pu 7 34 HT_ ?_
      refine SQ.tk 8 35 HT_ HW_ hHeld ?_
      refine SQ.tk 10 37 HT_ HW_ hHeld ?_
      refine one_ (i := 9) (N := some 36) #[true, true, true, true, true, true, true, true, true, true, true, false, false, false, false, false, false, false, false, false] rfl rfl (one_of HT_.out (by kernel_rfl)) (by decide) (fun K hK => ?_)
      refine goes_ Try.func19 (by kernel_rfl) rfl #[.agg #[.int .i64 t938, .int .i64 t939, .slice Ao21 t940.length co21]] (by rfl) rfl rfl (by (try simp only [List.map_toArray, List.map_cons, List.map_nil]); first | done | rfl | (simp only [List.length_drop, List.length_take]; rfl)) ?_
      with_reducible refine (impl_LastIndex.calls k t938 t939 _ _ t940 t946 _ ?side1 ?side2 A9.out).mono ?_
      (case side1 => repeat (first | exact (R_reads' HO942.out).2.2 | (with_reducible refine C_alloc ?_ _) | (with_reducible refine C_drewN ?_ _) | (with_reducible refine C_drew ?_)))
      (case side2 => exact (R_reads' HO942.out).2.1)
      rintro e w25 ⟨rfl, hb⟩
      refine ⟨_, rfl, ?_⟩
      have n0_ := Aside0.mk (R_below (by (with_reducible repeat (first | apply R_alloc | apply R_drewN | apply R_drew)); exact HO932.out) hb)
      have n1_ := Aside0.mk (R_below (by (with_reducible repeat (first | apply R_alloc | apply R_drewN | apply R_drew)); exact HO936.out) hb)
      have n2_ := Aside0.mk (R_below (by (with_reducible repeat (first | apply R_alloc | apply R_drewN | apply R_drew)); exact HO942.out) hb)
      have n3_ := Aside0.mk (blk_below (g := gb937) (o := .cells #[.int .i64 t928, .int .i64 t929, .slice Ao16 t930.length co16] 29 (0, 0)) (by (with_reducible repeat (first | refine blk_drewN ?_ _ | refine blk_drew ?_ | refine blk_alloc ?_ _)); exact BK937.out) hb)
      have n4_ := Aside0.mk (blk_below (g := gb944) (o := .cells #[.int .i64 t938, .int .i64 t939, .slice Ao21 t940.length co21] 29 (0, 0)) (by (with_reducible repeat (first | refine blk_drewN ?_ _ | refine blk_drew ?_ | refine blk_alloc ?_ _)); exact BK944.out) hb)
      have n5_ := Aside0.mk (below_step (by repeat (first | (with_reducible first | exact HB.out | apply below_alloc | apply pw_below_drewN | apply below_drew1 | refine below_set ?_ GE937.out | refine below_set ?_ GE944.out) | exact HB.out)) hb)
      clear HO932
      clear HO936
      clear HO942
      clear BK937
      clear BK944
      clear HB
      have HO932 := n0_
      have HO936 := n1_
      have HO942 := n2_
      have BK937 := n3_
      have BK944 := n4_
      have HB := n5_
      clear n0_ n1_ n2_ n3_ n4_ n5_
      (try clear hb)
      (try clear hb2)
      (try clear hk)
      (try clear hi)
      refine hK.out _ _ ⟨(blk_cell BK944.out 0).trans rfl, (blk_cell BK944.out 1).trans rfl, (blk_cell BK944.out 2).trans rfl, (blk_cell BK937.out 0).trans rfl, (blk_cell BK937.out 1).trans rfl, (blk_cell BK937.out 2).trans rfl⟩ (fun hHeld => ?_)
      clear hK K
      refine norm_ (a' := ?_) ?_ ?_
      rotate_left
      ·
       show Act.put _ (some 36) _ = _
       simp only [Act.put, List.setIfInBounds_toArray, List.set_cons_zero, List.set_cons_succ, i64_w, i32_w]
       rfl
      refine one_ (i := 11) (N := some 38) #[true, true, true, true, true, true, true, true, true, true, true, true, false, false, false, false, false, false, false, false] rfl rfl (one_of HT_.out (by kernel_rfl)) (by decide) (fun K hK => ?_)
      refine goes_ Try.func19 (by kernel_rfl) rfl #[.agg #[.int .i64 t928, .int .i64 t929, .slice Ao16 t930.length co16]] (by rfl) rfl rfl (by (try simp only [List.map_toArray, List.map_cons, List.map_nil]); first | done | rfl | (simp only [List.length_drop, List.length_take]; rfl)) ?_
      with_reducible refine (impl_LastIndex.calls k t928 t929 _ _ t930 t947 _ ?side1 ?side2 A10.out).mono ?_
      (case side1 => repeat (first | exact (R_reads' HO932.out).2.2 | (with_reducible refine C_alloc ?_ _) | (with_reducible refine C_drewN ?_ _) | (with_reducible refine C_drew ?_)))
      (case side2 => exact (R_reads' HO932.out).2.1)
      rintro e w26 ⟨rfl, hb⟩
      refine ⟨_, rfl, ?_⟩
      have n0_ := Aside0.mk (R_below (by (with_reducible repeat (first | apply R_alloc | apply R_drewN | apply R_drew)); exact HO932.out) hb)
      have n1_ := Aside0.mk (R_below (by (with_reducible repeat (first | apply R_alloc | apply R_drewN | apply R_drew)); exact HO936.out) hb)
      have n2_ := Aside0.mk (R_below (by (with_reducible repeat (first | apply R_alloc | apply R_drewN | apply R_drew)); exact HO942.out) hb)
      have n3_ := Aside0.mk (blk_below (g := gb937) (o := .cells #[.int .i64 t928, .int .i64 t929, .slice Ao16 t930.length co16] 29 (0, 0)) (by (with_reducible repeat (first | refine blk_drewN ?_ _ | refine blk_drew ?_ | refine blk_alloc ?_ _)); exact BK937.out) hb)
      have n4_ := Aside0.mk (blk_below (g := gb944) (o := .cells #[.int .i64 t938, .int .i64 t939, .slice Ao21 t940.length co21] 29 (0, 0)) (by (with_reducible repeat (first | refine blk_drewN ?_ _ | refine blk_drew ?_ | refine blk_alloc ?_ _)); exact BK944.out) hb)
      have n5_ := Aside0.mk (below_step (by repeat (first | (with_reducible first | exact HB.out | apply below_alloc | apply pw_below_drewN | apply below_drew1 | refine below_set ?_ GE937.out | refine below_set ?_ GE944.out) | exact HB.out)) hb)
      clear HO932
      clear HO936
      clear HO942
      clear BK937
      clear BK944
      clear HB
      have HO932 := n0_
      have HO936 := n1_
      have HO942 := n2_
      have BK937 := n3_
      have BK944 := n4_
      have HB := n5_
      clear n0_ n1_ n2_ n3_ n4_ n5_
      (try clear hb)
      (try clear hb2)
      (try clear hk)
      (try clear hi)
      refine hK.out _ _ ⟨(blk_cell BK944.out 0).trans rfl, (blk_cell BK944.out 1).trans rfl, (blk_cell BK944.out 2).trans rfl, (blk_cell BK937.out 0).trans rfl, (blk_cell BK937.out 1).trans rfl, (blk_cell BK937.out 2).trans rfl⟩ (fun hHeld => ?_)
      clear hK K
      refine norm_ (a' := ?_) ?_ ?_
      rotate_left
      ·
       show Act.put _ (some 38) _ = _
       simp only [Act.put, List.setIfInBounds_toArray, List.set_cons_zero, List.set_cons_succ, i64_w, i32_w]
       rfl
      refine SQ.pu 12 39 HT_ ?_
      refine SQ.pu 13 40 HT_ ?_
      refine SQ.pu 14 41 HT_ ?_
      refine SQ.pu 15 42 HT_ ?_
      refine SQ.pu 17 44 HT_ ?_
      refine SQ.tk 16 43 HT_ HW_ hHeld ?_
      refine SQ.pu 18 45 HT_ ?_
      refine SQ.pu 19 46 HT_ ?_
      refine done_ (done_of HT_.out (by kernel_rfl)) ?_
      try go_wp2
      go_loopg [8] k (fun kq v8 w' => ∃ (x8_1 : Int), v8 = .int .i64 x8_1 ∧ Aside0 (laws_FnCompacted.l0 kq t933 t934 x8_1 t928 t929 t930 t938 t939 t940 = some r) ∧ Aside0 (kq ≤ k) ∧ Aside0 (Kd.R k54 54 w' w.heap.size (fun k_ => some k_ ≠ ((.slice Ao16 t930.length co16) : Value).ownBlock ∧ some k_ ≠ ((.slice Ao21 t940.length co21) : Value).ownBlock) v935 t934) ∧ Aside0 (Kd.R k54 54 w' w.heap.size (fun k_ => some k_ ≠ (v935 : Value).ownBlock ∧ some k_ ≠ ((.slice Ao21 t940.length co21) : Value).ownBlock) (.slice Ao16 t930.length co16) t930) ∧ Aside0 (Kd.R k54 54 w' w.heap.size (fun k_ => some k_ ≠ (v935 : Value).ownBlock ∧ some k_ ≠ ((.slice Ao16 t930.length co16) : Value).ownBlock) (.slice Ao21 t940.length co21) t940) ∧ Aside0 (w'.heap[gb937]? = some (.cells #[.int .i64 t928, .int .i64 t929, (.slice Ao16 t930.length co16)] 29 (0, 0))) ∧ Aside0 (w'.heap[gb944]? = some (.cells #[.int .i64 t938, .int .i64 t939, (.slice Ao21 t940.length co21)] 29 (0, 0))) ∧ Aside0 (Below w.heap.size w w'))
      case atStart => exact ⟨(t933), (by first | rfl | (simp; done) | (simp [*]; done)), H', ⟨Nat.le_refl _⟩, ⟨by (with_reducible repeat (first | apply R_alloc | apply R_drewN | apply R_drew)); exact HO936.out⟩, ⟨by (with_reducible repeat (first | apply R_alloc | apply R_drewN | apply R_drew)); exact HO932.out⟩, ⟨by (with_reducible repeat (first | apply R_alloc | apply R_drewN | apply R_drew)); exact R_mono HO942.out (fun _ hk => ⟨hk.2, hk.1⟩)⟩, ⟨by (with_reducible repeat (first | refine blk_drewN ?_ _ | refine blk_drew ?_ | refine blk_alloc ?_ _)); exact BK937.out⟩, ⟨by (with_reducible repeat (first | refine blk_drewN ?_ _ | refine blk_drew ?_ | refine blk_alloc ?_ _)); exact BK944.out⟩, ⟨by repeat (first | (with_reducible first | exact HB.out | apply below_alloc | apply pw_below_drewN | apply below_drew1 | refine below_set ?_ GE937.out | refine below_set ?_ GE944.out) | exact HB.out)⟩⟩
      case round =>
       clear H'
       try clear c1
       try clear p2
       try clear c3
       try clear c4
       try clear c6
       try clear c8
       try clear c11
       try clear c11b0
       try clear c11b1
       try clear c12
       try clear c12b0
       try clear c12b1
       try clear c16
       try clear c19
       try clear hcz15_0
       try clear hcz15_1
       try clear hcz15_2
       try clear hcz20_0
       try clear hcz20_1
       try clear hcz20_2
       try clear hfz15_0
       try clear hfz15_1
       try clear hfz15_2
       try clear hfz20_0
       try clear hfz20_1
       try clear hfz20_2
       obtain ⟨x8_1, rfl, HA, HK1, HO_5, HO_938002, HO_945002, BK937, BK944, HB⟩ := hrel
       cases gk with
       | zero => exact absurd HA.out (by simp [laws_FnCompacted.l0])
       | succ k1 =>
        have H := HA.out
        clear HA
        simp only [laws_FnCompacted.l0] at H
        replace H := Option.bind_eq_some_iff.mp H
        obtain ⟨t978, A270, H⟩ := H
        replace H : (if x8_1 ≤ t978 then ((impl_TermAt.f k1 t938 t939 t940 x8_1).bind fun t979 => ((impl_TermAt.f k1 t928 t929 t930 x8_1).bind fun t980 => (if t979 = t980 then (laws_FnCompacted.l0 k1 t933 t934 (wrap64 (x8_1 + 1)) t928 t929 t930 t938 t939 t940) else (none)))) else (if t933 > 0 then ((impl_TermAt.f k1 t938 t939 t940 (wrap64 (t933 - 1))).bind fun t981 => (laws_FnCompacted.j1 k1 t933 t934 (t981 != (-1)) t928 t929 t930 t938 t939 t940)) else (laws_FnCompacted.j1 k1 t933 t934 false t928 t929 t930 t938 t939 t940))) = some r := H
        have A27 := Aside0.mk A270
        clear A270
        by_cases c28 : x8_1 ≤ t978
        ·
         rw [if_pos c28] at H
         have c28b0 : decide (x8_1 ≤ t978) = true := decide_eq_true c28
         clear c28
         replace H := Option.bind_eq_some_iff.mp H
         obtain ⟨t979, A290, H⟩ := H
         replace H : ((impl_TermAt.f k1 t928 t929 t930 x8_1).bind fun t980 => (if t979 = t980 then (laws_FnCompacted.l0 k1 t933 t934 (wrap64 (x8_1 + 1)) t928 t929 t930 t938 t939 t940) else (none))) = some r := H
         have A29 := Aside0.mk A290
         clear A290
         replace H := Option.bind_eq_some_iff.mp H
         obtain ⟨t980, A300, H⟩ := H
         replace H : (if t979 = t980 then (laws_FnCompacted.l0 k1 t933 t934 (wrap64 (x8_1 + 1)) t928 t929 t930 t938 t939 t940) else (none)) = some r := H
         have A30 := Aside0.mk A300
         clear A300
         by_cases c31 : t979 = t980
         ·
          rw [if_pos c31] at H
          have c31b0 : (t979 == t980) = true := beq_iff_eq.mpr c31
          have c31b1 : (t979 != t980) = false := bne_eq_false_iff_eq.mpr c31
          clear c31
          have H' := Aside0.mk H
          clear H
          have hnb32 := NB937_944.out
          have hnc32 := NB944_937.out
          have hcz33_0 : wr.cell? ⟨gb937, 0, none⟩ = some (.int .i64 t928) := (blk_cell BK937.out 0).trans rfl
          have hcz33_1 : wr.cell? ⟨gb937, 1, none⟩ = some (.int .i64 t929) := (blk_cell BK937.out 1).trans rfl
          have hcz33_2 : wr.cell? ⟨gb937, 2, none⟩ = some (.slice Ao16 t930.length co16) := (blk_cell BK937.out 2).trans rfl
          have hfz33_0 := blk_frozen BK937.out 0
          have hfz33_1 := blk_frozen BK937.out 1
          have hfz33_2 := blk_frozen BK937.out 2
          try go_wp2_with (first | ((with_reducible refine gate_callee (f := 19) rfl ?_); refine goesL_ (some 50) rfl rfl Try.func19 (by kernel_rfl) rfl #[.agg #[.int .i64 t928, .int .i64 t929, .slice Ao16 t930.length co16]] rfl (by (try simp only [List.map_toArray, List.map_cons, List.map_nil]); first | done | rfl | (simp only [List.length_drop, List.length_take]; rfl)) ?_; (with_reducible refine (impl_LastIndex.calls k1 t928 t929 _ _ t930 t978 _ ?side1 ?side2 A27.out).mono ?_); (case side1 => repeat (first | exact (R_reads' HO_938002.out).2.2 | (with_reducible refine C_alloc ?_ _) | (with_reducible refine C_drewN ?_ _) | (with_reducible refine C_drew ?_))); (case side2 => exact (R_reads' HO_938002.out).2.1); rintro e w34 ⟨rfl, hb⟩; refine ⟨_, rfl, ?_⟩; have n0_ := Aside0.mk (R_below (by (with_reducible repeat (first | apply R_alloc | apply R_drewN | apply R_drew)); exact HO_5.out) hb); have n1_ := Aside0.mk (R_below (by (with_reducible repeat (first | apply R_alloc | apply R_drewN | apply R_drew)); exact HO_938002.out) hb); have n2_ := Aside0.mk (R_below (by (with_reducible repeat (first | apply R_alloc | apply R_drewN | apply R_drew)); exact HO_945002.out) hb); have n3_ := Aside0.mk (blk_below (g := gb937) (o := .cells #[.int .i64 t928, .int .i64 t929, .slice Ao16 t930.length co16] 29 (0, 0)) (by (with_reducible repeat (first | refine blk_drewN ?_ _ | refine blk_drew ?_ | refine blk_alloc ?_ _)); exact BK937.out) hb); have n4_ := Aside0.mk (blk_below (g := gb944) (o := .cells #[.int .i64 t938, .int .i64 t939, .slice Ao21 t940.length co21] 29 (0, 0)) (by (with_reducible repeat (first | refine blk_drewN ?_ _ | refine blk_drew ?_ | refine blk_alloc ?_ _)); exact BK944.out) hb); have n5_ := Aside0.mk (below_step (by repeat (first | (with_reducible first | exact HB.out | apply below_alloc | apply pw_below_drewN | apply below_drew1 | refine below_set ?_ GE937.out | refine below_set ?_ GE944.out) | exact HB.out)) hb); clear HO_5; clear HO_938002; clear HO_945002; clear BK937; clear BK944; clear HB; have HO_5 := n0_; have HO_938002 := n1_; have HO_945002 := n2_; have BK937 := n3_; have BK944 := n4_; have HB := n5_; clear n0_ n1_ n2_ n3_ n4_ n5_; (try clear hb); (try clear hb2); (try clear hk); (try clear hi)))
          have n0_ := Aside0.mk (R_drew HO_5.out)
          have n1_ := Aside0.mk (R_drew HO_938002.out)
          have n2_ := Aside0.mk (R_drew HO_945002.out)
          have n3_ := Aside0.mk (blk_drew BK937.out)
          have n4_ := Aside0.mk (blk_drew BK944.out)
          have n5_ := Aside0.mk (below_drew1 HB.out)
          clear HO_5
          clear HO_938002
          clear HO_945002
          clear BK937
          clear BK944
          clear HB
          have HO_5 := n0_
          have HO_938002 := n1_
          have HO_945002 := n2_
          have BK937 := n3_
          have BK944 := n4_
          have HB := n5_
          clear n0_ n1_ n2_ n3_ n4_ n5_
          refine start_ (n := 7) (S := fun w' => w'.cell? ⟨gb944, 0, none⟩ = some (.int .i64 t938) ∧ w'.cell? ⟨gb944, 1, none⟩ = some (.int .i64 t939) ∧ w'.cell? ⟨gb944, 2, none⟩ = some (.slice Ao21 t940.length co21) ∧ w'.cell? ⟨gb937, 0, none⟩ = some (.int .i64 t928) ∧ w'.cell? ⟨gb937, 1, none⟩ = some (.int .i64 t929) ∧ w'.cell? ⟨gb937, 2, none⟩ = some (.slice Ao16 t930.length co16)) (ds := []) #[false, false, false, false, false, false, false] (by kernel_rfl) rfl rfl ⟨(blk_cell BK944.out 0).trans rfl, (blk_cell BK944.out 1).trans rfl, (blk_cell BK944.out 2).trans rfl, (blk_cell BK937.out 0).trans rfl, (blk_cell BK937.out 1).trans rfl, (blk_cell BK937.out 2).trans rfl⟩ (fun hHeld => ?_)
          generalize w34.drew = w35 at HO_5 HO_938002 HO_945002 BK937 BK944 HB hHeld ⊢
          refine pure_ (i := 1) (N := some 55) (v := ?_) (a' := ?_) #[false, true, false, false, false, false, false] rfl rfl (by kernel_rfl) (fun _ _ _ h => h) (Or.inl ⟨by rfl, ?_⟩) ?_ ?_
          rotate_left
          ·
           intro w'
           go_simp
           with_reducible rfl
          rotate_left
          ·
           simp only [Act.put, List.setIfInBounds_toArray, List.set_cons_zero, List.set_cons_succ, i64_w, i32_w]
           rfl
          refine pure_ (i := 4) (N := some 58) (v := ?_) (a' := ?_) #[false, true, false, false, true, false, false] rfl rfl (by kernel_rfl) (fun _ _ _ h => h) (Or.inl ⟨by rfl, ?_⟩) ?_ ?_
          rotate_left
          ·
           intro w'
           go_simp
           with_reducible rfl
          rotate_left
          ·
           simp only [Act.put, List.setIfInBounds_toArray, List.set_cons_zero, List.set_cons_succ, i64_w, i32_w]
           rfl
          refine take_ (i := 0) (N := some 54) (v := ?_) (a' := ?_) #[true, true, false, false, true, false, false] rfl rfl (by kernel_rfl) (fun _ _ _ h => h) (Or.inl ⟨by rfl, ?_⟩) hHeld ?_ ?_
          rotate_left
          ·
           rintro w' ⟨s0, s1, s2, s3, s4, s5⟩
           go_simp
           with_reducible rfl
          rotate_left
          ·
           simp only [Act.put, List.setIfInBounds_toArray, List.set_cons_zero, List.set_cons_succ, i64_w, i32_w]
           rfl
          refine take_ (i := 3) (N := some 57) (v := ?_) (a' := ?_) #[true, true, false, true, true, false, false] rfl rfl (by kernel_rfl) (fun _ _ _ h => h) (Or.inl ⟨by rfl, ?_⟩) hHeld ?_ ?_
          rotate_left
          ·
           rintro w' ⟨s0, s1, s2, s3, s4, s5⟩
           go_simp
           with_reducible rfl
          rotate_left
          ·
           simp only [Act.put, List.setIfInBounds_toArray, List.set_cons_zero, List.set_cons_succ, i64_w, i32_w]
           rfl
          refine one_ (i := 2) (N := some 56) #[true, true, true, true, true, false, false] rfl rfl (by kernel_rfl) (by decide) (fun K hK => ?_)
          refine goes_ Try.func21 (by kernel_rfl) rfl #[.agg #[.int .i64 t938, .int .i64 t939, .slice Ao21 t940.length co21], .int .i64 x8_1] (by rfl) rfl rfl (by (try simp only [List.map_toArray, List.map_cons, List.map_nil]); first | done | rfl | (simp only [List.length_drop, List.length_take]; rfl)) ?_
          with_reducible refine (impl_TermAt.calls k1 t938 t939 _ _ t940 x8_1 t979 _ ?side1 ?side2 A29.out).mono ?_
          (case side1 => repeat (first | exact (R_reads' HO_945002.out).2.2 | (with_reducible refine C_alloc ?_ _) | (with_reducible refine C_drewN ?_ _) | (with_reducible refine C_drew ?_)))
          (case side2 => exact (R_reads' HO_945002.out).2.1)
          rintro e w36 ⟨rfl, hb⟩
          refine ⟨_, rfl, ?_⟩
          have n0_ := Aside0.mk (R_below (by (with_reducible repeat (first | apply R_alloc | apply R_drewN | apply R_drew)); exact HO_5.out) hb)
          have n1_ := Aside0.mk (R_below (by (with_reducible repeat (first | apply R_alloc | apply R_drewN | apply R_drew)); exact HO_938002.out) hb)
          have n2_ := Aside0.mk (R_below (by (with_reducible repeat (first | apply R_alloc | apply R_drewN | apply R_drew)); exact HO_945002.out) hb)
          have n3_ := Aside0.mk (blk_below (g := gb937) (o := .cells #[.int .i64 t928, .int .i64 t929, .slice Ao16 t930.length co16] 29 (0, 0)) (by (with_reducible repeat (first | refine blk_drewN ?_ _ | refine blk_drew ?_ | refine blk_alloc ?_ _)); exact BK937.out) hb)
          have n4_ := Aside0.mk (blk_below (g := gb944) (o := .cells #[.int .i64 t938, .int .i64 t939, .slice Ao21 t940.length co21] 29 (0, 0)) (by (with_reducible repeat (first | refine blk_drewN ?_ _ | refine blk_drew ?_ | refine blk_alloc ?_ _)); exact BK944.out) hb)
          have n5_ := Aside0.mk (below_step (by repeat (first | (with_reducible first | exact HB.out | apply below_alloc | apply pw_below_drewN | apply below_drew1 | refine below_set ?_ GE937.out | refine below_set ?_ GE944.out) | exact HB.out)) hb)
          clear HO_5
          clear HO_938002
          clear HO_945002
          clear BK937
          clear BK944
          clear HB
          have HO_5 := n0_
          have HO_938002 := n1_
          have HO_945002 := n2_
          have BK937 := n3_
          have BK944 := n4_
          have HB := n5_
          clear n0_ n1_ n2_ n3_ n4_ n5_
          (try clear hb)
          (try clear hb2)
          (try clear hk)
          (try clear hi)
          refine hK.out _ _ ⟨(blk_cell BK944.out 0).trans rfl, (blk_cell BK944.out 1).trans rfl, (blk_cell BK944.out 2).trans rfl, (blk_cell BK937.out 0).trans rfl, (blk_cell BK937.out 1).trans rfl, (blk_cell BK937.out 2).trans rfl⟩ (fun hHeld => ?_)
          clear hK K
          refine norm_ (a' := ?_) ?_ ?_
          rotate_left
          ·
           show Act.put _ (some 56) _ = _
           simp only [Act.put, List.setIfInBounds_toArray, List.set_cons_zero, List.set_cons_succ, i64_w, i32_w]
           rfl
          refine one_ (i := 5) (N := some 59) #[true, true, true, true, true, true, false] rfl rfl (by kernel_rfl) (by decide) (fun K hK => ?_)
          refine goes_ Try.func21 (by kernel_rfl) rfl #[.agg #[.int .i64 t928, .int .i64 t929, .slice Ao16 t930.length co16], .int .i64 x8_1] (by rfl) rfl rfl (by (try simp only [List.map_toArray, List.map_cons, List.map_nil]); first | done | rfl | (simp only [List.length_drop, List.length_take]; rfl)) ?_
          with_reducible refine (impl_TermAt.calls k1 t928 t929 _ _ t930 x8_1 t980 _ ?side1 ?side2 A30.out).mono ?_
          (case side1 => repeat (first | exact (R_reads' HO_938002.out).2.2 | (with_reducible refine C_alloc ?_ _) | (with_reducible refine C_drewN ?_ _) | (with_reducible refine C_drew ?_)))
          (case side2 => exact (R_reads' HO_938002.out).2.1)
          rintro e w37 ⟨rfl, hb⟩
          refine ⟨_, rfl, ?_⟩
          have n0_ := Aside0.mk (R_below (by (with_reducible repeat (first | apply R_alloc | apply R_drewN | apply R_drew)); exact HO_5.out) hb)
          have n1_ := Aside0.mk (R_below (by (with_reducible repeat (first | apply R_alloc | apply R_drewN | apply R_drew)); exact HO_938002.out) hb)
          have n2_ := Aside0.mk (R_below (by (with_reducible repeat (first | apply R_alloc | apply R_drewN | apply R_drew)); exact HO_945002.out) hb)
          have n3_ := Aside0.mk (blk_below (g := gb937) (o := .cells #[.int .i64 t928, .int .i64 t929, .slice Ao16 t930.length co16] 29 (0, 0)) (by (with_reducible repeat (first | refine blk_drewN ?_ _ | refine blk_drew ?_ | refine blk_alloc ?_ _)); exact BK937.out) hb)
          have n4_ := Aside0.mk (blk_below (g := gb944) (o := .cells #[.int .i64 t938, .int .i64 t939, .slice Ao21 t940.length co21] 29 (0, 0)) (by (with_reducible repeat (first | refine blk_drewN ?_ _ | refine blk_drew ?_ | refine blk_alloc ?_ _)); exact BK944.out) hb)
          have n5_ := Aside0.mk (below_step (by repeat (first | (with_reducible first | exact HB.out | apply below_alloc | apply pw_below_drewN | apply below_drew1 | refine below_set ?_ GE937.out | refine below_set ?_ GE944.out) | exact HB.out)) hb)
          clear HO_5
          clear HO_938002
          clear HO_945002
          clear BK937
          clear BK944
          clear HB
          have HO_5 := n0_
          have HO_938002 := n1_
          have HO_945002 := n2_
          have BK937 := n3_
          have BK944 := n4_
          have HB := n5_
          clear n0_ n1_ n2_ n3_ n4_ n5_
          (try clear hb)
          (try clear hb2)
          (try clear hk)
          (try clear hi)
          refine hK.out _ _ ⟨(blk_cell BK944.out 0).trans rfl, (blk_cell BK944.out 1).trans rfl, (blk_cell BK944.out 2).trans rfl, (blk_cell BK937.out 0).trans rfl, (blk_cell BK937.out 1).trans rfl, (blk_cell BK937.out 2).trans rfl⟩ (fun hHeld => ?_)
          clear hK K
          refine norm_ (a' := ?_) ?_ ?_
          rotate_left
          ·
           show Act.put _ (some 59) _ = _
           simp only [Act.put, List.setIfInBounds_toArray, List.set_cons_zero, List.set_cons_succ, i64_w, i32_w]
           rfl
          refine pure_ (i := 6) (N := some 60) (v := ?_) (a' := ?_) #[true, true, true, true, true, true, true] rfl rfl (by kernel_rfl) (fun _ _ _ h => h) (Or.inl ⟨by rfl, ?_⟩) ?_ ?_
          rotate_left
          ·
           intro w'
           go_simp
           with_reducible rfl
          rotate_left
          ·
           simp only [Act.put, List.setIfInBounds_toArray, List.set_cons_zero, List.set_cons_succ, i64_w, i32_w]
           rfl
          refine done_ (by kernel_rfl) ?_
          try go_wp2
          go_roundg k1
          case measure => have := HK1.out; omega
          case rel => exact ⟨(wrap64 (x8_1 + 1)), (by first | rfl | (simp; done) | (simp [*]; done)), H', ⟨by have := HK1.out; omega⟩, ⟨by (with_reducible repeat (first | apply R_alloc | apply R_drewN | apply R_drew)); exact HO_5.out⟩, ⟨by (with_reducible repeat (first | apply R_alloc | apply R_drewN | apply R_drew)); exact HO_938002.out⟩, ⟨by (with_reducible repeat (first | apply R_alloc | apply R_drewN | apply R_drew)); exact HO_945002.out⟩, ⟨by (with_reducible repeat (first | refine blk_drewN ?_ _ | refine blk_drew ?_ | refine blk_alloc ?_ _)); exact BK937.out⟩, ⟨by (with_reducible repeat (first | refine blk_drewN ?_ _ | refine blk_drew ?_ | refine blk_alloc ?_ _)); exact BK944.out⟩, ⟨by repeat (first | (with_reducible first | exact HB.out | apply below_alloc | apply pw_below_drewN | apply below_drew1 | refine below_set ?_ GE937.out | refine below_set ?_ GE944.out) | exact HB.out)⟩⟩
         ·
          rw [if_neg c31] at H
          exact absurd H (by simp)
        ·
         rw [if_neg c28] at H
         have c28b0 : decide (x8_1 ≤ t978) = false := decide_eq_false c28
         clear c28
         have HC38 := Aside0.mk H
         clear H
         have hnb39 := NB937_944.out
         have hnc39 := NB944_937.out
         have hcz40_0 : wr.cell? ⟨gb937, 0, none⟩ = some (.int .i64 t928) := (blk_cell BK937.out 0).trans rfl
         have hcz40_1 : wr.cell? ⟨gb937, 1, none⟩ = some (.int .i64 t929) := (blk_cell BK937.out 1).trans rfl
         have hcz40_2 : wr.cell? ⟨gb937, 2, none⟩ = some (.slice Ao16 t930.length co16) := (blk_cell BK937.out 2).trans rfl
         have hfz40_0 := blk_frozen BK937.out 0
         have hfz40_1 := blk_frozen BK937.out 1
         have hfz40_2 := blk_frozen BK937.out 2
         go_upto_region 12 with (first | ((with_reducible refine gate_callee (f := 19) rfl ?_); refine goesL_ (some 50) rfl rfl Try.func19 (by kernel_rfl) rfl #[.agg #[.int .i64 t928, .int .i64 t929, .slice Ao16 t930.length co16]] rfl (by (try simp only [List.map_toArray, List.map_cons, List.map_nil]); first | done | rfl | (simp only [List.length_drop, List.length_take]; rfl)) ?_; (with_reducible refine (impl_LastIndex.calls k1 t928 t929 _ _ t930 t978 _ ?side1 ?side2 A27.out).mono ?_); (case side1 => repeat (first | exact (R_reads' HO_938002.out).2.2 | (with_reducible refine C_alloc ?_ _) | (with_reducible refine C_drewN ?_ _) | (with_reducible refine C_drew ?_))); (case side2 => exact (R_reads' HO_938002.out).2.1); rintro e w41 ⟨rfl, hb⟩; refine ⟨_, rfl, ?_⟩; have n0_ := Aside0.mk (R_below (by (with_reducible repeat (first | apply R_alloc | apply R_drewN | apply R_drew)); exact HO_5.out) hb); have n1_ := Aside0.mk (R_below (by (with_reducible repeat (first | apply R_alloc | apply R_drewN | apply R_drew)); exact HO_938002.out) hb); have n2_ := Aside0.mk (R_below (by (with_reducible repeat (first | apply R_alloc | apply R_drewN | apply R_drew)); exact HO_945002.out) hb); have n3_ := Aside0.mk (blk_below (g := gb937) (o := .cells #[.int .i64 t928, .int .i64 t929, .slice Ao16 t930.length co16] 29 (0, 0)) (by (with_reducible repeat (first | refine blk_drewN ?_ _ | refine blk_drew ?_ | refine blk_alloc ?_ _)); exact BK937.out) hb); have n4_ := Aside0.mk (blk_below (g := gb944) (o := .cells #[.int .i64 t938, .int .i64 t939, .slice Ao21 t940.length co21] 29 (0, 0)) (by (with_reducible repeat (first | refine blk_drewN ?_ _ | refine blk_drew ?_ | refine blk_alloc ?_ _)); exact BK944.out) hb); have n5_ := Aside0.mk (below_step (by repeat (first | (with_reducible first | exact HB.out | apply below_alloc | apply pw_below_drewN | apply below_drew1 | refine below_set ?_ GE937.out | refine below_set ?_ GE944.out) | exact HB.out)) hb); clear HO_5; clear HO_938002; clear HO_945002; clear BK937; clear BK944; clear HB; have HO_5 := n0_; have HO_938002 := n1_; have HO_945002 := n2_; have BK937 := n3_; have BK944 := n4_; have HB := n5_; clear n0_ n1_ n2_ n3_ n4_ n5_; (try clear hb); (try clear hb2); (try clear hk); (try clear hi)))
         (try simp only [Act.put, List.setIfInBounds_toArray, List.set_cons_zero, List.set_cons_succ])
         go_cut [69] (fun v69 wc => ∃ (kq : Nat) (x69_37 : Bool), v69 = .bool x69_37 ∧ Aside0 (laws_FnCompacted.j1 kq t933 t934 x69_37 t928 t929 t930 t938 t939 t940 = some r) ∧ Aside0 (kq ≤ k1) ∧ Aside0 (Kd.R k54 54 wc w.heap.size (fun k_ => some k_ ≠ ((.slice Ao16 t930.length co16) : Value).ownBlock ∧ some k_ ≠ ((.slice Ao21 t940.length co21) : Value).ownBlock) v935 t934) ∧ Aside0 (Kd.R k54 54 wc w.heap.size (fun k_ => some k_ ≠ (v935 : Value).ownBlock ∧ some k_ ≠ ((.slice Ao21 t940.length co21) : Value).ownBlock) (.slice Ao16 t930.length co16) t930) ∧ Aside0 (Kd.R k54 54 wc w.heap.size (fun k_ => some k_ ≠ (v935 : Value).ownBlock ∧ some k_ ≠ ((.slice Ao16 t930.length co16) : Value).ownBlock) (.slice Ao21 t940.length co21) t940) ∧ Aside0 (wc.heap[gb937]? = some (.cells #[.int .i64 t928, .int .i64 t929, (.slice Ao16 t930.length co16)] 29 (0, 0))) ∧ Aside0 (wc.heap[gb944]? = some (.cells #[.int .i64 t938, .int .i64 t939, (.slice Ao21 t940.length co21)] 29 (0, 0))) ∧ Aside0 (Below w.heap.size w wc))
         case first =>
          have H := HC38.out
          clear HC38
          by_cases c42 : t933 > 0
          ·
           rw [if_pos c42] at H
           have c42b0 : decide (0 < t933) = true := decide_eq_true c42
           clear c42
           (first | rw [c42b0] | (simp only [i64_w, i32_w]; rw [c42b0]) | skip)
           replace H := Option.bind_eq_some_iff.mp H
           obtain ⟨t981, A430, H⟩ := H
           replace H : (laws_FnCompacted.j1 k1 t933 t934 (t981 != (-1)) t928 t929 t930 t938 t939 t940) = some r := H
           have A43 := Aside0.mk A430
           clear A430
           have H' := Aside0.mk H
           clear H
           have hnb44 := NB944_937.out
           have hnc44 := NB937_944.out
           have hcz45_0 : w41.cell? ⟨gb944, 0, none⟩ = some (.int .i64 t938) := (blk_cell BK944.out 0).trans rfl
           have hcz45_1 : w41.cell? ⟨gb944, 1, none⟩ = some (.int .i64 t939) := (blk_cell BK944.out 1).trans rfl
           have hcz45_2 : w41.cell? ⟨gb944, 2, none⟩ = some (.slice Ao21 t940.length co21) := (blk_cell BK944.out 2).trans rfl
           have hfz45_0 := blk_frozen BK944.out 0
           have hfz45_1 := blk_frozen BK944.out 1
           have hfz45_2 := blk_frozen BK944.out 2
           go_wp2_with (first | (go_at_call 21; (with_reducible refine (impl_TermAt.calls k1 t938 t939 _ _ t940 (wrap64 (t933 - 1)) t981 _ ?side1 ?side2 A43.out).mono ?_); (case side1 => repeat (first | exact (R_reads' HO_945002.out).2.2 | (with_reducible refine C_alloc ?_ _) | (with_reducible refine C_drewN ?_ _) | (with_reducible refine C_drew ?_))); (case side2 => exact (R_reads' HO_945002.out).2.1); rintro e w46 ⟨rfl, hb⟩; have n0_ := Aside0.mk (R_below (by (with_reducible repeat (first | apply R_alloc | apply R_drewN | apply R_drew)); exact HO_5.out) hb); have n1_ := Aside0.mk (R_below (by (with_reducible repeat (first | apply R_alloc | apply R_drewN | apply R_drew)); exact HO_938002.out) hb); have n2_ := Aside0.mk (R_below (by (with_reducible repeat (first | apply R_alloc | apply R_drewN | apply R_drew)); exact HO_945002.out) hb); have n3_ := Aside0.mk (blk_below (g := gb937) (o := .cells #[.int .i64 t928, .int .i64 t929, .slice Ao16 t930.length co16] 29 (0, 0)) (by (with_reducible repeat (first | refine blk_drewN ?_ _ | refine blk_drew ?_ | refine blk_alloc ?_ _)); exact BK937.out) hb); have n4_ := Aside0.mk (blk_below (g := gb944) (o := .cells #[.int .i64 t938, .int .i64 t939, .slice Ao21 t940.length co21] 29 (0, 0)) (by (with_reducible repeat (first | refine blk_drewN ?_ _ | refine blk_drew ?_ | refine blk_alloc ?_ _)); exact BK944.out) hb); have n5_ := Aside0.mk (below_step (by repeat (first | (with_reducible first | exact HB.out | apply below_alloc | apply pw_below_drewN | apply below_drew1 | refine below_set ?_ GE937.out | refine below_set ?_ GE944.out) | exact HB.out)) hb); clear HO_5; clear HO_938002; clear HO_945002; clear BK937; clear BK944; clear HB; have HO_5 := n0_; have HO_938002 := n1_; have HO_945002 := n2_; have BK937 := n3_; have BK944 := n4_; have HB := n5_; clear n0_ n1_ n2_ n3_ n4_ n5_; (try clear hb); (try clear hb2); (try clear hk); (try clear hi)))
           go_meet
           case rel => exact ⟨_, ((t981 != (-1))), (by first | rfl | (simp; done) | (simp [*]; done)), H', ⟨by have := HK1.out; first | omega | exact Nat.le_refl _⟩, ⟨by (with_reducible repeat (first | apply R_alloc | apply R_drewN | apply R_drew)); exact HO_5.out⟩, ⟨by (with_reducible repeat (first | apply R_alloc | apply R_drewN | apply R_drew)); exact HO_938002.out⟩, ⟨by (with_reducible repeat (first | apply R_alloc | apply R_drewN | apply R_drew)); exact HO_945002.out⟩, ⟨by (with_reducible repeat (first | refine blk_drewN ?_ _ | refine blk_drew ?_ | refine blk_alloc ?_ _)); exact BK937.out⟩, ⟨by (with_reducible repeat (first | refine blk_drewN ?_ _ | refine blk_drew ?_ | refine blk_alloc ?_ _)); exact BK944.out⟩, ⟨by repeat (first | (with_reducible first | exact HB.out | apply below_alloc | apply pw_below_drewN | apply below_drew1 | refine below_set ?_ GE937.out | refine below_set ?_ GE944.out) | exact HB.out)⟩⟩
          ·
           rw [if_neg c42] at H
           have c42b0 : decide (0 < t933) = false := decide_eq_false c42
           clear c42
           (first | rw [c42b0] | (simp only [i64_w, i32_w]; rw [c42b0]) | skip)
           have H' := Aside0.mk H
           clear H
           go_wp2
           go_meet
           case rel => exact ⟨_, (false), (by first | rfl | (simp; done) | (simp [*]; done)), H', ⟨by have := HK1.out; first | omega | exact Nat.le_refl _⟩, ⟨by (with_reducible repeat (first | apply R_alloc | apply R_drewN | apply R_drew)); exact HO_5.out⟩, ⟨by (with_reducible repeat (first | apply R_alloc | apply R_drewN | apply R_drew)); exact HO_938002.out⟩, ⟨by (with_reducible repeat (first | apply R_alloc | apply R_drewN | apply R_drew)); exact HO_945002.out⟩, ⟨by (with_reducible repeat (first | refine blk_drewN ?_ _ | refine blk_drew ?_ | refine blk_alloc ?_ _)); exact BK937.out⟩, ⟨by (with_reducible repeat (first | refine blk_drewN ?_ _ | refine blk_drew ?_ | refine blk_alloc ?_ _)); exact BK944.out⟩, ⟨by repeat (first | (with_reducible first | exact HB.out | apply below_alloc | apply pw_below_drewN | apply below_drew1 | refine below_set ?_ GE937.out | refine below_set ?_ GE944.out) | exact HB.out)⟩⟩
         case rest =>
          clear HC38
          try clear c1
          try clear c2
          try clear p2
          try clear c3
          try clear c4
          try clear c6
          try clear p6
          try clear c8
          try clear c11
          try clear c11b0
          try clear c11b1
          try clear c12
          try clear c12b0
          try clear c12b1
          try clear c16
          try clear c19
          try clear c21
          try clear c28
          try clear c28b0
          try clear c31
          try clear c31b0
          try clear c31b1
          try clear c32
          try clear c33
          try clear c39
          try clear c40
          try clear c42
          try clear c42b0
          try clear c44
          try clear hcz15_0
          try clear hcz15_1
          try clear hcz15_2
          try clear hcz20_0
          try clear hcz20_1
          try clear hcz20_2
          try clear hcz33_0
          try clear hcz33_1
          try clear hcz33_2
          try clear hcz40_0
          try clear hcz40_1
          try clear hcz40_2
          try clear hcz45_0
          try clear hcz45_1
          try clear hcz45_2
          try clear hfz15_0
          try clear hfz15_1
          try clear hfz15_2
          try clear hfz20_0
          try clear hfz20_1
          try clear hfz20_2
          try clear hfz33_0
          try clear hfz33_1
          try clear hfz33_2
          try clear hfz40_0
          try clear hfz40_1
          try clear hfz40_2
          try clear hfz45_0
          try clear hfz45_1
          try clear hfz45_2
          try clear p2
          obtain ⟨kq, x69_37, rfl, HA, HJ37, HO_5, HO_938002, HO_945002, BK937, BK944, HB⟩ := hcut
          cases kq with
          | zero => exact absurd HA.out (by simp [laws_FnCompacted.j1])
          | succ kj37 =>
           have H := HA.out
           clear HA
           simp only [laws_FnCompacted.j1] at H
           by_cases c47 : x69_37 = true
           ·
            subst c47
            have H1 : (none) = some r := by rw [if_pos rfl] at H; exact H
            clear H
            have H := H1
            clear H1
            exact absurd H (by simp)
           ·
            replace c47 := Bool.eq_false_iff.mpr c47
            subst c47
            have H1 : ((spec_TermAt.f kj37 t928 t929 t930 t933).bind fun t982 => ((impl_AppendTo.f kj37 t928 t929 t930 t933 t982 t934).bind fun bt983 => ((spec_TermAt.f kj37 t928 t929 t930 t933).bind fun t990 => ((impl_AppendTo.f kj37 t938 t939 t940 t933 t990 t934).bind fun bt991 => (if bt983.2.2.2 = true then (if bt991.2.2.2 = true then (laws_FnCompacted.j2 kj37 t933 bt983.2.2.2 false t928 t929 t930 t938 t939 t940 bt983.1 bt983.2.1 bt983.2.2.1 bt991.1 bt991.2.1 bt991.2.2.1) else (none)) else (if bt991.2.2.2 = true then (laws_FnCompacted.j2 kj37 t933 bt983.2.2.2 false t928 t929 t930 t938 t939 t940 bt983.1 bt983.2.1 bt983.2.2.1 bt991.1 bt991.2.1 bt991.2.2.1) else ((laws_sameLog.f kj37 bt991.1 bt991.2.1 bt991.2.2.1 t938 t939 t940).bind fun t998 => (laws_FnCompacted.j2 kj37 t933 bt983.2.2.2 (!t998) t928 t929 t930 t938 t939 t940 bt983.1 bt983.2.1 bt983.2.2.1 bt991.1 bt991.2.1 bt991.2.2.1)))))))) = some r := by rw [if_neg (show ¬ (false = true) by decide)] at H; exact H
            clear H
            have H := H1
            clear H1
            replace H := Option.bind_eq_some_iff.mp H
            obtain ⟨t982, A480, H⟩ := H
            replace H : ((impl_AppendTo.f kj37 t928 t929 t930 t933 t982 t934).bind fun bt983 => ((spec_TermAt.f kj37 t928 t929 t930 t933).bind fun t990 => ((impl_AppendTo.f kj37 t938 t939 t940 t933 t990 t934).bind fun bt991 => (if bt983.2.2.2 = true then (if bt991.2.2.2 = true then (laws_FnCompacted.j2 kj37 t933 bt983.2.2.2 false t928 t929 t930 t938 t939 t940 bt983.1 bt983.2.1 bt983.2.2.1 bt991.1 bt991.2.1 bt991.2.2.1) else (none)) else (if bt991.2.2.2 = true then (laws_FnCompacted.j2 kj37 t933 bt983.2.2.2 false t928 t929 t930 t938 t939 t940 bt983.1 bt983.2.1 bt983.2.2.1 bt991.1 bt991.2.1 bt991.2.2.1) else ((laws_sameLog.f kj37 bt991.1 bt991.2.1 bt991.2.2.1 t938 t939 t940).bind fun t998 => (laws_FnCompacted.j2 kj37 t933 bt983.2.2.2 (!t998) t928 t929 t930 t938 t939 t940 bt983.1 bt983.2.1 bt983.2.2.1 bt991.1 bt991.2.1 bt991.2.2.1))))))) = some r := H
            have A48 := Aside0.mk A480
            clear A480
            replace H := Option.bind_eq_some_iff.mp H
            obtain ⟨⟨t983, t984, t985, t988⟩, A490, H⟩ := H
            replace H : ((spec_TermAt.f kj37 t928 t929 t930 t933).bind fun t990 => ((impl_AppendTo.f kj37 t938 t939 t940 t933 t990 t934).bind fun bt991 => (if t988 = true then (if bt991.2.2.2 = true then (laws_FnCompacted.j2 kj37 t933 t988 false t928 t929 t930 t938 t939 t940 t983 t984 t985 bt991.1 bt991.2.1 bt991.2.2.1) else (none)) else (if bt991.2.2.2 = true then (laws_FnCompacted.j2 kj37 t933 t988 false t928 t929 t930 t938 t939 t940 t983 t984 t985 bt991.1 bt991.2.1 bt991.2.2.1) else ((laws_sameLog.f kj37 bt991.1 bt991.2.1 bt991.2.2.1 t938 t939 t940).bind fun t998 => (laws_FnCompacted.j2 kj37 t933 t988 (!t998) t928 t929 t930 t938 t939 t940 t983 t984 t985 bt991.1 bt991.2.1 bt991.2.2.1)))))) = some r := H
            have A49 := Aside0.mk A490
            clear A490
            replace H := Option.bind_eq_some_iff.mp H
            obtain ⟨t990, A500, H⟩ := H
            replace H : ((impl_AppendTo.f kj37 t938 t939 t940 t933 t990 t934).bind fun bt991 => (if t988 = true then (if bt991.2.2.2 = true then (laws_FnCompacted.j2 kj37 t933 t988 false t928 t929 t930 t938 t939 t940 t983 t984 t985 bt991.1 bt991.2.1 bt991.2.2.1) else (none)) else (if bt991.2.2.2 = true then (laws_FnCompacted.j2 kj37 t933 t988 false t928 t929 t930 t938 t939 t940 t983 t984 t985 bt991.1 bt991.2.1 bt991.2.2.1) else ((laws_sameLog.f kj37 bt991.1 bt991.2.1 bt991.2.2.1 t938 t939 t940).bind fun t998 => (laws_FnCompacted.j2 kj37 t933 t988 (!t998) t928 t929 t930 t938 t939 t940 t983 t984 t985 bt991.1 bt991.2.1 bt991.2.2.1))))) = some r := H
            have A50 := Aside0.mk A500
            clear A500
            replace H := Option.bind_eq_some_iff.mp H
            obtain ⟨⟨t991, t992, t993, t996⟩, A510, H⟩ := H
            replace H : (if t988 = true then (if t996 = true then (laws_FnCompacted.j2 kj37 t933 t988 false t928 t929 t930 t938 t939 t940 t983 t984 t985 t991 t992 t993) else (none)) else (if t996 = true then (laws_FnCompacted.j2 kj37 t933 t988 false t928 t929 t930 t938 t939 t940 t983 t984 t985 t991 t992 t993) else ((laws_sameLog.f kj37 t991 t992 t993 t938 t939 t940).bind fun t998 => (laws_FnCompacted.j2 kj37 t933 t988 (!t998) t928 t929 t930 t938 t939 t940 t983 t984 t985 t991 t992 t993)))) = some r := H
            have A51 := Aside0.mk A510
            clear A510
            have HC52 := Aside0.mk H
            clear H
            obtain ⟨Ao53, co53, eo53⟩ := R_slice HO_5.out
            subst eo53
            try go_wp2
            have n0_ := Aside0.mk (R_drew HO_5.out)
            have n1_ := Aside0.mk (R_drew HO_938002.out)
            have n2_ := Aside0.mk (R_drew HO_945002.out)
            have n3_ := Aside0.mk (blk_drew BK937.out)
            have n4_ := Aside0.mk (blk_drew BK944.out)
            have n5_ := Aside0.mk (below_drew1 HB.out)
            clear HO_5
            clear HO_938002
            clear HO_945002
            clear BK937
            clear BK944
            clear HB
            have HO_5 := n0_
            have HO_938002 := n1_
            have HO_945002 := n2_
            have BK937 := n3_
            have BK944 := n4_
            have HB := n5_
            clear n0_ n1_ n2_ n3_ n4_ n5_
            refine start_ (n := 13) (S := fun w' => w'.cell? ⟨gb937, 0, none⟩ = some (.int .i64 t928) ∧ w'.cell? ⟨gb937, 1, none⟩ = some (.int .i64 t929) ∧ w'.cell? ⟨gb937, 2, none⟩ = some (.slice Ao16 t930.length co16)) (ds := []) #[false, false, false, false, false, false, false, false, false, false, false, false, false] (by kernel_rfl) rfl rfl ⟨(blk_cell BK937.out 0).trans rfl, (blk_cell BK937.out 1).trans rfl, (blk_cell BK937.out 2).trans rfl⟩ (fun hHeld => ?_); refine with_tabW laws_FnCompacted.tab14 laws_FnCompacted.bits14 (fun HT_ HW_ => ?_)
            generalize wc.drew = w54 at HO_5 HO_938002 HO_945002 BK937 BK944 HB hHeld ⊢
            refine SQ.pu 1 72 HT_ ?_
            refine SQ.pu 3 74 HT_ ?_
            refine SQ.pu 5 76 HT_ ?_
            refine SQ.tk 0 71 HT_ HW_ hHeld ?_
            refine SQ.tk 2 73 HT_ HW_ hHeld ?_
            refine join_ (σ := Value × Nat) 2 #[true, true, true, true, true, true, true, true, true, true, true, false, false] (fun s_ => [(75, .int .i64 t982), (77, .tuple #[.agg #[.int .i64 t983, .int .i64 t984, s_.1], .bool t988]), (9, .pointer (some ⟨s_.2, 0, none⟩)), (70, .tuple #[.agg #[.int .i64 t983, .int .i64 t984, s_.1], .bool t988]), (78, .agg #[.int .i64 t983, .int .i64 t984, s_.1]), (79, .bool t988)]) (fun s_ w' => (w'.cell? ⟨gb937, 0, none⟩ = some (.int .i64 t928) ∧ w'.cell? ⟨gb937, 1, none⟩ = some (.int .i64 t929) ∧ w'.cell? ⟨gb937, 2, none⟩ = some (.slice Ao16 t930.length co16)) ∧ (Kd.R k54 54 w' w.heap.size (fun k_ => some k_ ≠ (.slice Ao53 t934.length co53 : Value).ownBlock ∧ some k_ ≠ (.slice Ao16 t930.length co16 : Value).ownBlock ∧ some k_ ≠ (.slice Ao21 t940.length co21 : Value).ownBlock) s_.1 t985) ∧ (Kd.R k54 54 w' w.heap.size (fun k_ => some k_ ≠ (s_.1 : Value).ownBlock ∧ some k_ ≠ (.slice Ao16 t930.length co16 : Value).ownBlock ∧ some k_ ≠ (.slice Ao21 t940.length co21 : Value).ownBlock) (.slice Ao53 t934.length co53) t934) ∧ (Kd.R k54 54 w' w.heap.size (fun k_ => some k_ ≠ (s_.1 : Value).ownBlock ∧ some k_ ≠ (.slice Ao53 t934.length co53 : Value).ownBlock ∧ some k_ ≠ (.slice Ao21 t940.length co21 : Value).ownBlock) (.slice Ao16 t930.length co16) t930) ∧ (Kd.R k54 54 w' w.heap.size (fun k_ => some k_ ≠ (s_.1 : Value).ownBlock ∧ some k_ ≠ (.slice Ao53 t934.length co53 : Value).ownBlock ∧ some k_ ≠ (.slice Ao16 t930.length co16 : Value).ownBlock) (.slice Ao21 t940.length co21) t940) ∧ (w'.heap[gb937]? = some (.cells #[.int .i64 t928, .int .i64 t929, .slice Ao16 t930.length co16] 29 (0, 0))) ∧ (w'.heap[gb944]? = some (.cells #[.int .i64 t938, .int .i64 t939, .slice Ao21 t940.length co21] 29 (0, 0))) ∧ (w'.heap[s_.2]? = some (.cells #[.int .i64 0, .int .i64 0, .slice none 0 0] 29 (0, 0))) ∧ (w.heap.size ≤ s_.2) ∧ (w.heap.size ≤ s_.2) ∧ (gb937 ≠ s_.2) ∧ (s_.2 ≠ gb937) ∧ (gb944 ≠ s_.2) ∧ (s_.2 ≠ gb944) ∧ (Below w.heap.size w w')) ?_ ?_
            rotate_left
            ·
             intro hCont
             refine two_ (i := 4) (j := 10) (Ni := some 75) (Nj := some 9) #[true, true, true, true, true, true, false, false, false, false, false, false, false] #[true, true, true, true, false, true, false, false, false, false, true, false, false] rfl rfl rfl rfl (two_of HT_.out (by kernel_rfl)) (by decide) (by decide) (fun K hK => ?_) (fun K hK => ?_)
             ·
              skip
              refine goes_ Try.func20 (by kernel_rfl) rfl #[.agg #[.int .i64 t928, .int .i64 t929, .slice Ao16 t930.length co16], .int .i64 t933] (by rfl) rfl rfl (by (try simp only [List.map_toArray, List.map_cons, List.map_nil]); first | done | rfl | (simp only [List.length_drop, List.length_take]; rfl)) ?_
              with_reducible refine (spec_TermAt.calls kj37 t928 t929 _ _ t930 t933 t982 _ ?side1 ?side2 A48.out).mono ?_
              (case side1 => repeat (first | exact (R_reads' HO_938002.out).2.2 | (with_reducible refine C_alloc ?_ _) | (with_reducible refine C_drewN ?_ _) | (with_reducible refine C_drew ?_)))
              (case side2 => exact (R_reads' HO_938002.out).2.1)
              rintro e w55 ⟨rfl, hb⟩
              refine ⟨_, rfl, ?_⟩
              have n0_ := Aside0.mk (R_below (by (with_reducible repeat (first | apply R_alloc | apply R_drewN | apply R_drew)); exact HO_5.out) hb)
              have n1_ := Aside0.mk (R_below (by (with_reducible repeat (first | apply R_alloc | apply R_drewN | apply R_drew)); exact HO_938002.out) hb)
              have n2_ := Aside0.mk (R_below (by (with_reducible repeat (first | apply R_alloc | apply R_drewN | apply R_drew)); exact HO_945002.out) hb)
              have n3_ := Aside0.mk (blk_below (g := gb937) (o := .cells #[.int .i64 t928, .int .i64 t929, .slice Ao16 t930.length co16] 29 (0, 0)) (by (with_reducible repeat (first | refine blk_drewN ?_ _ | refine blk_drew ?_ | refine blk_alloc ?_ _)); exact BK937.out) hb)
              have n4_ := Aside0.mk (blk_below (g := gb944) (o := .cells #[.int .i64 t938, .int .i64 t939, .slice Ao21 t940.length co21] 29 (0, 0)) (by (with_reducible repeat (first | refine blk_drewN ?_ _ | refine blk_drew ?_ | refine blk_alloc ?_ _)); exact BK944.out) hb)
              have n5_ := Aside0.mk (below_step (by repeat (first | (with_reducible first | exact HB.out | apply below_alloc | apply pw_below_drewN | apply below_drew1 | refine below_set ?_ GE937.out | refine below_set ?_ GE944.out) | exact HB.out)) hb)
              clear HO_5
              clear HO_938002
              clear HO_945002
              clear BK937
              clear BK944
              clear HB
              have HO_5 := n0_
              have HO_938002 := n1_
              have HO_945002 := n2_
              have BK937 := n3_
              have BK944 := n4_
              have HB := n5_
              clear n0_ n1_ n2_ n3_ n4_ n5_
              (try clear hb)
              (try clear hb2)
              (try clear hk)
              (try clear hi)
              refine hK.out _ _ ⟨(blk_cell BK937.out 0).trans rfl, (blk_cell BK937.out 1).trans rfl, (blk_cell BK937.out 2).trans rfl⟩ (fun hHeld => ?_)
              clear hK K
              refine norm_ (a' := ?_) ?_ ?_
              rotate_left
              ·
               show Act.put _ (some 75) _ = _
               simp only [Act.put, List.setIfInBounds_toArray, List.set_cons_zero, List.set_cons_succ, i64_w, i32_w]
               rfl
              refine two_ (i := 6) (j := 10) (Ni := some 77) (Nj := some 9) #[true, true, true, true, true, true, true, false, false, false, false, false, false] #[true, true, true, true, true, true, false, false, false, false, true, false, false] rfl rfl rfl rfl (two_of HT_.out (by kernel_rfl)) (by decide) (by decide) (fun K hK => ?_) (fun K hK => ?_)
              ·
               skip
               refine goes_ Try.func38 (by kernel_rfl) rfl #[.agg #[.int .i64 t928, .int .i64 t929, .slice Ao16 t930.length co16], .int .i64 t933, .int .i64 t982, .slice Ao53 t934.length co53] (by rfl) rfl rfl (by (try simp only [List.map_toArray, List.map_cons, List.map_nil]); first | done | rfl | (simp only [List.length_drop, List.length_take]; rfl)) ?_
               with_reducible refine (impl_AppendTo.calls kj37 t928 t929 _ _ t930 t933 t982 _ _ t934 t983 t984 t985 t988 _ ?side1 ?side2 ?side3 ?side4 A49.out).mono ?_
               (case side1 => repeat (first | exact (R_reads' HO_938002.out).2.2 | (with_reducible refine C_alloc ?_ _) | (with_reducible refine C_drewN ?_ _) | (with_reducible refine C_drew ?_)))
               (case side2 => exact (R_reads' HO_938002.out).2.1)
               (case side3 => repeat (first | exact (R_reads' HO_5.out).2.2 | (with_reducible refine C_alloc ?_ _) | (with_reducible refine C_drewN ?_ _) | (with_reducible refine C_drew ?_)))
               (case side4 => exact (R_reads' HO_5.out).2.1)
               rintro e w56 ⟨v986, rfl, ho0, hb⟩
               refine ⟨_, rfl, ?_⟩
               have n0_ := Aside0.mk (R_elder' (by (with_reducible repeat (first | apply R_alloc | apply R_drewN | apply R_drew)); exact HO_5.out) (R_base ho0) hb)
               have n1_ := Aside0.mk (R_elder' (by (with_reducible repeat (first | apply R_alloc | apply R_drewN | apply R_drew)); exact HO_938002.out) (R_base ho0) hb)
               have n2_ := Aside0.mk (R_elder' (by (with_reducible repeat (first | apply R_alloc | apply R_drewN | apply R_drew)); exact HO_945002.out) (R_base ho0) hb)
               have n3_ := Aside0.mk (R_lower (R_new' (R_new' (R_new' ho0 (R_lt (by (with_reducible repeat (first | apply R_alloc | apply R_drewN | apply R_drew)); exact HO_5.out))) (R_lt (by (with_reducible repeat (first | apply R_alloc | apply R_drewN | apply R_drew)); exact HO_938002.out))) (R_lt (by (with_reducible repeat (first | apply R_alloc | apply R_drewN | apply R_drew)); exact HO_945002.out))) (below_size (by repeat (first | (with_reducible first | exact HB.out | apply below_alloc | apply pw_below_drewN | apply below_drew1 | refine below_set ?_ GE937.out | refine below_set ?_ GE944.out) | exact HB.out))))
               have n4_ := Aside0.mk (blk_below (g := gb937) (o := .cells #[.int .i64 t928, .int .i64 t929, .slice Ao16 t930.length co16] 29 (0, 0)) (by (with_reducible repeat (first | refine blk_drewN ?_ _ | refine blk_drew ?_ | refine blk_alloc ?_ _)); exact BK937.out) hb)
               have n5_ := Aside0.mk (blk_below (g := gb944) (o := .cells #[.int .i64 t938, .int .i64 t939, .slice Ao21 t940.length co21] 29 (0, 0)) (by (with_reducible repeat (first | refine blk_drewN ?_ _ | refine blk_drew ?_ | refine blk_alloc ?_ _)); exact BK944.out) hb)
               have n6_ := Aside0.mk (below_step (by repeat (first | (with_reducible first | exact HB.out | apply below_alloc | apply pw_below_drewN | apply below_drew1 | refine below_set ?_ GE937.out | refine below_set ?_ GE944.out) | exact HB.out)) hb)
               clear HO_5
               clear HO_938002
               clear HO_945002
               clear BK937
               clear BK944
               clear HB
               have HO_5 := n0_
               have HO_938002 := n1_
               have HO_945002 := n2_
               have HO987 := n3_
               have BK937 := n4_
               have BK944 := n5_
               have HB := n6_
               clear n0_ n1_ n2_ n3_ n4_ n5_ n6_
               (try clear hb)
               (try clear hb2)
               (try clear hk)
               (try clear hi)
               (try clear ho0)
               refine hK.out _ _ ⟨(blk_cell BK937.out 0).trans rfl, (blk_cell BK937.out 1).trans rfl, (blk_cell BK937.out 2).trans rfl⟩ (fun hHeld => ?_)
               clear hK K
               refine norm_ (a' := ?_) ?_ ?_
               rotate_left
               ·
                show Act.put _ (some 77) _ = _
                simp only [Act.put, List.setIfInBounds_toArray, List.set_cons_zero, List.set_cons_succ, i64_w, i32_w]
                rfl
               refine SQ.pu 7 70 HT_ ?_
               refine SQ.pu 8 78 HT_ ?_
               refine SQ.pu 9 79 HT_ ?_
               refine one_ (i := 10) (N := some 9) #[true, true, true, true, true, true, true, true, true, true, true, false, false] rfl rfl (one_of HT_.out (by kernel_rfl)) (by decide) (fun K hK => ?_)
               refine box_step ?hg (N := 9) ?hd (cs := #[.int .i64 0, .int .i64 0, .slice none 0 0]) (t := 29) ?hr ?_; (case hd => rfl); (case hg => rfl); (case hr => first | (go_simp; done) | (go_simp; rfl))
               intro gb989 hg w57 hbox hb
               have n0_ := Aside0.mk (R_below (by (with_reducible repeat (first | apply R_alloc | apply R_drewN | apply R_drew)); exact HO_5.out) hb)
               have n1_ := Aside0.mk (R_below (by (with_reducible repeat (first | apply R_alloc | apply R_drewN | apply R_drew)); exact HO_938002.out) hb)
               have n2_ := Aside0.mk (R_below (by (with_reducible repeat (first | apply R_alloc | apply R_drewN | apply R_drew)); exact HO_945002.out) hb)
               have n3_ := Aside0.mk (R_below (by (with_reducible repeat (first | apply R_alloc | apply R_drewN | apply R_drew)); exact HO987.out) hb)
               have n4_ := Aside0.mk (blk_below (g := gb937) (o := .cells #[.int .i64 t928, .int .i64 t929, .slice Ao16 t930.length co16] 29 (0, 0)) (by (with_reducible repeat (first | refine blk_drewN ?_ _ | refine blk_drew ?_ | refine blk_alloc ?_ _)); exact BK937.out) hb)
               have n5_ := Aside0.mk (blk_below (g := gb944) (o := .cells #[.int .i64 t938, .int .i64 t939, .slice Ao21 t940.length co21] 29 (0, 0)) (by (with_reducible repeat (first | refine blk_drewN ?_ _ | refine blk_drew ?_ | refine blk_alloc ?_ _)); exact BK944.out) hb)
               have n6_ := Aside0.mk (below_step (by repeat (first | (with_reducible first | exact HB.out | apply below_alloc | apply pw_below_drewN | apply below_drew1 | refine below_set ?_ GE937.out | refine below_set ?_ GE944.out) | exact HB.out)) hb)
               have n7_ := Aside0.mk (hbox)
               have n8_ := Aside0.mk ((by rw [hg]; exact (below_size (by repeat (first | (with_reducible first | exact HB.out | apply below_alloc | apply pw_below_drewN | apply below_drew1 | refine below_set ?_ GE937.out | refine below_set ?_ GE944.out) | exact HB.out))) : w.heap.size ≤ gb989))
               have n9_ := Aside0.mk ((by rw [hg]; exact (below_size (by repeat (first | (with_reducible first | exact HB.out | apply below_alloc | apply pw_below_drewN | apply below_drew1 | refine below_set ?_ GE937.out | refine below_set ?_ GE944.out) | exact HB.out))) : w.heap.size ≤ gb989))
               have n10_ := Aside0.mk ((by rw [hg]; exact Nat.ne_of_lt (blk_lt (g := gb937) (o := .cells #[.int .i64 t928, .int .i64 t929, .slice Ao16 t930.length co16] 29 (0, 0)) (by (with_reducible repeat (first | refine blk_drewN ?_ _ | refine blk_drew ?_ | refine blk_alloc ?_ _)); exact BK937.out)) : gb937 ≠ gb989))
               have n11_ := Aside0.mk ((by rw [hg]; exact Nat.ne_of_gt (blk_lt (g := gb937) (o := .cells #[.int .i64 t928, .int .i64 t929, .slice Ao16 t930.length co16] 29 (0, 0)) (by (with_reducible repeat (first | refine blk_drewN ?_ _ | refine blk_drew ?_ | refine blk_alloc ?_ _)); exact BK937.out)) : gb989 ≠ gb937))
               have n12_ := Aside0.mk ((by rw [hg]; exact Nat.ne_of_lt (blk_lt (g := gb944) (o := .cells #[.int .i64 t938, .int .i64 t939, .slice Ao21 t940.length co21] 29 (0, 0)) (by (with_reducible repeat (first | refine blk_drewN ?_ _ | refine blk_drew ?_ | refine blk_alloc ?_ _)); exact BK944.out)) : gb944 ≠ gb989))
               have n13_ := Aside0.mk ((by rw [hg]; exact Nat.ne_of_gt (blk_lt (g := gb944) (o := .cells #[.int .i64 t938, .int .i64 t939, .slice Ao21 t940.length co21] 29 (0, 0)) (by (with_reducible repeat (first | refine blk_drewN ?_ _ | refine blk_drew ?_ | refine blk_alloc ?_ _)); exact BK944.out)) : gb989 ≠ gb944))
               clear HO_5
               clear HO_938002
               clear HO_945002
               clear HO987
               clear BK937
               clear BK944
               clear HB
               have HO_5 := n0_
               have HO_938002 := n1_
               have HO_945002 := n2_
               have HO987 := n3_
               have BK937 := n4_
               have BK944 := n5_
               have HB := n6_
               have BK989 := n7_
               have GW989 := n8_
               have GE989 := n9_
               have NB937_989 := n10_
               have NB989_937 := n11_
               have NB944_989 := n12_
               have NB989_944 := n13_
               clear n0_ n1_ n2_ n3_ n4_ n5_ n6_ n7_ n8_ n9_ n10_ n11_ n12_ n13_
               clear hb hbox hg
               refine hK.out _ _ ⟨(blk_cell BK937.out 0).trans rfl, (blk_cell BK937.out 1).trans rfl, (blk_cell BK937.out 2).trans rfl⟩ (fun hHeld => ?_)
               clear hK K
               refine norm_ (a' := ?_) ?_ ?_
               rotate_left
               ·
                show Act.put _ (some 9) _ = _
                simp only [Act.put, List.setIfInBounds_toArray, List.set_cons_zero, List.set_cons_succ, i64_w, i32_w]
                rfl
               exact norm_ (by simp only [putAll, Act.put, List.setIfInBounds_toArray, List.set_cons_zero, List.set_cons_succ]) (hCont (v986, gb989) _ ⟨hHeld, (by (with_reducible repeat (first | apply R_alloc | apply R_drewN | apply R_drew)); exact R_mono HO987.out (fun _ hk => ⟨hk.1.1.2, ⟨hk.1.2, hk.2⟩⟩)), (by (with_reducible repeat (first | apply R_alloc | apply R_drewN | apply R_drew)); exact R_mono HO_5.out (fun _ hk => ⟨hk.2, ⟨hk.1.1, hk.1.2⟩⟩)), (by (with_reducible repeat (first | apply R_alloc | apply R_drewN | apply R_drew)); exact R_mono HO_938002.out (fun _ hk => ⟨hk.2, ⟨hk.1.1, hk.1.2⟩⟩)), (by (with_reducible repeat (first | apply R_alloc | apply R_drewN | apply R_drew)); exact R_mono HO_945002.out (fun _ hk => ⟨hk.2, ⟨hk.1.1, hk.1.2⟩⟩)), (by (with_reducible repeat (first | refine blk_drewN ?_ _ | refine blk_drew ?_ | refine blk_alloc ?_ _)); exact BK937.out), (by (with_reducible repeat (first | refine blk_drewN ?_ _ | refine blk_drew ?_ | refine blk_alloc ?_ _)); exact BK944.out), (by (with_reducible repeat (first | refine blk_drewN ?_ _ | refine blk_drew ?_ | refine blk_alloc ?_ _)); exact BK989.out), GW989.out, GE989.out, NB937_989.out, NB989_937.out, NB944_989.out, NB989_944.out, (by repeat (first | (with_reducible first | exact HB.out | apply below_alloc | apply pw_below_drewN | apply below_drew1 | refine below_set ?_ GE937.out | refine below_set ?_ GE944.out | refine below_set ?_ GE989.out) | exact HB.out))⟩)
              ·
               skip
               refine box_step ?hg (N := 9) ?hd (cs := #[.int .i64 0, .int .i64 0, .slice none 0 0]) (t := 29) ?hr ?_; (case hd => rfl); (case hg => rfl); (case hr => first | (go_simp; done) | (go_simp; rfl))
               intro gb989 hg w56 hbox hb
               have n0_ := Aside0.mk (R_below (by (with_reducible repeat (first | apply R_alloc | apply R_drewN | apply R_drew)); exact HO_5.out) hb)
               have n1_ := Aside0.mk (R_below (by (with_reducible repeat (first | apply R_alloc | apply R_drewN | apply R_drew)); exact HO_938002.out) hb)
               have n2_ := Aside0.mk (R_below (by (with_reducible repeat (first | apply R_alloc | apply R_drewN | apply R_drew)); exact HO_945002.out) hb)
               have n3_ := Aside0.mk (blk_below (g := gb937) (o := .cells #[.int .i64 t928, .int .i64 t929, .slice Ao16 t930.length co16] 29 (0, 0)) (by (with_reducible repeat (first | refine blk_drewN ?_ _ | refine blk_drew ?_ | refine blk_alloc ?_ _)); exact BK937.out) hb)
               have n4_ := Aside0.mk (blk_below (g := gb944) (o := .cells #[.int .i64 t938, .int .i64 t939, .slice Ao21 t940.length co21] 29 (0, 0)) (by (with_reducible repeat (first | refine blk_drewN ?_ _ | refine blk_drew ?_ | refine blk_alloc ?_ _)); exact BK944.out) hb)
               have n5_ := Aside0.mk (below_step (by repeat (first | (with_reducible first | exact HB.out | apply below_alloc | apply pw_below_drewN | apply below_drew1 | refine below_set ?_ GE937.out | refine below_set ?_ GE944.out) | exact HB.out)) hb)
               have n6_ := Aside0.mk (hbox)
               have n7_ := Aside0.mk ((by rw [hg]; exact (below_size (by repeat (first | (with_reducible first | exact HB.out | apply below_alloc | apply pw_below_drewN | apply below_drew1 | refine below_set ?_ GE937.out | refine below_set ?_ GE944.out) | exact HB.out))) : w.heap.size ≤ gb989))
               have n8_ := Aside0.mk ((by rw [hg]; exact (below_size (by repeat (first | (with_reducible first | exact HB.out | apply below_alloc | apply pw_below_drewN | apply below_drew1 | refine below_set ?_ GE937.out | refine below_set ?_ GE944.out) | exact HB.out))) : w.heap.size ≤ gb989))
               have n9_ := Aside0.mk ((by rw [hg]; exact Nat.ne_of_lt (blk_lt (g := gb937) (o := .cells #[.int .i64 t928, .int .i64 t929, .slice Ao16 t930.length co16] 29 (0, 0)) (by (with_reducible repeat (first | refine blk_drewN ?_ _ | refine blk_drew ?_ | refine blk_alloc ?_ _)); exact BK937.out)) : gb937 ≠ gb989))
               have n10_ := Aside0.mk ((by rw [hg]; exact Nat.ne_of_gt (blk_lt (g := gb937) (o := .cells #[.int .i64 t928, .int .i64 t929, .slice Ao16 t930.length co16] 29 (0, 0)) (by (with_reducible repeat (first | refine blk_drewN ?_ _ | refine blk_drew ?_ | refine blk_alloc ?_ _)); exact BK937.out)) : gb989 ≠ gb937))
               have n11_ := Aside0.mk ((by rw [hg]; exact Nat.ne_of_lt (blk_lt (g := gb944) (o := .cells #[.int .i64 t938, .int .i64 t939, .slice Ao21 t940.length co21] 29 (0, 0)) (by (with_reducible repeat (first | refine blk_drewN ?_ _ | refine blk_drew ?_ | refine blk_alloc ?_ _)); exact BK944.out)) : gb944 ≠ gb989))
               have n12_ := Aside0.mk ((by rw [hg]; exact Nat.ne_of_gt (blk_lt (g := gb944) (o := .cells #[.int .i64 t938, .int .i64 t939, .slice Ao21 t940.length co21] 29 (0, 0)) (by (with_reducible repeat (first | refine blk_drewN ?_ _ | refine blk_drew ?_ | refine blk_alloc ?_ _)); exact BK944.out)) : gb989 ≠ gb944))
               clear HO_5
               clear HO_938002
               clear HO_945002
               clear BK937
               clear BK944
               clear HB
               have HO_5 := n0_
               have HO_938002 := n1_
               have HO_945002 := n2_
               have BK937 := n3_
               have BK944 := n4_
               have HB := n5_
               have BK989 := n6_
               have GW989 := n7_
               have GE989 := n8_
               have NB937_989 := n9_
               have NB989_937 := n10_
               have NB944_989 := n11_
               have NB989_944 := n12_
               clear n0_ n1_ n2_ n3_ n4_ n5_ n6_ n7_ n8_ n9_ n10_ n11_ n12_
               clear hb hbox hg
               refine hK.out _ _ ⟨(blk_cell BK937.out 0).trans rfl, (blk_cell BK937.out 1).trans rfl, (blk_cell BK937.out 2).trans rfl⟩ (fun hHeld => ?_)
               clear hK K
               refine norm_ (a' := ?_) ?_ ?_
               rotate_left
               ·
                show Act.put _ (some 9) _ = _
                simp only [Act.put, List.setIfInBounds_toArray, List.set_cons_zero, List.set_cons_succ, i64_w, i32_w]
                rfl
               refine one_ (i := 6) (N := some 77) #[true, true, true, true, true, true, true, false, false, false, true, false, false] rfl rfl (one_of HT_.out (by kernel_rfl)) (by decide) (fun K hK => ?_)
               refine goes_ Try.func38 (by kernel_rfl) rfl #[.agg #[.int .i64 t928, .int .i64 t929, .slice Ao16 t930.length co16], .int .i64 t933, .int .i64 t982, .slice Ao53 t934.length co53] (by rfl) rfl rfl (by (try simp only [List.map_toArray, List.map_cons, List.map_nil]); first | done | rfl | (simp only [List.length_drop, List.length_take]; rfl)) ?_
               with_reducible refine (impl_AppendTo.calls kj37 t928 t929 _ _ t930 t933 t982 _ _ t934 t983 t984 t985 t988 _ ?side1 ?side2 ?side3 ?side4 A49.out).mono ?_
               (case side1 => repeat (first | exact (R_reads' HO_938002.out).2.2 | (with_reducible refine C_alloc ?_ _) | (with_reducible refine C_drewN ?_ _) | (with_reducible refine C_drew ?_)))
               (case side2 => exact (R_reads' HO_938002.out).2.1)
               (case side3 => repeat (first | exact (R_reads' HO_5.out).2.2 | (with_reducible refine C_alloc ?_ _) | (with_reducible refine C_drewN ?_ _) | (with_reducible refine C_drew ?_)))
               (case side4 => exact (R_reads' HO_5.out).2.1)
               rintro e w57 ⟨v986, rfl, ho0, hb⟩
               refine ⟨_, rfl, ?_⟩
               have n0_ := Aside0.mk (R_elder' (by (with_reducible repeat (first | apply R_alloc | apply R_drewN | apply R_drew)); exact HO_5.out) (R_base ho0) hb)
               have n1_ := Aside0.mk (R_elder' (by (with_reducible repeat (first | apply R_alloc | apply R_drewN | apply R_drew)); exact HO_938002.out) (R_base ho0) hb)
               have n2_ := Aside0.mk (R_elder' (by (with_reducible repeat (first | apply R_alloc | apply R_drewN | apply R_drew)); exact HO_945002.out) (R_base ho0) hb)
               have n3_ := Aside0.mk (R_lower (R_new' (R_new' (R_new' ho0 (R_lt (by (with_reducible repeat (first | apply R_alloc | apply R_drewN | apply R_drew)); exact HO_5.out))) (R_lt (by (with_reducible repeat (first | apply R_alloc | apply R_drewN | apply R_drew)); exact HO_938002.out))) (R_lt (by (with_reducible repeat (first | apply R_alloc | apply R_drewN | apply R_drew)); exact HO_945002.out))) (below_size (by repeat (first | (with_reducible first | exact HB.out | apply below_alloc | apply pw_below_drewN | apply below_drew1 | refine below_set ?_ GE937.out | refine below_set ?_ GE944.out | refine below_set ?_ GE989.out) | exact HB.out))))
               have n4_ := Aside0.mk (blk_below (g := gb937) (o := .cells #[.int .i64 t928, .int .i64 t929, .slice Ao16 t930.length co16] 29 (0, 0)) (by (with_reducible repeat (first | refine blk_drewN ?_ _ | refine blk_drew ?_ | refine blk_alloc ?_ _)); exact BK937.out) hb)
               have n5_ := Aside0.mk (blk_below (g := gb944) (o := .cells #[.int .i64 t938, .int .i64 t939, .slice Ao21 t940.length co21] 29 (0, 0)) (by (with_reducible repeat (first | refine blk_drewN ?_ _ | refine blk_drew ?_ | refine blk_alloc ?_ _)); exact BK944.out) hb)
               have n6_ := Aside0.mk (blk_below (g := gb989) (o := .cells #[.int .i64 0, .int .i64 0, .slice none 0 0] 29 (0, 0)) (by (with_reducible repeat (first | refine blk_drewN ?_ _ | refine blk_drew ?_ | refine blk_alloc ?_ _)); exact BK989.out) hb)
               have n7_ := Aside0.mk (below_step (by repeat (first | (with_reducible first | exact HB.out | apply below_alloc | apply pw_below_drewN | apply below_drew1 | refine below_set ?_ GE937.out | refine below_set ?_ GE944.out | refine below_set ?_ GE989.out) | exact HB.out)) hb)
               clear HO_5
               clear HO_938002
               clear HO_945002
               clear BK937
               clear BK944
               clear BK989
               clear HB
               have HO_5 := n0_
               have HO_938002 := n1_
               have HO_945002 := n2_
               have HO987 := n3_
               have BK937 := n4_
               have BK944 := n5_
               have BK989 := n6_
               have HB := n7_
               clear n0_ n1_ n2_ n3_ n4_ n5_ n6_ n7_
               (try clear hb)
               (try clear hb2)
               (try clear hk)
               (try clear hi)
               (try clear ho0)
               refine hK.out _ _ ⟨(blk_cell BK937.out 0).trans rfl, (blk_cell BK937.out 1).trans rfl, (blk_cell BK937.out 2).trans rfl⟩ (fun hHeld => ?_)
               clear hK K
               refine norm_ (a' := ?_) ?_ ?_
               rotate_left
               ·
                show Act.put _ (some 77) _ = _
                simp only [Act.put, List.setIfInBounds_toArray, List.set_cons_zero, List.set_cons_succ, i64_w, i32_w]
                rfl
               refine SQ.pu 7 70 HT_ ?_
               refine SQ.pu 8 78 HT_ ?_
               refine SQ.pu 9 79 HT_ ?_
               exact norm_ (by simp only [putAll, Act.put, List.setIfInBounds_toArray, List.set_cons_zero, List.set_cons_succ]) (hCont (v986, gb989) _ ⟨hHeld, (by (with_reducible repeat (first | apply R_alloc | apply R_drewN | apply R_drew)); exact R_mono HO987.out (fun _ hk => ⟨hk.1.1.2, ⟨hk.1.2, hk.2⟩⟩)), (by (with_reducible repeat (first | apply R_alloc | apply R_drewN | apply R_drew)); exact R_mono HO_5.out (fun _ hk => ⟨hk.2, ⟨hk.1.1, hk.1.2⟩⟩)), (by (with_reducible repeat (first | apply R_alloc | apply R_drewN | apply R_drew)); exact R_mono HO_938002.out (fun _ hk => ⟨hk.2, ⟨hk.1.1, hk.1.2⟩⟩)), (by (with_reducible repeat (first | apply R_alloc | apply R_drewN | apply R_drew)); exact R_mono HO_945002.out (fun _ hk => ⟨hk.2, ⟨hk.1.1, hk.1.2⟩⟩)), (by (with_reducible repeat (first | refine blk_drewN ?_ _ | refine blk_drew ?_ | refine blk_alloc ?_ _)); exact BK937.out), (by (with_reducible repeat (first | refine blk_drewN ?_ _ | refine blk_drew ?_ | refine blk_alloc ?_ _)); exact BK944.out), (by (with_reducible repeat (first | refine blk_drewN ?_ _ | refine blk_drew ?_ | refine blk_alloc ?_ _)); exact BK989.out), GW989.out, GE989.out, NB937_989.out, NB989_937.out, NB944_989.out, NB989_944.out, (by repeat (first | (with_reducible first | exact HB.out | apply below_alloc | apply pw_below_drewN | apply below_drew1 | refine below_set ?_ GE937.out | refine below_set ?_ GE944.out | refine below_set ?_ GE989.out) | exact HB.out))⟩)
             ·
              skip
              refine box_step ?hg (N := 9) ?hd (cs := #[.int .i64 0, .int .i64 0, .slice none 0 0]) (t := 29) ?hr ?_; (case hd => rfl); (case hg => rfl); (case hr => first | (go_simp; done) | (go_simp; rfl))
              intro gb989 hg w55 hbox hb
              have n0_ := Aside0.mk (R_below (by (with_reducible repeat (first | apply R_alloc | apply R_drewN | apply R_drew)); exact HO_5.out) hb)
              have n1_ := Aside0.mk (R_below (by (with_reducible repeat (first | apply R_alloc | apply R_drewN | apply R_drew)); exact HO_938002.out) hb)
              have n2_ := Aside0.mk (R_below (by (with_reducible repeat (first | apply R_alloc | apply R_drewN | apply R_drew)); exact HO_945002.out) hb)
              have n3_ := Aside0.mk (blk_below (g := gb937) (o := .cells #[.int .i64 t928, .int .i64 t929, .slice Ao16 t930.length co16] 29 (0, 0)) (by (with_reducible repeat (first | refine blk_drewN ?_ _ | refine blk_drew ?_ | refine blk_alloc ?_ _)); exact BK937.out) hb)
              have n4_ := Aside0.mk (blk_below (g := gb944) (o := .cells #[.int .i64 t938, .int .i64 t939, .slice Ao21 t940.length co21] 29 (0, 0)) (by (with_reducible repeat (first | refine blk_drewN ?_ _ | refine blk_drew ?_ | refine blk_alloc ?_ _)); exact BK944.out) hb)
              have n5_ := Aside0.mk (below_step (by repeat (first | (with_reducible first | exact HB.out | apply below_alloc | apply pw_below_drewN | apply below_drew1 | refine below_set ?_ GE937.out | refine below_set ?_ GE944.out) | exact HB.out)) hb)
              have n6_ := Aside0.mk (hbox)
              have n7_ := Aside0.mk ((by rw [hg]; exact (below_size (by repeat (first | (with_reducible first | exact HB.out | apply below_alloc | apply pw_below_drewN | apply below_drew1 | refine below_set ?_ GE937.out | refine below_set ?_ GE944.out) | exact HB.out))) : w.heap.size ≤ gb989))
              have n8_ := Aside0.mk ((by rw [hg]; exact (below_size (by repeat (first | (with_reducible first | exact HB.out | apply below_alloc | apply pw_below_drewN | apply below_drew1 | refine below_set ?_ GE937.out | refine below_set ?_ GE944.out) | exact HB.out))) : w.heap.size ≤ gb989))
              have n9_ := Aside0.mk ((by rw [hg]; exact Nat.ne_of_lt (blk_lt (g := gb937) (o := .cells #[.int .i64 t928, .int .i64 t929, .slice Ao16 t930.length co16] 29 (0, 0)) (by (with_reducible repeat (first | refine blk_drewN ?_ _ | refine blk_drew ?_ | refine blk_alloc ?_ _)); exact BK937.out)) : gb937 ≠ gb989))
              have n10_ := Aside0.mk ((by rw [hg]; exact Nat.ne_of_gt (blk_lt (g := gb937) (o := .cells #[.int .i64 t928, .int .i64 t929, .slice Ao16 t930.length co16] 29 (0, 0)) (by (with_reducible repeat (first | refine blk_drewN ?_ _ | refine blk_drew ?_ | refine blk_alloc ?_ _)); exact BK937.out)) : gb989 ≠ gb937))
              have n11_ := Aside0.mk ((by rw [hg]; exact Nat.ne_of_lt (blk_lt (g := gb944) (o := .cells #[.int .i64 t938, .int .i64 t939, .slice Ao21 t940.length co21] 29 (0, 0)) (by (with_reducible repeat (first | refine blk_drewN ?_ _ | refine blk_drew ?_ | refine blk_alloc ?_ _)); exact BK944.out)) : gb944 ≠ gb989))
              have n12_ := Aside0.mk ((by rw [hg]; exact Nat.ne_of_gt (blk_lt (g := gb944) (o := .cells #[.int .i64 t938, .int .i64 t939, .slice Ao21 t940.length co21] 29 (0, 0)) (by (with_reducible repeat (first | refine blk_drewN ?_ _ | refine blk_drew ?_ | refine blk_alloc ?_ _)); exact BK944.out)) : gb989 ≠ gb944))
              clear HO_5
              clear HO_938002
              clear HO_945002
              clear BK937
              clear BK944
              clear HB
              have HO_5 := n0_
              have HO_938002 := n1_
              have HO_945002 := n2_
              have BK937 := n3_
              have BK944 := n4_
              have HB := n5_
              have BK989 := n6_
              have GW989 := n7_
              have GE989 := n8_
              have NB937_989 := n9_
              have NB989_937 := n10_
              have NB944_989 := n11_
              have NB989_944 := n12_
              clear n0_ n1_ n2_ n3_ n4_ n5_ n6_ n7_ n8_ n9_ n10_ n11_ n12_
              clear hb hbox hg
              refine hK.out _ _ ⟨(blk_cell BK937.out 0).trans rfl, (blk_cell BK937.out 1).trans rfl, (blk_cell BK937.out 2).trans rfl⟩ (fun hHeld => ?_)
              clear hK K
              refine norm_ (a' := ?_) ?_ ?_
              rotate_left
              ·
               show Act.put _ (some 9) _ = _
               simp only [Act.put, List.setIfInBounds_toArray, List.set_cons_zero, List.set_cons_succ, i64_w, i32_w]
               rfl
              refine one_ (i := 4) (N := some 75) #[true, true, true, true, true, true, false, false, false, false, true, false, false] rfl rfl (one_of HT_.out (by kernel_rfl)) (by decide) (fun K hK => ?_)
              refine goes_ Try.func20 (by kernel_rfl) rfl #[.agg #[.int .i64 t928, .int .i64 t929, .slice Ao16 t930.length co16], .int .i64 t933] (by rfl) rfl rfl (by (try simp only [List.map_toArray, List.map_cons, List.map_nil]); first | done | rfl | (simp only [List.length_drop, List.length_take]; rfl)) ?_
              with_reducible refine (spec_TermAt.calls kj37 t928 t929 _ _ t930 t933 t982 _ ?side1 ?side2 A48.out).mono ?_
              (case side1 => repeat (first | exact (R_reads' HO_938002.out).2.2 | (with_reducible refine C_alloc ?_ _) | (with_reducible refine C_drewN ?_ _) | (with_reducible refine C_drew ?_)))
              (case side2 => exact (R_reads' HO_938002.out).2.1)
              rintro e w56 ⟨rfl, hb⟩
              refine ⟨_, rfl, ?_⟩
              have n0_ := Aside0.mk (R_below (by (with_reducible repeat (first | apply R_alloc | apply R_drewN | apply R_drew)); exact HO_5.out) hb)
              have n1_ := Aside0.mk (R_below (by (with_reducible repeat (first | apply R_alloc | apply R_drewN | apply R_drew)); exact HO_938002.out) hb)
              have n2_ := Aside0.mk (R_below (by (with_reducible repeat (first | apply R_alloc | apply R_drewN | apply R_drew)); exact HO_945002.out) hb)
              have n3_ := Aside0.mk (blk_below (g := gb937) (o := .cells #[.int .i64 t928, .int .i64 t929, .slice Ao16 t930.length co16] 29 (0, 0)) (by (with_reducible repeat (first | refine blk_drewN ?_ _ | refine blk_drew ?_ | refine blk_alloc ?_ _)); exact BK937.out) hb)
              have n4_ := Aside0.mk (blk_below (g := gb944) (o := .cells #[.int .i64 t938, .int .i64 t939, .slice Ao21 t940.length co21] 29 (0, 0)) (by (with_reducible repeat (first | refine blk_drewN ?_ _ | refine blk_drew ?_ | refine blk_alloc ?_ _)); exact BK944.out) hb)
              have n5_ := Aside0.mk (blk_below (g := gb989) (o := .cells #[.int .i64 0, .int .i64 0, .slice none 0 0] 29 (0, 0)) (by (with_reducible repeat (first | refine blk_drewN ?_ _ | refine blk_drew ?_ | refine blk_alloc ?_ _)); exact BK989.out) hb)
              have n6_ := Aside0.mk (below_step (by repeat (first | (with_reducible first | exact HB.out | apply below_alloc | apply pw_below_drewN | apply below_drew1 | refine below_set ?_ GE937.out | refine below_set ?_ GE944.out | refine below_set ?_ GE989.out) | exact HB.out)) hb)
              clear HO_5
              clear HO_938002
              clear HO_945002
              clear BK937
              clear BK944
              clear BK989
              clear HB
              have HO_5 := n0_
              have HO_938002 := n1_
              have HO_945002 := n2_
              have BK937 := n3_
              have BK944 := n4_
              have BK989 := n5_
              have HB := n6_
              clear n0_ n1_ n2_ n3_ n4_ n5_ n6_
              (try clear hb)
              (try clear hb2)
              (try clear hk)
              (try clear hi)
              refine hK.out _ _ ⟨(blk_cell BK937.out 0).trans rfl, (blk_cell BK937.out 1).trans rfl, (blk_cell BK937.out 2).trans rfl⟩ (fun hHeld => ?_)
              clear hK K
              refine norm_ (a' := ?_) ?_ ?_
              rotate_left
              ·
               show Act.put _ (some 75) _ = _
               simp only [Act.put, List.setIfInBounds_toArray, List.set_cons_zero, List.set_cons_succ, i64_w, i32_w]
               rfl
              refine one_ (i := 6) (N := some 77) #[true, true, true, true, true, true, true, false, false, false, true, false, false] rfl rfl (one_of HT_.out (by kernel_rfl)) (by decide) (fun K hK => ?_)
              refine goes_ Try.func38 (by kernel_rfl) rfl #[.agg #[.int .i64 t928, .int .i64 t929, .slice Ao16 t930.length co16], .int .i64 t933, .int .i64 t982, .slice Ao53 t934.length co53] (by rfl) rfl rfl (by (try simp only [List.map_toArray, List.map_cons, List.map_nil]); first | done | rfl | (simp only [List.length_drop, List.length_take]; rfl)) ?_
              with_reducible refine (impl_AppendTo.calls kj37 t928 t929 _ _ t930 t933 t982 _ _ t934 t983 t984 t985 t988 _ ?side1 ?side2 ?side3 ?side4 A49.out).mono ?_
              (case side1 => repeat (first | exact (R_reads' HO_938002.out).2.2 | (with_reducible refine C_alloc ?_ _) | (with_reducible refine C_drewN ?_ _) | (with_reducible refine C_drew ?_)))
              (case side2 => exact (R_reads' HO_938002.out).2.1)
              (case side3 => repeat (first | exact (R_reads' HO_5.out).2.2 | (with_reducible refine C_alloc ?_ _) | (with_reducible refine C_drewN ?_ _) | (with_reducible refine C_drew ?_)))
              (case side4 => exact (R_reads' HO_5.out).2.1)
              rintro e w57 ⟨v986, rfl, ho0, hb⟩
              refine ⟨_, rfl, ?_⟩
              have n0_ := Aside0.mk (R_elder' (by (with_reducible repeat (first | apply R_alloc | apply R_drewN | apply R_drew)); exact HO_5.out) (R_base ho0) hb)
              have n1_ := Aside0.mk (R_elder' (by (with_reducible repeat (first | apply R_alloc | apply R_drewN | apply R_drew)); exact HO_938002.out) (R_base ho0) hb)
              have n2_ := Aside0.mk (R_elder' (by (with_reducible repeat (first | apply R_alloc | apply R_drewN | apply R_drew)); exact HO_945002.out) (R_base ho0) hb)
              have n3_ := Aside0.mk (R_lower (R_new' (R_new' (R_new' ho0 (R_lt (by (with_reducible repeat (first | apply R_alloc | apply R_drewN | apply R_drew)); exact HO_5.out))) (R_lt (by (with_reducible repeat (first | apply R_alloc | apply R_drewN | apply R_drew)); exact HO_938002.out))) (R_lt (by (with_reducible repeat (first | apply R_alloc | apply R_drewN | apply R_drew)); exact HO_945002.out))) (below_size (by repeat (first | (with_reducible first | exact HB.out | apply below_alloc | apply pw_below_drewN | apply below_drew1 | refine below_set ?_ GE937.out | refine below_set ?_ GE944.out | refine below_set ?_ GE989.out) | exact HB.out))))
              have n4_ := Aside0.mk (blk_below (g := gb937) (o := .cells #[.int .i64 t928, .int .i64 t929, .slice Ao16 t930.length co16] 29 (0, 0)) (by (with_reducible repeat (first | refine blk_drewN ?_ _ | refine blk_drew ?_ | refine blk_alloc ?_ _)); exact BK937.out) hb)
              have n5_ := Aside0.mk (blk_below (g := gb944) (o := .cells #[.int .i64 t938, .int .i64 t939, .slice Ao21 t940.length co21] 29 (0, 0)) (by (with_reducible repeat (first | refine blk_drewN ?_ _ | refine blk_drew ?_ | refine blk_alloc ?_ _)); exact BK944.out) hb)
              have n6_ := Aside0.mk (blk_below (g := gb989) (o := .cells #[.int .i64 0, .int .i64 0, .slice none 0 0] 29 (0, 0)) (by (with_reducible repeat (first | refine blk_drewN ?_ _ | refine blk_drew ?_ | refine blk_alloc ?_ _)); exact BK989.out) hb)
              have n7_ := Aside0.mk (below_step (by repeat (first | (with_reducible first | exact HB.out | apply below_alloc | apply pw_below_drewN | apply below_drew1 | refine below_set ?_ GE937.out | refine below_set ?_ GE944.out | refine below_set ?_ GE989.out) | exact HB.out)) hb)
              clear HO_5
              clear HO_938002
              clear HO_945002
              clear BK937
              clear BK944
              clear BK989
              clear HB
              have HO_5 := n0_
              have HO_938002 := n1_
              have HO_945002 := n2_
              have HO987 := n3_
              have BK937 := n4_
              have BK944 := n5_
              have BK989 := n6_
              have HB := n7_
              clear n0_ n1_ n2_ n3_ n4_ n5_ n6_ n7_
              (try clear hb)
              (try clear hb2)
              (try clear hk)
              (try clear hi)
              (try clear ho0)
              refine hK.out _ _ ⟨(blk_cell BK937.out 0).trans rfl, (blk_cell BK937.out 1).trans rfl, (blk_cell BK937.out 2).trans rfl⟩ (fun hHeld => ?_)
              clear hK K
              refine norm_ (a' := ?_) ?_ ?_
              rotate_left
              ·
               show Act.put _ (some 77) _ = _
               simp only [Act.put, List.setIfInBounds_toArray, List.set_cons_zero, List.set_cons_succ, i64_w, i32_w]
               rfl
              refine SQ.pu 7 70 HT_ ?_
              refine SQ.pu 8 78 HT_ ?_
              refine SQ.pu 9 79 HT_ ?_
              exact norm_ (by simp only [putAll, Act.put, List.setIfInBounds_toArray, List.set_cons_zero, List.set_cons_succ]) (hCont (v986, gb989) _ ⟨hHeld, (by (with_reducible repeat (first | apply R_alloc | apply R_drewN | apply R_drew)); exact R_mono HO987.out (fun _ hk => ⟨hk.1.1.2, ⟨hk.1.2, hk.2⟩⟩)), (by (with_reducible repeat (first | apply R_alloc | apply R_drewN | apply R_drew)); exact R_mono HO_5.out (fun _ hk => ⟨hk.2, ⟨hk.1.1, hk.1.2⟩⟩)), (by (with_reducible repeat (first | apply R_alloc | apply R_drewN | apply R_drew)); exact R_mono HO_938002.out (fun _ hk => ⟨hk.2, ⟨hk.1.1, hk.1.2⟩⟩)), (by (with_reducible repeat (first | apply R_alloc | apply R_drewN | apply R_drew)); exact R_mono HO_945002.out (fun _ hk => ⟨hk.2, ⟨hk.1.1, hk.1.2⟩⟩)), (by (with_reducible repeat (first | refine blk_drewN ?_ _ | refine blk_drew ?_ | refine blk_alloc ?_ _)); exact BK937.out), (by (with_reducible repeat (first | refine blk_drewN ?_ _ | refine blk_drew ?_ | refine blk_alloc ?_ _)); exact BK944.out), (by (with_reducible repeat (first | refine blk_drewN ?_ _ | refine blk_drew ?_ | refine blk_alloc ?_ _)); exact BK989.out), GW989.out, GE989.out, NB937_989.out, NB989_937.out, NB944_989.out, NB989_944.out, (by repeat (first | (with_reducible first | exact HB.out | apply below_alloc | apply pw_below_drewN | apply below_drew1 | refine below_set ?_ GE937.out | refine below_set ?_ GE944.out | refine below_set ?_ GE989.out) | exact HB.out))⟩)
            rintro ⟨v986, gb989⟩ w58 ⟨hS_, h0_, h1_, h2_, h3_, h4_, h5_, h6_, h7_, h8_, h9_, h10_, h11_, h12_, h13_⟩
            have n0_ : Aside0 (Kd.R k54 54 w58 w.heap.size (fun k_ => some k_ ≠ (.slice Ao53 t934.length co53 : Value).ownBlock ∧ some k_ ≠ (.slice Ao16 t930.length co16 : Value).ownBlock ∧ some k_ ≠ (.slice Ao21 t940.length co21 : Value).ownBlock) v986 t985) := ⟨h0_⟩
            have n1_ : Aside0 (Kd.R k54 54 w58 w.heap.size (fun k_ => some k_ ≠ (v986 : Value).ownBlock ∧ some k_ ≠ (.slice Ao16 t930.length co16 : Value).ownBlock ∧ some k_ ≠ (.slice Ao21 t940.length co21 : Value).ownBlock) (.slice Ao53 t934.length co53) t934) := ⟨h1_⟩
            have n2_ : Aside0 (Kd.R k54 54 w58 w.heap.size (fun k_ => some k_ ≠ (v986 : Value).ownBlock ∧ some k_ ≠ (.slice Ao53 t934.length co53 : Value).ownBlock ∧ some k_ ≠ (.slice Ao21 t940.length co21 : Value).ownBlock) (.slice Ao16 t930.length co16) t930) := ⟨h2_⟩
            have n3_ : Aside0 (Kd.R k54 54 w58 w.heap.size (fun k_ => some k_ ≠ (v986 : Value).ownBlock ∧ some k_ ≠ (.slice Ao53 t934.length co53 : Value).ownBlock ∧ some k_ ≠ (.slice Ao16 t930.length co16 : Value).ownBlock) (.slice Ao21 t940.length co21) t940) := ⟨h3_⟩
            have n4_ : Aside0 (w58.heap[gb937]? = some (.cells #[.int .i64 t928, .int .i64 t929, .slice Ao16 t930.length co16] 29 (0, 0))) := ⟨h4_⟩
            have n5_ : Aside0 (w58.heap[gb944]? = some (.cells #[.int .i64 t938, .int .i64 t939, .slice Ao21 t940.length co21] 29 (0, 0))) := ⟨h5_⟩
            have n6_ : Aside0 (w58.heap[gb989]? = some (.cells #[.int .i64 0, .int .i64 0, .slice none 0 0] 29 (0, 0))) := ⟨h6_⟩
            have n7_ : Aside0 (w.heap.size ≤ gb989) := ⟨h7_⟩
            have n8_ : Aside0 (w.heap.size ≤ gb989) := ⟨h8_⟩
            have n9_ : Aside0 (gb937 ≠ gb989) := ⟨h9_⟩
            have n10_ : Aside0 (gb989 ≠ gb937) := ⟨h10_⟩
            have n11_ : Aside0 (gb944 ≠ gb989) := ⟨h11_⟩
            have n12_ : Aside0 (gb989 ≠ gb944) := ⟨h12_⟩
            have n13_ : Aside0 (Below w.heap.size w w58) := ⟨h13_⟩
            clear HO_5
            clear HO_938002
            clear HO_945002
            clear BK937
            clear BK944
            clear HB
            clear h0_ h1_ h2_ h3_ h4_ h5_ h6_ h7_ h8_ h9_ h10_ h11_ h12_ h13_
            have HO987 := n0_
            have HO_5 := n1_
            have HO_938002 := n2_
            have HO_945002 := n3_
            have BK937 := n4_
            have BK944 := n5_
            have BK989 := n6_
            have GW989 := n7_
            have GE989 := n8_
            have NB937_989 := n9_
            have NB989_937 := n10_
            have NB944_989 := n11_
            have NB989_944 := n12_
            have HB := n13_
            clear n0_ n1_ n2_ n3_ n4_ n5_ n6_ n7_ n8_ n9_ n10_ n11_ n12_ n13_
            have hHeld : w58.cell? ⟨gb937, 0, none⟩ = some (.int .i64 t928) ∧ w58.cell? ⟨gb937, 1, none⟩ = some (.int .i64 t929) ∧ w58.cell? ⟨gb937, 2, none⟩ = some (.slice Ao16 t930.length co16) := hS_
            obtain ⟨Ao61, co61, eo61⟩ := R_slice HO987.out
            (first | subst eo61 | (injection eo61 with f1_ f2_ f3_; have f4_ := f1_.symm; have f5_ := f3_.symm; clear f1_ f2_ f3_; subst f4_; subst f5_))
            refine norm_ (a' := ?_) ?_ ?_
            rotate_left
            ·
             simp only [putAll, Act.put, List.setIfInBounds_toArray, List.set_cons_zero, List.set_cons_succ]
             rfl
            refine one_ (i := 11) (N := none) #[true, true, true, true, true, true, true, true, true, true, true, true, false] rfl rfl (one_of HT_.out (by kernel_rfl)) (by decide) (fun K hK => ?_)
            have hs59 : w58.cell? ⟨gb989, 0, none⟩ = some (.int .i64 0) := (blk_cell BK989.out 0).trans rfl
            have hfs59 := blk_frozen BK989.out 0
            have hns59_0 := NB937_989.out
            have hns59_1 := NB944_989.out
            have hms59_0 := NB989_937.out
            have hms59_1 := NB989_944.out
            have hs60 : w58.cell? ⟨gb989, 1, none⟩ = some (.int .i64 0) := (blk_cell BK989.out 1).trans rfl
            have hfs60 := blk_frozen BK989.out 1
            have hns60_0 := NB937_989.out
            have hns60_1 := NB944_989.out
            have hms60_0 := NB989_937.out
            have hms60_1 := NB989_944.out
            have hs62 : w58.cell? ⟨gb989, 2, none⟩ = some (.slice none 0 0) := (blk_cell BK989.out 2).trans rfl
            have hfs62 := blk_frozen BK989.out 2
            have hns62_0 := NB937_989.out
            have hns62_1 := NB944_989.out
            have hms62_0 := NB989_937.out
            have hms62_1 := NB989_944.out
            refine skip_ (w1 := ?_) (by rfl) rfl ?_ ?_
            rotate_left
            ·
             go_simp
             rfl
            refine hK.out _ _ ⟨((cell_far (p := ⟨gb989, _, none⟩) NB937_989.out _).trans (((cell_far (p := ⟨gb989, _, none⟩) NB937_989.out _).trans (((cell_far (p := ⟨gb989, _, none⟩) NB937_989.out _).trans (hHeld.1)))))), ((cell_far (p := ⟨gb989, _, none⟩) NB937_989.out _).trans (((cell_far (p := ⟨gb989, _, none⟩) NB937_989.out _).trans (((cell_far (p := ⟨gb989, _, none⟩) NB937_989.out _).trans (hHeld.2.1)))))), ((cell_far (p := ⟨gb989, _, none⟩) NB937_989.out _).trans (((cell_far (p := ⟨gb989, _, none⟩) NB937_989.out _).trans (((cell_far (p := ⟨gb989, _, none⟩) NB937_989.out _).trans (hHeld.2.2))))))⟩ (fun hHeld => ?_)
            clear hK K
            refine SQ.pu 12 10 HT_ ?_
            refine done_ (done_of HT_.out (by kernel_rfl)) ?_
            try go_wp2
            have n0_ : Aside0 (Kd.R k54 54 (((w58.setCell ⟨gb989, 0, none⟩ (.int .i64 t983)).setCell ⟨gb989, 1, none⟩ (.int .i64 t984)).setCell ⟨gb989, 2, none⟩ (.slice Ao61 t985.length co61)) w.heap.size (fun k_ => some k_ ≠ (.slice Ao16 t930.length co16 : Value).ownBlock ∧ some k_ ≠ (.slice Ao21 t940.length co21 : Value).ownBlock ∧ some k_ ≠ (.slice Ao61 t985.length co61 : Value).ownBlock) (.slice Ao53 t934.length co53) t934) := ⟨by (with_reducible repeat (first | apply R_alloc | apply R_drewN | apply R_drew)); exact R_mono (R_far (p := ⟨gb989, 2, none⟩) (R_far (p := ⟨gb989, 1, none⟩) (R_far (p := ⟨gb989, 0, none⟩) (R_types HO_5.out BK989.out (by decide)) (fun _ hk => hk.2) (.int .i64 t983)) (fun _ hk => hk.2) (.int .i64 t984)) (fun _ hk => hk.2) (.slice Ao61 t985.length co61)) (fun _ hk => ⟨hk.1.2.1, ⟨hk.1.2.2, hk.1.1⟩⟩)⟩
            have n1_ : Aside0 (Kd.R k54 54 (((w58.setCell ⟨gb989, 0, none⟩ (.int .i64 t983)).setCell ⟨gb989, 1, none⟩ (.int .i64 t984)).setCell ⟨gb989, 2, none⟩ (.slice Ao61 t985.length co61)) w.heap.size (fun k_ => some k_ ≠ (.slice Ao53 t934.length co53 : Value).ownBlock ∧ some k_ ≠ (.slice Ao21 t940.length co21 : Value).ownBlock ∧ some k_ ≠ (.slice Ao61 t985.length co61 : Value).ownBlock) (.slice Ao16 t930.length co16) t930) := ⟨by (with_reducible repeat (first | apply R_alloc | apply R_drewN | apply R_drew)); exact R_mono (R_far (p := ⟨gb989, 2, none⟩) (R_far (p := ⟨gb989, 1, none⟩) (R_far (p := ⟨gb989, 0, none⟩) (R_types HO_938002.out BK989.out (by decide)) (fun _ hk => hk.2) (.int .i64 t983)) (fun _ hk => hk.2) (.int .i64 t984)) (fun _ hk => hk.2) (.slice Ao61 t985.length co61)) (fun _ hk => ⟨hk.1.2.1, ⟨hk.1.2.2, hk.1.1⟩⟩)⟩
            have n2_ : Aside0 (Kd.R k54 54 (((w58.setCell ⟨gb989, 0, none⟩ (.int .i64 t983)).setCell ⟨gb989, 1, none⟩ (.int .i64 t984)).setCell ⟨gb989, 2, none⟩ (.slice Ao61 t985.length co61)) w.heap.size (fun k_ => some k_ ≠ (.slice Ao53 t934.length co53 : Value).ownBlock ∧ some k_ ≠ (.slice Ao16 t930.length co16 : Value).ownBlock ∧ some k_ ≠ (.slice Ao61 t985.length co61 : Value).ownBlock) (.slice Ao21 t940.length co21) t940) := ⟨by (with_reducible repeat (first | apply R_alloc | apply R_drewN | apply R_drew)); exact R_mono (R_far (p := ⟨gb989, 2, none⟩) (R_far (p := ⟨gb989, 1, none⟩) (R_far (p := ⟨gb989, 0, none⟩) (R_types HO_945002.out BK989.out (by decide)) (fun _ hk => hk.2) (.int .i64 t983)) (fun _ hk => hk.2) (.int .i64 t984)) (fun _ hk => hk.2) (.slice Ao61 t985.length co61)) (fun _ hk => ⟨hk.1.2.1, ⟨hk.1.2.2, hk.1.1⟩⟩)⟩
            have n3_ : Aside0 (Kd.R k54 54 (((w58.setCell ⟨gb989, 0, none⟩ (.int .i64 t983)).setCell ⟨gb989, 1, none⟩ (.int .i64 t984)).setCell ⟨gb989, 2, none⟩ (.slice Ao61 t985.length co61)) w.heap.size (fun k_ => some k_ ≠ (.slice Ao53 t934.length co53 : Value).ownBlock ∧ some k_ ≠ (.slice Ao16 t930.length co16 : Value).ownBlock ∧ some k_ ≠ (.slice Ao21 t940.length co21 : Value).ownBlock) (.slice Ao61 t985.length co61) t985) := ⟨by (with_reducible repeat (first | apply R_alloc | apply R_drewN | apply R_drew)); exact R_mono (R_far (p := ⟨gb989, 2, none⟩) (R_far (p := ⟨gb989, 1, none⟩) (R_far (p := ⟨gb989, 0, none⟩) (R_types HO987.out BK989.out (by decide)) (fun _ hk => hk.2) (.int .i64 t983)) (fun _ hk => hk.2) (.int .i64 t984)) (fun _ hk => hk.2) (.slice Ao61 t985.length co61)) (fun _ hk => ⟨hk.1.1, ⟨hk.1.2.1, hk.1.2.2⟩⟩)⟩
            have n4_ : Aside0 ((((w58.setCell ⟨gb989, 0, none⟩ (.int .i64 t983)).setCell ⟨gb989, 1, none⟩ (.int .i64 t984)).setCell ⟨gb989, 2, none⟩ (.slice Ao61 t985.length co61)).heap[gb937]? = some (.cells #[.int .i64 t928, .int .i64 t929, .slice Ao16 t930.length co16] 29 (0, 0))) := ⟨by (with_reducible repeat (first | refine blk_drewN ?_ _ | refine blk_drew ?_ | refine blk_alloc ?_ _)); refine blk_far ?_ NB937_989.out _; (with_reducible repeat (first | refine blk_drewN ?_ _ | refine blk_drew ?_ | refine blk_alloc ?_ _)); refine blk_far ?_ NB937_989.out _; (with_reducible repeat (first | refine blk_drewN ?_ _ | refine blk_drew ?_ | refine blk_alloc ?_ _)); refine blk_far ?_ NB937_989.out _; (with_reducible repeat (first | refine blk_drewN ?_ _ | refine blk_drew ?_ | refine blk_alloc ?_ _)); exact BK937.out⟩
            have n5_ : Aside0 ((((w58.setCell ⟨gb989, 0, none⟩ (.int .i64 t983)).setCell ⟨gb989, 1, none⟩ (.int .i64 t984)).setCell ⟨gb989, 2, none⟩ (.slice Ao61 t985.length co61)).heap[gb944]? = some (.cells #[.int .i64 t938, .int .i64 t939, .slice Ao21 t940.length co21] 29 (0, 0))) := ⟨by (with_reducible repeat (first | refine blk_drewN ?_ _ | refine blk_drew ?_ | refine blk_alloc ?_ _)); refine blk_far ?_ NB944_989.out _; (with_reducible repeat (first | refine blk_drewN ?_ _ | refine blk_drew ?_ | refine blk_alloc ?_ _)); refine blk_far ?_ NB944_989.out _; (with_reducible repeat (first | refine blk_drewN ?_ _ | refine blk_drew ?_ | refine blk_alloc ?_ _)); refine blk_far ?_ NB944_989.out _; (with_reducible repeat (first | refine blk_drewN ?_ _ | refine blk_drew ?_ | refine blk_alloc ?_ _)); exact BK944.out⟩
            have n6_ : Aside0 ((((w58.setCell ⟨gb989, 0, none⟩ (.int .i64 t983)).setCell ⟨gb989, 1, none⟩ (.int .i64 t984)).setCell ⟨gb989, 2, none⟩ (.slice Ao61 t985.length co61)).heap[gb989]? = some (.cells #[.int .i64 t983, .int .i64 t984, .slice Ao61 t985.length co61] 29 (0, 0))) := ⟨by (with_reducible repeat (first | refine blk_drewN ?_ _ | refine blk_drew ?_ | refine blk_alloc ?_ _)); refine blk_put (cs := #[.int .i64 t983, .int .i64 t984, .slice none 0 0]) ?_ 2 _ rfl; (with_reducible repeat (first | refine blk_drewN ?_ _ | refine blk_drew ?_ | refine blk_alloc ?_ _)); refine blk_put (cs := #[.int .i64 t983, .int .i64 0, .slice none 0 0]) ?_ 1 _ rfl; (with_reducible repeat (first | refine blk_drewN ?_ _ | refine blk_drew ?_ | refine blk_alloc ?_ _)); refine blk_put (cs := #[.int .i64 0, .int .i64 0, .slice none 0 0]) ?_ 0 _ rfl; (with_reducible repeat (first | refine blk_drewN ?_ _ | refine blk_drew ?_ | refine blk_alloc ?_ _)); exact BK989.out⟩
            have n7_ : Aside0 (Below w.heap.size w (((w58.setCell ⟨gb989, 0, none⟩ (.int .i64 t983)).setCell ⟨gb989, 1, none⟩ (.int .i64 t984)).setCell ⟨gb989, 2, none⟩ (.slice Ao61 t985.length co61))) := ⟨by repeat (first | (with_reducible first | exact HB.out | apply below_alloc | apply pw_below_drewN | apply below_drew1 | refine below_set ?_ GE937.out | refine below_set ?_ GE944.out | refine below_set ?_ GE989.out) | exact HB.out)⟩
            (try clear HO_5)
            (try clear HO_938002)
            (try clear HO_945002)
            (try clear HO987)
            (try clear BK937)
            (try clear BK944)
            (try clear BK989)
            (try clear HB)
            generalize (((w58.setCell ⟨gb989, 0, none⟩ (.int .i64 t983)).setCell ⟨gb989, 1, none⟩ (.int .i64 t984)).setCell ⟨gb989, 2, none⟩ (.slice Ao61 t985.length co61)) = w63 at n0_ n1_ n2_ n3_ n4_ n5_ n6_ n7_ ⊢
            have HO_5 := n0_
            have HO_938002 := n1_
            have HO_945002 := n2_
            have HO987 := n3_
            have BK937 := n4_
            have BK944 := n5_
            have BK989 := n6_
            have HB := n7_
            clear n0_ n1_ n2_ n3_ n4_ n5_ n6_ n7_
            have n0_ := Aside0.mk (R_drew HO_5.out)
            have n1_ := Aside0.mk (R_drew HO_938002.out)
            have n2_ := Aside0.mk (R_drew HO_945002.out)
            have n3_ := Aside0.mk (R_drew HO987.out)
            have n4_ := Aside0.mk (blk_drew BK937.out)
            have n5_ := Aside0.mk (blk_drew BK944.out)
            have n6_ := Aside0.mk (blk_drew BK989.out)
            have n7_ := Aside0.mk (below_drew1 HB.out)
            clear HO_5
            clear HO_938002
            clear HO_945002
            clear HO987
            clear BK937
            clear BK944
            clear BK989
            clear HB
            have HO_5 := n0_
            have HO_938002 := n1_
            have HO_945002 := n2_
            have HO987 := n3_
            have BK937 := n4_
            have BK944 := n5_
            have BK989 := n6_
            have HB := n7_
            clear n0_ n1_ n2_ n3_ n4_ n5_ n6_ n7_
            refine start_ (n := 13) (S := fun w' => w'.cell? ⟨gb944, 0, none⟩ = some (.int .i64 t938) ∧ w'.cell? ⟨gb944, 1, none⟩ = some (.int .i64 t939) ∧ w'.cell? ⟨gb944, 2, none⟩ = some (.slice Ao21 t940.length co21) ∧ w'.cell? ⟨gb937, 0, none⟩ = some (.int .i64 t928) ∧ w'.cell? ⟨gb937, 1, none⟩ = some (.int .i64 t929) ∧ w'.cell? ⟨gb937, 2, none⟩ = some (.slice Ao16 t930.length co16)) (ds := []) #[false, false, false, false, false, false, false, false, false, false, false, false, false] (by kernel_rfl) rfl rfl ⟨(blk_cell BK944.out 0).trans rfl, (blk_cell BK944.out 1).trans rfl, (blk_cell BK944.out 2).trans rfl, (blk_cell BK937.out 0).trans rfl, (blk_cell BK937.out 1).trans rfl, (blk_cell BK937.out 2).trans rfl⟩ (fun hHeld => ?_); refine with_tabW laws_FnCompacted.tab15 laws_FnCompacted.bits15 (fun HT_ HW_ => ?_)
            generalize w63.drew = w64 at HO_5 HO_938002 HO_945002 HO987 BK937 BK944 BK989 HB hHeld ⊢
            refine SQ.pu 1 82 HT_ ?_
            refine SQ.pu 3 84 HT_ ?_
            refine SQ.pu 5 86 HT_ ?_
            refine SQ.tk 0 81 HT_ HW_ hHeld ?_
            refine SQ.tk 2 83 HT_ HW_ hHeld ?_
            refine join_ (σ := Value × Nat) 2 #[true, true, true, true, true, true, true, true, true, true, true, false, false] (fun s_ => [(85, .int .i64 t990), (87, .tuple #[.agg #[.int .i64 t991, .int .i64 t992, s_.1], .bool t996]), (11, .pointer (some ⟨s_.2, 0, none⟩)), (80, .tuple #[.agg #[.int .i64 t991, .int .i64 t992, s_.1], .bool t996]), (88, .agg #[.int .i64 t991, .int .i64 t992, s_.1]), (89, .bool t996)]) (fun s_ w' => (w'.cell? ⟨gb944, 0, none⟩ = some (.int .i64 t938) ∧ w'.cell? ⟨gb944, 1, none⟩ = some (.int .i64 t939) ∧ w'.cell? ⟨gb944, 2, none⟩ = some (.slice Ao21 t940.length co21) ∧ w'.cell? ⟨gb937, 0, none⟩ = some (.int .i64 t928) ∧ w'.cell? ⟨gb937, 1, none⟩ = some (.int .i64 t929) ∧ w'.cell? ⟨gb937, 2, none⟩ = some (.slice Ao16 t930.length co16)) ∧ (Kd.R k54 54 w' w.heap.size (fun k_ => some k_ ≠ (s_.1 : Value).ownBlock ∧ some k_ ≠ (.slice Ao53 t934.length co53 : Value).ownBlock ∧ some k_ ≠ (.slice Ao16 t930.length co16 : Value).ownBlock ∧ some k_ ≠ (.slice Ao21 t940.length co21 : Value).ownBlock) (.slice Ao61 t985.length co61) t985) ∧ (Kd.R k54 54 w' w.heap.size (fun k_ => some k_ ≠ (.slice Ao61 t985.length co61 : Value).ownBlock ∧ some k_ ≠ (.slice Ao53 t934.length co53 : Value).ownBlock ∧ some k_ ≠ (.slice Ao16 t930.length co16 : Value).ownBlock ∧ some k_ ≠ (.slice Ao21 t940.length co21 : Value).ownBlock) s_.1 t993) ∧ (Kd.R k54 54 w' w.heap.size (fun k_ => some k_ ≠ (.slice Ao61 t985.length co61 : Value).ownBlock ∧ some k_ ≠ (s_.1 : Value).ownBlock ∧ some k_ ≠ (.slice Ao16 t930.length co16 : Value).ownBlock ∧ some k_ ≠ (.slice Ao21 t940.length co21 : Value).ownBlock) (.slice Ao53 t934.length co53) t934) ∧ (Kd.R k54 54 w' w.heap.size (fun k_ => some k_ ≠ (.slice Ao61 t985.length co61 : Value).ownBlock ∧ some k_ ≠ (s_.1 : Value).ownBlock ∧ some k_ ≠ (.slice Ao53 t934.length co53 : Value).ownBlock ∧ some k_ ≠ (.slice Ao21 t940.length co21 : Value).ownBlock) (.slice Ao16 t930.length co16) t930) ∧ (Kd.R k54 54 w' w.heap.size (fun k_ => some k_ ≠ (.slice Ao61 t985.length co61 : Value).ownBlock ∧ some k_ ≠ (s_.1 : Value).ownBlock ∧ some k_ ≠ (.slice Ao53 t934.length co53 : Value).ownBlock ∧ some k_ ≠ (.slice Ao16 t930.length co16 : Value).ownBlock) (.slice Ao21 t940.length co21) t940) ∧ (w'.heap[gb937]? = some (.cells #[.int .i64 t928, .int .i64 t929, .slice Ao16 t930.length co16] 29 (0, 0))) ∧ (w'.heap[gb944]? = some (.cells #[.int .i64 t938, .int .i64 t939, .slice Ao21 t940.length co21] 29 (0, 0))) ∧ (w'.heap[gb989]? = some (.cells #[.int .i64 t983, .int .i64 t984, .slice Ao61 t985.length co61] 29 (0, 0))) ∧ (w'.heap[s_.2]? = some (.cells #[.int .i64 0, .int .i64 0, .slice none 0 0] 29 (0, 0))) ∧ (w.heap.size ≤ s_.2) ∧ (w.heap.size ≤ s_.2) ∧ (gb937 ≠ s_.2) ∧ (s_.2 ≠ gb937) ∧ (gb944 ≠ s_.2) ∧ (s_.2 ≠ gb944) ∧ (gb989 ≠ s_.2) ∧ (s_.2 ≠ gb989) ∧ (Below w.heap.size w w')) ?_ ?_
            rotate_left
            ·
             intro hCont
             refine two_ (i := 4) (j := 10) (Ni := some 85) (Nj := some 11) #[true, true, true, true, true, true, false, false, false, false, false, false, false] #[true, true, true, true, false, true, false, false, false, false, true, false, false] rfl rfl rfl rfl (two_of HT_.out (by kernel_rfl)) (by decide) (by decide) (fun K hK => ?_) (fun K hK => ?_)
             ·
              skip
              refine goes_ Try.func20 (by kernel_rfl) rfl #[.agg #[.int .i64 t928, .int .i64 t929, .slice Ao16 t930.length co16], .int .i64 t933] (by rfl) rfl rfl (by (try simp only [List.map_toArray, List.map_cons, List.map_nil]); first | done | rfl | (simp only [List.length_drop, List.length_take]; rfl)) ?_
              with_reducible refine (spec_TermAt.calls kj37 t928 t929 _ _ t930 t933 t990 _ ?side1 ?side2 A50.out).mono ?_
              (case side1 => repeat (first | exact (R_reads' HO_938002.out).2.2 | (with_reducible refine C_alloc ?_ _) | (with_reducible refine C_drewN ?_ _) | (with_reducible refine C_drew ?_)))
              (case side2 => exact (R_reads' HO_938002.out).2.1)
              rintro e w65 ⟨rfl, hb⟩
              refine ⟨_, rfl, ?_⟩
              have n0_ := Aside0.mk (R_below (by (with_reducible repeat (first | apply R_alloc | apply R_drewN | apply R_drew)); exact HO_5.out) hb)
              have n1_ := Aside0.mk (R_below (by (with_reducible repeat (first | apply R_alloc | apply R_drewN | apply R_drew)); exact HO_938002.out) hb)
              have n2_ := Aside0.mk (R_below (by (with_reducible repeat (first | apply R_alloc | apply R_drewN | apply R_drew)); exact HO_945002.out) hb)
              have n3_ := Aside0.mk (R_below (by (with_reducible repeat (first | apply R_alloc | apply R_drewN | apply R_drew)); exact HO987.out) hb)
              have n4_ := Aside0.mk (blk_below (g := gb937) (o := .cells #[.int .i64 t928, .int .i64 t929, .slice Ao16 t930.length co16] 29 (0, 0)) (by (with_reducible repeat (first | refine blk_drewN ?_ _ | refine blk_drew ?_ | refine blk_alloc ?_ _)); exact BK937.out) hb)
              have n5_ := Aside0.mk (blk_below (g := gb944) (o := .cells #[.int .i64 t938, .int .i64 t939, .slice Ao21 t940.length co21] 29 (0, 0)) (by (with_reducible repeat (first | refine blk_drewN ?_ _ | refine blk_drew ?_ | refine blk_alloc ?_ _)); exact BK944.out) hb)
              have n6_ := Aside0.mk (blk_below (g := gb989) (o := .cells #[.int .i64 t983, .int .i64 t984, .slice Ao61 t985.length co61] 29 (0, 0)) (by (with_reducible repeat (first | refine blk_drewN ?_ _ | refine blk_drew ?_ | refine blk_alloc ?_ _)); exact BK989.out) hb)
              have n7_ := Aside0.mk (below_step (by repeat (first | (with_reducible first | exact HB.out | apply below_alloc | apply pw_below_drewN | apply below_drew1 | refine below_set ?_ GE937.out | refine below_set ?_ GE944.out | refine below_set ?_ GE989.out) | exact HB.out)) hb)
              clear HO_5
              clear HO_938002
              clear HO_945002
              clear HO987
              clear BK937
              clear BK944
              clear BK989
              clear HB
              have HO_5 := n0_
              have HO_938002 := n1_
              have HO_945002 := n2_
              have HO987 := n3_
              have BK937 := n4_
              have BK944 := n5_
              have BK989 := n6_
              have HB := n7_
              clear n0_ n1_ n2_ n3_ n4_ n5_ n6_ n7_
              (try clear hb)
              (try clear hb2)
              (try clear hk)
              (try clear hi)
              refine hK.out _ _ ⟨(blk_cell BK944.out 0).trans rfl, (blk_cell BK944.out 1).trans rfl, (blk_cell BK944.out 2).trans rfl, (blk_cell BK937.out 0).trans rfl, (blk_cell BK937.out 1).trans rfl, (blk_cell BK937.out 2).trans rfl⟩ (fun hHeld => ?_)
              clear hK K
              refine norm_ (a' := ?_) ?_ ?_
              rotate_left
              ·
               show Act.put _ (some 85) _ = _
               simp only [Act.put, List.setIfInBounds_toArray, List.set_cons_zero, List.set_cons_succ, i64_w, i32_w]
               rfl
              refine two_ (i := 6) (j := 10) (Ni := some 87) (Nj := some 11) #[true, true, true, true, true, true, true, false, false, false, false, false, false] #[true, true, true, true, true, true, false, false, false, false, true, false, false] rfl rfl rfl rfl (two_of HT_.out (by kernel_rfl)) (by decide) (by decide) (fun K hK => ?_) (fun K hK => ?_)
              ·
               skip
               refine goes_ Try.func38 (by kernel_rfl) rfl #[.agg #[.int .i64 t938, .int .i64 t939, .slice Ao21 t940.length co21], .int .i64 t933, .int .i64 t990, .slice Ao53 t934.length co53] (by rfl) rfl rfl (by (try simp only [List.map_toArray, List.map_cons, List.map_nil]); first | done | rfl | (simp only [List.length_drop, List.length_take]; rfl)) ?_
               with_reducible refine (impl_AppendTo.calls kj37 t938 t939 _ _ t940 t933 t990 _ _ t934 t991 t992 t993 t996 _ ?side1 ?side2 ?side3 ?side4 A51.out).mono ?_
               (case side1 => repeat (first | exact (R_reads' HO_945002.out).2.2 | (with_reducible refine C_alloc ?_ _) | (with_reducible refine C_drewN ?_ _) | (with_reducible refine C_drew ?_)))
               (case side2 => exact (R_reads' HO_945002.out).2.1)
               (case side3 => repeat (first | exact (R_reads' HO_5.out).2.2 | (with_reducible refine C_alloc ?_ _) | (with_reducible refine C_drewN ?_ _) | (with_reducible refine C_drew ?_)))
               (case side4 => exact (R_reads' HO_5.out).2.1)
               rintro e w66 ⟨v994, rfl, ho0, hb⟩
               refine ⟨_, rfl, ?_⟩
               have n0_ := Aside0.mk (R_elder' (by (with_reducible repeat (first | apply R_alloc | apply R_drewN | apply R_drew)); exact HO_5.out) (R_base ho0) hb)
               have n1_ := Aside0.mk (R_elder' (by (with_reducible repeat (first | apply R_alloc | apply R_drewN | apply R_drew)); exact HO_938002.out) (R_base ho0) hb)
               have n2_ := Aside0.mk (R_elder' (by (with_reducible repeat (first | apply R_alloc | apply R_drewN | apply R_drew)); exact HO_945002.out) (R_base ho0) hb)
               have n3_ := Aside0.mk (R_elder' (by (with_reducible repeat (first | apply R_alloc | apply R_drewN | apply R_drew)); exact HO987.out) (R_base ho0) hb)
               have n4_ := Aside0.mk (R_lower (R_new' (R_new' (R_new' (R_new' ho0 (R_lt (by (with_reducible repeat (first | apply R_alloc | apply R_drewN | apply R_drew)); exact HO_5.out))) (R_lt (by (with_reducible repeat (first | apply R_alloc | apply R_drewN | apply R_drew)); exact HO_938002.out))) (R_lt (by (with_reducible repeat (first | apply R_alloc | apply R_drewN | apply R_drew)); exact HO_945002.out))) (R_lt (by (with_reducible repeat (first | apply R_alloc | apply R_drewN | apply R_drew)); exact HO987.out))) (below_size (by repeat (first | (with_reducible first | exact HB.out | apply below_alloc | apply pw_below_drewN | apply below_drew1 | refine below_set ?_ GE937.out | refine below_set ?_ GE944.out | refine below_set ?_ GE989.out) | exact HB.out))))
               have n5_ := Aside0.mk (blk_below (g := gb937) (o := .cells #[.int .i64 t928, .int .i64 t929, .slice Ao16 t930.length co16] 29 (0, 0)) (by (with_reducible repeat (first | refine blk_drewN ?_ _ | refine blk_drew ?_ | refine blk_alloc ?_ _)); exact BK937.out) hb)
               have n6_ := Aside0.mk (blk_below (g := gb944) (o := .cells #[.int .i64 t938, .int .i64 t939, .slice Ao21 t940.length co21] 29 (0, 0)) (by (with_reducible repeat (first | refine blk_drewN ?_ _ | refine blk_drew ?_ | refine blk_alloc ?_ _)); exact BK944.out) hb)
               have n7_ := Aside0.mk (blk_below (g := gb989) (o := .cells #[.int .i64 t983, .int .i64 t984, .slice Ao61 t985.length co61] 29 (0, 0)) (by (with_reducible repeat (first | refine blk_drewN ?_ _ | refine blk_drew ?_ | refine blk_alloc ?_ _)); exact BK989.out) hb)
               have n8_ := Aside0.mk (below_step (by repeat (first | (with_reducible first | exact HB.out | apply below_alloc | apply pw_below_drewN | apply below_drew1 | refine below_set ?_ GE937.out | refine below_set ?_ GE944.out | refine below_set ?_ GE989.out) | exact HB.out)) hb)
               clear HO_5
               clear HO_938002
               clear HO_945002
               clear HO987
               clear BK937
               clear BK944
               clear BK989
               clear HB
               have HO_5 := n0_
               have HO_938002 := n1_
               have HO_945002 := n2_
               have HO987 := n3_
               have HO995 := n4_
               have BK937 := n5_
               have BK944 := n6_
               have BK989 := n7_
               have HB := n8_
               clear n0_ n1_ n2_ n3_ n4_ n5_ n6_ n7_ n8_
               (try clear hb)
               (try clear hb2)
               (try clear hk)
               (try clear hi)
               (try clear ho0)
               refine hK.out _ _ ⟨(blk_cell BK944.out 0).trans rfl, (blk_cell BK944.out 1).trans rfl, (blk_cell BK944.out 2).trans rfl, (blk_cell BK937.out 0).trans rfl, (blk_cell BK937.out 1).trans rfl, (blk_cell BK937.out 2).trans rfl⟩ (fun hHeld => ?_)
               clear hK K
               refine norm_ (a' := ?_) ?_ ?_
               rotate_left
               ·
                show Act.put _ (some 87) _ = _
                simp only [Act.put, List.setIfInBounds_toArray, List.set_cons_zero, List.set_cons_succ, i64_w, i32_w]
                rfl
               refine SQ.pu 7 80 HT_ ?_
               refine SQ.pu 8 88 HT_ ?_
               refine SQ.pu 9 89 HT_ ?_
               refine one_ (i := 10) (N := some 11) #[true, true, true, true, true, true, true, true, true, true, true, false, false] rfl rfl (one_of HT_.out (by kernel_rfl)) (by decide) (fun K hK => ?_)
               refine box_step ?hg (N := 11) ?hd (cs := #[.int .i64 0, .int .i64 0, .slice none 0 0]) (t := 29) ?hr ?_; (case hd => rfl); (case hg => rfl); (case hr => first | (go_simp; done) | (go_simp; rfl))
               intro gb997 hg w67 hbox hb
               have n0_ := Aside0.mk (R_below (by (with_reducible repeat (first | apply R_alloc | apply R_drewN | apply R_drew)); exact HO_5.out) hb)
               have n1_ := Aside0.mk (R_below (by (with_reducible repeat (first | apply R_alloc | apply R_drewN | apply R_drew)); exact HO_938002.out) hb)
               have n2_ := Aside0.mk (R_below (by (with_reducible repeat (first | apply R_alloc | apply R_drewN | apply R_drew)); exact HO_945002.out) hb)
               have n3_ := Aside0.mk (R_below (by (with_reducible repeat (first | apply R_alloc | apply R_drewN | apply R_drew)); exact HO987.out) hb)
               have n4_ := Aside0.mk (R_below (by (with_reducible repeat (first | apply R_alloc | apply R_drewN | apply R_drew)); exact HO995.out) hb)
               have n5_ := Aside0.mk (blk_below (g := gb937) (o := .cells #[.int .i64 t928, .int .i64 t929, .slice Ao16 t930.length co16] 29 (0, 0)) (by (with_reducible repeat (first | refine blk_drewN ?_ _ | refine blk_drew ?_ | refine blk_alloc ?_ _)); exact BK937.out) hb)
               have n6_ := Aside0.mk (blk_below (g := gb944) (o := .cells #[.int .i64 t938, .int .i64 t939, .slice Ao21 t940.length co21] 29 (0, 0)) (by (with_reducible repeat (first | refine blk_drewN ?_ _ | refine blk_drew ?_ | refine blk_alloc ?_ _)); exact BK944.out) hb)
               have n7_ := Aside0.mk (blk_below (g := gb989) (o := .cells #[.int .i64 t983, .int .i64 t984, .slice Ao61 t985.length co61] 29 (0, 0)) (by (with_reducible repeat (first | refine blk_drewN ?_ _ | refine blk_drew ?_ | refine blk_alloc ?_ _)); exact BK989.out) hb)
               have n8_ := Aside0.mk (below_step (by repeat (first | (with_reducible first | exact HB.out | apply below_alloc | apply pw_below_drewN | apply below_drew1 | refine below_set ?_ GE937.out | refine below_set ?_ GE944.out | refine below_set ?_ GE989.out) | exact HB.out)) hb)
               have n9_ := Aside0.mk (hbox)
               have n10_ := Aside0.mk ((by rw [hg]; exact (below_size (by repeat (first | (with_reducible first | exact HB.out | apply below_alloc | apply pw_below_drewN | apply below_drew1 | refine below_set ?_ GE937.out | refine below_set ?_ GE944.out | refine below_set ?_ GE989.out) | exact HB.out))) : w.heap.size ≤ gb997))
               have n11_ := Aside0.mk ((by rw [hg]; exact (below_size (by repeat (first | (with_reducible first | exact HB.out | apply below_alloc | apply pw_below_drewN | apply below_drew1 | refine below_set ?_ GE937.out | refine below_set ?_ GE944.out | refine below_set ?_ GE989.out) | exact HB.out))) : w.heap.size ≤ gb997))
               have n12_ := Aside0.mk ((by rw [hg]; exact Nat.ne_of_lt (blk_lt (g := gb937) (o := .cells #[.int .i64 t928, .int .i64 t929, .slice Ao16 t930.length co16] 29 (0, 0)) (by (with_reducible repeat (first | refine blk_drewN ?_ _ | refine blk_drew ?_ | refine blk_alloc ?_ _)); exact BK937.out)) : gb937 ≠ gb997))
               have n13_ := Aside0.mk ((by rw [hg]; exact Nat.ne_of_gt (blk_lt (g := gb937) (o := .cells #[.int .i64 t928, .int .i64 t929, .slice Ao16 t930.length co16] 29 (0, 0)) (by (with_reducible repeat (first | refine blk_drewN ?_ _ | refine blk_drew ?_ | refine blk_alloc ?_ _)); exact BK937.out)) : gb997 ≠ gb937))
               have n14_ := Aside0.mk ((by rw [hg]; exact Nat.ne_of_lt (blk_lt (g := gb944) (o := .cells #[.int .i64 t938, .int .i64 t939, .slice Ao21 t940.length co21] 29 (0, 0)) (by (with_reducible repeat (first | refine blk_drewN ?_ _ | refine blk_drew ?_ | refine blk_alloc ?_ _)); exact BK944.out)) : gb944 ≠ gb997))
               have n15_ := Aside0.mk ((by rw [hg]; exact Nat.ne_of_gt (blk_lt (g := gb944) (o := .cells #[.int .i64 t938, .int .i64 t939, .slice Ao21 t940.length co21] 29 (0, 0)) (by (with_reducible repeat (first | refine blk_drewN ?_ _ | refine blk_drew ?_ | refine blk_alloc ?_ _)); exact BK944.out)) : gb997 ≠ gb944))
               have n16_ := Aside0.mk ((by rw [hg]; exact Nat.ne_of_lt (blk_lt (g := gb989) (o := .cells #[.int .i64 t983, .int .i64 t984, .slice Ao61 t985.length co61] 29 (0, 0)) (by (with_reducible repeat (first | refine blk_drewN ?_ _ | refine blk_drew ?_ | refine blk_alloc ?_ _)); exact BK989.out)) : gb989 ≠ gb997))
               have n17_ := Aside0.mk ((by rw [hg]; exact Nat.ne_of_gt (blk_lt (g := gb989) (o := .cells #[.int .i64 t983, .int .i64 t984, .slice Ao61 t985.length co61] 29 (0, 0)) (by (with_reducible repeat (first | refine blk_drewN ?_ _ | refine blk_drew ?_ | refine blk_alloc ?_ _)); exact BK989.out)) : gb997 ≠ gb989))
               clear HO_5
               clear HO_938002
               clear HO_945002
               clear HO987
               clear HO995
               clear BK937
               clear BK944
               clear BK989
               clear HB
               have HO_5 := n0_
               have HO_938002 := n1_
               have HO_945002 := n2_
               have HO987 := n3_
               have HO995 := n4_
               have BK937 := n5_
               have BK944 := n6_
               have BK989 := n7_
               have HB := n8_
               have BK997 := n9_
               have GW997 := n10_
               have GE997 := n11_
               have NB937_997 := n12_
               have NB997_937 := n13_
               have NB944_997 := n14_
               have NB997_944 := n15_
               have NB989_997 := n16_
               have NB997_989 := n17_
               clear n0_ n1_ n2_ n3_ n4_ n5_ n6_ n7_ n8_ n9_ n10_ n11_ n12_ n13_ n14_ n15_ n16_ n17_
               clear hb hbox hg
               refine hK.out _ _ ⟨(blk_cell BK944.out 0).trans rfl, (blk_cell BK944.out 1).trans rfl, (blk_cell BK944.out 2).trans rfl, (blk_cell BK937.out 0).trans rfl, (blk_cell BK937.out 1).trans rfl, (blk_cell BK937.out 2).trans rfl⟩ (fun hHeld => ?_)
               clear hK K
               refine norm_ (a' := ?_) ?_ ?_
               rotate_left
               ·
                show Act.put _ (some 11) _ = _
                simp only [Act.put, List.setIfInBounds_toArray, List.set_cons_zero, List.set_cons_succ, i64_w, i32_w]
                rfl
               exact norm_ (by simp only [putAll, Act.put, List.setIfInBounds_toArray, List.set_cons_zero, List.set_cons_succ]) (hCont (v994, gb997) _ ⟨hHeld, (by (with_reducible repeat (first | apply R_alloc | apply R_drewN | apply R_drew)); exact R_mono HO987.out (fun _ hk => ⟨hk.2, ⟨hk.1.1, ⟨hk.1.2.1, hk.1.2.2⟩⟩⟩)), (by (with_reducible repeat (first | apply R_alloc | apply R_drewN | apply R_drew)); exact R_mono HO995.out (fun _ hk => ⟨hk.2, ⟨hk.1.1.1.2, ⟨hk.1.1.2, hk.1.2⟩⟩⟩)), (by (with_reducible repeat (first | apply R_alloc | apply R_drewN | apply R_drew)); exact R_mono HO_5.out (fun _ hk => ⟨hk.1.2.2, ⟨hk.2, ⟨hk.1.1, hk.1.2.1⟩⟩⟩)), (by (with_reducible repeat (first | apply R_alloc | apply R_drewN | apply R_drew)); exact R_mono HO_938002.out (fun _ hk => ⟨hk.1.2.2, ⟨hk.2, ⟨hk.1.1, hk.1.2.1⟩⟩⟩)), (by (with_reducible repeat (first | apply R_alloc | apply R_drewN | apply R_drew)); exact R_mono HO_945002.out (fun _ hk => ⟨hk.1.2.2, ⟨hk.2, ⟨hk.1.1, hk.1.2.1⟩⟩⟩)), (by (with_reducible repeat (first | refine blk_drewN ?_ _ | refine blk_drew ?_ | refine blk_alloc ?_ _)); exact BK937.out), (by (with_reducible repeat (first | refine blk_drewN ?_ _ | refine blk_drew ?_ | refine blk_alloc ?_ _)); exact BK944.out), (by (with_reducible repeat (first | refine blk_drewN ?_ _ | refine blk_drew ?_ | refine blk_alloc ?_ _)); exact BK989.out), (by (with_reducible repeat (first | refine blk_drewN ?_ _ | refine blk_drew ?_ | refine blk_alloc ?_ _)); exact BK997.out), GW997.out, GE997.out, NB937_997.out, NB997_937.out, NB944_997.out, NB997_944.out, NB989_997.out, NB997_989.out, (by repeat (first | (with_reducible first | exact HB.out | apply below_alloc | apply pw_below_drewN | apply below_drew1 | refine below_set ?_ GE937.out | refine below_set ?_ GE944.out | refine below_set ?_ GE989.out | refine below_set ?_ GE997.out) | exact HB.out))⟩)
              ·
               skip
               refine box_step ?hg (N := 11) ?hd (cs := #[.int .i64 0, .int .i64 0, .slice none 0 0]) (t := 29) ?hr ?_; (case hd => rfl); (case hg => rfl); (case hr => first | (go_simp; done) | (go_simp; rfl))
               intro gb997 hg w66 hbox hb
               have n0_ := Aside0.mk (R_below (by (with_reducible repeat (first | apply R_alloc | apply R_drewN | apply R_drew)); exact HO_5.out) hb)
               have n1_ := Aside0.mk (R_below (by (with_reducible repeat (first | apply R_alloc | apply R_drewN | apply R_drew)); exact HO_938002.out) hb)
               have n2_ := Aside0.mk (R_below (by (with_reducible repeat (first | apply R_alloc | apply R_drewN | apply R_drew)); exact HO_945002.out) hb)
               have n3_ := Aside0.mk (R_below (by (with_reducible repeat (first | apply R_alloc | apply R_drewN | apply R_drew)); exact HO987.out) hb)
               have n4_ := Aside0.mk (blk_below (g := gb937) (o := .cells #[.int .i64 t928, .int .i64 t929, .slice Ao16 t930.length co16] 29 (0, 0)) (by (with_reducible repeat (first | refine blk_drewN ?_ _ | refine blk_drew ?_ | refine blk_alloc ?_ _)); exact BK937.out) hb)
               have n5_ := Aside0.mk (blk_below (g := gb944) (o := .cells #[.int .i64 t938, .int .i64 t939, .slice Ao21 t940.length co21] 29 (0, 0)) (by (with_reducible repeat (first | refine blk_drewN ?_ _ | refine blk_drew ?_ | refine blk_alloc ?_ _)); exact BK944.out) hb)
               have n6_ := Aside0.mk (blk_below (g := gb989) (o := .cells #[.int .i64 t983, .int .i64 t984, .slice Ao61 t985.length co61] 29 (0, 0)) (by (with_reducible repeat (first | refine blk_drewN ?_ _ | refine blk_drew ?_ | refine blk_alloc ?_ _)); exact BK989.out) hb)
               have n7_ := Aside0.mk (below_step (by repeat (first | (with_reducible first | exact HB.out | apply below_alloc | apply pw_below_drewN | apply below_drew1 | refine below_set ?_ GE937.out | refine below_set ?_ GE944.out | refine below_set ?_ GE989.out) | exact HB.out)) hb)
               have n8_ := Aside0.mk (hbox)
               have n9_ := Aside0.mk ((by rw [hg]; exact (below_size (by repeat (first | (with_reducible first | exact HB.out | apply below_alloc | apply pw_below_drewN | apply below_drew1 | refine below_set ?_ GE937.out | refine below_set ?_ GE944.out | refine below_set ?_ GE989.out) | exact HB.out))) : w.heap.size ≤ gb997))
               have n10_ := Aside0.mk ((by rw [hg]; exact (below_size (by repeat (first | (with_reducible first | exact HB.out | apply below_alloc | apply pw_below_drewN | apply below_drew1 | refine below_set ?_ GE937.out | refine below_set ?_ GE944.out | refine below_set ?_ GE989.out) | exact HB.out))) : w.heap.size ≤ gb997))
               have n11_ := Aside0.mk ((by rw [hg]; exact Nat.ne_of_lt (blk_lt (g := gb937) (o := .cells #[.int .i64 t928, .int .i64 t929, .slice Ao16 t930.length co16] 29 (0, 0)) (by (with_reducible repeat (first | refine blk_drewN ?_ _ | refine blk_drew ?_ | refine blk_alloc ?_ _)); exact BK937.out)) : gb937 ≠ gb997))
               have n12_ := Aside0.mk ((by rw [hg]; exact Nat.ne_of_gt (blk_lt (g := gb937) (o := .cells #[.int .i64 t928, .int .i64 t929, .slice Ao16 t930.length co16] 29 (0, 0)) (by (with_reducible repeat (first | refine blk_drewN ?_ _ | refine blk_drew ?_ | refine blk_alloc ?_ _)); exact BK937.out)) : gb997 ≠ gb937))
               have n13_ := Aside0.mk ((by rw [hg]; exact Nat.ne_of_lt (blk_lt (g := gb944) (o := .cells #[.int .i64 t938, .int .i64 t939, .slice Ao21 t940.length co21] 29 (0, 0)) (by (with_reducible repeat (first | refine blk_drewN ?_ _ | refine blk_drew ?_ | refine blk_alloc ?_ _)); exact BK944.out)) : gb944 ≠ gb997))
               have n14_ := Aside0.mk ((by rw [hg]; exact Nat.ne_of_gt (blk_lt (g := gb944) (o := .cells #[.int .i64 t938, .int .i64 t939, .slice Ao21 t940.length co21] 29 (0, 0)) (by (with_reducible repeat (first | refine blk_drewN ?_ _ | refine blk_drew ?_ | refine blk_alloc ?_ _)); exact BK944.out)) : gb997 ≠ gb944))
               have n15_ := Aside0.mk ((by rw [hg]; exact Nat.ne_of_lt (blk_lt (g := gb989) (o := .cells #[.int .i64 t983, .int .i64 t984, .slice Ao61 t985.length co61] 29 (0, 0)) (by (with_reducible repeat (first | refine blk_drewN ?_ _ | refine blk_drew ?_ | refine blk_alloc ?_ _)); exact BK989.out)) : gb989 ≠ gb997))
               have n16_ := Aside0.mk ((by rw [hg]; exact Nat.ne_of_gt (blk_lt (g := gb989) (o := .cells #[.int .i64 t983, .int .i64 t984, .slice Ao61 t985.length co61] 29 (0, 0)) (by (with_reducible repeat (first | refine blk_drewN ?_ _ | refine blk_drew ?_ | refine blk_alloc ?_ _)); exact BK989.out)) : gb997 ≠ gb989))
               clear HO_5
               clear HO_938002
               clear HO_945002
               clear HO987
               clear BK937
               clear BK944
               clear BK989
               clear HB
               have HO_5 := n0_
               have HO_938002 := n1_
               have HO_945002 := n2_
               have HO987 := n3_
               have BK937 := n4_
               have BK944 := n5_
               have BK989 := n6_
               have HB := n7_
               have BK997 := n8_
               have GW997 := n9_
               have GE997 := n10_
               have NB937_997 := n11_
               have NB997_937 := n12_
               have NB944_997 := n13_
               have NB997_944 := n14_
               have NB989_997 := n15_
               have NB997_989 := n16_
               clear n0_ n1_ n2_ n3_ n4_ n5_ n6_ n7_ n8_ n9_ n10_ n11_ n12_ n13_ n14_ n15_ n16_
               clear hb hbox hg
               refine hK.out _ _ ⟨(blk_cell BK944.out 0).trans rfl, (blk_cell BK944.out 1).trans rfl, (blk_cell BK944.out 2).trans rfl, (blk_cell BK937.out 0).trans rfl, (blk_cell BK937.out 1).trans rfl, (blk_cell BK937.out 2).trans rfl⟩ (fun hHeld => ?_)
               clear hK K
               refine norm_ (a' := ?_) ?_ ?_
               rotate_left
               ·
                show Act.put _ (some 11) _ = _
                simp only [Act.put, List.setIfInBounds_toArray, List.set_cons_zero, List.set_cons_succ, i64_w, i32_w]
                rfl
               refine one_ (i := 6) (N := some 87) #[true, true, true, true, true, true, true, false, false, false, true, false, false] rfl rfl (one_of HT_.out (by kernel_rfl)) (by decide) (fun K hK => ?_)
               refine goes_ Try.func38 (by kernel_rfl) rfl #[.agg #[.int .i64 t938, .int .i64 t939, .slice Ao21 t940.length co21], .int .i64 t933, .int .i64 t990, .slice Ao53 t934.length co53] (by rfl) rfl rfl (by (try simp only [List.map_toArray, List.map_cons, List.map_nil]); first | done | rfl | (simp only [List.length_drop, List.length_take]; rfl)) ?_
               with_reducible refine (impl_AppendTo.calls kj37 t938 t939 _ _ t940 t933 t990 _ _ t934 t991 t992 t993 t996 _ ?side1 ?side2 ?side3 ?side4 A51.out).mono ?_
               (case side1 => repeat (first | exact (R_reads' HO_945002.out).2.2 | (with_reducible refine C_alloc ?_ _) | (with_reducible refine C_drewN ?_ _) | (with_reducible refine C_drew ?_)))
               (case side2 => exact (R_reads' HO_945002.out).2.1)
               (case side3 => repeat (first | exact (R_reads' HO_5.out).2.2 | (with_reducible refine C_alloc ?_ _) | (with_reducible refine C_drewN ?_ _) | (with_reducible refine C_drew ?_)))
               (case side4 => exact (R_reads' HO_5.out).2.1)
               rintro e w67 ⟨v994, rfl, ho0, hb⟩
               refine ⟨_, rfl, ?_⟩
               have n0_ := Aside0.mk (R_elder' (by (with_reducible repeat (first | apply R_alloc | apply R_drewN | apply R_drew)); exact HO_5.out) (R_base ho0) hb)
               have n1_ := Aside0.mk (R_elder' (by (with_reducible repeat (first | apply R_alloc | apply R_drewN | apply R_drew)); exact HO_938002.out) (R_base ho0) hb)
               have n2_ := Aside0.mk (R_elder' (by (with_reducible repeat (first | apply R_alloc | apply R_drewN | apply R_drew)); exact HO_945002.out) (R_base ho0) hb)
               have n3_ := Aside0.mk (R_elder' (by (with_reducible repeat (first | apply R_alloc | apply R_drewN | apply R_drew)); exact HO987.out) (R_base ho0) hb)
               have n4_ := Aside0.mk (R_lower (R_new' (R_new' (R_new' (R_new' ho0 (R_lt (by (with_reducible repeat (first | apply R_alloc | apply R_drewN | apply R_drew)); exact HO_5.out))) (R_lt (by (with_reducible repeat (first | apply R_alloc | apply R_drewN | apply R_drew)); exact HO_938002.out))) (R_lt (by (with_reducible repeat (first | apply R_alloc | apply R_drewN | apply R_drew)); exact HO_945002.out))) (R_lt (by (with_reducible repeat (first | apply R_alloc | apply R_drewN | apply R_drew)); exact HO987.out))) (below_size (by repeat (first | (with_reducible first | exact HB.out | apply below_alloc | apply pw_below_drewN | apply below_drew1 | refine below_set ?_ GE937.out | refine below_set ?_ GE944.out | refine below_set ?_ GE989.out | refine below_set ?_ GE997.out) | exact HB.out))))
               have n5_ := Aside0.mk (blk_below (g := gb937) (o := .cells #[.int .i64 t928, .int .i64 t929, .slice Ao16 t930.length co16] 29 (0, 0)) (by (with_reducible repeat (first | refine blk_drewN ?_ _ | refine blk_drew ?_ | refine blk_alloc ?_ _)); exact BK937.out) hb)
               have n6_ := Aside0.mk (blk_below (g := gb944) (o := .cells #[.int .i64 t938, .int .i64 t939, .slice Ao21 t940.length co21] 29 (0, 0)) (by (with_reducible repeat (first | refine blk_drewN ?_ _ | refine blk_drew ?_ | refine blk_alloc ?_ _)); exact BK944.out) hb)
               have n7_ := Aside0.mk (blk_below (g := gb989) (o := .cells #[.int .i64 t983, .int .i64 t984, .slice Ao61 t985.length co61] 29 (0, 0)) (by (with_reducible repeat (first | refine blk_drewN ?_ _ | refine blk_drew ?_ | refine blk_alloc ?_ _)); exact BK989.out) hb)
               have n8_ := Aside0.mk (blk_below (g := gb997) (o := .cells #[.int .i64 0, .int .i64 0, .slice none 0 0] 29 (0, 0)) (by (with_reducible repeat (first | refine blk_drewN ?_ _ | refine blk_drew ?_ | refine blk_alloc ?_ _)); exact BK997.out) hb)
               have n9_ := Aside0.mk (below_step (by repeat (first | (with_reducible first | exact HB.out | apply below_alloc | apply pw_below_drewN | apply below_drew1 | refine below_set ?_ GE937.out | refine below_set ?_ GE944.out | refine below_set ?_ GE989.out | refine below_set ?_ GE997.out) | exact HB.out)) hb)
               clear HO_5
               clear HO_938002
               clear HO_945002
               clear HO987
               clear BK937
               clear BK944
               clear BK989
               clear BK997
               clear HB
               have HO_5 := n0_
               have HO_938002 := n1_
               have HO_945002 := n2_
               have HO987 := n3_
               have HO995 := n4_
               have BK937 := n5_
               have BK944 := n6_
               have BK989 := n7_
               have BK997 := n8_
               have HB := n9_
               clear n0_ n1_ n2_ n3_ n4_ n5_ n6_ n7_ n8_ n9_
               (try clear hb)
               (try clear hb2)
               (try clear hk)
               (try clear hi)
               (try clear ho0)
               refine hK.out _ _ ⟨(blk_cell BK944.out 0).trans rfl, (blk_cell BK944.out 1).trans rfl, (blk_cell BK944.out 2).trans rfl, (blk_cell BK937.out 0).trans rfl, (blk_cell BK937.out 1).trans rfl, (blk_cell BK937.out 2).trans rfl⟩ (fun hHeld => ?_)
               clear hK K
               refine norm_ (a' := ?_) ?_ ?_
               rotate_left
               ·
                show Act.put _ (some 87) _ = _
                simp only [Act.put, List.setIfInBounds_toArray, List.set_cons_zero, List.set_cons_succ, i64_w, i32_w]
                rfl
               refine SQ.pu 7 80 HT_ ?_
               refine SQ.pu 8 88 HT_ ?_
               refine SQ.pu 9 89 HT_ ?_
               exact norm_ (by simp only [putAll, Act.put, List.setIfInBounds_toArray, List.set_cons_zero, List.set_cons_succ]) (hCont (v994, gb997) _ ⟨hHeld, (by (with_reducible repeat (first | apply R_alloc | apply R_drewN | apply R_drew)); exact R_mono HO987.out (fun _ hk => ⟨hk.2, ⟨hk.1.1, ⟨hk.1.2.1, hk.1.2.2⟩⟩⟩)), (by (with_reducible repeat (first | apply R_alloc | apply R_drewN | apply R_drew)); exact R_mono HO995.out (fun _ hk => ⟨hk.2, ⟨hk.1.1.1.2, ⟨hk.1.1.2, hk.1.2⟩⟩⟩)), (by (with_reducible repeat (first | apply R_alloc | apply R_drewN | apply R_drew)); exact R_mono HO_5.out (fun _ hk => ⟨hk.1.2.2, ⟨hk.2, ⟨hk.1.1, hk.1.2.1⟩⟩⟩)), (by (with_reducible repeat (first | apply R_alloc | apply R_drewN | apply R_drew)); exact R_mono HO_938002.out (fun _ hk => ⟨hk.1.2.2, ⟨hk.2, ⟨hk.1.1, hk.1.2.1⟩⟩⟩)), (by (with_reducible repeat (first | apply R_alloc | apply R_drewN | apply R_drew)); exact R_mono HO_945002.out (fun _ hk => ⟨hk.1.2.2, ⟨hk.2, ⟨hk.1.1, hk.1.2.1⟩⟩⟩)), (by (with_reducible repeat (first | refine blk_drewN ?_ _ | refine blk_drew ?_ | refine blk_alloc ?_ _)); exact BK937.out), (by (with_reducible repeat (first | refine blk_drewN ?_ _ | refine blk_drew ?_ | refine blk_alloc ?_ _)); exact BK944.out), (by (with_reducible repeat (first | refine blk_drewN ?_ _ | refine blk_drew ?_ | refine blk_alloc ?_ _)); exact BK989.out), (by (with_reducible repeat (first | refine blk_drewN ?_ _ | refine blk_drew ?_ | refine blk_alloc ?_ _)); exact BK997.out), GW997.out, GE997.out, NB937_997.out, NB997_937.out, NB944_997.out, NB997_944.out, NB989_997.out, NB997_989.out, (by repeat (first | (with_reducible first | exact HB.out | apply below_alloc | apply pw_below_drewN | apply below_drew1 | refine below_set ?_ GE937.out | refine below_set ?_ GE944.out | refine below_set ?_ GE989.out | refine below_set ?_ GE997.out) | exact HB.out))⟩)
             ·
              skip
              refine box_step ?hg (N := 11) ?hd (cs := #[.int .i64 0, .int .i64 0, .slice none 0 0]) (t := 29) ?hr ?_; (case hd => rfl); (case hg => rfl); (case hr => first | (go_simp; done) | (go_simp; rfl))
              intro gb997 hg w65 hbox hb
              have n0_ := Aside0.mk (R_below (by (with_reducible repeat (first | apply R_alloc | apply R_drewN | apply R_drew)); exact HO_5.out) hb)
              have n1_ := Aside0.mk (R_below (by (with_reducible repeat (first | apply R_alloc | apply R_drewN | apply R_drew)); exact HO_938002.out) hb)
              have n2_ := Aside0.mk (R_below (by (with_reducible repeat (first | apply R_alloc | apply R_drewN | apply R_drew)); exact HO_945002.out) hb)
              have n3_ := Aside0.mk (R_below (by (with_reducible repeat (first | apply R_alloc | apply R_drewN | apply R_drew)); exact HO987.out) hb)
              have n4_ := Aside0.mk (blk_below (g := gb937) (o := .cells #[.int .i64 t928, .int .i64 t929, .slice Ao16 t930.length co16] 29 (0, 0)) (by (with_reducible repeat (first | refine blk_drewN ?_ _ | refine blk_drew ?_ | refine blk_alloc ?_ _)); exact BK937.out) hb)
              have n5_ := Aside0.mk (blk_below (g := gb944) (o := .cells #[.int .i64 t938, .int .i64 t939, .slice Ao21 t940.length co21] 29 (0, 0)) (by (with_reducible repeat (first | refine blk_drewN ?_ _ | refine blk_drew ?_ | refine blk_alloc ?_ _)); exact BK944.out) hb)
              have n6_ := Aside0.mk (blk_below (g := gb989) (o := .cells #[.int .i64 t983, .int .i64 t984, .slice Ao61 t985.length co61] 29 (0, 0)) (by (with_reducible repeat (first | refine blk_drewN ?_ _ | refine blk_drew ?_ | refine blk_alloc ?_ _)); exact BK989.out) hb)
              have n7_ := Aside0.mk (below_step (by repeat (first | (with_reducible first | exact HB.out | apply below_alloc | apply pw_below_drewN | apply below_drew1 | refine below_set ?_ GE937.out | refine below_set ?_ GE944.out | refine below_set ?_ GE989.out) | exact HB.out)) hb)
              have n8_ := Aside0.mk (hbox)
              have n9_ := Aside0.mk ((by rw [hg]; exact (below_size (by repeat (first | (with_reducible first | exact HB.out | apply below_alloc | apply pw_below_drewN | apply below_drew1 | refine below_set ?_ GE937.out | refine below_set ?_ GE944.out | refine below_set ?_ GE989.out) | exact HB.out))) : w.heap.size ≤ gb997))
              have n10_ := Aside0.mk ((by rw [hg]; exact (below_size (by repeat (first | (with_reducible first | exact HB.out | apply below_alloc | apply pw_below_drewN | apply below_drew1 | refine below_set ?_ GE937.out | refine below_set ?_ GE944.out | refine below_set ?_ GE989.out) | exact HB.out))) : w.heap.size ≤ gb997))
              have n11_ := Aside0.mk ((by rw [hg]; exact Nat.ne_of_lt (blk_lt (g := gb937) (o := .cells #[.int .i64 t928, .int .i64 t929, .slice Ao16 t930.length co16] 29 (0, 0)) (by (with_reducible repeat (first | refine blk_drewN ?_ _ | refine blk_drew ?_ | refine blk_alloc ?_ _)); exact BK937.out)) : gb937 ≠ gb997))
              have n12_ := Aside0.mk ((by rw [hg]; exact Nat.ne_of_gt (blk_lt (g := gb937) (o := .cells #[.int .i64 t928, .int .i64 t929, .slice Ao16 t930.length co16] 29 (0, 0)) (by (with_reducible repeat (first | refine blk_drewN ?_ _ | refine blk_drew ?_ | refine blk_alloc ?_ _)); exact BK937.out)) : gb997 ≠ gb937))
              have n13_ := Aside0.mk ((by rw [hg]; exact Nat.ne_of_lt (blk_lt (g := gb944) (o := .cells #[.int .i64 t938, .int .i64 t939, .slice Ao21 t940.length co21] 29 (0, 0)) (by (with_reducible repeat (first | refine blk_drewN ?_ _ | refine blk_drew ?_ | refine blk_alloc ?_ _)); exact BK944.out)) : gb944 ≠ gb997))
              have n14_ := Aside0.mk ((by rw [hg]; exact Nat.ne_of_gt (blk_lt (g := gb944) (o := .cells #[.int .i64 t938, .int .i64 t939, .slice Ao21 t940.length co21] 29 (0, 0)) (by (with_reducible repeat (first | refine blk_drewN ?_ _ | refine blk_drew ?_ | refine blk_alloc ?_ _)); exact BK944.out)) : gb997 ≠ gb944))
              have n15_ := Aside0.mk ((by rw [hg]; exact Nat.ne_of_lt (blk_lt (g := gb989) (o := .cells #[.int .i64 t983, .int .i64 t984, .slice Ao61 t985.length co61] 29 (0, 0)) (by (with_reducible repeat (first | refine blk_drewN ?_ _ | refine blk_drew ?_ | refine blk_alloc ?_ _)); exact BK989.out)) : gb989 ≠ gb997))
              have n16_ := Aside0.mk ((by rw [hg]; exact Nat.ne_of_gt (blk_lt (g := gb989) (o := .cells #[.int .i64 t983, .int .i64 t984, .slice Ao61 t985.length co61] 29 (0, 0)) (by (with_reducible repeat (first | refine blk_drewN ?_ _ | refine blk_drew ?_ | refine blk_alloc ?_ _)); exact BK989.out)) : gb997 ≠ gb989))
              clear HO_5
              clear HO_938002
              clear HO_945002
              clear HO987
              clear BK937
              clear BK944
              clear BK989
              clear HB
              have HO_5 := n0_
              have HO_938002 := n1_
              have HO_945002 := n2_
              have HO987 := n3_
              have BK937 := n4_
              have BK944 := n5_
              have BK989 := n6_
              have HB := n7_
              have BK997 := n8_
              have GW997 := n9_
              have GE997 := n10_
              have NB937_997 := n11_
              have NB997_937 := n12_
              have NB944_997 := n13_
              have NB997_944 := n14_
              have NB989_997 := n15_
              have NB997_989 := n16_
              clear n0_ n1_ n2_ n3_ n4_ n5_ n6_ n7_ n8_ n9_ n10_ n11_ n12_ n13_ n14_ n15_ n16_
              clear hb hbox hg
              refine hK.out _ _ ⟨(blk_cell BK944.out 0).trans rfl, (blk_cell BK944.out 1).trans rfl, (blk_cell BK944.out 2).trans rfl, (blk_cell BK937.out 0).trans rfl, (blk_cell BK937.out 1).trans rfl, (blk_cell BK937.out 2).trans rfl⟩ (fun hHeld => ?_)
              clear hK K
              refine norm_ (a' := ?_) ?_ ?_
              rotate_left
              ·
               show Act.put _ (some 11) _ = _
               simp only [Act.put, List.setIfInBounds_toArray, List.set_cons_zero, List.set_cons_succ, i64_w, i32_w]
               rfl
              refine one_ (i := 4) (N := some 85) #[true, true, true, true, true, true, false, false, false, false, true, false, false] rfl rfl (one_of HT_.out (by kernel_rfl)) (by decide) (fun K hK => ?_)
              refine goes_ Try.func20 (by kernel_rfl) rfl #[.agg #[.int .i64 t928, .int .i64 t929, .slice Ao16 t930.length co16], .int .i64 t933] (by rfl) rfl rfl (by (try simp only [List.map_toArray, List.map_cons, List.map_nil]); first | done | rfl | (simp only [List.length_drop, List.length_take]; rfl)) ?_
              with_reducible refine (spec_TermAt.calls kj37 t928 t929 _ _ t930 t933 t990 _ ?side1 ?side2 A50.out).mono ?_
              (case side1 => repeat (first | exact (R_reads' HO_938002.out).2.2 | (with_reducible refine C_alloc ?_ _) | (with_reducible refine C_drewN ?_ _) | (with_reducible refine C_drew ?_)))
              (case side2 => exact (R_reads' HO_938002.out).2.1)
              rintro e w66 ⟨rfl, hb⟩
              refine ⟨_, rfl, ?_⟩
              have n0_ := Aside0.mk (R_below (by (with_reducible repeat (first | apply R_alloc | apply R_drewN | apply R_drew)); exact HO_5.out) hb)
              have n1_ := Aside0.mk (R_below (by (with_reducible repeat (first | apply R_alloc | apply R_drewN | apply R_drew)); exact HO_938002.out) hb)
              have n2_ := Aside0.mk (R_below (by (with_reducible repeat (first | apply R_alloc | apply R_drewN | apply R_drew)); exact HO_945002.out) hb)
              have n3_ := Aside0.mk (R_below (by (with_reducible repeat (first | apply R_alloc | apply R_drewN | apply R_drew)); exact HO987.out) hb)
              have n4_ := Aside0.mk (blk_below (g := gb937) (o := .cells #[.int .i64 t928, .int .i64 t929, .slice Ao16 t930.length co16] 29 (0, 0)) (by (with_reducible repeat (first | refine blk_drewN ?_ _ | refine blk_drew ?_ | refine blk_alloc ?_ _)); exact BK937.out) hb)
              have n5_ := Aside0.mk (blk_below (g := gb944) (o := .cells #[.int .i64 t938, .int .i64 t939, .slice Ao21 t940.length co21] 29 (0, 0)) (by (with_reducible repeat (first | refine blk_drewN ?_ _ | refine blk_drew ?_ | refine blk_alloc ?_ _)); exact BK944.out) hb)
              have n6_ := Aside0.mk (blk_below (g := gb989) (o := .cells #[.int .i64 t983, .int .i64 t984, .slice Ao61 t985.length co61] 29 (0, 0)) (by (with_reducible repeat (first | refine blk_drewN ?_ _ | refine blk_drew ?_ | refine blk_alloc ?_ _)); exact BK989.out) hb)
              have n7_ := Aside0.mk (blk_below (g := gb997) (o := .cells #[.int .i64 0, .int .i64 0, .slice none 0 0] 29 (0, 0)) (by (with_reducible repeat (first | refine blk_drewN ?_ _ | refine blk_drew ?_ | refine blk_alloc ?_ _)); exact BK997.out) hb)
              have n8_ := Aside0.mk (below_step (by repeat (first | (with_reducible first | exact HB.out | apply below_alloc | apply pw_below_drewN | apply below_drew1 | refine below_set ?_ GE937.out | refine below_set ?_ GE944.out | refine below_set ?_ GE989.out | refine below_set ?_ GE997.out) | exact HB.out)) hb)
              clear HO_5
              clear HO_938002
              clear HO_945002
              clear HO987
              clear BK937
              clear BK944
              clear BK989
              clear BK997
              clear HB
              have HO_5 := n0_
              have HO_938002 := n1_
              have HO_945002 := n2_
              have HO987 := n3_
              have BK937 := n4_
              have BK944 := n5_
              have BK989 := n6_
              have BK997 := n7_
              have HB := n8_
              clear n0_ n1_ n2_ n3_ n4_ n5_ n6_ n7_ n8_
              (try clear hb)
              (try clear hb2)
              (try clear hk)
              (try clear hi)
              refine hK.out _ _ ⟨(blk_cell BK944.out 0).trans rfl, (blk_cell BK944.out 1).trans rfl, (blk_cell BK944.out 2).trans rfl, (blk_cell BK937.out 0).trans rfl, (blk_cell BK937.out 1).trans rfl, (blk_cell BK937.out 2).trans rfl⟩ (fun hHeld => ?_)
              clear hK K
              refine norm_ (a' := ?_) ?_ ?_
              rotate_left
              ·
               show Act.put _ (some 85) _ = _
               simp only [Act.put, List.setIfInBounds_toArray, List.set_cons_zero, List.set_cons_succ, i64_w, i32_w]
               rfl
              refine one_ (i := 6) (N := some 87) #[true, true, true, true, true, true, true, false, false, false, true, false, false] rfl rfl (one_of HT_.out (by kernel_rfl)) (by decide) (fun K hK => ?_)
              refine goes_ Try.func38 (by kernel_rfl) rfl #[.agg #[.int .i64 t938, .int .i64 t939, .slice Ao21 t940.length co21], .int .i64 t933, .int .i64 t990, .slice Ao53 t934.length co53] (by rfl) rfl rfl (by (try simp only [List.map_toArray, List.map_cons, List.map_nil]); first | done | rfl | (simp only [List.length_drop, List.length_take]; rfl)) ?_
              with_reducible refine (impl_AppendTo.calls kj37 t938 t939 _ _ t940 t933 t990 _ _ t934 t991 t992 t993 t996 _ ?side1 ?side2 ?side3 ?side4 A51.out).mono ?_
              (case side1 => repeat (first | exact (R_reads' HO_945002.out).2.2 | (with_reducible refine C_alloc ?_ _) | (with_reducible refine C_drewN ?_ _) | (with_reducible refine C_drew ?_)))
              (case side2 => exact (R_reads' HO_945002.out).2.1)
              (case side3 => repeat (first | exact (R_reads' HO_5.out).2.2 | (with_reducible refine C_alloc ?_ _) | (with_reducible refine C_drewN ?_ _) | (with_reducible refine C_drew ?_)))
              (case side4 => exact (R_reads' HO_5.out).2.1)
              rintro e w67 ⟨v994, rfl, ho0, hb⟩
              refine ⟨_, rfl, ?_⟩
              have n0_ := Aside0.mk (R_elder' (by (with_reducible repeat (first | apply R_alloc | apply R_drewN | apply R_drew)); exact HO_5.out) (R_base ho0) hb)
              have n1_ := Aside0.mk (R_elder' (by (with_reducible repeat (first | apply R_alloc | apply R_drewN | apply R_drew)); exact HO_938002.out) (R_base ho0) hb)
              have n2_ := Aside0.mk (R_elder' (by (with_reducible repeat (first | apply R_alloc | apply R_drewN | apply R_drew)); exact HO_945002.out) (R_base ho0) hb)
              have n3_ := Aside0.mk (R_elder' (by (with_reducible repeat (first | apply R_alloc | apply R_drewN | apply R_drew)); exact HO987.out) (R_base ho0) hb)
              have n4_ := Aside0.mk (R_lower (R_new' (R_new' (R_new' (R_new' ho0 (R_lt (by (with_reducible repeat (first | apply R_alloc | apply R_drewN | apply R_drew)); exact HO_5.out))) (R_lt (by (with_reducible repeat (first | apply R_alloc | apply R_drewN | apply R_drew)); exact HO_938002.out))) (R_lt (by (with_reducible repeat (first | apply R_alloc | apply R_drewN | apply R_drew)); exact HO_945002.out))) (R_lt (by (with_reducible repeat (first | apply R_alloc | apply R_drewN | apply R_drew)); exact HO987.out))) (below_size (by repeat (first | (with_reducible first | exact HB.out | apply below_alloc | apply pw_below_drewN | apply below_drew1 | refine below_set ?_ GE937.out | refine below_set ?_ GE944.out | refine below_set ?_ GE989.out | refine below_set ?_ GE997.out) | exact HB.out))))
              have n5_ := Aside0.mk (blk_below (g := gb937) (o := .cells #[.int .i64 t928, .int .i64 t929, .slice Ao16 t930.length co16] 29 (0, 0)) (by (with_reducible repeat (first | refine blk_drewN ?_ _ | refine blk_drew ?_ | refine blk_alloc ?_ _)); exact BK937.out) hb)
              have n6_ := Aside0.mk (blk_below (g := gb944) (o := .cells #[.int .i64 t938, .int .i64 t939, .slice Ao21 t940.length co21] 29 (0, 0)) (by (with_reducible repeat (first | refine blk_drewN ?_ _ | refine blk_drew ?_ | refine blk_alloc ?_ _)); exact BK944.out) hb)
              have n7_ := Aside0.mk (blk_below (g := gb989) (o := .cells #[.int .i64 t983, .int .i64 t984, .slice Ao61 t985.length co61] 29 (0, 0)) (by (with_reducible repeat (first | refine blk_drewN ?_ _ | refine blk_drew ?_ | refine blk_alloc ?_ _)); exact BK989.out) hb)
              have n8_ := Aside0.mk (blk_below (g := gb997) (o := .cells #[.int .i64 0, .int .i64 0, .slice none 0 0] 29 (0, 0)) (by (with_reducible repeat (first | refine blk_drewN ?_ _ | refine blk_drew ?_ | refine blk_alloc ?_ _)); exact BK997.out) hb)
              have n9_ := Aside0.mk (below_step (by repeat (first | (with_reducible first | exact HB.out | apply below_alloc | apply pw_below_drewN | apply below_drew1 | refine below_set ?_ GE937.out | refine below_set ?_ GE944.out | refine below_set ?_ GE989.out | refine below_set ?_ GE997.out) | exact HB.out)) hb)
              clear HO_5
              clear HO_938002
              clear HO_945002
              clear HO987
              clear BK937
              clear BK944
              clear BK989
              clear BK997
              clear HB
              have HO_5 := n0_
              have HO_938002 := n1_
              have HO_945002 := n2_
              have HO987 := n3_
              have HO995 := n4_
              have BK937 := n5_
              have BK944 := n6_
              have BK989 := n7_
              have BK997 := n8_
              have HB := n9_
              clear n0_ n1_ n2_ n3_ n4_ n5_ n6_ n7_ n8_ n9_
              (try clear hb)
              (try clear hb2)
              (try clear hk)
              (try clear hi)
              (try clear ho0)
              refine hK.out _ _ ⟨(blk_cell BK944.out 0).trans rfl, (blk_cell BK944.out 1).trans rfl, (blk_cell BK944.out 2).trans rfl, (blk_cell BK937.out 0).trans rfl, (blk_cell BK937.out 1).trans rfl, (blk_cell BK937.out 2).trans rfl⟩ (fun hHeld => ?_)
              clear hK K
              refine norm_ (a' := ?_) ?_ ?_
              rotate_left
              ·
               show Act.put _ (some 87) _ = _
               simp only [Act.put, List.setIfInBounds_toArray, List.set_cons_zero, List.set_cons_succ, i64_w, i32_w]
               rfl
              refine SQ.pu 7 80 HT_ ?_
              refine SQ.pu 8 88 HT_ ?_
              refine SQ.pu 9 89 HT_ ?_
              exact norm_ (by simp only [putAll, Act.put, List.setIfInBounds_toArray, List.set_cons_zero, List.set_cons_succ]) (hCont (v994, gb997) _ ⟨hHeld, (by (with_reducible repeat (first | apply R_alloc | apply R_drewN | apply R_drew)); exact R_mono HO987.out (fun _ hk => ⟨hk.2, ⟨hk.1.1, ⟨hk.1.2.1, hk.1.2.2⟩⟩⟩)), (by (with_reducible repeat (first | apply R_alloc | apply R_drewN | apply R_drew)); exact R_mono HO995.out (fun _ hk => ⟨hk.2, ⟨hk.1.1.1.2, ⟨hk.1.1.2, hk.1.2⟩⟩⟩)), (by (with_reducible repeat (first | apply R_alloc | apply R_drewN | apply R_drew)); exact R_mono HO_5.out (fun _ hk => ⟨hk.1.2.2, ⟨hk.2, ⟨hk.1.1, hk.1.2.1⟩⟩⟩)), (by (with_reducible repeat (first | apply R_alloc | apply R_drewN | apply R_drew)); exact R_mono HO_938002.out (fun _ hk => ⟨hk.1.2.2, ⟨hk.2, ⟨hk.1.1, hk.1.2.1⟩⟩⟩)), (by (with_reducible repeat (first | apply R_alloc | apply R_drewN | apply R_drew)); exact R_mono HO_945002.out (fun _ hk => ⟨hk.1.2.2, ⟨hk.2, ⟨hk.1.1, hk.1.2.1⟩⟩⟩)), (by (with_reducible repeat (first | refine blk_drewN ?_ _ | refine blk_drew ?_ | refine blk_alloc ?_ _)); exact BK937.out), (by (with_reducible repeat (first | refine blk_drewN ?_ _ | refine blk_drew ?_ | refine blk_alloc ?_ _)); exact BK944.out), (by (with_reducible repeat (first | refine blk_drewN ?_ _ | refine blk_drew ?_ | refine blk_alloc ?_ _)); exact BK989.out), (by (with_reducible repeat (first | refine blk_drewN ?_ _ | refine blk_drew ?_ | refine blk_alloc ?_ _)); exact BK997.out), GW997.out, GE997.out, NB937_997.out, NB997_937.out, NB944_997.out, NB997_944.out, NB989_997.out, NB997_989.out, (by repeat (first | (with_reducible first | exact HB.out | apply below_alloc | apply pw_below_drewN | apply below_drew1 | refine below_set ?_ GE937.out | refine below_set ?_ GE944.out | refine below_set ?_ GE989.out | refine below_set ?_ GE997.out) | exact HB.out))⟩)
            rintro ⟨v994, gb997⟩ w68 ⟨hS_, h0_, h1_, h2_, h3_, h4_, h5_, h6_, h7_, h8_, h9_, h10_, h11_, h12_, h13_, h14_, h15_, h16_, h17_⟩
            have n0_ : Aside0 (Kd.R k54 54 w68 w.heap.size (fun k_ => some k_ ≠ (v994 : Value).ownBlock ∧ some k_ ≠ (.slice Ao53 t934.length co53 : Value).ownBlock ∧ some k_ ≠ (.slice Ao16 t930.length co16 : Value).ownBlock ∧ some k_ ≠ (.slice Ao21 t940.length co21 : Value).ownBlock) (.slice Ao61 t985.length co61) t985) := ⟨h0_⟩
            have n1_ : Aside0 (Kd.R k54 54 w68 w.heap.size (fun k_ => some k_ ≠ (.slice Ao61 t985.length co61 : Value).ownBlock ∧ some k_ ≠ (.slice Ao53 t934.length co53 : Value).ownBlock ∧ some k_ ≠ (.slice Ao16 t930.length co16 : Value).ownBlock ∧ some k_ ≠ (.slice Ao21 t940.length co21 : Value).ownBlock) v994 t993) := ⟨h1_⟩
            have n2_ : Aside0 (Kd.R k54 54 w68 w.heap.size (fun k_ => some k_ ≠ (.slice Ao61 t985.length co61 : Value).ownBlock ∧ some k_ ≠ (v994 : Value).ownBlock ∧ some k_ ≠ (.slice Ao16 t930.length co16 : Value).ownBlock ∧ some k_ ≠ (.slice Ao21 t940.length co21 : Value).ownBlock) (.slice Ao53 t934.length co53) t934) := ⟨h2_⟩
            have n3_ : Aside0 (Kd.R k54 54 w68 w.heap.size (fun k_ => some k_ ≠ (.slice Ao61 t985.length co61 : Value).ownBlock ∧ some k_ ≠ (v994 : Value).ownBlock ∧ some k_ ≠ (.slice Ao53 t934.length co53 : Value).ownBlock ∧ some k_ ≠ (.slice Ao21 t940.length co21 : Value).ownBlock) (.slice Ao16 t930.length co16) t930) := ⟨h3_⟩
            have n4_ : Aside0 (Kd.R k54 54 w68 w.heap.size (fun k_ => some k_ ≠ (.slice Ao61 t985.length co61 : Value).ownBlock ∧ some k_ ≠ (v994 : Value).ownBlock ∧ some k_ ≠ (.slice Ao53 t934.length co53 : Value).ownBlock ∧ some k_ ≠ (.slice Ao16 t930.length co16 : Value).ownBlock) (.slice Ao21 t940.length co21) t940) := ⟨h4_⟩
            have n5_ : Aside0 (w68.heap[gb937]? = some (.cells #[.int .i64 t928, .int .i64 t929, .slice Ao16 t930.length co16] 29 (0, 0))) := ⟨h5_⟩
            have n6_ : Aside0 (w68.heap[gb944]? = some (.cells #[.int .i64 t938, .int .i64 t939, .slice Ao21 t940.length co21] 29 (0, 0))) := ⟨h6_⟩
            have n7_ : Aside0 (w68.heap[gb989]? = some (.cells #[.int .i64 t983, .int .i64 t984, .slice Ao61 t985.length co61] 29 (0, 0))) := ⟨h7_⟩
            have n8_ : Aside0 (w68.heap[gb997]? = some (.cells #[.int .i64 0, .int .i64 0, .slice none 0 0] 29 (0, 0))) := ⟨h8_⟩
            have n9_ : Aside0 (w.heap.size ≤ gb997) := ⟨h9_⟩
            have n10_ : Aside0 (w.heap.size ≤ gb997) := ⟨h10_⟩
            have n11_ : Aside0 (gb937 ≠ gb997) := ⟨h11_⟩
            have n12_ : Aside0 (gb997 ≠ gb937) := ⟨h12_⟩
            have n13_ : Aside0 (gb944 ≠ gb997) := ⟨h13_⟩
            have n14_ : Aside0 (gb997 ≠ gb944) := ⟨h14_⟩
            have n15_ : Aside0 (gb989 ≠ gb997) := ⟨h15_⟩
            have n16_ : Aside0 (gb997 ≠ gb989) := ⟨h16_⟩
            have n17_ : Aside0 (Below w.heap.size w w68) := ⟨h17_⟩
            clear HO_5
            clear HO_938002
            clear HO_945002
            clear HO987
            clear BK937
            clear BK944
            clear BK989
            clear HB
            clear h0_ h1_ h2_ h3_ h4_ h5_ h6_ h7_ h8_ h9_ h10_ h11_ h12_ h13_ h14_ h15_ h16_ h17_
            have HO987 := n0_
            have HO995 := n1_
            have HO_5 := n2_
            have HO_938002 := n3_
            have HO_945002 := n4_
            have BK937 := n5_
            have BK944 := n6_
            have BK989 := n7_
            have BK997 := n8_
            have GW997 := n9_
            have GE997 := n10_
            have NB937_997 := n11_
            have NB997_937 := n12_
            have NB944_997 := n13_
            have NB997_944 := n14_
            have NB989_997 := n15_
            have NB997_989 := n16_
            have HB := n17_
            clear n0_ n1_ n2_ n3_ n4_ n5_ n6_ n7_ n8_ n9_ n10_ n11_ n12_ n13_ n14_ n15_ n16_ n17_
            have hHeld : w68.cell? ⟨gb944, 0, none⟩ = some (.int .i64 t938) ∧ w68.cell? ⟨gb944, 1, none⟩ = some (.int .i64 t939) ∧ w68.cell? ⟨gb944, 2, none⟩ = some (.slice Ao21 t940.length co21) ∧ w68.cell? ⟨gb937, 0, none⟩ = some (.int .i64 t928) ∧ w68.cell? ⟨gb937, 1, none⟩ = some (.int .i64 t929) ∧ w68.cell? ⟨gb937, 2, none⟩ = some (.slice Ao16 t930.length co16) := hS_
            obtain ⟨Ao71, co71, eo71⟩ := R_slice HO995.out
            (first | subst eo71 | (injection eo71 with f1_ f2_ f3_; have f4_ := f1_.symm; have f5_ := f3_.symm; clear f1_ f2_ f3_; subst f4_; subst f5_))
            refine norm_ (a' := ?_) ?_ ?_
            rotate_left
            ·
             simp only [putAll, Act.put, List.setIfInBounds_toArray, List.set_cons_zero, List.set_cons_succ]
             rfl
            refine one_ (i := 11) (N := none) #[true, true, true, true, true, true, true, true, true, true, true, true, false] rfl rfl (one_of HT_.out (by kernel_rfl)) (by decide) (fun K hK => ?_)
            have hs69 : w68.cell? ⟨gb997, 0, none⟩ = some (.int .i64 0) := (blk_cell BK997.out 0).trans rfl
            have hfs69 := blk_frozen BK997.out 0
            have hns69_0 := NB937_997.out
            have hns69_1 := NB944_997.out
            have hns69_2 := NB989_997.out
            have hms69_0 := NB997_937.out
            have hms69_1 := NB997_944.out
            have hms69_2 := NB997_989.out
            have hs70 : w68.cell? ⟨gb997, 1, none⟩ = some (.int .i64 0) := (blk_cell BK997.out 1).trans rfl
            have hfs70 := blk_frozen BK997.out 1
            have hns70_0 := NB937_997.out
            have hns70_1 := NB944_997.out
            have hns70_2 := NB989_997.out
            have hms70_0 := NB997_937.out
            have hms70_1 := NB997_944.out
            have hms70_2 := NB997_989.out
            have hs72 : w68.cell? ⟨gb997, 2, none⟩ = some (.slice none 0 0) := (blk_cell BK997.out 2).trans rfl
            have hfs72 := blk_frozen BK997.out 2
            have hns72_0 := NB937_997.out
            have hns72_1 := NB944_997.out
            have hns72_2 := NB989_997.out
            have hms72_0 := NB997_937.out
            have hms72_1 := NB997_944.out
            have hms72_2 := NB997_989.out
            refine skip_ (w1 := ?_) (by rfl) rfl ?_ ?_
            rotate_left
            ·
             go_simp
             rfl
            refine hK.out _ _ ⟨((cell_far (p := ⟨gb997, _, none⟩) NB944_997.out _).trans (((cell_far (p := ⟨gb997, _, none⟩) NB944_997.out _).trans (((cell_far (p := ⟨gb997, _, none⟩) NB944_997.out _).trans (hHeld.1)))))), ((cell_far (p := ⟨gb997, _, none⟩) NB944_997.out _).trans (((cell_far (p := ⟨gb997, _, none⟩) NB944_997.out _).trans (((cell_far (p := ⟨gb997, _, none⟩) NB944_997.out _).trans (hHeld.2.1)))))), ((cell_far (p := ⟨gb997, _, none⟩) NB944_997.out _).trans (((cell_far (p := ⟨gb997, _, none⟩) NB944_997.out _).trans (((cell_far (p := ⟨gb997, _, none⟩) NB944_997.out _).trans (hHeld.2.2.1)))))), ((cell_far (p := ⟨gb997, _, none⟩) NB937_997.out _).trans (((cell_far (p := ⟨gb997, _, none⟩) NB937_997.out _).trans (((cell_far (p := ⟨gb997, _, none⟩) NB937_997.out _).trans (hHeld.2.2.2.1)))))), ((cell_far (p := ⟨gb997, _, none⟩) NB937_997.out _).trans (((cell_far (p := ⟨gb997, _, none⟩) NB937_997.out _).trans (((cell_far (p := ⟨gb997, _, none⟩) NB937_997.out _).trans (hHeld.2.2.2.2.1)))))), ((cell_far (p := ⟨gb997, _, none⟩) NB937_997.out _).trans (((cell_far (p := ⟨gb997, _, none⟩) NB937_997.out _).trans (((cell_far (p := ⟨gb997, _, none⟩) NB937_997.out _).trans (hHeld.2.2.2.2.2))))))⟩ (fun hHeld => ?_)
            clear hK K
            refine SQ.pu 12 12 HT_ ?_
            refine done_ (done_of HT_.out (by kernel_rfl)) ?_
            go_upto_region 16 with (fail)
            go_cut [104] (fun v104 wc => ∃ (kq : Nat) (x104_51 : Bool), v104 = .bool x104_51 ∧ Aside0 (laws_FnCompacted.j2 kq t933 t988 x104_51 t928 t929 t930 t938 t939 t940 t983 t984 t985 t991 t992 t993 = some r) ∧ Aside0 (kq ≤ kj37) ∧ Aside0 (Kd.R k54 54 wc w.heap.size (fun k_ => some k_ ≠ ((.slice Ao21 t940.length co21) : Value).ownBlock ∧ some k_ ≠ ((.slice Ao61 t985.length co61) : Value).ownBlock ∧ some k_ ≠ ((.slice Ao71 t993.length co71) : Value).ownBlock) (.slice Ao16 t930.length co16) t930) ∧ Aside0 (Kd.R k54 54 wc w.heap.size (fun k_ => some k_ ≠ ((.slice Ao16 t930.length co16) : Value).ownBlock ∧ some k_ ≠ ((.slice Ao61 t985.length co61) : Value).ownBlock ∧ some k_ ≠ ((.slice Ao71 t993.length co71) : Value).ownBlock) (.slice Ao21 t940.length co21) t940) ∧ Aside0 (Kd.R k54 54 wc w.heap.size (fun k_ => some k_ ≠ ((.slice Ao16 t930.length co16) : Value).ownBlock ∧ some k_ ≠ ((.slice Ao21 t940.length co21) : Value).ownBlock ∧ some k_ ≠ ((.slice Ao71 t993.length co71) : Value).ownBlock) (.slice Ao61 t985.length co61) t985) ∧ Aside0 (Kd.R k54 54 wc w.heap.size (fun k_ => some k_ ≠ ((.slice Ao16 t930.length co16) : Value).ownBlock ∧ some k_ ≠ ((.slice Ao21 t940.length co21) : Value).ownBlock ∧ some k_ ≠ ((.slice Ao61 t985.length co61) : Value).ownBlock) (.slice Ao71 t993.length co71) t993) ∧ Aside0 (wc.heap[gb937]? = some (.cells #[.int .i64 t928, .int .i64 t929, (.slice Ao16 t930.length co16)] 29 (0, 0))) ∧ Aside0 (wc.heap[gb944]? = some (.cells #[.int .i64 t938, .int .i64 t939, (.slice Ao21 t940.length co21)] 29 (0, 0))) ∧ Aside0 (wc.heap[gb989]? = some (.cells #[.int .i64 t983, .int .i64 t984, (.slice Ao61 t985.length co61)] 29 (0, 0))) ∧ Aside0 (wc.heap[gb997]? = some (.cells #[.int .i64 t991, .int .i64 t992, (.slice Ao71 t993.length co71)] 29 (0, 0))) ∧ Aside0 (Below w.heap.size w wc))
            case first =>
             have H := HC52.out
             clear HC52
             by_cases c73 : t988 = true
             ·
              subst c73
              have H1 : (if t996 = true then (laws_FnCompacted.j2 kj37 t933 true false t928 t929 t930 t938 t939 t940 t983 t984 t985 t991 t992 t993) else (none)) = some r := by rw [if_pos rfl] at H; exact H
              clear H
              have H := H1
              clear H1
              by_cases c74 : t996 = true
              ·
               subst c74
               have H1 : (laws_FnCompacted.j2 kj37 t933 true false t928 t929 t930 t938 t939 t940 t983 t984 t985 t991 t992 t993) = some r := by rw [if_pos rfl] at H; exact H
               clear H
               have H := H1
               clear H1
               have H' := Aside0.mk H
               clear H
               go_wp2
               go_meet
               case rel => exact ⟨_, (false), (by first | rfl | (simp; done) | (simp [*]; done)), H', ⟨by have := HK1.out; have := HJ37.out; first | omega | exact Nat.le_refl _⟩, ⟨by (with_reducible repeat (first | apply R_alloc | apply R_drewN | apply R_drew)); exact R_mono (R_far (p := ⟨gb997, 2, none⟩) (R_far (p := ⟨gb997, 1, none⟩) (R_far (p := ⟨gb997, 0, none⟩) (R_types HO_938002.out BK997.out (by decide)) (fun _ hk => hk.2) (.int .i64 t991)) (fun _ hk => hk.2) (.int .i64 t992)) (fun _ hk => hk.2) (.slice Ao71 t993.length co71)) (fun _ hk => ⟨hk.1.2.2.2, ⟨hk.1.1, hk.1.2.1⟩⟩)⟩, ⟨by (with_reducible repeat (first | apply R_alloc | apply R_drewN | apply R_drew)); exact R_mono (R_far (p := ⟨gb997, 2, none⟩) (R_far (p := ⟨gb997, 1, none⟩) (R_far (p := ⟨gb997, 0, none⟩) (R_types HO_945002.out BK997.out (by decide)) (fun _ hk => hk.2) (.int .i64 t991)) (fun _ hk => hk.2) (.int .i64 t992)) (fun _ hk => hk.2) (.slice Ao71 t993.length co71)) (fun _ hk => ⟨hk.1.2.2.2, ⟨hk.1.1, hk.1.2.1⟩⟩)⟩, ⟨by (with_reducible repeat (first | apply R_alloc | apply R_drewN | apply R_drew)); exact R_mono (R_far (p := ⟨gb997, 2, none⟩) (R_far (p := ⟨gb997, 1, none⟩) (R_far (p := ⟨gb997, 0, none⟩) (R_types HO987.out BK997.out (by decide)) (fun _ hk => hk.2) (.int .i64 t991)) (fun _ hk => hk.2) (.int .i64 t992)) (fun _ hk => hk.2) (.slice Ao71 t993.length co71)) (fun _ hk => ⟨hk.1.2.2.1, ⟨hk.1.2.2.2, hk.1.1⟩⟩)⟩, ⟨by (with_reducible repeat (first | apply R_alloc | apply R_drewN | apply R_drew)); exact R_mono (R_far (p := ⟨gb997, 2, none⟩) (R_far (p := ⟨gb997, 1, none⟩) (R_far (p := ⟨gb997, 0, none⟩) (R_types HO995.out BK997.out (by decide)) (fun _ hk => hk.2) (.int .i64 t991)) (fun _ hk => hk.2) (.int .i64 t992)) (fun _ hk => hk.2) (.slice Ao71 t993.length co71)) (fun _ hk => ⟨hk.1.2.2.1, ⟨hk.1.2.2.2, hk.1.1⟩⟩)⟩, ⟨by (with_reducible repeat (first | refine blk_drewN ?_ _ | refine blk_drew ?_ | refine blk_alloc ?_ _)); refine blk_far ?_ NB937_997.out _; (with_reducible repeat (first | refine blk_drewN ?_ _ | refine blk_drew ?_ | refine blk_alloc ?_ _)); refine blk_far ?_ NB937_997.out _; (with_reducible repeat (first | refine blk_drewN ?_ _ | refine blk_drew ?_ | refine blk_alloc ?_ _)); refine blk_far ?_ NB937_997.out _; (with_reducible repeat (first | refine blk_drewN ?_ _ | refine blk_drew ?_ | refine blk_alloc ?_ _)); exact BK937.out⟩, ⟨by (with_reducible repeat (first | refine blk_drewN ?_ _ | refine blk_drew ?_ | refine blk_alloc ?_ _)); refine blk_far ?_ NB944_997.out _; (with_reducible repeat (first | refine blk_drewN ?_ _ | refine blk_drew ?_ | refine blk_alloc ?_ _)); refine blk_far ?_ NB944_997.out _; (with_reducible repeat (first | refine blk_drewN ?_ _ | refine blk_drew ?_ | refine blk_alloc ?_ _)); refine blk_far ?_ NB944_997.out _; (with_reducible repeat (first | refine blk_drewN ?_ _ | refine blk_drew ?_ | refine blk_alloc ?_ _)); exact BK944.out⟩, ⟨by (with_reducible repeat (first | refine blk_drewN ?_ _ | refine blk_drew ?_ | refine blk_alloc ?_ _)); refine blk_far ?_ NB989_997.out _; (with_reducible repeat (first | refine blk_drewN ?_ _ | refine blk_drew ?_ | refine blk_alloc ?_ _)); refine blk_far ?_ NB989_997.out _; (with_reducible repeat (first | refine blk_drewN ?_ _ | refine blk_drew ?_ | refine blk_alloc ?_ _)); refine blk_far ?_ NB989_997.out _; (with_reducible repeat (first | refine blk_drewN ?_ _ | refine blk_drew ?_ | refine blk_alloc ?_ _)); exact BK989.out⟩, ⟨by (with_reducible repeat (first | refine blk_drewN ?_ _ | refine blk_drew ?_ | refine blk_alloc ?_ _)); refine blk_put (cs := #[.int .i64 t991, .int .i64 t992, .slice none 0 0]) ?_ 2 _ rfl; (with_reducible repeat (first | refine blk_drewN ?_ _ | refine blk_drew ?_ | refine blk_alloc ?_ _)); refine blk_put (cs := #[.int .i64 t991, .int .i64 0, .slice none 0 0]) ?_ 1 _ rfl; (with_reducible repeat (first | refine blk_drewN ?_ _ | refine blk_drew ?_ | refine blk_alloc ?_ _)); refine blk_put (cs := #[.int .i64 0, .int .i64 0, .slice none 0 0]) ?_ 0 _ rfl; (with_reducible repeat (first | refine blk_drewN ?_ _ | refine blk_drew ?_ | refine blk_alloc ?_ _)); exact BK997.out⟩, ⟨by repeat (first | (with_reducible first | exact HB.out | apply below_alloc | apply pw_below_drewN | apply below_drew1 | refine below_set ?_ GE937.out | refine below_set ?_ GE944.out | refine below_set ?_ GE989.out | refine below_set ?_ GE997.out) | exact HB.out)⟩⟩
              ·
               replace c74 := Bool.eq_false_iff.mpr c74
               subst c74
               have H1 : (none) = some r := by rw [if_neg (show ¬ (false = true) by decide)] at H; exact H
               clear H
               have H := H1
               clear H1
               exact absurd H (by simp)
             ·
              replace c73 := Bool.eq_false_iff.mpr c73
              subst c73
              have H1 : (if t996 = true then (laws_FnCompacted.j2 kj37 t933 false false t928 t929 t930 t938 t939 t940 t983 t984 t985 t991 t992 t993) else ((laws_sameLog.f kj37 t991 t992 t993 t938 t939 t940).bind fun t998 => (laws_FnCompacted.j2 kj37 t933 false (!t998) t928 t929 t930 t938 t939 t940 t983 t984 t985 t991 t992 t993))) = some r := by rw [if_neg (show ¬ (false = true) by decide)] at H; exact H
              clear H
              have H := H1
              clear H1
              by_cases c75 : t996 = true
              ·
               subst c75
               have H1 : (laws_FnCompacted.j2 kj37 t933 false false t928 t929 t930 t938 t939 t940 t983 t984 t985 t991 t992 t993) = some r := by rw [if_pos rfl] at H; exact H
               clear H
               have H := H1
               clear H1
               have H' := Aside0.mk H
               clear H
               go_wp2
               go_meet
               case rel => exact ⟨_, (false), (by first | rfl | (simp; done) | (simp [*]; done)), H', ⟨by have := HK1.out; have := HJ37.out; first | omega | exact Nat.le_refl _⟩, ⟨by (with_reducible repeat (first | apply R_alloc | apply R_drewN | apply R_drew)); exact R_mono (R_far (p := ⟨gb997, 2, none⟩) (R_far (p := ⟨gb997, 1, none⟩) (R_far (p := ⟨gb997, 0, none⟩) (R_types HO_938002.out BK997.out (by decide)) (fun _ hk => hk.2) (.int .i64 t991)) (fun _ hk => hk.2) (.int .i64 t992)) (fun _ hk => hk.2) (.slice Ao71 t993.length co71)) (fun _ hk => ⟨hk.1.2.2.2, ⟨hk.1.1, hk.1.2.1⟩⟩)⟩, ⟨by (with_reducible repeat (first | apply R_alloc | apply R_drewN | apply R_drew)); exact R_mono (R_far (p := ⟨gb997, 2, none⟩) (R_far (p := ⟨gb997, 1, none⟩) (R_far (p := ⟨gb997, 0, none⟩) (R_types HO_945002.out BK997.out (by decide)) (fun _ hk => hk.2) (.int .i64 t991)) (fun _ hk => hk.2) (.int .i64 t992)) (fun _ hk => hk.2) (.slice Ao71 t993.length co71)) (fun _ hk => ⟨hk.1.2.2.2, ⟨hk.1.1, hk.1.2.1⟩⟩)⟩, ⟨by (with_reducible repeat (first | apply R_alloc | apply R_drewN | apply R_drew)); exact R_mono (R_far (p := ⟨gb997, 2, none⟩) (R_far (p := ⟨gb997, 1, none⟩) (R_far (p := ⟨gb997, 0, none⟩) (R_types HO987.out BK997.out (by decide)) (fun _ hk => hk.2) (.int .i64 t991)) (fun _ hk => hk.2) (.int .i64 t992)) (fun _ hk => hk.2) (.slice Ao71 t993.length co71)) (fun _ hk => ⟨hk.1.2.2.1, ⟨hk.1.2.2.2, hk.1.1⟩⟩)⟩, ⟨by (with_reducible repeat (first | apply R_alloc | apply R_drewN | apply R_drew)); exact R_mono (R_far (p := ⟨gb997, 2, none⟩) (R_far (p := ⟨gb997, 1, none⟩) (R_far (p := ⟨gb997, 0, none⟩) (R_types HO995.out BK997.out (by decide)) (fun _ hk => hk.2) (.int .i64 t991)) (fun _ hk => hk.2) (.int .i64 t992)) (fun _ hk => hk.2) (.slice Ao71 t993.length co71)) (fun _ hk => ⟨hk.1.2.2.1, ⟨hk.1.2.2.2, hk.1.1⟩⟩)⟩, ⟨by (with_reducible repeat (first | refine blk_drewN ?_ _ | refine blk_drew ?_ | refine blk_alloc ?_ _)); refine blk_far ?_ NB937_997.out _; (with_reducible repeat (first | refine blk_drewN ?_ _ | refine blk_drew ?_ | refine blk_alloc ?_ _)); refine blk_far ?_ NB937_997.out _; (with_reducible repeat (first | refine blk_drewN ?_ _ | refine blk_drew ?_ | refine blk_alloc ?_ _)); refine blk_far ?_ NB937_997.out _; (with_reducible repeat (first | refine blk_drewN ?_ _ | refine blk_drew ?_ | refine blk_alloc ?_ _)); exact BK937.out⟩, ⟨by (with_reducible repeat (first | refine blk_drewN ?_ _ | refine blk_drew ?_ | refine blk_alloc ?_ _)); refine blk_far ?_ NB944_997.out _; (with_reducible repeat (first | refine blk_drewN ?_ _ | refine blk_drew ?_ | refine blk_alloc ?_ _)); refine blk_far ?_ NB944_997.out _; (with_reducible repeat (first | refine blk_drewN ?_ _ | refine blk_drew ?_ | refine blk_alloc ?_ _)); refine blk_far ?_ NB944_997.out _; (with_reducible repeat (first | refine blk_drewN ?_ _ | refine blk_drew ?_ | refine blk_alloc ?_ _)); exact BK944.out⟩, ⟨by (with_reducible repeat (first | refine blk_drewN ?_ _ | refine blk_drew ?_ | refine blk_alloc ?_ _)); refine blk_far ?_ NB989_997.out _; (with_reducible repeat (first | refine blk_drewN ?_ _ | refine blk_drew ?_ | refine blk_alloc ?_ _)); refine blk_far ?_ NB989_997.out _; (with_reducible repeat (first | refine blk_drewN ?_ _ | refine blk_drew ?_ | refine blk_alloc ?_ _)); refine blk_far ?_ NB989_997.out _; (with_reducible repeat (first | refine blk_drewN ?_ _ | refine blk_drew ?_ | refine blk_alloc ?_ _)); exact BK989.out⟩, ⟨by (with_reducible repeat (first | refine blk_drewN ?_ _ | refine blk_drew ?_ | refine blk_alloc ?_ _)); refine blk_put (cs := #[.int .i64 t991, .int .i64 t992, .slice none 0 0]) ?_ 2 _ rfl; (with_reducible repeat (first | refine blk_drewN ?_ _ | refine blk_drew ?_ | refine blk_alloc ?_ _)); refine blk_put (cs := #[.int .i64 t991, .int .i64 0, .slice none 0 0]) ?_ 1 _ rfl; (with_reducible repeat (first | refine blk_drewN ?_ _ | refine blk_drew ?_ | refine blk_alloc ?_ _)); refine blk_put (cs := #[.int .i64 0, .int .i64 0, .slice none 0 0]) ?_ 0 _ rfl; (with_reducible repeat (first | refine blk_drewN ?_ _ | refine blk_drew ?_ | refine blk_alloc ?_ _)); exact BK997.out⟩, ⟨by repeat (first | (with_reducible first | exact HB.out | apply below_alloc | apply pw_below_drewN | apply below_drew1 | refine below_set ?_ GE937.out | refine below_set ?_ GE944.out | refine below_set ?_ GE989.out | refine below_set ?_ GE997.out) | exact HB.out)⟩⟩
              ·
               replace c75 := Bool.eq_false_iff.mpr c75
               subst c75
               have H1 : ((laws_sameLog.f kj37 t991 t992 t993 t938 t939 t940).bind fun t998 => (laws_FnCompacted.j2 kj37 t933 false (!t998) t928 t929 t930 t938 t939 t940 t983 t984 t985 t991 t992 t993)) = some r := by rw [if_neg (show ¬ (false = true) by decide)] at H; exact H
               clear H
               have H := H1
               clear H1
               replace H := Option.bind_eq_some_iff.mp H
               obtain ⟨t998, A760, H⟩ := H
               replace H : (laws_FnCompacted.j2 kj37 t933 false (!t998) t928 t929 t930 t938 t939 t940 t983 t984 t985 t991 t992 t993) = some r := H
               have A76 := Aside0.mk A760
               clear A760
               have H' := Aside0.mk H
               clear H
               have hnb77 := NB997_937.out
               have hnc77 := NB937_997.out
               have hnb78 := NB997_944.out
               have hnc78 := NB944_997.out
               have hnb79 := NB997_989.out
               have hnc79 := NB989_997.out
               have hcz80_0 : w68.cell? ⟨gb997, 0, none⟩ = some (.int .i64 0) := (blk_cell BK997.out 0).trans rfl
               have hcz80_1 : w68.cell? ⟨gb997, 1, none⟩ = some (.int .i64 0) := (blk_cell BK997.out 1).trans rfl
               have hcz80_2 : w68.cell? ⟨gb997, 2, none⟩ = some (.slice none 0 0) := (blk_cell BK997.out 2).trans rfl
               have hfz80_0 := blk_frozen BK997.out 0
               have hfz80_1 := blk_frozen BK997.out 1
               have hfz80_2 := blk_frozen BK997.out 2
               have hnb81 := NB944_937.out
               have hnc81 := NB937_944.out
               have hnb82 := NB944_989.out
               have hnc82 := NB989_944.out
               have hcz83_0 : w68.cell? ⟨gb944, 0, none⟩ = some (.int .i64 t938) := (blk_cell BK944.out 0).trans rfl
               have hcz83_1 : w68.cell? ⟨gb944, 1, none⟩ = some (.int .i64 t939) := (blk_cell BK944.out 1).trans rfl
               have hcz83_2 : w68.cell? ⟨gb944, 2, none⟩ = some (.slice Ao21 t940.length co21) := (blk_cell BK944.out 2).trans rfl
               have hfz83_0 := blk_frozen BK944.out 0
               have hfz83_1 := blk_frozen BK944.out 1
               have hfz83_2 := blk_frozen BK944.out 2
               go_wp2_with (first | (go_at_call 41; (with_reducible refine (laws_sameLog.calls kj37 t991 t992 _ _ t993 t938 t939 _ _ t940 t998 _ ?side1 ?side2 ?side3 ?side4 A76.out).mono ?_); (case side1 => refine (R_reads' (e := 54) (base := w.heap.size) (ok := fun k_ => (some k_ ≠ (.slice Ao61 t985.length co61 : Value).ownBlock ∧ (some k_ ≠ (.slice Ao53 t934.length co53 : Value).ownBlock ∧ (some k_ ≠ (.slice Ao16 t930.length co16 : Value).ownBlock ∧ some k_ ≠ (.slice Ao21 t940.length co21 : Value).ownBlock)))) (n := t993.length) (c := co71) ?_).2.2; exact (by (with_reducible repeat (first | apply R_alloc | apply R_drewN | apply R_drew)); exact (R_mono (R_far (p := ⟨gb997, 2, none⟩) (R_far (p := ⟨gb997, 1, none⟩) (R_far (p := ⟨gb997, 0, none⟩) (R_types HO995.out BK997.out (by decide)) (fun _ hk => hk.2) (.int .i64 t991)) (fun _ hk => hk.2) (.int .i64 t992)) (fun _ hk => hk.2) (.slice Ao71 t993.length co71)) (fun _ h_ => h_.1)))); (case side2 => exact (R_reads' HO995.out).2.1); (case side3 => refine (R_reads' (e := 54) (base := w.heap.size) (ok := fun k_ => (some k_ ≠ (.slice Ao61 t985.length co61 : Value).ownBlock ∧ (some k_ ≠ (.slice Ao71 t993.length co71 : Value).ownBlock ∧ (some k_ ≠ (.slice Ao53 t934.length co53 : Value).ownBlock ∧ some k_ ≠ (.slice Ao16 t930.length co16 : Value).ownBlock)))) (n := t940.length) (c := co21) ?_).2.2; exact (by (with_reducible repeat (first | apply R_alloc | apply R_drewN | apply R_drew)); exact (R_mono (R_far (p := ⟨gb997, 2, none⟩) (R_far (p := ⟨gb997, 1, none⟩) (R_far (p := ⟨gb997, 0, none⟩) (R_types HO_945002.out BK997.out (by decide)) (fun _ hk => hk.2) (.int .i64 t991)) (fun _ hk => hk.2) (.int .i64 t992)) (fun _ hk => hk.2) (.slice Ao71 t993.length co71)) (fun _ h_ => h_.1)))); (case side4 => exact (R_reads' HO_945002.out).2.1); rintro e w84 ⟨rfl, hb⟩; have n0_ := Aside0.mk (R_below (by (with_reducible repeat (first | apply R_alloc | apply R_drewN | apply R_drew)); exact (R_mono (R_far (p := ⟨gb997, 2, none⟩) (R_far (p := ⟨gb997, 1, none⟩) (R_far (p := ⟨gb997, 0, none⟩) (R_types HO_5.out BK997.out (by decide)) (fun _ hk => hk.2) (.int .i64 t991)) (fun _ hk => hk.2) (.int .i64 t992)) (fun _ hk => hk.2) (.slice Ao71 t993.length co71)) (fun _ h_ => h_.1))) hb); have n1_ := Aside0.mk (R_below (by (with_reducible repeat (first | apply R_alloc | apply R_drewN | apply R_drew)); exact (R_mono (R_far (p := ⟨gb997, 2, none⟩) (R_far (p := ⟨gb997, 1, none⟩) (R_far (p := ⟨gb997, 0, none⟩) (R_types HO_938002.out BK997.out (by decide)) (fun _ hk => hk.2) (.int .i64 t991)) (fun _ hk => hk.2) (.int .i64 t992)) (fun _ hk => hk.2) (.slice Ao71 t993.length co71)) (fun _ h_ => h_.1))) hb); have n2_ := Aside0.mk (R_below (by (with_reducible repeat (first | apply R_alloc | apply R_drewN | apply R_drew)); exact (R_mono (R_far (p := ⟨gb997, 2, none⟩) (R_far (p := ⟨gb997, 1, none⟩) (R_far (p := ⟨gb997, 0, none⟩) (R_types HO_945002.out BK997.out (by decide)) (fun _ hk => hk.2) (.int .i64 t991)) (fun _ hk => hk.2) (.int .i64 t992)) (fun _ hk => hk.2) (.slice Ao71 t993.length co71)) (fun _ h_ => h_.1))) hb); have n3_ := Aside0.mk (R_below (by (with_reducible repeat (first | apply R_alloc | apply R_drewN | apply R_drew)); exact (R_mono (R_far (p := ⟨gb997, 2, none⟩) (R_far (p := ⟨gb997, 1, none⟩) (R_far (p := ⟨gb997, 0, none⟩) (R_types HO987.out BK997.out (by decide)) (fun _ hk => hk.2) (.int .i64 t991)) (fun _ hk => hk.2) (.int .i64 t992)) (fun _ hk => hk.2) (.slice Ao71 t993.length co71)) (fun _ h_ => h_.1))) hb); have n4_ := Aside0.mk (R_below (by (with_reducible repeat (first | apply R_alloc | apply R_drewN | apply R_drew)); exact (R_mono (R_far (p := ⟨gb997, 2, none⟩) (R_far (p := ⟨gb997, 1, none⟩) (R_far (p := ⟨gb997, 0, none⟩) (R_types HO995.out BK997.out (by decide)) (fun _ hk => hk.2) (.int .i64 t991)) (fun _ hk => hk.2) (.int .i64 t992)) (fun _ hk => hk.2) (.slice Ao71 t993.length co71)) (fun _ h_ => h_.1))) hb); have n5_ := Aside0.mk (blk_below (g := gb937) (o := .cells #[.int .i64 t928, .int .i64 t929, .slice Ao16 t930.length co16] 29 (0, 0)) (by (with_reducible repeat (first | refine blk_drewN ?_ _ | refine blk_drew ?_ | refine blk_alloc ?_ _)); refine blk_far ?_ NB937_997.out _; (with_reducible repeat (first | refine blk_drewN ?_ _ | refine blk_drew ?_ | refine blk_alloc ?_ _)); refine blk_far ?_ NB937_997.out _; (with_reducible repeat (first | refine blk_drewN ?_ _ | refine blk_drew ?_ | refine blk_alloc ?_ _)); refine blk_far ?_ NB937_997.out _; (with_reducible repeat (first | refine blk_drewN ?_ _ | refine blk_drew ?_ | refine blk_alloc ?_ _)); exact BK937.out) hb); have n6_ := Aside0.mk (blk_below (g := gb944) (o := .cells #[.int .i64 t938, .int .i64 t939, .slice Ao21 t940.length co21] 29 (0, 0)) (by (with_reducible repeat (first | refine blk_drewN ?_ _ | refine blk_drew ?_ | refine blk_alloc ?_ _)); refine blk_far ?_ NB944_997.out _; (with_reducible repeat (first | refine blk_drewN ?_ _ | refine blk_drew ?_ | refine blk_alloc ?_ _)); refine blk_far ?_ NB944_997.out _; (with_reducible repeat (first | refine blk_drewN ?_ _ | refine blk_drew ?_ | refine blk_alloc ?_ _)); refine blk_far ?_ NB944_997.out _; (with_reducible repeat (first | refine blk_drewN ?_ _ | refine blk_drew ?_ | refine blk_alloc ?_ _)); exact BK944.out) hb); have n7_ := Aside0.mk (blk_below (g := gb989) (o := .cells #[.int .i64 t983, .int .i64 t984, .slice Ao61 t985.length co61] 29 (0, 0)) (by (with_reducible repeat (first | refine blk_drewN ?_ _ | refine blk_drew ?_ | refine blk_alloc ?_ _)); refine blk_far ?_ NB989_997.out _; (with_reducible repeat (first | refine blk_drewN ?_ _ | refine blk_drew ?_ | refine blk_alloc ?_ _)); refine blk_far ?_ NB989_997.out _; (with_reducible repeat (first | refine blk_drewN ?_ _ | refine blk_drew ?_ | refine blk_alloc ?_ _)); refine blk_far ?_ NB989_997.out _; (with_reducible repeat (first | refine blk_drewN ?_ _ | refine blk_drew ?_ | refine blk_alloc ?_ _)); exact BK989.out) hb); have n8_ := Aside0.mk (blk_below (g := gb997) (o := .cells #[.int .i64 t991, .int .i64 t992, .slice Ao71 t993.length co71] 29 (0, 0)) (by (with_reducible repeat (first | refine blk_drewN ?_ _ | refine blk_drew ?_ | refine blk_alloc ?_ _)); refine blk_put (cs := #[.int .i64 t991, .int .i64 t992, .slice none 0 0]) ?_ 2 _ rfl; (with_reducible repeat (first | refine blk_drewN ?_ _ | refine blk_drew ?_ | refine blk_alloc ?_ _)); refine blk_put (cs := #[.int .i64 t991, .int .i64 0, .slice none 0 0]) ?_ 1 _ rfl; (with_reducible repeat (first | refine blk_drewN ?_ _ | refine blk_drew ?_ | refine blk_alloc ?_ _)); refine blk_put (cs := #[.int .i64 0, .int .i64 0, .slice none 0 0]) ?_ 0 _ rfl; (with_reducible repeat (first | refine blk_drewN ?_ _ | refine blk_drew ?_ | refine blk_alloc ?_ _)); exact BK997.out) hb); have n9_ := Aside0.mk (below_step (by repeat (first | (with_reducible first | exact HB.out | apply below_alloc | apply pw_below_drewN | apply below_drew1 | refine below_set ?_ GE937.out | refine below_set ?_ GE944.out | refine below_set ?_ GE989.out | refine below_set ?_ GE997.out) | exact HB.out)) hb); clear HO_5; clear HO_938002; clear HO_945002; clear HO987; clear HO995; clear BK937; clear BK944; clear BK989; clear BK997; clear HB; have HO_5 := n0_; have HO_938002 := n1_; have HO_945002 := n2_; have HO987 := n3_; have HO995 := n4_; have BK937 := n5_; have BK944 := n6_; have BK989 := n7_; have BK997 := n8_; have HB := n9_; clear n0_ n1_ n2_ n3_ n4_ n5_ n6_ n7_ n8_ n9_; (try clear hb); (try clear hb2); (try clear hk); (try clear hi)))
               go_meet
               case rel => exact ⟨_, (!t998), (by first | rfl | (simp; done) | (simp [*]; done)), H', ⟨by have := HK1.out; have := HJ37.out; first | omega | exact Nat.le_refl _⟩, ⟨by (with_reducible repeat (first | apply R_alloc | apply R_drewN | apply R_drew)); exact R_mono HO_938002.out (fun _ hk => ⟨hk.2.2.2, ⟨hk.1, hk.2.1⟩⟩)⟩, ⟨by (with_reducible repeat (first | apply R_alloc | apply R_drewN | apply R_drew)); exact R_mono HO_945002.out (fun _ hk => ⟨hk.2.2.2, ⟨hk.1, hk.2.1⟩⟩)⟩, ⟨by (with_reducible repeat (first | apply R_alloc | apply R_drewN | apply R_drew)); exact R_mono HO987.out (fun _ hk => ⟨hk.2.2.1, ⟨hk.2.2.2, hk.1⟩⟩)⟩, ⟨by (with_reducible repeat (first | apply R_alloc | apply R_drewN | apply R_drew)); exact R_mono HO995.out (fun _ hk => ⟨hk.2.2.1, ⟨hk.2.2.2, hk.1⟩⟩)⟩, ⟨by (with_reducible repeat (first | refine blk_drewN ?_ _ | refine blk_drew ?_ | refine blk_alloc ?_ _)); exact BK937.out⟩, ⟨by (with_reducible repeat (first | refine blk_drewN ?_ _ | refine blk_drew ?_ | refine blk_alloc ?_ _)); exact BK944.out⟩, ⟨by (with_reducible repeat (first | refine blk_drewN ?_ _ | refine blk_drew ?_ | refine blk_alloc ?_ _)); exact BK989.out⟩, ⟨by (with_reducible repeat (first | refine blk_drewN ?_ _ | refine blk_drew ?_ | refine blk_alloc ?_ _)); exact BK997.out⟩, ⟨by repeat (first | (with_reducible first | exact HB.out | apply below_alloc | apply pw_below_drewN | apply below_drew1 | refine below_set ?_ GE937.out | refine below_set ?_ GE944.out | refine below_set ?_ GE989.out | refine below_set ?_ GE997.out) | exact HB.out)⟩⟩
            case rest =>
             clear HC52
             try clear c2
             try clear p2
             try clear c3
             try clear c7
             try clear c8
             try clear c20
             try clear c38
             try clear c73
             try clear c74
             try clear c75
             try clear c77
             try clear c78
             try clear c79
             try clear c81
             try clear c82
             try clear hcz80_0
             try clear hcz80_1
             try clear hcz80_2
             try clear hcz83_0
             try clear hcz83_1
             try clear hcz83_2
             try clear hfz80_0
             try clear hfz80_1
             try clear hfz80_2
             try clear hfz83_0
             try clear hfz83_1
             try clear hfz83_2
             obtain ⟨kq, x104_51, rfl, HA, HJ51, HO_938002, HO_945002, HO_990002, HO_998002, BK937, BK944, BK989, BK997, HB⟩ := hcut
             cases kq with
             | zero => exact absurd HA.out (by simp [laws_FnCompacted.j2])
             | succ kj51 =>
              have H := HA.out
              clear HA
              simp only [laws_FnCompacted.j2] at H
              by_cases c85 : x104_51 = true
              ·
               subst c85
               have H1 : (none) = some r := by rw [if_pos rfl] at H; exact H
               clear H
               have H := H1
               clear H1
               exact absurd H (by simp)
              ·
               replace c85 := Bool.eq_false_iff.mpr c85
               subst c85
               have H1 : (if t988 = true then ((impl_TailOf.f kj51 t983 t984 t985 (wrap64 (t933 + 1)) 60).bind fun t999 => ((impl_TailOf.f kj51 t991 t992 t993 (wrap64 (t933 + 1)) 60).bind fun t1002 => ((laws_sameEntries.f kj51 t999 t1002).bind fun t1005 => (if t1005 = true then ((impl_Agree.f kj51 t938 t939 t940 t928 t929 t930).bind fun t1006 => ((impl_LastIndex.f kj51 t928 t929 t930).bind fun t1007 => (some (t1006 == t1007)))) else (none))))) else (some true)) = some r := by rw [if_neg (show ¬ (false = true) by decide)] at H; exact H
               clear H
               have H := H1
               clear H1
               by_cases c86 : t988 = true
               ·
                subst c86
                have H1 : ((impl_TailOf.f kj51 t983 t984 t985 (wrap64 (t933 + 1)) 60).bind fun t999 => ((impl_TailOf.f kj51 t991 t992 t993 (wrap64 (t933 + 1)) 60).bind fun t1002 => ((laws_sameEntries.f kj51 t999 t1002).bind fun t1005 => (if t1005 = true then ((impl_Agree.f kj51 t938 t939 t940 t928 t929 t930).bind fun t1006 => ((impl_LastIndex.f kj51 t928 t929 t930).bind fun t1007 => (some (t1006 == t1007)))) else (none))))) = some r := by rw [if_pos rfl] at H; exact H
                clear H
                have H := H1
                clear H1
                replace H := Option.bind_eq_some_iff.mp H
                obtain ⟨t999, A870, H⟩ := H
                replace H : ((impl_TailOf.f kj51 t991 t992 t993 (wrap64 (t933 + 1)) 60).bind fun t1002 => ((laws_sameEntries.f kj51 t999 t1002).bind fun t1005 => (if t1005 = true then ((impl_Agree.f kj51 t938 t939 t940 t928 t929 t930).bind fun t1006 => ((impl_LastIndex.f kj51 t928 t929 t930).bind fun t1007 => (some (t1006 == t1007)))) else (none)))) = some r := H
                have A87 := Aside0.mk A870
                clear A870
                replace H := Option.bind_eq_some_iff.mp H
                obtain ⟨t1002, A880, H⟩ := H
                replace H : ((laws_sameEntries.f kj51 t999 t1002).bind fun t1005 => (if t1005 = true then ((impl_Agree.f kj51 t938 t939 t940 t928 t929 t930).bind fun t1006 => ((impl_LastIndex.f kj51 t928 t929 t930).bind fun t1007 => (some (t1006 == t1007)))) else (none))) = some r := H
                have A88 := Aside0.mk A880
                clear A880
                replace H := Option.bind_eq_some_iff.mp H
                obtain ⟨t1005, A890, H⟩ := H
                replace H : (if t1005 = true then ((impl_Agree.f kj51 t938 t939 t940 t928 t929 t930).bind fun t1006 => ((impl_LastIndex.f kj51 t928 t929 t930).bind fun t1007 => (some (t1006 == t1007)))) else (none)) = some r := H
                have A89 := Aside0.mk A890
                clear A890
                by_cases c90 : t1005 = true
                ·
                 subst c90
                 have H1 : ((impl_Agree.f kj51 t938 t939 t940 t928 t929 t930).bind fun t1006 => ((impl_LastIndex.f kj51 t928 t929 t930).bind fun t1007 => (some (t1006 == t1007)))) = some r := by rw [if_pos rfl] at H; exact H
                 clear H
                 have H := H1
                 clear H1
                 replace H := Option.bind_eq_some_iff.mp H
                 obtain ⟨t1006, A910, H⟩ := H
                 replace H : ((impl_LastIndex.f kj51 t928 t929 t930).bind fun t1007 => (some (t1006 == t1007))) = some r := H
                 have A91 := Aside0.mk A910
                 clear A910
                 replace H := Option.bind_eq_some_iff.mp H
                 obtain ⟨t1007, A920, H⟩ := H
                 replace H : (some (t1006 == t1007)) = some r := H
                 have A92 := Aside0.mk A920
                 clear A920
                 obtain rfl := Option.some.inj H
                 try go_wp2
                 have n0_ := Aside0.mk (R_drew HO_938002.out)
                 have n1_ := Aside0.mk (R_drew HO_945002.out)
                 have n2_ := Aside0.mk (R_drew HO_990002.out)
                 have n3_ := Aside0.mk (R_drew HO_998002.out)
                 have n4_ := Aside0.mk (blk_drew BK937.out)
                 have n5_ := Aside0.mk (blk_drew BK944.out)
                 have n6_ := Aside0.mk (blk_drew BK989.out)
                 have n7_ := Aside0.mk (blk_drew BK997.out)
                 have n8_ := Aside0.mk (below_drew1 HB.out)
                 clear HO_938002
                 clear HO_945002
                 clear HO_990002
                 clear HO_998002
                 clear BK937
                 clear BK944
                 clear BK989
                 clear BK997
                 clear HB
                 have HO_938002 := n0_
                 have HO_945002 := n1_
                 have HO_990002 := n2_
                 have HO_998002 := n3_
                 have BK937 := n4_
                 have BK944 := n5_
                 have BK989 := n6_
                 have BK997 := n7_
                 have HB := n8_
                 clear n0_ n1_ n2_ n3_ n4_ n5_ n6_ n7_ n8_
                 refine start_ (n := 22) (S := fun w' => w'.cell? ⟨gb989, 0, none⟩ = some (.int .i64 t983) ∧ w'.cell? ⟨gb989, 1, none⟩ = some (.int .i64 t984) ∧ w'.cell? ⟨gb989, 2, none⟩ = some (.slice Ao61 t985.length co61) ∧ w'.cell? ⟨gb997, 0, none⟩ = some (.int .i64 t991) ∧ w'.cell? ⟨gb997, 1, none⟩ = some (.int .i64 t992) ∧ w'.cell? ⟨gb997, 2, none⟩ = some (.slice Ao71 t993.length co71) ∧ w'.cell? ⟨gb944, 0, none⟩ = some (.int .i64 t938) ∧ w'.cell? ⟨gb944, 1, none⟩ = some (.int .i64 t939) ∧ w'.cell? ⟨gb944, 2, none⟩ = some (.slice Ao21 t940.length co21) ∧ w'.cell? ⟨gb937, 0, none⟩ = some (.int .i64 t928) ∧ w'.cell? ⟨gb937, 1, none⟩ = some (.int .i64 t929) ∧ w'.cell? ⟨gb937, 2, none⟩ = some (.slice Ao16 t930.length co16)) (ds := []) #[false, false, false, false, false, false, false, false, false, false, false, false, false, false, false, false, false, false, false, false, false, false] (by kernel_rfl) rfl rfl ⟨(blk_cell BK989.out 0).trans rfl, (blk_cell BK989.out 1).trans rfl, (blk_cell BK989.out 2).trans rfl, (blk_cell BK997.out 0).trans rfl, (blk_cell BK997.out 1).trans rfl, (blk_cell BK997.out 2).trans rfl, (blk_cell BK944.out 0).trans rfl, (blk_cell BK944.out 1).trans rfl, (blk_cell BK944.out 2).trans rfl, (blk_cell BK937.out 0).trans rfl, (blk_cell BK937.out 1).trans rfl, (blk_cell BK937.out 2).trans rfl⟩ (fun hHeld => ?_); refine with_tabW laws_FnCompacted.tab18 laws_FnCompacted.bits18 (fun HT_ HW_ => ?_)
                 generalize wc.drew = w93 at HO_938002 HO_945002 HO_990002 HO_998002 BK937 BK944 BK989 BK997 HB hHeld ⊢
                 refine SQ.pu 0 105 HT_ ?_
                 refine SQ.pu 1 106 HT_ ?_
                 refine SQ.pu 2 107 HT_ ?_
                 refine SQ.pu 4 109 HT_ ?_
                 refine SQ.pu 5 110 HT_ ?_
                 refine SQ.pu 8 113 HT_ ?_
                 refine SQ.pu 9 114 HT_ ?_
                 refine SQ.tk 3 108 HT_ HW_ hHeld ?_
                 refine SQ.tk 7 112 HT_ HW_ hHeld ?_
                 refine one_ (i := 6) (N := some 111) #[true, true, true, true, true, true, true, true, true, true, false, false, false, false, false, false, false, false, false, false, false, false] rfl rfl (one_of HT_.out (by kernel_rfl)) (by decide) (fun K hK => ?_)
                 refine goes_ Try.func27 (by kernel_rfl) rfl #[.agg #[.int .i64 t983, .int .i64 t984, .slice Ao61 t985.length co61], .int .i64 (wrap64 (t933 + 1)), .int .i64 60] (by rfl) rfl rfl (by (try simp only [List.map_toArray, List.map_cons, List.map_nil]); first | done | rfl | (simp only [List.length_drop, List.length_take]; rfl)) ?_
                 with_reducible refine (impl_TailOf.calls kj51 t983 t984 _ _ t985 (wrap64 (t933 + 1)) 60 t999 _ ?side1 ?side2 A87.out).mono ?_
                 (case side1 => repeat (first | exact (R_reads' HO_990002.out).2.2 | (with_reducible refine C_alloc ?_ _) | (with_reducible refine C_drewN ?_ _) | (with_reducible refine C_drew ?_)))
                 (case side2 => exact (R_reads' HO_990002.out).2.1)
                 rintro e w94 ⟨v1000, rfl, ho0, hb⟩
                 refine ⟨_, rfl, ?_⟩
                 have n0_ := Aside0.mk (R_elder' (by (with_reducible repeat (first | apply R_alloc | apply R_drewN | apply R_drew)); exact HO_938002.out) (R_base ho0) hb)
                 have n1_ := Aside0.mk (R_elder' (by (with_reducible repeat (first | apply R_alloc | apply R_drewN | apply R_drew)); exact HO_945002.out) (R_base ho0) hb)
                 have n2_ := Aside0.mk (R_elder' (by (with_reducible repeat (first | apply R_alloc | apply R_drewN | apply R_drew)); exact HO_990002.out) (R_base ho0) hb)
                 have n3_ := Aside0.mk (R_elder' (by (with_reducible repeat (first | apply R_alloc | apply R_drewN | apply R_drew)); exact HO_998002.out) (R_base ho0) hb)
                 have n4_ := Aside0.mk (R_lower (R_new' (R_new' (R_new' (R_new' ho0 (R_lt (by (with_reducible repeat (first | apply R_alloc | apply R_drewN | apply R_drew)); exact HO_938002.out))) (R_lt (by (with_reducible repeat (first | apply R_alloc | apply R_drewN | apply R_drew)); exact HO_945002.out))) (R_lt (by (with_reducible repeat (first | apply R_alloc | apply R_drewN | apply R_drew)); exact HO_990002.out))) (R_lt (by (with_reducible repeat (first | apply R_alloc | apply R_drewN | apply R_drew)); exact HO_998002.out))) (below_size (by repeat (first | (with_reducible first | exact HB.out | apply below_alloc | apply pw_below_drewN | apply below_drew1 | refine below_set ?_ GE937.out | refine below_set ?_ GE944.out | refine below_set ?_ GE989.out | refine below_set ?_ GE997.out) | exact HB.out))))
                 have n5_ := Aside0.mk (blk_below (g := gb937) (o := .cells #[.int .i64 t928, .int .i64 t929, .slice Ao16 t930.length co16] 29 (0, 0)) (by (with_reducible repeat (first | refine blk_drewN ?_ _ | refine blk_drew ?_ | refine blk_alloc ?_ _)); exact BK937.out) hb)
                 have n6_ := Aside0.mk (blk_below (g := gb944) (o := .cells #[.int .i64 t938, .int .i64 t939, .slice Ao21 t940.length co21] 29 (0, 0)) (by (with_reducible repeat (first | refine blk_drewN ?_ _ | refine blk_drew ?_ | refine blk_alloc ?_ _)); exact BK944.out) hb)
                 have n7_ := Aside0.mk (blk_below (g := gb989) (o := .cells #[.int .i64 t983, .int .i64 t984, .slice Ao61 t985.length co61] 29 (0, 0)) (by (with_reducible repeat (first | refine blk_drewN ?_ _ | refine blk_drew ?_ | refine blk_alloc ?_ _)); exact BK989.out) hb)
                 have n8_ := Aside0.mk (blk_below (g := gb997) (o := .cells #[.int .i64 t991, .int .i64 t992, .slice Ao71 t993.length co71] 29 (0, 0)) (by (with_reducible repeat (first | refine blk_drewN ?_ _ | refine blk_drew ?_ | refine blk_alloc ?_ _)); exact BK997.out) hb)
                 have n9_ := Aside0.mk (below_step (by repeat (first | (with_reducible first | exact HB.out | apply below_alloc | apply pw_below_drewN | apply below_drew1 | refine below_set ?_ GE937.out | refine below_set ?_ GE944.out | refine below_set ?_ GE989.out | refine below_set ?_ GE997.out) | exact HB.out)) hb)
                 clear HO_938002
                 clear HO_945002
                 clear HO_990002
                 clear HO_998002
                 clear BK937
                 clear BK944
                 clear BK989
                 clear BK997
                 clear HB
                 have HO_938002 := n0_
                 have HO_945002 := n1_
                 have HO_990002 := n2_
                 have HO_998002 := n3_
                 have HO1001 := n4_
                 have BK937 := n5_
                 have BK944 := n6_
                 have BK989 := n7_
                 have BK997 := n8_
                 have HB := n9_
                 clear n0_ n1_ n2_ n3_ n4_ n5_ n6_ n7_ n8_ n9_
                 (try clear hb)
                 (try clear hb2)
                 (try clear hk)
                 (try clear hi)
                 (try clear ho0)
                 refine hK.out _ _ ⟨(blk_cell BK989.out 0).trans rfl, (blk_cell BK989.out 1).trans rfl, (blk_cell BK989.out 2).trans rfl, (blk_cell BK997.out 0).trans rfl, (blk_cell BK997.out 1).trans rfl, (blk_cell BK997.out 2).trans rfl, (blk_cell BK944.out 0).trans rfl, (blk_cell BK944.out 1).trans rfl, (blk_cell BK944.out 2).trans rfl, (blk_cell BK937.out 0).trans rfl, (blk_cell BK937.out 1).trans rfl, (blk_cell BK937.out 2).trans rfl⟩ (fun hHeld => ?_)
                 clear hK K
                 refine norm_ (a' := ?_) ?_ ?_
                 rotate_left
                 ·
                  show Act.put _ (some 111) _ = _
                  simp only [Act.put, List.setIfInBounds_toArray, List.set_cons_zero, List.set_cons_succ, i64_w, i32_w]
                  rfl
                 refine one_ (i := 10) (N := some 115) #[true, true, true, true, true, true, true, true, true, true, true, false, false, false, false, false, false, false, false, false, false, false] rfl rfl (one_of HT_.out (by kernel_rfl)) (by decide) (fun K hK => ?_)
                 refine goes_ Try.func27 (by kernel_rfl) rfl #[.agg #[.int .i64 t991, .int .i64 t992, .slice Ao71 t993.length co71], .int .i64 (wrap64 (t933 + 1)), .int .i64 60] (by rfl) rfl rfl (by (try simp only [List.map_toArray, List.map_cons, List.map_nil]); first | done | rfl | (simp only [List.length_drop, List.length_take]; rfl)) ?_
                 with_reducible refine (impl_TailOf.calls kj51 t991 t992 _ _ t993 (wrap64 (t933 + 1)) 60 t1002 _ ?side1 ?side2 A88.out).mono ?_
                 (case side1 => repeat (first | exact (R_reads' HO_998002.out).2.2 | (with_reducible refine C_alloc ?_ _) | (with_reducible refine C_drewN ?_ _) | (with_reducible refine C_drew ?_)))
                 (case side2 => exact (R_reads' HO_998002.out).2.1)
                 rintro e w95 ⟨v1003, rfl, ho0, hb⟩
                 refine ⟨_, rfl, ?_⟩
                 have n0_ := Aside0.mk (R_elder' (by (with_reducible repeat (first | apply R_alloc | apply R_drewN | apply R_drew)); exact HO_938002.out) (R_base ho0) hb)
                 have n1_ := Aside0.mk (R_elder' (by (with_reducible repeat (first | apply R_alloc | apply R_drewN | apply R_drew)); exact HO_945002.out) (R_base ho0) hb)
                 have n2_ := Aside0.mk (R_elder' (by (with_reducible repeat (first | apply R_alloc | apply R_drewN | apply R_drew)); exact HO_990002.out) (R_base ho0) hb)
                 have n3_ := Aside0.mk (R_elder' (by (with_reducible repeat (first | apply R_alloc | apply R_drewN | apply R_drew)); exact HO_998002.out) (R_base ho0) hb)
                 have n4_ := Aside0.mk (R_elder' (by (with_reducible repeat (first | apply R_alloc | apply R_drewN | apply R_drew)); exact HO1001.out) (R_base ho0) hb)
                 have n5_ := Aside0.mk (R_lower (R_new' (R_new' (R_new' (R_new' (R_new' ho0 (R_lt (by (with_reducible repeat (first | apply R_alloc | apply R_drewN | apply R_drew)); exact HO_938002.out))) (R_lt (by (with_reducible repeat (first | apply R_alloc | apply R_drewN | apply R_drew)); exact HO_945002.out))) (R_lt (by (with_reducible repeat (first | apply R_alloc | apply R_drewN | apply R_drew)); exact HO_990002.out))) (R_lt (by (with_reducible repeat (first | apply R_alloc | apply R_drewN | apply R_drew)); exact HO_998002.out))) (R_lt (by (with_reducible repeat (first | apply R_alloc | apply R_drewN | apply R_drew)); exact HO1001.out))) (below_size (by repeat (first | (with_reducible first | exact HB.out | apply below_alloc | apply pw_below_drewN | apply below_drew1 | refine below_set ?_ GE937.out | refine below_set ?_ GE944.out | refine below_set ?_ GE989.out | refine below_set ?_ GE997.out) | exact HB.out))))
                 have n6_ := Aside0.mk (blk_below (g := gb937) (o := .cells #[.int .i64 t928, .int .i64 t929, .slice Ao16 t930.length co16] 29 (0, 0)) (by (with_reducible repeat (first | refine blk_drewN ?_ _ | refine blk_drew ?_ | refine blk_alloc ?_ _)); exact BK937.out) hb)
                 have n7_ := Aside0.mk (blk_below (g := gb944) (o := .cells #[.int .i64 t938, .int .i64 t939, .slice Ao21 t940.length co21] 29 (0, 0)) (by (with_reducible repeat (first | refine blk_drewN ?_ _ | refine blk_drew ?_ | refine blk_alloc ?_ _)); exact BK944.out) hb)
                 have n8_ := Aside0.mk (blk_below (g := gb989) (o := .cells #[.int .i64 t983, .int .i64 t984, .slice Ao61 t985.length co61] 29 (0, 0)) (by (with_reducible repeat (first | refine blk_drewN ?_ _ | refine blk_drew ?_ | refine blk_alloc ?_ _)); exact BK989.out) hb)
                 have n9_ := Aside0.mk (blk_below (g := gb997) (o := .cells #[.int .i64 t991, .int .i64 t992, .slice Ao71 t993.length co71] 29 (0, 0)) (by (with_reducible repeat (first | refine blk_drewN ?_ _ | refine blk_drew ?_ | refine blk_alloc ?_ _)); exact BK997.out) hb)
                 have n10_ := Aside0.mk (below_step (by repeat (first | (with_reducible first | exact HB.out | apply below_alloc | apply pw_below_drewN | apply below_drew1 | refine below_set ?_ GE937.out | refine below_set ?_ GE944.out | refine below_set ?_ GE989.out | refine below_set ?_ GE997.out) | exact HB.out)) hb)
                 clear HO_938002
                 clear HO_945002
                 clear HO_990002
                 clear HO_998002
                 clear HO1001
                 clear BK937
                 clear BK944
                 clear BK989
                 clear BK997
                 clear HB
                 have HO_938002 := n0_
                 have HO_945002 := n1_
                 have HO_990002 := n2_
                 have HO_998002 := n3_
                 have HO1001 := n4_
                 have HO1004 := n5_
                 have BK937 := n6_
                 have BK944 := n7_
                 have BK989 := n8_
                 have BK997 := n9_
                 have HB := n10_
                 clear n0_ n1_ n2_ n3_ n4_ n5_ n6_ n7_ n8_ n9_ n10_
                 (try clear hb)
                 (try clear hb2)
                 (try clear hk)
                 (try clear hi)
                 (try clear ho0)
                 obtain ⟨Ao96, co96, eo96⟩ := R_slice HO1001.out
                 (first | subst eo96 | (injection eo96 with f1_ f2_ f3_; have f4_ := f1_.symm; have f5_ := f3_.symm; clear f1_ f2_ f3_; subst f4_; subst f5_))
                 obtain ⟨Ao97, co97, eo97⟩ := R_slice HO1004.out
                 (first | subst eo97 | (injection eo97 with f1_ f2_ f3_; have f4_ := f1_.symm; have f5_ := f3_.symm; clear f1_ f2_ f3_; subst f4_; subst f5_))
                 refine hK.out _ _ ⟨(blk_cell BK989.out 0).trans rfl, (blk_cell BK989.out 1).trans rfl, (blk_cell BK989.out 2).trans rfl, (blk_cell BK997.out 0).trans rfl, (blk_cell BK997.out 1).trans rfl, (blk_cell BK997.out 2).trans rfl, (blk_cell BK944.out 0).trans rfl, (blk_cell BK944.out 1).trans rfl, (blk_cell BK944.out 2).trans rfl, (blk_cell BK937.out 0).trans rfl, (blk_cell BK937.out 1).trans rfl, (blk_cell BK937.out 2).trans rfl⟩ (fun hHeld => ?_)
                 clear hK K
                 refine norm_ (a' := ?_) ?_ ?_
                 rotate_left
                 ·
                  show Act.put _ (some 115) _ = _
                  simp only [Act.put, List.setIfInBounds_toArray, List.set_cons_zero, List.set_cons_succ, i64_w, i32_w]
                  rfl
                 refine one_ (i := 11) (N := some 116) #[true, true, true, true, true, true, true, true, true, true, true, true, false, false, false, false, false, false, false, false, false, false] rfl rfl (one_of HT_.out (by kernel_rfl)) (by decide) (fun K hK => ?_)
                 refine goes_ Try.func42 (by kernel_rfl) rfl #[.slice Ao96 t999.length co96, .slice Ao97 t1002.length co97] (by rfl) rfl rfl (by (try simp only [List.map_toArray, List.map_cons, List.map_nil]); first | done | rfl | (simp only [List.length_drop, List.length_take]; rfl)) ?_
                 with_reducible refine (laws_sameEntries.calls kj51 _ _ t999 _ _ t1002 true _ ?side1 ?side2 ?side3 ?side4 A89.out).mono ?_
                 (case side1 => repeat (first | exact (R_reads' HO1001.out).2.2 | (with_reducible refine C_alloc ?_ _) | (with_reducible refine C_drewN ?_ _) | (with_reducible refine C_drew ?_)))
                 (case side2 => exact (R_reads' HO1001.out).2.1)
                 (case side3 => repeat (first | exact (R_reads' HO1004.out).2.2 | (with_reducible refine C_alloc ?_ _) | (with_reducible refine C_drewN ?_ _) | (with_reducible refine C_drew ?_)))
                 (case side4 => exact (R_reads' HO1004.out).2.1)
                 rintro e w' ⟨rfl, ⟨nd, rfl⟩⟩
                 refine ⟨_, rfl, ?_⟩
                 refine hK.out _ _ ⟨(blk_cell BK989.out 0).trans rfl, (blk_cell BK989.out 1).trans rfl, (blk_cell BK989.out 2).trans rfl, (blk_cell BK997.out 0).trans rfl, (blk_cell BK997.out 1).trans rfl, (blk_cell BK997.out 2).trans rfl, (blk_cell BK944.out 0).trans rfl, (blk_cell BK944.out 1).trans rfl, (blk_cell BK944.out 2).trans rfl, (blk_cell BK937.out 0).trans rfl, (blk_cell BK937.out 1).trans rfl, (blk_cell BK937.out 2).trans rfl⟩ (fun hHeld => ?_)
                 clear hK K
                 refine norm_ (a' := ?_) ?_ ?_
                 rotate_left
                 ·
                  show Act.put _ (some 116) _ = _
                  simp only [Act.put, List.setIfInBounds_toArray, List.set_cons_zero, List.set_cons_succ, i64_w, i32_w]
                  rfl
                 refine SQ.pu 12 117 HT_ ?_
                 refine SQ.tk 13 118 HT_ HW_ hHeld ?_
                 refine SQ.tk 14 119 HT_ HW_ hHeld ?_
                 refine SQ.tk 16 121 HT_ HW_ hHeld ?_
                 refine one_ (i := 15) (N := some 120) #[true, true, true, true, true, true, true, true, true, true, true, true, true, true, true, true, true, false, false, false, false, false] rfl rfl (one_of HT_.out (by kernel_rfl)) (by decide) (fun K hK => ?_)
                 refine goes_ Try.func25 (by kernel_rfl) rfl #[.agg #[.int .i64 t938, .int .i64 t939, .slice Ao21 t940.length co21], .agg #[.int .i64 t928, .int .i64 t929, .slice Ao16 t930.length co16]] (by rfl) rfl rfl (by (try simp only [List.map_toArray, List.map_cons, List.map_nil]); first | done | rfl | (simp only [List.length_drop, List.length_take]; rfl)) ?_
                 with_reducible refine (impl_Agree.calls kj51 t938 t939 _ _ t940 t928 t929 _ _ t930 t1006 _ ?side1 ?side2 ?side3 ?side4 A91.out).mono ?_
                 (case side1 => repeat (first | exact (R_reads' HO_945002.out).2.2 | (with_reducible refine C_alloc ?_ _) | (with_reducible refine C_drewN ?_ _) | (with_reducible refine C_drew ?_)))
                 (case side2 => exact (R_reads' HO_945002.out).2.1)
                 (case side3 => repeat (first | exact (R_reads' HO_938002.out).2.2 | (with_reducible refine C_alloc ?_ _) | (with_reducible refine C_drewN ?_ _) | (with_reducible refine C_drew ?_)))
                 (case side4 => exact (R_reads' HO_938002.out).2.1)
                 rintro e w98 ⟨rfl, hb⟩
                 refine ⟨_, rfl, ?_⟩
                 have n0_ := Aside0.mk (R_below (by (with_reducible repeat (first | apply R_alloc | apply R_drewN | apply R_drew)); exact HO_938002.out) hb)
                 have n1_ := Aside0.mk (R_below (by (with_reducible repeat (first | apply R_alloc | apply R_drewN | apply R_drew)); exact HO_945002.out) hb)
                 have n2_ := Aside0.mk (R_below (by (with_reducible repeat (first | apply R_alloc | apply R_drewN | apply R_drew)); exact HO_990002.out) hb)
                 have n3_ := Aside0.mk (R_below (by (with_reducible repeat (first | apply R_alloc | apply R_drewN | apply R_drew)); exact HO_998002.out) hb)
                 have n4_ := Aside0.mk (R_below (by (with_reducible repeat (first | apply R_alloc | apply R_drewN | apply R_drew)); exact HO1001.out) hb)
                 have n5_ := Aside0.mk (R_below (by (with_reducible repeat (first | apply R_alloc | apply R_drewN | apply R_drew)); exact HO1004.out) hb)
                 have n6_ := Aside0.mk (blk_below (g := gb937) (o := .cells #[.int .i64 t928, .int .i64 t929, .slice Ao16 t930.length co16] 29 (0, 0)) (by (with_reducible repeat (first | refine blk_drewN ?_ _ | refine blk_drew ?_ | refine blk_alloc ?_ _)); exact BK937.out) hb)
                 have n7_ := Aside0.mk (blk_below (g := gb944) (o := .cells #[.int .i64 t938, .int .i64 t939, .slice Ao21 t940.length co21] 29 (0, 0)) (by (with_reducible repeat (first | refine blk_drewN ?_ _ | refine blk_drew ?_ | refine blk_alloc ?_ _)); exact BK944.out) hb)
                 have n8_ := Aside0.mk (blk_below (g := gb989) (o := .cells #[.int .i64 t983, .int .i64 t984, .slice Ao61 t985.length co61] 29 (0, 0)) (by (with_reducible repeat (first | refine blk_drewN ?_ _ | refine blk_drew ?_ | refine blk_alloc ?_ _)); exact BK989.out) hb)
                 have n9_ := Aside0.mk (blk_below (g := gb997) (o := .cells #[.int .i64 t991, .int .i64 t992, .slice Ao71 t993.length co71] 29 (0, 0)) (by (with_reducible repeat (first | refine blk_drewN ?_ _ | refine blk_drew ?_ | refine blk_alloc ?_ _)); exact BK997.out) hb)
                 have n10_ := Aside0.mk (below_step (by repeat (first | (with_reducible first | exact HB.out | apply below_alloc | apply pw_below_drewN | apply below_drew1 | refine below_set ?_ GE937.out | refine below_set ?_ GE944.out | refine below_set ?_ GE989.out | refine below_set ?_ GE997.out) | exact HB.out)) hb)
                 clear HO_938002
                 clear HO_945002
                 clear HO_990002
                 clear HO_998002
                 clear HO1001
                 clear HO1004
                 clear BK937
                 clear BK944
                 clear BK989
                 clear BK997
                 clear HB
                 have HO_938002 := n0_
                 have HO_945002 := n1_
                 have HO_990002 := n2_
                 have HO_998002 := n3_
                 have HO1001 := n4_
                 have HO1004 := n5_
                 have BK937 := n6_
                 have BK944 := n7_
                 have BK989 := n8_
                 have BK997 := n9_
                 have HB := n10_
                 clear n0_ n1_ n2_ n3_ n4_ n5_ n6_ n7_ n8_ n9_ n10_
                 (try clear hb)
                 (try clear hb2)
                 (try clear hk)
                 (try clear hi)
                 refine hK.out _ _ ⟨(blk_cell BK989.out 0).trans rfl, (blk_cell BK989.out 1).trans rfl, (blk_cell BK989.out 2).trans rfl, (blk_cell BK997.out 0).trans rfl, (blk_cell BK997.out 1).trans rfl, (blk_cell BK997.out 2).trans rfl, (blk_cell BK944.out 0).trans rfl, (blk_cell BK944.out 1).trans rfl, (blk_cell BK944.out 2).trans rfl, (blk_cell BK937.out 0).trans rfl, (blk_cell BK937.out 1).trans rfl, (blk_cell BK937.out 2).trans rfl⟩ (fun hHeld => ?_)
                 clear hK K
                 refine norm_ (a' := ?_) ?_ ?_
                 rotate_left
                 ·
                  show Act.put _ (some 120) _ = _
                  simp only [Act.put, List.setIfInBounds_toArray, List.set_cons_zero, List.set_cons_succ, i64_w, i32_w]
                  rfl
                 refine one_ (i := 17) (N := some 122) #[true, true, true, true, true, true, true, true, true, true, true, true, true, true, true, true, true, true, false, false, false, false] rfl rfl (one_of HT_.out (by kernel_rfl)) (by decide) (fun K hK => ?_)
                 refine goes_ Try.func19 (by kernel_rfl) rfl #[.agg #[.int .i64 t928, .int .i64 t929, .slice Ao16 t930.length co16]] (by rfl) rfl rfl (by (try simp only [List.map_toArray, List.map_cons, List.map_nil]); first | done | rfl | (simp only [List.length_drop, List.length_take]; rfl)) ?_
                 with_reducible refine (impl_LastIndex.calls kj51 t928 t929 _ _ t930 t1007 _ ?side1 ?side2 A92.out).mono ?_
                 (case side1 => repeat (first | exact (R_reads' HO_938002.out).2.2 | (with_reducible refine C_alloc ?_ _) | (with_reducible refine C_drewN ?_ _) | (with_reducible refine C_drew ?_)))
                 (case side2 => exact (R_reads' HO_938002.out).2.1)
                 rintro e w99 ⟨rfl, hb⟩
                 refine ⟨_, rfl, ?_⟩
                 have n0_ := Aside0.mk (R_below (by (with_reducible repeat (first | apply R_alloc | apply R_drewN | apply R_drew)); exact HO_938002.out) hb)
                 have n1_ := Aside0.mk (R_below (by (with_reducible repeat (first | apply R_alloc | apply R_drewN | apply R_drew)); exact HO_945002.out) hb)
                 have n2_ := Aside0.mk (R_below (by (with_reducible repeat (first | apply R_alloc | apply R_drewN | apply R_drew)); exact HO_990002.out) hb)
                 have n3_ := Aside0.mk (R_below (by (with_reducible repeat (first | apply R_alloc | apply R_drewN | apply R_drew)); exact HO_998002.out) hb)
                 have n4_ := Aside0.mk (R_below (by (with_reducible repeat (first | apply R_alloc | apply R_drewN | apply R_drew)); exact HO1001.out) hb)
                 have n5_ := Aside0.mk (R_below (by (with_reducible repeat (first | apply R_alloc | apply R_drewN | apply R_drew)); exact HO1004.out) hb)
                 have n6_ := Aside0.mk (blk_below (g := gb937) (o := .cells #[.int .i64 t928, .int .i64 t929, .slice Ao16 t930.length co16] 29 (0, 0)) (by (with_reducible repeat (first | refine blk_drewN ?_ _ | refine blk_drew ?_ | refine blk_alloc ?_ _)); exact BK937.out) hb)
                 have n7_ := Aside0.mk (blk_below (g := gb944) (o := .cells #[.int .i64 t938, .int .i64 t939, .slice Ao21 t940.length co21] 29 (0, 0)) (by (with_reducible repeat (first | refine blk_drewN ?_ _ | refine blk_drew ?_ | refine blk_alloc ?_ _)); exact BK944.out) hb)
                 have n8_ := Aside0.mk (blk_below (g := gb989) (o := .cells #[.int .i64 t983, .int .i64 t984, .slice Ao61 t985.length co61] 29 (0, 0)) (by (with_reducible repeat (first | refine blk_drewN ?_ _ | refine blk_drew ?_ | refine blk_alloc ?_ _)); exact BK989.out) hb)
                 have n9_ := Aside0.mk (blk_below (g := gb997) (o := .cells #[.int .i64 t991, .int .i64 t992, .slice Ao71 t993.length co71] 29 (0, 0)) (by (with_reducible repeat (first | refine blk_drewN ?_ _ | refine blk_drew ?_ | refine blk_alloc ?_ _)); exact BK997.out) hb)
                 have n10_ := Aside0.mk (below_step (by repeat (first | (with_reducible first | exact HB.out | apply below_alloc | apply pw_below_drewN | apply below_drew1 | refine below_set ?_ GE937.out | refine below_set ?_ GE944.out | refine below_set ?_ GE989.out | refine below_set ?_ GE997.out) | exact HB.out)) hb)
                 clear HO_938002
                 clear HO_945002
                 clear HO_990002
                 clear HO_998002
                 clear HO1001
                 clear HO1004
                 clear BK937
                 clear BK944
                 clear BK989
                 clear BK997
                 clear HB
                 have HO_938002 := n0_
                 have HO_945002 := n1_
                 have HO_990002 := n2_
                 have HO_998002 := n3_
                 have HO1001 := n4_
                 have HO1004 := n5_
                 have BK937 := n6_
                 have BK944 := n7_
                 have BK989 := n8_
                 have BK997 := n9_
                 have HB := n10_
                 clear n0_ n1_ n2_ n3_ n4_ n5_ n6_ n7_ n8_ n9_ n10_
                 (try clear hb)
                 (try clear hb2)
                 (try clear hk)
                 (try clear hi)
                 refine hK.out _ _ ⟨(blk_cell BK989.out 0).trans rfl, (blk_cell BK989.out 1).trans rfl, (blk_cell BK989.out 2).trans rfl, (blk_cell BK997.out 0).trans rfl, (blk_cell BK997.out 1).trans rfl, (blk_cell BK997.out 2).trans rfl, (blk_cell BK944.out 0).trans rfl, (blk_cell BK944.out 1).trans rfl, (blk_cell BK944.out 2).trans rfl, (blk_cell BK937.out 0).trans rfl, (blk_cell BK937.out 1).trans rfl, (blk_cell BK937.out 2).trans rfl⟩ (fun hHeld => ?_)
                 clear hK K
                 refine norm_ (a' := ?_) ?_ ?_
                 rotate_left
                 ·
                  show Act.put _ (some 122) _ = _
                  simp only [Act.put, List.setIfInBounds_toArray, List.set_cons_zero, List.set_cons_succ, i64_w, i32_w]
                  rfl
                 refine SQ.pu 18 123 HT_ ?_
                 refine SQ.pu 19 124 HT_ ?_
                 refine SQ.pu 20 125 HT_ ?_
                 refine SQ.pu 21 2 HT_ ?_
                 refine done_ (done_of HT_.out (by kernel_rfl)) ?_
                 try go_wp2
                 go_ret
                 exact ⟨by first | rfl | (simp [errW_none, errW_some] <;> rfl) | (simp [*, errW_none, errW_some] <;> rfl), by repeat (first | (with_reducible first | exact HB.out | apply below_alloc | apply pw_below_drewN | apply below_drew1 | refine below_set ?_ GE937.out | refine below_set ?_ GE944.out | refine below_set ?_ GE989.out | refine below_set ?_ GE997.out) | exact HB.out)⟩
                ·
                 replace c90 := Bool.eq_false_iff.mpr c90
                 subst c90
                 have H1 : (none) = some r := by rw [if_neg (show ¬ (false = true) by decide)] at H; exact H
                 clear H
                 have H := H1
                 clear H1
                 exact absurd H (by simp)
               ·
                replace c86 := Bool.eq_false_iff.mpr c86
                subst c86
                have H1 : (some true) = some r := by rw [if_neg (show ¬ (false = true) by decide)] at H; exact H
                clear H
                have H := H1
                clear H1
                obtain rfl := Option.some.inj H
                try go_wp2
                have n0_ := Aside0.mk (R_drew HO_938002.out)
                have n1_ := Aside0.mk (R_drew HO_945002.out)
                have n2_ := Aside0.mk (R_drew HO_990002.out)
                have n3_ := Aside0.mk (R_drew HO_998002.out)
                have n4_ := Aside0.mk (blk_drew BK937.out)
                have n5_ := Aside0.mk (blk_drew BK944.out)
                have n6_ := Aside0.mk (blk_drew BK989.out)
                have n7_ := Aside0.mk (blk_drew BK997.out)
                have n8_ := Aside0.mk (below_drew1 HB.out)
                clear HO_938002
                clear HO_945002
                clear HO_990002
                clear HO_998002
                clear BK937
                clear BK944
                clear BK989
                clear BK997
                clear HB
                have HO_938002 := n0_
                have HO_945002 := n1_
                have HO_990002 := n2_
                have HO_998002 := n3_
                have BK937 := n4_
                have BK944 := n5_
                have BK989 := n6_
                have BK997 := n7_
                have HB := n8_
                clear n0_ n1_ n2_ n3_ n4_ n5_ n6_ n7_ n8_
                refine start_ (n := 22) (S := fun w' => True) (ds := []) #[false, false, false, false, false, false, false, false, false, false, false, false, false, false, false, false, false, false, false, false, false, false] (by kernel_rfl) rfl rfl trivial (fun hHeld => ?_); refine with_tabW laws_FnCompacted.tab18 laws_FnCompacted.bits18 (fun HT_ HW_ => ?_)
                generalize wc.drew = w100 at HO_938002 HO_945002 HO_990002 HO_998002 BK937 BK944 BK989 BK997 HB hHeld ⊢
                refine SQ.pu 0 105 HT_ ?_
                refine SQ.pu 1 106 HT_ ?_
                refine SQ.pu 2 107 HT_ ?_
                refine SQ.of 3 108 HT_ ?_
                refine SQ.of 4 109 HT_ ?_
                refine SQ.of 5 110 HT_ ?_
                refine SQ.of 6 111 HT_ ?_
                refine SQ.of 7 112 HT_ ?_
                refine SQ.of 8 113 HT_ ?_
                refine SQ.of 9 114 HT_ ?_
                refine SQ.of 10 115 HT_ ?_
                refine SQ.of 11 116 HT_ ?_
                refine SQ.of 12 117 HT_ ?_
                refine SQ.of 13 118 HT_ ?_
                refine SQ.of 14 119 HT_ ?_
                refine SQ.of 15 120 HT_ ?_
                refine SQ.of 16 121 HT_ ?_
                refine SQ.of 17 122 HT_ ?_
                refine SQ.of 18 123 HT_ ?_
                refine SQ.of 19 124 HT_ ?_
                refine SQ.pu 20 125 HT_ ?_
                refine SQ.pu 21 2 HT_ ?_
                refine done_ (done_of HT_.out (by kernel_rfl)) ?_
                try go_wp2
                go_ret
                exact ⟨by first | rfl | (simp [errW_none, errW_some] <;> rfl) | (simp [*, errW_none, errW_some] <;> rfl), by repeat (first | (with_reducible first | exact HB.out | apply below_alloc | apply pw_below_drewN | apply below_drew1 | refine below_set ?_ GE937.out | refine below_set ?_ GE944.out | refine below_set ?_ GE989.out | refine below_set ?_ GE997.out) | exact HB.out)⟩
     ·
      rw [if_neg c12] at H
      exact absurd H (by simp)
    ·
     rw [if_neg c11] at H
     have c11b0 : (t946 == t947) = false := beq_eq_false_iff_ne.mpr c11
     have c11b1 : (t946 != t947) = true := bne_iff_ne.mpr c11
     exact absurd H (by simp)
   ·
    replace c8 := Bool.eq_false_iff.mpr c8
    subst c8
    have H1 : (none) = some r := by rw [if_neg (show ¬ (false = true) by decide)] at H; exact H
    clear H
    have H := H1
    clear H1
    exact absurd H (by simp)
  ·
   replace c6 := Bool.eq_false_iff.mpr c6
   subst c6
   have H1 : (none) = some r := by rw [if_neg (show ¬ (false = true) by decide)] at H; exact H
   clear H
   have H := H1
   clear H1
   exact absurd H (by simp)
def laws_FnCompacted.Pure : Prop := ∀ (l0 : List Int), l0.length ≤ maxLen → l0.length * 1 ≤ 140737488351232 → (∀ x ∈ l0, (Lit.int .u8 x).wf = true) → ∃ k, laws_FnCompacted.f k l0 = some true
theorem laws_FnCompacted.walk (P : laws_FnCompacted.Pure) (a0 : Option Addr) (len0 cap0 : Nat) (z0 : List Int) (w : World) (w0 : (a0 = none ∧ len0 = 0 ∧ cap0 = 0 ∧ z0 = []) ∨ ∃ x, a0 = some x ∧ len0 ≤ cap0 ∧ cap0 ≤ maxLen ∧ z0.length = cap0 ∧ (∀ i, i < z0.length → w.cell? (x.add i) = some (.int .u8 (z0.getD i 0))) ∧ ∀ n ∈ z0, (Lit.int .u8 n).wf = true) (y0 : len0 * 1 ≤ 140737488351232) :
  Calls Try.prog 11 #[.slice a0 len0 cap0] w fun e w' => e = .returned (.bool true) ∧ Below w.heap.size w w' := by
 obtain ⟨l0, rfl, hr0, hm0, hw0, hc0⟩ := ReadsInt.ofRowC w0
 obtain ⟨k, h⟩ := P l0 hm0 y0 hw0
 refine (laws_FnCompacted.calls k _ _ l0 true w (C_of_reads (d := (0 : Int)) (h1 := fun _ => rfl) hr0) hc0 h).mono ?_
 rintro e w' ⟨rfl, hd⟩
 exact ⟨rfl, hd⟩
end Go.Proofs.Ytalbkbmnjpameaa.F
