/- Merged texts below the law FnAppended: Go functions as Lean functions, their contracts, and plain lemmas. -/
import Derived.Test.YtalbkbmnjpameaaQFnAppended22
import Derived.Test.YtalbkbmnjpameaaQFnAppended23
import Derived.Test.YtalbkbmnjpameaaQFnAppended24
import Derived.Test.YtalbkbmnjpameaaQFnAppended25
namespace Go.Proofs.Ytalbkbmnjpameaa.F
open Go.RowKit Go.Proofs.YtalbkbmnjpameaaW.PrintWords Go.Proofs.YtalbkbmnjpameaaW.PrintWords.Kd Go.Proofs.YtalbkbmnjpameaaW.PrintMore.Kd Go.Proofs.YtalbkbmnjpameaaW.PrintLast Go.Proofs.YtalbkbmnjpameaaW.PrintMore
attribute [local go_sem] max2_int min2_int max_two min_two max_three min_three max_four min_four   -- for this text's walks alone
set_option linter.unusedVariables false
set_option linter.unusedSimpArgs false
mutual
def laws_FnAppended.j0 : Nat → Int → List (S54) → Int → Bool → Bool → Int → Int → List (S54) → Int → Int → List (S54) → Option (Bool)
 | 0, _, _, _, _, _, _, _, _, _, _, _ => none
 | k + 1, x4, x5, x6, x8, x46, x1019000, x1019001, x1019002, x1027000, x1027001, x1027002 => if x46 = true then ((spec_TermAt.f k x1019000 x1019001 x1019002 x4).bind fun t1029 => ((spec_AppendTo.f k x1019000 x1019001 x1019002 x4 t1029 x5).bind fun bt1030 => (if x8 = true then (none) else (if bt1030.2.2.2 = true then (none) else ((laws_sameLog.f k x1027000 x1027001 x1027002 x1019000 x1019001 x1019002).bind fun t1037 => (some t1037)))))) else ((impl_LastIndex.f k x1027000 x1027001 x1027002).bind fun t1038 => (if t1038 < (wrap64 (x4 + (x5.length : Int))) then (none) else (laws_FnAppended.l0 k x4 x5 x6 x1019000 x1019000 x1019001 x1019002 x1027000 x1027001 x1027002)))
def laws_FnAppended.l0 : Nat → Int → List (S54) → Int → Int → Int → Int → List (S54) → Int → Int → List (S54) → Option (Bool)
 | 0, _, _, _, _, _, _, _, _, _, _ => none
 | k + 1, x4, x5, x6, x11, x1019000, x1019001, x1019002, x1027000, x1027001, x1027002 => if x11 ≤ x4 then ((impl_TermAt.f k x1027000 x1027001 x1027002 x11).bind fun t1039 => ((impl_TermAt.f k x1019000 x1019001 x1019002 x11).bind fun t1040 => (if t1039 = t1040 then (laws_FnAppended.l0 k x4 x5 x6 (wrap64 (x11 + 1)) x1019000 x1019001 x1019002 x1027000 x1027001 x1027002) else (none)))) else ((impl_TailOf.f k x1027000 x1027001 x1027002 (wrap64 (x4 + 1)) 10).bind fun t1041 => (laws_FnAppended.l1 k x4 x5 x6 t1041 0 x1019000 x1019001 x1019002 x1027000 x1027001 x1027002))
def laws_FnAppended.l1 : Nat → Int → List (S54) → Int → List (S54) → Int → Int → Int → List (S54) → Int → Int → List (S54) → Option (Bool)
 | 0, _, _, _, _, _, _, _, _, _, _, _ => none
 | k + 1, x4, x5, x6, x12, x13, x1019000, x1019001, x1019002, x1027000, x1027001, x1027002 => if x13 < (x5.length : Int) then (if x13 ≥ (x12.length : Int) then (none) else (if 0 ≤ x13 then (if x13 < (x12.length : Int) then (if ((rd_T54 x12 x13).f0) = ((rd_T54 x5 x13).f0) then (laws_FnAppended.l1 k x4 x5 x6 x12 (wrap64 (x13 + 1)) x1019000 x1019001 x1019002 x1027000 x1027001 x1027002) else (none)) else (none)) else (none))) else ((impl_AppendTo.f k x1027000 x1027001 x1027002 x4 x6 x5).bind fun bt1046 => (if bt1046.2.2.2 = true then ((laws_sameLog.f k bt1046.1 bt1046.2.1 bt1046.2.2.1 x1027000 x1027001 x1027002).bind fun t1053 => (if t1053 = true then ((impl_Agree.f k x1027000 x1027001 x1027002 x1019000 x1019001 x1019002).bind fun t1054 => (if t1054 ≥ x4 then ((impl_LastIndex.f k x1027000 x1027001 x1027002).bind fun t1055 => ((impl_TermAt.f k x1027000 x1027001 x1027002 t1055).bind fun t1056 => ((impl_LastIndex.f k x1027000 x1027001 x1027002).bind fun t1057 => ((impl_UpToDate.f k x1027000 x1027001 x1027002 t1056 t1057).bind fun t1058 => (some t1058))))) else (none))) else (none))) else (none)))
end
def laws_FnAppended.f (k : Nat) (l0 : List Int) : Option (Bool) := (laws_big.f l0).bind fun t1008 => (if t1008 = true then (some true) else ((spec_DrawRightLog.f k l0).bind fun bt1009 => ((impl_TermAt.f k bt1009.1 bt1009.2.1 bt1009.2.2.1 bt1009.2.2.2.1).bind fun t1019 => ((impl_AppendTo.f k bt1009.1 bt1009.2.1 bt1009.2.2.1 bt1009.2.2.2.1 t1019 bt1009.2.2.2.2).bind fun bt1020 => ((impl_RLogOk.f k bt1009.1 bt1009.2.1 bt1009.2.2.1).bind fun t1027 => (if t1027 = true then (if bt1020.2.2.2 = true then ((impl_RLogOk.f k bt1020.1 bt1020.2.1 bt1020.2.2.1).bind fun t1028 => (laws_FnAppended.j0 k bt1009.2.2.2.1 bt1009.2.2.2.2 t1019 bt1020.2.2.2 (!t1028) bt1009.1 bt1009.2.1 bt1009.2.2.1 bt1020.1 bt1020.2.1 bt1020.2.2.1)) else (laws_FnAppended.j0 k bt1009.2.2.2.1 bt1009.2.2.2.2 t1019 bt1020.2.2.2 true bt1009.1 bt1009.2.1 bt1009.2.2.1 bt1020.1 bt1020.2.1 bt1020.2.2.1)) else (laws_FnAppended.j0 k bt1009.2.2.2.1 bt1009.2.2.2.2 t1019 bt1020.2.2.2 true bt1009.1 bt1009.2.1 bt1009.2.2.1 bt1020.1 bt1020.2.1 bt1020.2.2.1)))))))
def laws_FnAppended.T7 : Bool × List (List Nat × List Nat) := (true, [([], []), ([], []), ([], []), ([], []), ([2, 3], [2, 3]), ([], []), ([0, 1, 4, 5, 4], [0, 1, 4, 5]), ([6], [6]), ([7], [7]), ([7], [7]), ([], []), ([10, 8, 6, 0, 1, 2, 3, 4, 5, 6, 7, 8, 10], [8, 10]), ([9, 11, 0, 1, 2, 3, 4, 5, 6, 7, 8, 9, 10, 11], [9])])
def laws_FnAppended.B7 : List Nat := [0, 0, 0, 0, 12, 0, 63, 127, 255, 255, 0, 1535, 4095]
theorem laws_FnAppended.tab7 : rtab .any (opsOf Try.f12 7) = laws_FnAppended.T7 := by kernel_rfl
theorem laws_FnAppended.bits7 : waitsOk laws_FnAppended.T7.2 laws_FnAppended.B7 = true := by kernel_rfl
def laws_FnAppended.T20 : Bool × List (List Nat × List Nat) := (true, [([], []), ([], []), ([1], [1]), ([0, 2], [0, 2]), ([3], [3]), ([4], [4]), ([4], [4]), ([5, 6, 4], [4, 5, 6]), ([7, 4], [4, 7]), ([8, 4], [4, 8]), ([4], [4]), ([4], [4]), ([10, 11, 4], [4, 10, 11]), ([12, 4], [4, 12]), ([13, 4], [4, 13]), ([9, 14, 4], [4, 9, 14]), ([4, 15], [4, 15])])
def laws_FnAppended.B20 : List Nat := [0, 0, 2, 7, 15, 31, 31, 127, 255, 511, 31, 31, 3103, 7199, 15391, 32767, 65535]
theorem laws_FnAppended.tab20 : rtab .any (opsOf Try.f12 20) = laws_FnAppended.T20 := by kernel_rfl
theorem laws_FnAppended.bits20 : waitsOk laws_FnAppended.T20.2 laws_FnAppended.B20 = true := by kernel_rfl
def laws_FnAppended.T23 : Bool × List (List Nat × List Nat) := (true, [([], []), ([0], [0]), ([1], [1]), ([1], [1]), ([2, 3, 1, 1], [1, 2, 3]), ([1, 4], [1, 4]), ([5, 4], [5]), ([6], [6]), ([6], [6]), ([7, 8, 6, 6], [6, 7, 8]), ([6], [6]), ([9, 10, 6], [6, 9, 10]), ([6, 11], [6, 11]), ([12, 9], [12]), ([13], [13]), ([13], [13]), ([13], [13]), ([16, 13, 13], [13, 16]), ([15, 17, 17, 13], [13, 15, 17]), ([13], [13]), ([19, 18, 13], [13, 19]), ([14, 18, 20, 20, 13], [13, 14, 18, 20]), ([13, 21], [13, 21]), ([22, 21, 0, 1, 2, 3, 4, 5, 6, 7, 8, 9, 10, 11, 12, 13, 14, 15, 16, 17, 18, 19, 20, 21, 22], [22])])
def laws_FnAppended.B23 : List Nat := [0, 1, 3, 3, 15, 31, 63, 127, 127, 511, 127, 2047, 4095, 8191, 16383, 16383, 16383, 81919, 245759, 16383, 1032191, 2097151, 4194303, 8388607]
theorem laws_FnAppended.tab23 : rtab .any (opsOf Try.f12 23) = laws_FnAppended.T23 := by kernel_rfl
theorem laws_FnAppended.bits23 : waitsOk laws_FnAppended.T23.2 laws_FnAppended.B23 = true := by kernel_rfl
set_option maxHeartbeats 8000000 in
set_option maxRecDepth 100000 in
theorem laws_FnAppended.calls (k : Nat) (A0 : Option Addr) (c0 : Nat) (l0 : List Int) (r : Bool) (w : World) (hr0 : Kd.C (Kd.int .u8) w A0 l0.length l0) (hc0 : l0.length ≤ c0) (h : laws_FnAppended.f k l0 = some r) :
  Calls Try.prog 12 #[.slice A0 l0.length c0] w fun e w' => e = .returned (.bool r) ∧ Below w.heap.size w w' := by
 have hu29 := Try.underlying29
 have HR0 := Zh hr0
 have HC0 := Zh hc0
 clear hr0 hc0
 have HB := Zh (Below.refl w.heap.size w)
 have H : ((laws_big.f l0).bind fun t1008 => (if t1008 = true then (some true) else ((spec_DrawRightLog.f k l0).bind fun bt1009 => ((impl_TermAt.f k bt1009.1 bt1009.2.1 bt1009.2.2.1 bt1009.2.2.2.1).bind fun t1019 => ((impl_AppendTo.f k bt1009.1 bt1009.2.1 bt1009.2.2.1 bt1009.2.2.2.1 t1019 bt1009.2.2.2.2).bind fun bt1020 => ((impl_RLogOk.f k bt1009.1 bt1009.2.1 bt1009.2.2.1).bind fun t1027 => (if t1027 = true then (if bt1020.2.2.2 = true then ((impl_RLogOk.f k bt1020.1 bt1020.2.1 bt1020.2.2.1).bind fun t1028 => (laws_FnAppended.j0 k bt1009.2.2.2.1 bt1009.2.2.2.2 t1019 bt1020.2.2.2 (!t1028) bt1009.1 bt1009.2.1 bt1009.2.2.1 bt1020.1 bt1020.2.1 bt1020.2.2.1)) else (laws_FnAppended.j0 k bt1009.2.2.2.1 bt1009.2.2.2.2 t1019 bt1020.2.2.2 true bt1009.1 bt1009.2.1 bt1009.2.2.1 bt1020.1 bt1020.2.1 bt1020.2.2.1)) else (laws_FnAppended.j0 k bt1009.2.2.2.1 bt1009.2.2.2.2 t1019 bt1020.2.2.2 true bt1009.1 bt1009.2.1 bt1009.2.2.1 bt1020.1 bt1020.2.1 bt1020.2.2.1)))))))) = some r := h
 clear h
 replace H := Option.bind_eq_some_iff.mp H
 obtain ⟨t1008, A20, H⟩ := H
 replace H : (if t1008 = true then (some true) else ((spec_DrawRightLog.f k l0).bind fun bt1009 => ((impl_TermAt.f k bt1009.1 bt1009.2.1 bt1009.2.2.1 bt1009.2.2.2.1).bind fun t1019 => ((impl_AppendTo.f k bt1009.1 bt1009.2.1 bt1009.2.2.1 bt1009.2.2.2.1 t1019 bt1009.2.2.2.2).bind fun bt1020 => ((impl_RLogOk.f k bt1009.1 bt1009.2.1 bt1009.2.2.1).bind fun t1027 => (if t1027 = true then (if bt1020.2.2.2 = true then ((impl_RLogOk.f k bt1020.1 bt1020.2.1 bt1020.2.2.1).bind fun t1028 => (laws_FnAppended.j0 k bt1009.2.2.2.1 bt1009.2.2.2.2 t1019 bt1020.2.2.2 (!t1028) bt1009.1 bt1009.2.1 bt1009.2.2.1 bt1020.1 bt1020.2.1 bt1020.2.2.1)) else (laws_FnAppended.j0 k bt1009.2.2.2.1 bt1009.2.2.2.2 t1019 bt1020.2.2.2 true bt1009.1 bt1009.2.1 bt1009.2.2.1 bt1020.1 bt1020.2.1 bt1020.2.2.1)) else (laws_FnAppended.j0 k bt1009.2.2.2.1 bt1009.2.2.2.2 t1019 bt1020.2.2.2 true bt1009.1 bt1009.2.1 bt1009.2.2.1 bt1020.1 bt1020.2.1 bt1020.2.2.1))))))) = some r := H
 have A2 := Zh A20
 clear A20
 by_cases c3 : t1008 = true
 ·
  subst c3
  have H1 : (some true) = some r := by rw [if_pos rfl] at H; exact H
  clear H
  have H := H1
  clear H1
  obtain rfl := Option.some.inj H
  go_enter Try.func12, Try.ntmps12
  go_wp2_with (first | ((with_reducible refine gate_callee (f := 39) rfl ?_); refine goesL_ (some 17) rfl rfl Try.func39 (by kernel_rfl) rfl #[.slice A0 l0.length c0] rfl (by (try simp only [List.map_toArray, List.map_cons, List.map_nil]); first | done | rfl | (simp only [List.length_drop, List.length_take]; rfl)) ?_; (with_reducible refine (laws_big.calls _ _ l0 true _ ?side1 ?side2 A2.out).mono ?_); (case side1 => repeat (first | exact HR0.out | (with_reducible refine C_alloc ?_ _) | (with_reducible refine C_drewN ?_ _) | (with_reducible refine C_drew ?_))); (case side2 => exact HC0.out); rintro e w' ⟨rfl, ⟨nd, rfl⟩⟩; refine ⟨_, rfl, ?_⟩))
  go_ret
  exact ⟨by first | rfl | (simp [errW_none, errW_some] <;> rfl) | (simp [*, errW_none, errW_some] <;> rfl), by repeat (first | (with_reducible first | exact HB.out | apply Zf | apply Zd | apply Ze) | exact HB.out)⟩
 replace c3 := Bool.eq_false_iff.mpr c3
 subst c3
 have H1 : ((spec_DrawRightLog.f k l0).bind fun bt1009 => ((impl_TermAt.f k bt1009.1 bt1009.2.1 bt1009.2.2.1 bt1009.2.2.2.1).bind fun t1019 => ((impl_AppendTo.f k bt1009.1 bt1009.2.1 bt1009.2.2.1 bt1009.2.2.2.1 t1019 bt1009.2.2.2.2).bind fun bt1020 => ((impl_RLogOk.f k bt1009.1 bt1009.2.1 bt1009.2.2.1).bind fun t1027 => (if t1027 = true then (if bt1020.2.2.2 = true then ((impl_RLogOk.f k bt1020.1 bt1020.2.1 bt1020.2.2.1).bind fun t1028 => (laws_FnAppended.j0 k bt1009.2.2.2.1 bt1009.2.2.2.2 t1019 bt1020.2.2.2 (!t1028) bt1009.1 bt1009.2.1 bt1009.2.2.1 bt1020.1 bt1020.2.1 bt1020.2.2.1)) else (laws_FnAppended.j0 k bt1009.2.2.2.1 bt1009.2.2.2.2 t1019 bt1020.2.2.2 true bt1009.1 bt1009.2.1 bt1009.2.2.1 bt1020.1 bt1020.2.1 bt1020.2.2.1)) else (laws_FnAppended.j0 k bt1009.2.2.2.1 bt1009.2.2.2.2 t1019 bt1020.2.2.2 true bt1009.1 bt1009.2.1 bt1009.2.2.1 bt1020.1 bt1020.2.1 bt1020.2.2.1)))))) = some r := by rw [if_neg (show ¬ (false = true) by decide)] at H; exact H
 clear H
 have H := H1
 clear H1
 replace H := Option.bind_eq_some_iff.mp H
 obtain ⟨⟨t1009, t1010, t1011, t1014, t1015⟩, A40, H⟩ := H
 replace H : ((impl_TermAt.f k t1009 t1010 t1011 t1014).bind fun t1019 => ((impl_AppendTo.f k t1009 t1010 t1011 t1014 t1019 t1015).bind fun bt1020 => ((impl_RLogOk.f k t1009 t1010 t1011).bind fun t1027 => (if t1027 = true then (if bt1020.2.2.2 = true then ((impl_RLogOk.f k bt1020.1 bt1020.2.1 bt1020.2.2.1).bind fun t1028 => (laws_FnAppended.j0 k t1014 t1015 t1019 bt1020.2.2.2 (!t1028) t1009 t1010 t1011 bt1020.1 bt1020.2.1 bt1020.2.2.1)) else (laws_FnAppended.j0 k t1014 t1015 t1019 bt1020.2.2.2 true t1009 t1010 t1011 bt1020.1 bt1020.2.1 bt1020.2.2.1)) else (laws_FnAppended.j0 k t1014 t1015 t1019 bt1020.2.2.2 true t1009 t1010 t1011 bt1020.1 bt1020.2.1 bt1020.2.2.1))))) = some r := H
 have A4 := Zh A40
 clear A40
 replace H := Option.bind_eq_some_iff.mp H
 obtain ⟨t1019, A50, H⟩ := H
 replace H : ((impl_AppendTo.f k t1009 t1010 t1011 t1014 t1019 t1015).bind fun bt1020 => ((impl_RLogOk.f k t1009 t1010 t1011).bind fun t1027 => (if t1027 = true then (if bt1020.2.2.2 = true then ((impl_RLogOk.f k bt1020.1 bt1020.2.1 bt1020.2.2.1).bind fun t1028 => (laws_FnAppended.j0 k t1014 t1015 t1019 bt1020.2.2.2 (!t1028) t1009 t1010 t1011 bt1020.1 bt1020.2.1 bt1020.2.2.1)) else (laws_FnAppended.j0 k t1014 t1015 t1019 bt1020.2.2.2 true t1009 t1010 t1011 bt1020.1 bt1020.2.1 bt1020.2.2.1)) else (laws_FnAppended.j0 k t1014 t1015 t1019 bt1020.2.2.2 true t1009 t1010 t1011 bt1020.1 bt1020.2.1 bt1020.2.2.1)))) = some r := H
 have A5 := Zh A50
 clear A50
 replace H := Option.bind_eq_some_iff.mp H
 obtain ⟨⟨t1020, t1021, t1022, t1025⟩, A60, H⟩ := H
 replace H : ((impl_RLogOk.f k t1009 t1010 t1011).bind fun t1027 => (if t1027 = true then (if t1025 = true then ((impl_RLogOk.f k t1020 t1021 t1022).bind fun t1028 => (laws_FnAppended.j0 k t1014 t1015 t1019 t1025 (!t1028) t1009 t1010 t1011 t1020 t1021 t1022)) else (laws_FnAppended.j0 k t1014 t1015 t1019 t1025 true t1009 t1010 t1011 t1020 t1021 t1022)) else (laws_FnAppended.j0 k t1014 t1015 t1019 t1025 true t1009 t1010 t1011 t1020 t1021 t1022))) = some r := H
 have A6 := Zh A60
 clear A60
 have HC7 := Zh H
 clear H
 go_enter Try.func12, Try.ntmps12
 go_upto_region 6 with (first | ((with_reducible refine gate_callee (f := 39) rfl ?_); refine goesL_ (some 17) rfl rfl Try.func39 (by kernel_rfl) rfl #[.slice A0 l0.length c0] rfl (by (try simp only [List.map_toArray, List.map_cons, List.map_nil]); first | done | rfl | (simp only [List.length_drop, List.length_take]; rfl)) ?_; (with_reducible refine (laws_big.calls _ _ l0 false _ ?side1 ?side2 A2.out).mono ?_); (case side1 => repeat (first | exact HR0.out | (with_reducible refine C_alloc ?_ _) | (with_reducible refine C_drewN ?_ _) | (with_reducible refine C_drew ?_))); (case side2 => exact HC0.out); rintro e w' ⟨rfl, ⟨nd, rfl⟩⟩; refine ⟨_, rfl, ?_⟩) | ((with_reducible refine gate_callee (f := 40) rfl ?_); refine goesL_ (some 20) rfl rfl Try.func40 (by kernel_rfl) rfl #[.slice A0 l0.length c0] rfl (by (try simp only [List.map_toArray, List.map_cons, List.map_nil]); first | done | rfl | (simp only [List.length_drop, List.length_take]; rfl)) ?_; (with_reducible refine (spec_DrawRightLog.calls k _ _ l0 t1009 t1010 t1011 t1014 t1015 _ ?side1 ?side2 A4.out).mono ?_); (case side1 => repeat (first | exact HR0.out | (with_reducible refine C_alloc ?_ _) | (with_reducible refine C_drewN ?_ _) | (with_reducible refine C_drew ?_))); (case side2 => exact HC0.out); rintro e w8 ⟨v1012, v1016, rfl, ho0, ho1, hb⟩; refine ⟨_, rfl, ?_⟩; have n0_ := Zh (R_lower ho0 (below_size Zs)); have n1_ := Zh (R_lower ho1 (below_size Zs)); have n2_ := Zh (Zl Zs hb); clear HB; have HO1013 := n0_; have HO1017 := n1_; have HB := n2_; clear n0_ n1_ n2_; (try clear hb); (try clear hb2); (try clear hk); (try clear hi); (try clear ho0); (try clear ho1)) | ((with_reducible refine gate_dst (N := 3) rfl ?_); refine box_event ?hg (N := 3) ?hd (cs := #[.int .i64 0, .int .i64 0, .slice none 0 0]) (t := 29) ?hr ?_; (case hd => rfl); (case hg => rfl); (case hr => first | (go_simp; done) | (go_simp; rfl)); intro gb1018 hg w9 hbox hb; have n0_ := Zh (R_below (by (with_reducible repeat (first | apply R_alloc | apply R_drewN | apply R_drew)); exact HO1013.out) hb); have n1_ := Zh (R_below (by (with_reducible repeat (first | apply R_alloc | apply R_drewN | apply R_drew)); exact HO1017.out) hb); have n2_ := Zh (Zl Zs hb); have n3_ := Zh (hbox); have n4_ := Zh ((by rw [hg]; exact (below_size Zs) : w.heap.size ≤ gb1018)); have n5_ := Zh ((by rw [hg]; exact (below_size Zs) : w.heap.size ≤ gb1018)); clear HO1013; clear HO1017; clear HB; have HO1013 := n0_; have HO1017 := n1_; have HB := n2_; have BK1018 := n3_; have GW1018 := n4_; have GE1018 := n5_; clear n0_ n1_ n2_ n3_ n4_ n5_; clear hb hbox hg; have hcz10_0 : w9.cell? ⟨gb1018, 0, none⟩ = some (.int .i64 0) := (blk_cell BK1018.out 0).trans rfl; have hcz10_1 : w9.cell? ⟨gb1018, 1, none⟩ = some (.int .i64 0) := (blk_cell BK1018.out 1).trans rfl; have hcz10_2 : w9.cell? ⟨gb1018, 2, none⟩ = some (.slice none 0 0) := (blk_cell BK1018.out 2).trans rfl; have hfz10_0 := Zn BK1018.out 0; have hfz10_1 := Zn BK1018.out 1; have hfz10_2 := Zn BK1018.out 2; obtain ⟨Ao11, co11, eo11⟩ := R_slice HO1013.out; subst eo11) | ((with_reducible refine gate_callee (f := 21) rfl ?_); refine goesL_ (some 26) rfl rfl Try.func21 (by kernel_rfl) rfl #[.agg #[.int .i64 t1009, .int .i64 t1010, .slice Ao11 t1011.length co11], .int .i64 t1014] rfl (by (try simp only [List.map_toArray, List.map_cons, List.map_nil]); first | done | rfl | (simp only [List.length_drop, List.length_take]; rfl)) ?_; (with_reducible refine (impl_TermAt.calls k t1009 t1010 _ _ t1011 t1014 t1019 _ ?side1 ?side2 A5.out).mono ?_); (case side1 => refine (R_reads' (e := 54) (base := w.heap.size) (ok := fun k_ => some k_ ≠ (v1016 : Value).ownBlock) (n := t1011.length) (c := co11) ?_).2.2; exact (by (with_reducible repeat (first | apply R_alloc | apply R_drewN | apply R_drew)); exact (R_mono (R_far (p := ⟨gb1018, 2, none⟩) (R_far (p := ⟨gb1018, 1, none⟩) (R_far (p := ⟨gb1018, 0, none⟩) (R_types HO1013.out BK1018.out (by decide)) (fun _ hk => hk.2) (.int .i64 t1009)) (fun _ hk => hk.2) (.int .i64 t1010)) (fun _ hk => hk.2) (.slice Ao11 t1011.length co11)) (fun _ h_ => h_.1)))); (case side2 => exact (R_reads' HO1013.out).2.1); rintro e w12 ⟨rfl, hb⟩; refine ⟨_, rfl, ?_⟩; have n0_ := Zh (R_below (by (with_reducible repeat (first | apply R_alloc | apply R_drewN | apply R_drew)); exact (R_mono (R_far (p := ⟨gb1018, 2, none⟩) (R_far (p := ⟨gb1018, 1, none⟩) (R_far (p := ⟨gb1018, 0, none⟩) (R_types HO1013.out BK1018.out (by decide)) (fun _ hk => hk.2) (.int .i64 t1009)) (fun _ hk => hk.2) (.int .i64 t1010)) (fun _ hk => hk.2) (.slice Ao11 t1011.length co11)) (fun _ h_ => h_.1))) hb); have n1_ := Zh (R_below (by (with_reducible repeat (first | apply R_alloc | apply R_drewN | apply R_drew)); exact (R_mono (R_far (p := ⟨gb1018, 2, none⟩) (R_far (p := ⟨gb1018, 1, none⟩) (R_far (p := ⟨gb1018, 0, none⟩) (R_types HO1017.out BK1018.out (by decide)) (fun _ hk => hk.2) (.int .i64 t1009)) (fun _ hk => hk.2) (.int .i64 t1010)) (fun _ hk => hk.2) (.slice Ao11 t1011.length co11)) (fun _ h_ => h_.1))) hb); have n2_ := Zh (Zm (g := gb1018) (o := .cells #[.int .i64 t1009, .int .i64 t1010, .slice Ao11 t1011.length co11] 29 (0, 0)) (by (with_reducible repeat (first | refine Za ?_ _ | refine Zb ?_ | refine blk_alloc ?_ _)); refine blk_put (cs := #[.int .i64 t1009, .int .i64 t1010, .slice none 0 0]) ?_ 2 _ rfl; (with_reducible repeat (first | refine Za ?_ _ | refine Zb ?_ | refine blk_alloc ?_ _)); refine blk_put (cs := #[.int .i64 t1009, .int .i64 0, .slice none 0 0]) ?_ 1 _ rfl; (with_reducible repeat (first | refine Za ?_ _ | refine Zb ?_ | refine blk_alloc ?_ _)); refine blk_put (cs := #[.int .i64 0, .int .i64 0, .slice none 0 0]) ?_ 0 _ rfl; (with_reducible repeat (first | refine Za ?_ _ | refine Zb ?_ | refine blk_alloc ?_ _)); exact BK1018.out) hb); have n3_ := Zh (Zl Zs hb); clear HO1013; clear HO1017; clear BK1018; clear HB; have HO1013 := n0_; have HO1017 := n1_; have BK1018 := n2_; have HB := n3_; clear n0_ n1_ n2_ n3_; (try clear hb); (try clear hb2); (try clear hk); (try clear hi); have hcz13_0 : w12.cell? ⟨gb1018, 0, none⟩ = some (.int .i64 t1009) := (blk_cell BK1018.out 0).trans rfl; have hcz13_1 : w12.cell? ⟨gb1018, 1, none⟩ = some (.int .i64 t1010) := (blk_cell BK1018.out 1).trans rfl; have hcz13_2 : w12.cell? ⟨gb1018, 2, none⟩ = some (.slice Ao11 t1011.length co11) := (blk_cell BK1018.out 2).trans rfl; have hfz13_0 := Zn BK1018.out 0; have hfz13_1 := Zn BK1018.out 1; have hfz13_2 := Zn BK1018.out 2; obtain ⟨Ao14, co14, eo14⟩ := R_slice HO1017.out; subst eo14) | ((with_reducible refine gate_callee (f := 38) rfl ?_); refine goesL_ (some 32) rfl rfl Try.func38 (by kernel_rfl) rfl #[.agg #[.int .i64 t1009, .int .i64 t1010, .slice Ao11 t1011.length co11], .int .i64 t1014, .int .i64 t1019, .slice Ao14 t1015.length co14] rfl (by (try simp only [List.map_toArray, List.map_cons, List.map_nil]); first | done | rfl | (simp only [List.length_drop, List.length_take]; rfl)) ?_; (with_reducible refine (impl_AppendTo.calls k t1009 t1010 _ _ t1011 t1014 t1019 _ _ t1015 t1020 t1021 t1022 t1025 _ ?side1 ?side2 ?side3 ?side4 A6.out).mono ?_); (case side1 => repeat (first | exact (R_reads' HO1013.out).2.2 | (with_reducible refine C_alloc ?_ _) | (with_reducible refine C_drewN ?_ _) | (with_reducible refine C_drew ?_))); (case side2 => exact (R_reads' HO1013.out).2.1); (case side3 => repeat (first | exact (R_reads' HO1017.out).2.2 | (with_reducible refine C_alloc ?_ _) | (with_reducible refine C_drewN ?_ _) | (with_reducible refine C_drew ?_))); (case side4 => exact (R_reads' HO1017.out).2.1); rintro e w15 ⟨v1023, rfl, ho0, hb⟩; refine ⟨_, rfl, ?_⟩; have n0_ := Zh (R_elder' (by (with_reducible repeat (first | apply R_alloc | apply R_drewN | apply R_drew)); exact HO1013.out) (R_base ho0) hb); have n1_ := Zh (R_elder' (by (with_reducible repeat (first | apply R_alloc | apply R_drewN | apply R_drew)); exact HO1017.out) (R_base ho0) hb); have n2_ := Zh (R_lower (R_new' (R_new' ho0 (R_lt (by (with_reducible repeat (first | apply R_alloc | apply R_drewN | apply R_drew)); exact HO1013.out))) (R_lt (by (with_reducible repeat (first | apply R_alloc | apply R_drewN | apply R_drew)); exact HO1017.out))) (below_size Zs)); have n3_ := Zh (Zm (g := gb1018) (o := .cells #[.int .i64 t1009, .int .i64 t1010, .slice Ao11 t1011.length co11] 29 (0, 0)) Zk hb); have n4_ := Zh (Zl Zs hb); clear HO1013; clear HO1017; clear BK1018; clear HB; have HO1013 := n0_; have HO1017 := n1_; have HO1024 := n2_; have BK1018 := n3_; have HB := n4_; clear n0_ n1_ n2_ n3_ n4_; (try clear hb); (try clear hb2); (try clear hk); (try clear hi); (try clear ho0)) | ((with_reducible refine gate_dst (N := 7) rfl ?_); refine box_event ?hg (N := 7) ?hd (cs := #[.int .i64 0, .int .i64 0, .slice none 0 0]) (t := 29) ?hr ?_; (case hd => rfl); (case hg => rfl); (case hr => first | (go_simp; done) | (go_simp; rfl)); intro gb1026 hg w16 hbox hb; have n0_ := Zh (R_below (by (with_reducible repeat (first | apply R_alloc | apply R_drewN | apply R_drew)); exact HO1013.out) hb); have n1_ := Zh (R_below (by (with_reducible repeat (first | apply R_alloc | apply R_drewN | apply R_drew)); exact HO1017.out) hb); have n2_ := Zh (R_below (by (with_reducible repeat (first | apply R_alloc | apply R_drewN | apply R_drew)); exact HO1024.out) hb); have n3_ := Zh (Zm (g := gb1018) (o := .cells #[.int .i64 t1009, .int .i64 t1010, .slice Ao11 t1011.length co11] 29 (0, 0)) Zk hb); have n4_ := Zh (Zl Zs hb); have n5_ := Zh (hbox); have n6_ := Zh ((by rw [hg]; exact (below_size Zs) : w.heap.size ≤ gb1026)); have n7_ := Zh ((by rw [hg]; exact (below_size Zs) : w.heap.size ≤ gb1026)); have n8_ := Zh ((by rw [hg]; exact Nat.ne_of_lt (blk_lt (g := gb1018) (o := .cells #[.int .i64 t1009, .int .i64 t1010, .slice Ao11 t1011.length co11] 29 (0, 0)) Zk) : gb1018 ≠ gb1026)); have n9_ := Zh ((by rw [hg]; exact Nat.ne_of_gt (blk_lt (g := gb1018) (o := .cells #[.int .i64 t1009, .int .i64 t1010, .slice Ao11 t1011.length co11] 29 (0, 0)) Zk) : gb1026 ≠ gb1018)); clear HO1013; clear HO1017; clear HO1024; clear BK1018; clear HB; have HO1013 := n0_; have HO1017 := n1_; have HO1024 := n2_; have BK1018 := n3_; have HB := n4_; have BK1026 := n5_; have GW1026 := n6_; have GE1026 := n7_; have NB1018_1026 := n8_; have NB1026_1018 := n9_; clear n0_ n1_ n2_ n3_ n4_ n5_ n6_ n7_ n8_ n9_; clear hb hbox hg; have hnb17 := NB1026_1018.out; have hnc17 := NB1018_1026.out; have hcz18_0 : w16.cell? ⟨gb1026, 0, none⟩ = some (.int .i64 0) := (blk_cell BK1026.out 0).trans rfl; have hcz18_1 : w16.cell? ⟨gb1026, 1, none⟩ = some (.int .i64 0) := (blk_cell BK1026.out 1).trans rfl; have hcz18_2 : w16.cell? ⟨gb1026, 2, none⟩ = some (.slice none 0 0) := (blk_cell BK1026.out 2).trans rfl; have hfz18_0 := Zn BK1026.out 0; have hfz18_1 := Zn BK1026.out 1; have hfz18_2 := Zn BK1026.out 2; obtain ⟨Ao19, co19, eo19⟩ := R_slice HO1024.out; subst eo19))
 (try simp only [Act.put, List.setIfInBounds_toArray, List.set_cons_zero, List.set_cons_succ])
 go_cut [46] (fun v46 wc => ∃ (kq : Nat) (x46_6 : Bool), v46 = .bool x46_6 ∧ Aside0 (laws_FnAppended.j0 kq t1014 t1015 t1019 t1025 x46_6 t1009 t1010 t1011 t1020 t1021 t1022 = some r) ∧ Aside0 (kq ≤ k) ∧ Aside0 (Kd.R k54 54 wc w.heap.size (fun k_ => some k_ ≠ ((.slice Ao11 t1011.length co11) : Value).ownBlock ∧ some k_ ≠ ((.slice Ao19 t1022.length co19) : Value).ownBlock) (.slice Ao14 t1015.length co14) t1015) ∧ Aside0 (Kd.R k54 54 wc w.heap.size (fun k_ => some k_ ≠ ((.slice Ao14 t1015.length co14) : Value).ownBlock ∧ some k_ ≠ ((.slice Ao19 t1022.length co19) : Value).ownBlock) (.slice Ao11 t1011.length co11) t1011) ∧ Aside0 (Kd.R k54 54 wc w.heap.size (fun k_ => some k_ ≠ ((.slice Ao14 t1015.length co14) : Value).ownBlock ∧ some k_ ≠ ((.slice Ao11 t1011.length co11) : Value).ownBlock) (.slice Ao19 t1022.length co19) t1022) ∧ Aside0 (wc.heap[gb1018]? = some (.cells #[.int .i64 t1009, .int .i64 t1010, (.slice Ao11 t1011.length co11)] 29 (0, 0))) ∧ Aside0 (wc.heap[gb1026]? = some (.cells #[.int .i64 t1020, .int .i64 t1021, (.slice Ao19 t1022.length co19)] 29 (0, 0))) ∧ Aside0 (Below w.heap.size w wc))
 case first =>
  have H := HC7.out
  clear HC7
  replace H := Option.bind_eq_some_iff.mp H
  obtain ⟨t1027, A200, H⟩ := H
  replace H : (if t1027 = true then (if t1025 = true then ((impl_RLogOk.f k t1020 t1021 t1022).bind fun t1028 => (laws_FnAppended.j0 k t1014 t1015 t1019 t1025 (!t1028) t1009 t1010 t1011 t1020 t1021 t1022)) else (laws_FnAppended.j0 k t1014 t1015 t1019 t1025 true t1009 t1010 t1011 t1020 t1021 t1022)) else (laws_FnAppended.j0 k t1014 t1015 t1019 t1025 true t1009 t1010 t1011 t1020 t1021 t1022)) = some r := H
  have A20 := Zh A200
  clear A200
  by_cases c21 : t1027 = true
  ·
   subst c21
   have H1 : (if t1025 = true then ((impl_RLogOk.f k t1020 t1021 t1022).bind fun t1028 => (laws_FnAppended.j0 k t1014 t1015 t1019 t1025 (!t1028) t1009 t1010 t1011 t1020 t1021 t1022)) else (laws_FnAppended.j0 k t1014 t1015 t1019 t1025 true t1009 t1010 t1011 t1020 t1021 t1022)) = some r := by rw [if_pos rfl] at H; exact H
   clear H
   have H := H1
   clear H1
   by_cases c22 : t1025 = true
   ·
    subst c22
    have H1 : ((impl_RLogOk.f k t1020 t1021 t1022).bind fun t1028 => (laws_FnAppended.j0 k t1014 t1015 t1019 true (!t1028) t1009 t1010 t1011 t1020 t1021 t1022)) = some r := by rw [if_pos rfl] at H; exact H
    clear H
    have H := H1
    clear H1
    replace H := Option.bind_eq_some_iff.mp H
    obtain ⟨t1028, A230, H⟩ := H
    replace H : (laws_FnAppended.j0 k t1014 t1015 t1019 true (!t1028) t1009 t1010 t1011 t1020 t1021 t1022) = some r := H
    have A23 := Zh A230
    clear A230
    have H' := Zh H
    clear H
    have hnb24 := NB1018_1026.out
    have hnc24 := NB1026_1018.out
    have hcz25_0 : w16.cell? ⟨gb1018, 0, none⟩ = some (.int .i64 t1009) := (blk_cell BK1018.out 0).trans rfl
    have hcz25_1 : w16.cell? ⟨gb1018, 1, none⟩ = some (.int .i64 t1010) := (blk_cell BK1018.out 1).trans rfl
    have hcz25_2 : w16.cell? ⟨gb1018, 2, none⟩ = some (.slice Ao11 t1011.length co11) := (blk_cell BK1018.out 2).trans rfl
    have hfz25_0 := Zn BK1018.out 0
    have hfz25_1 := Zn BK1018.out 1
    have hfz25_2 := Zn BK1018.out 2
    go_wp2_with (first | ((with_reducible refine gate_callee (f := 16) rfl ?_); refine goesL_ (some 36) rfl rfl Try.func16 (by kernel_rfl) rfl #[.agg #[.int .i64 t1009, .int .i64 t1010, .slice Ao11 t1011.length co11]] rfl (by (try simp only [List.map_toArray, List.map_cons, List.map_nil]); first | done | rfl | (simp only [List.length_drop, List.length_take]; rfl)) ?_; (with_reducible refine (impl_RLogOk.calls k t1009 t1010 _ _ t1011 true _ ?side1 ?side2 A20.out).mono ?_); (case side1 => refine (R_reads' (e := 54) (base := w.heap.size) (ok := fun k_ => (some k_ ≠ (.slice Ao14 t1015.length co14 : Value).ownBlock ∧ some k_ ≠ (.slice Ao19 t1022.length co19 : Value).ownBlock)) (n := t1011.length) (c := co11) ?_).2.2; exact (by (with_reducible repeat (first | apply R_alloc | apply R_drewN | apply R_drew)); exact (R_mono (R_far (p := ⟨gb1026, 2, none⟩) (R_far (p := ⟨gb1026, 1, none⟩) (R_far (p := ⟨gb1026, 0, none⟩) (R_types HO1013.out BK1026.out (by decide)) (fun _ hk => hk.2) (.int .i64 t1020)) (fun _ hk => hk.2) (.int .i64 t1021)) (fun _ hk => hk.2) (.slice Ao19 t1022.length co19)) (fun _ h_ => h_.1)))); (case side2 => exact (R_reads' HO1013.out).2.1); rintro e w26 ⟨rfl, hb⟩; refine ⟨_, rfl, ?_⟩; have n0_ := Zh (R_below (by (with_reducible repeat (first | apply R_alloc | apply R_drewN | apply R_drew)); exact (R_mono (R_far (p := ⟨gb1026, 2, none⟩) (R_far (p := ⟨gb1026, 1, none⟩) (R_far (p := ⟨gb1026, 0, none⟩) (R_types HO1013.out BK1026.out (by decide)) (fun _ hk => hk.2) (.int .i64 t1020)) (fun _ hk => hk.2) (.int .i64 t1021)) (fun _ hk => hk.2) (.slice Ao19 t1022.length co19)) (fun _ h_ => h_.1))) hb); have n1_ := Zh (R_below (by (with_reducible repeat (first | apply R_alloc | apply R_drewN | apply R_drew)); exact (R_mono (R_far (p := ⟨gb1026, 2, none⟩) (R_far (p := ⟨gb1026, 1, none⟩) (R_far (p := ⟨gb1026, 0, none⟩) (R_types HO1017.out BK1026.out (by decide)) (fun _ hk => hk.2) (.int .i64 t1020)) (fun _ hk => hk.2) (.int .i64 t1021)) (fun _ hk => hk.2) (.slice Ao19 t1022.length co19)) (fun _ h_ => h_.1))) hb); have n2_ := Zh (R_below (by (with_reducible repeat (first | apply R_alloc | apply R_drewN | apply R_drew)); exact (R_mono (R_far (p := ⟨gb1026, 2, none⟩) (R_far (p := ⟨gb1026, 1, none⟩) (R_far (p := ⟨gb1026, 0, none⟩) (R_types HO1024.out BK1026.out (by decide)) (fun _ hk => hk.2) (.int .i64 t1020)) (fun _ hk => hk.2) (.int .i64 t1021)) (fun _ hk => hk.2) (.slice Ao19 t1022.length co19)) (fun _ h_ => h_.1))) hb); have n3_ := Zh (Zm (g := gb1018) (o := .cells #[.int .i64 t1009, .int .i64 t1010, .slice Ao11 t1011.length co11] 29 (0, 0)) (by (with_reducible repeat (first | refine Za ?_ _ | refine Zb ?_ | refine blk_alloc ?_ _)); refine Zp ?_ NB1018_1026.out _; (with_reducible repeat (first | refine Za ?_ _ | refine Zb ?_ | refine blk_alloc ?_ _)); refine Zp ?_ NB1018_1026.out _; (with_reducible repeat (first | refine Za ?_ _ | refine Zb ?_ | refine blk_alloc ?_ _)); refine Zp ?_ NB1018_1026.out _; (with_reducible repeat (first | refine Za ?_ _ | refine Zb ?_ | refine blk_alloc ?_ _)); exact BK1018.out) hb); have n4_ := Zh (Zm (g := gb1026) (o := .cells #[.int .i64 t1020, .int .i64 t1021, .slice Ao19 t1022.length co19] 29 (0, 0)) (by (with_reducible repeat (first | refine Za ?_ _ | refine Zb ?_ | refine blk_alloc ?_ _)); refine blk_put (cs := #[.int .i64 t1020, .int .i64 t1021, .slice none 0 0]) ?_ 2 _ rfl; (with_reducible repeat (first | refine Za ?_ _ | refine Zb ?_ | refine blk_alloc ?_ _)); refine blk_put (cs := #[.int .i64 t1020, .int .i64 0, .slice none 0 0]) ?_ 1 _ rfl; (with_reducible repeat (first | refine Za ?_ _ | refine Zb ?_ | refine blk_alloc ?_ _)); refine blk_put (cs := #[.int .i64 0, .int .i64 0, .slice none 0 0]) ?_ 0 _ rfl; (with_reducible repeat (first | refine Za ?_ _ | refine Zb ?_ | refine blk_alloc ?_ _)); exact BK1026.out) hb); have n5_ := Zh (Zl Zs hb); clear HO1013; clear HO1017; clear HO1024; clear BK1018; clear BK1026; clear HB; have HO1013 := n0_; have HO1017 := n1_; have HO1024 := n2_; have BK1018 := n3_; have BK1026 := n4_; have HB := n5_; clear n0_ n1_ n2_ n3_ n4_ n5_; (try clear hb); (try clear hb2); (try clear hk); (try clear hi); have hcz27_0 : w26.cell? ⟨gb1026, 0, none⟩ = some (.int .i64 t1020) := (blk_cell BK1026.out 0).trans rfl; have hcz27_1 : w26.cell? ⟨gb1026, 1, none⟩ = some (.int .i64 t1021) := (blk_cell BK1026.out 1).trans rfl; have hcz27_2 : w26.cell? ⟨gb1026, 2, none⟩ = some (.slice Ao19 t1022.length co19) := (blk_cell BK1026.out 2).trans rfl; have hfz27_0 := Zn BK1026.out 0; have hfz27_1 := Zn BK1026.out 1; have hfz27_2 := Zn BK1026.out 2) | (go_at_call 16; (with_reducible refine (impl_RLogOk.calls k t1020 t1021 _ _ t1022 t1028 _ ?side1 ?side2 A23.out).mono ?_); (case side1 => repeat (first | exact (R_reads' HO1024.out).2.2 | (with_reducible refine C_alloc ?_ _) | (with_reducible refine C_drewN ?_ _) | (with_reducible refine C_drew ?_))); (case side2 => exact (R_reads' HO1024.out).2.1); rintro e w28 ⟨rfl, hb⟩; have n0_ := Zh (R_below (by (with_reducible repeat (first | apply R_alloc | apply R_drewN | apply R_drew)); exact HO1013.out) hb); have n1_ := Zh (R_below (by (with_reducible repeat (first | apply R_alloc | apply R_drewN | apply R_drew)); exact HO1017.out) hb); have n2_ := Zh (R_below (by (with_reducible repeat (first | apply R_alloc | apply R_drewN | apply R_drew)); exact HO1024.out) hb); have n3_ := Zh (Zm (g := gb1018) (o := .cells #[.int .i64 t1009, .int .i64 t1010, .slice Ao11 t1011.length co11] 29 (0, 0)) Zk hb); have n4_ := Zh (Zm (g := gb1026) (o := .cells #[.int .i64 t1020, .int .i64 t1021, .slice Ao19 t1022.length co19] 29 (0, 0)) Zk hb); have n5_ := Zh (Zl Zs hb); clear HO1013; clear HO1017; clear HO1024; clear BK1018; clear BK1026; clear HB; have HO1013 := n0_; have HO1017 := n1_; have HO1024 := n2_; have BK1018 := n3_; have BK1026 := n4_; have HB := n5_; clear n0_ n1_ n2_ n3_ n4_ n5_; (try clear hb); (try clear hb2); (try clear hk); (try clear hi)))
    go_meet
    case rel => exact ⟨_, (!t1028), (by first | rfl | (simp; done) | (simp [*]; done)), H', ⟨by first | omega | exact Nat.le_refl _⟩, ⟨by (with_reducible repeat (first | apply R_alloc | apply R_drewN | apply R_drew)); exact HO1017.out⟩, ⟨by (with_reducible repeat (first | apply R_alloc | apply R_drewN | apply R_drew)); exact HO1013.out⟩, ⟨by (with_reducible repeat (first | apply R_alloc | apply R_drewN | apply R_drew)); exact R_mono HO1024.out (fun _ hk => ⟨hk.2, hk.1.2⟩)⟩, ⟨by (with_reducible repeat (first | refine Za ?_ _ | refine Zb ?_ | refine blk_alloc ?_ _)); exact BK1018.out⟩, ⟨by (with_reducible repeat (first | refine Za ?_ _ | refine Zb ?_ | refine blk_alloc ?_ _)); exact BK1026.out⟩, ⟨by repeat (first | (with_reducible first | exact HB.out | apply Zf | apply Zd | apply Ze | refine Zg ?_ GE1018.out | refine Zg ?_ GE1026.out) | exact HB.out)⟩⟩
   replace c22 := Bool.eq_false_iff.mpr c22
   subst c22
   have H1 : (laws_FnAppended.j0 k t1014 t1015 t1019 false true t1009 t1010 t1011 t1020 t1021 t1022) = some r := by rw [if_neg (show ¬ (false = true) by decide)] at H; exact H
   clear H
   have H := H1
   clear H1
   have H' := Zh H
   clear H
   have hnb29 := NB1018_1026.out
   have hnc29 := NB1026_1018.out
   have hcz30_0 : w16.cell? ⟨gb1018, 0, none⟩ = some (.int .i64 t1009) := (blk_cell BK1018.out 0).trans rfl
   have hcz30_1 : w16.cell? ⟨gb1018, 1, none⟩ = some (.int .i64 t1010) := (blk_cell BK1018.out 1).trans rfl
   have hcz30_2 : w16.cell? ⟨gb1018, 2, none⟩ = some (.slice Ao11 t1011.length co11) := (blk_cell BK1018.out 2).trans rfl
   have hfz30_0 := Zn BK1018.out 0
   have hfz30_1 := Zn BK1018.out 1
   have hfz30_2 := Zn BK1018.out 2
   go_wp2_with (first | ((with_reducible refine gate_callee (f := 16) rfl ?_); refine goesL_ (some 36) rfl rfl Try.func16 (by kernel_rfl) rfl #[.agg #[.int .i64 t1009, .int .i64 t1010, .slice Ao11 t1011.length co11]] rfl (by (try simp only [List.map_toArray, List.map_cons, List.map_nil]); first | done | rfl | (simp only [List.length_drop, List.length_take]; rfl)) ?_; (with_reducible refine (impl_RLogOk.calls k t1009 t1010 _ _ t1011 true _ ?side1 ?side2 A20.out).mono ?_); (case side1 => refine (R_reads' (e := 54) (base := w.heap.size) (ok := fun k_ => (some k_ ≠ (.slice Ao14 t1015.length co14 : Value).ownBlock ∧ some k_ ≠ (.slice Ao19 t1022.length co19 : Value).ownBlock)) (n := t1011.length) (c := co11) ?_).2.2; exact (by (with_reducible repeat (first | apply R_alloc | apply R_drewN | apply R_drew)); exact (R_mono (R_far (p := ⟨gb1026, 2, none⟩) (R_far (p := ⟨gb1026, 1, none⟩) (R_far (p := ⟨gb1026, 0, none⟩) (R_types HO1013.out BK1026.out (by decide)) (fun _ hk => hk.2) (.int .i64 t1020)) (fun _ hk => hk.2) (.int .i64 t1021)) (fun _ hk => hk.2) (.slice Ao19 t1022.length co19)) (fun _ h_ => h_.1)))); (case side2 => exact (R_reads' HO1013.out).2.1); rintro e w31 ⟨rfl, hb⟩; refine ⟨_, rfl, ?_⟩; have n0_ := Zh (R_below (by (with_reducible repeat (first | apply R_alloc | apply R_drewN | apply R_drew)); exact (R_mono (R_far (p := ⟨gb1026, 2, none⟩) (R_far (p := ⟨gb1026, 1, none⟩) (R_far (p := ⟨gb1026, 0, none⟩) (R_types HO1013.out BK1026.out (by decide)) (fun _ hk => hk.2) (.int .i64 t1020)) (fun _ hk => hk.2) (.int .i64 t1021)) (fun _ hk => hk.2) (.slice Ao19 t1022.length co19)) (fun _ h_ => h_.1))) hb); have n1_ := Zh (R_below (by (with_reducible repeat (first | apply R_alloc | apply R_drewN | apply R_drew)); exact (R_mono (R_far (p := ⟨gb1026, 2, none⟩) (R_far (p := ⟨gb1026, 1, none⟩) (R_far (p := ⟨gb1026, 0, none⟩) (R_types HO1017.out BK1026.out (by decide)) (fun _ hk => hk.2) (.int .i64 t1020)) (fun _ hk => hk.2) (.int .i64 t1021)) (fun _ hk => hk.2) (.slice Ao19 t1022.length co19)) (fun _ h_ => h_.1))) hb); have n2_ := Zh (R_below (by (with_reducible repeat (first | apply R_alloc | apply R_drewN | apply R_drew)); exact (R_mono (R_far (p := ⟨gb1026, 2, none⟩) (R_far (p := ⟨gb1026, 1, none⟩) (R_far (p := ⟨gb1026, 0, none⟩) (R_types HO1024.out BK1026.out (by decide)) (fun _ hk => hk.2) (.int .i64 t1020)) (fun _ hk => hk.2) (.int .i64 t1021)) (fun _ hk => hk.2) (.slice Ao19 t1022.length co19)) (fun _ h_ => h_.1))) hb); have n3_ := Zh (Zm (g := gb1018) (o := .cells #[.int .i64 t1009, .int .i64 t1010, .slice Ao11 t1011.length co11] 29 (0, 0)) (by (with_reducible repeat (first | refine Za ?_ _ | refine Zb ?_ | refine blk_alloc ?_ _)); refine Zp ?_ NB1018_1026.out _; (with_reducible repeat (first | refine Za ?_ _ | refine Zb ?_ | refine blk_alloc ?_ _)); refine Zp ?_ NB1018_1026.out _; (with_reducible repeat (first | refine Za ?_ _ | refine Zb ?_ | refine blk_alloc ?_ _)); refine Zp ?_ NB1018_1026.out _; (with_reducible repeat (first | refine Za ?_ _ | refine Zb ?_ | refine blk_alloc ?_ _)); exact BK1018.out) hb); have n4_ := Zh (Zm (g := gb1026) (o := .cells #[.int .i64 t1020, .int .i64 t1021, .slice Ao19 t1022.length co19] 29 (0, 0)) (by (with_reducible repeat (first | refine Za ?_ _ | refine Zb ?_ | refine blk_alloc ?_ _)); refine blk_put (cs := #[.int .i64 t1020, .int .i64 t1021, .slice none 0 0]) ?_ 2 _ rfl; (with_reducible repeat (first | refine Za ?_ _ | refine Zb ?_ | refine blk_alloc ?_ _)); refine blk_put (cs := #[.int .i64 t1020, .int .i64 0, .slice none 0 0]) ?_ 1 _ rfl; (with_reducible repeat (first | refine Za ?_ _ | refine Zb ?_ | refine blk_alloc ?_ _)); refine blk_put (cs := #[.int .i64 0, .int .i64 0, .slice none 0 0]) ?_ 0 _ rfl; (with_reducible repeat (first | refine Za ?_ _ | refine Zb ?_ | refine blk_alloc ?_ _)); exact BK1026.out) hb); have n5_ := Zh (Zl Zs hb); clear HO1013; clear HO1017; clear HO1024; clear BK1018; clear BK1026; clear HB; have HO1013 := n0_; have HO1017 := n1_; have HO1024 := n2_; have BK1018 := n3_; have BK1026 := n4_; have HB := n5_; clear n0_ n1_ n2_ n3_ n4_ n5_; (try clear hb); (try clear hb2); (try clear hk); (try clear hi)))
   go_meet
   case rel => exact ⟨_, (true), (by first | rfl | (simp; done) | (simp [*]; done)), H', ⟨by first | omega | exact Nat.le_refl _⟩, ⟨by (with_reducible repeat (first | apply R_alloc | apply R_drewN | apply R_drew)); exact HO1017.out⟩, ⟨by (with_reducible repeat (first | apply R_alloc | apply R_drewN | apply R_drew)); exact HO1013.out⟩, ⟨by (with_reducible repeat (first | apply R_alloc | apply R_drewN | apply R_drew)); exact R_mono HO1024.out (fun _ hk => ⟨hk.2, hk.1.2⟩)⟩, ⟨by (with_reducible repeat (first | refine Za ?_ _ | refine Zb ?_ | refine blk_alloc ?_ _)); exact BK1018.out⟩, ⟨by (with_reducible repeat (first | refine Za ?_ _ | refine Zb ?_ | refine blk_alloc ?_ _)); exact BK1026.out⟩, ⟨by repeat (first | (with_reducible first | exact HB.out | apply Zf | apply Zd | apply Ze | refine Zg ?_ GE1018.out | refine Zg ?_ GE1026.out) | exact HB.out)⟩⟩
  replace c21 := Bool.eq_false_iff.mpr c21
  subst c21
  have H1 : (laws_FnAppended.j0 k t1014 t1015 t1019 t1025 true t1009 t1010 t1011 t1020 t1021 t1022) = some r := by rw [if_neg (show ¬ (false = true) by decide)] at H; exact H
  clear H
  have H := H1
  clear H1
  have H' := Zh H
  clear H
  have hnb32 := NB1018_1026.out
  have hnc32 := NB1026_1018.out
  have hcz33_0 : w16.cell? ⟨gb1018, 0, none⟩ = some (.int .i64 t1009) := (blk_cell BK1018.out 0).trans rfl
  have hcz33_1 : w16.cell? ⟨gb1018, 1, none⟩ = some (.int .i64 t1010) := (blk_cell BK1018.out 1).trans rfl
  have hcz33_2 : w16.cell? ⟨gb1018, 2, none⟩ = some (.slice Ao11 t1011.length co11) := (blk_cell BK1018.out 2).trans rfl
  have hfz33_0 := Zn BK1018.out 0
  have hfz33_1 := Zn BK1018.out 1
  have hfz33_2 := Zn BK1018.out 2
  go_wp2_with (first | ((with_reducible refine gate_callee (f := 16) rfl ?_); refine goesL_ (some 36) rfl rfl Try.func16 (by kernel_rfl) rfl #[.agg #[.int .i64 t1009, .int .i64 t1010, .slice Ao11 t1011.length co11]] rfl (by (try simp only [List.map_toArray, List.map_cons, List.map_nil]); first | done | rfl | (simp only [List.length_drop, List.length_take]; rfl)) ?_; (with_reducible refine (impl_RLogOk.calls k t1009 t1010 _ _ t1011 false _ ?side1 ?side2 A20.out).mono ?_); (case side1 => refine (R_reads' (e := 54) (base := w.heap.size) (ok := fun k_ => (some k_ ≠ (.slice Ao14 t1015.length co14 : Value).ownBlock ∧ some k_ ≠ (.slice Ao19 t1022.length co19 : Value).ownBlock)) (n := t1011.length) (c := co11) ?_).2.2; exact (by (with_reducible repeat (first | apply R_alloc | apply R_drewN | apply R_drew)); exact (R_mono (R_far (p := ⟨gb1026, 2, none⟩) (R_far (p := ⟨gb1026, 1, none⟩) (R_far (p := ⟨gb1026, 0, none⟩) (R_types HO1013.out BK1026.out (by decide)) (fun _ hk => hk.2) (.int .i64 t1020)) (fun _ hk => hk.2) (.int .i64 t1021)) (fun _ hk => hk.2) (.slice Ao19 t1022.length co19)) (fun _ h_ => h_.1)))); (case side2 => exact (R_reads' HO1013.out).2.1); rintro e w34 ⟨rfl, hb⟩; refine ⟨_, rfl, ?_⟩; have n0_ := Zh (R_below (by (with_reducible repeat (first | apply R_alloc | apply R_drewN | apply R_drew)); exact (R_mono (R_far (p := ⟨gb1026, 2, none⟩) (R_far (p := ⟨gb1026, 1, none⟩) (R_far (p := ⟨gb1026, 0, none⟩) (R_types HO1013.out BK1026.out (by decide)) (fun _ hk => hk.2) (.int .i64 t1020)) (fun _ hk => hk.2) (.int .i64 t1021)) (fun _ hk => hk.2) (.slice Ao19 t1022.length co19)) (fun _ h_ => h_.1))) hb); have n1_ := Zh (R_below (by (with_reducible repeat (first | apply R_alloc | apply R_drewN | apply R_drew)); exact (R_mono (R_far (p := ⟨gb1026, 2, none⟩) (R_far (p := ⟨gb1026, 1, none⟩) (R_far (p := ⟨gb1026, 0, none⟩) (R_types HO1017.out BK1026.out (by decide)) (fun _ hk => hk.2) (.int .i64 t1020)) (fun _ hk => hk.2) (.int .i64 t1021)) (fun _ hk => hk.2) (.slice Ao19 t1022.length co19)) (fun _ h_ => h_.1))) hb); have n2_ := Zh (R_below (by (with_reducible repeat (first | apply R_alloc | apply R_drewN | apply R_drew)); exact (R_mono (R_far (p := ⟨gb1026, 2, none⟩) (R_far (p := ⟨gb1026, 1, none⟩) (R_far (p := ⟨gb1026, 0, none⟩) (R_types HO1024.out BK1026.out (by decide)) (fun _ hk => hk.2) (.int .i64 t1020)) (fun _ hk => hk.2) (.int .i64 t1021)) (fun _ hk => hk.2) (.slice Ao19 t1022.length co19)) (fun _ h_ => h_.1))) hb); have n3_ := Zh (Zm (g := gb1018) (o := .cells #[.int .i64 t1009, .int .i64 t1010, .slice Ao11 t1011.length co11] 29 (0, 0)) (by (with_reducible repeat (first | refine Za ?_ _ | refine Zb ?_ | refine blk_alloc ?_ _)); refine Zp ?_ NB1018_1026.out _; (with_reducible repeat (first | refine Za ?_ _ | refine Zb ?_ | refine blk_alloc ?_ _)); refine Zp ?_ NB1018_1026.out _; (with_reducible repeat (first | refine Za ?_ _ | refine Zb ?_ | refine blk_alloc ?_ _)); refine Zp ?_ NB1018_1026.out _; (with_reducible repeat (first | refine Za ?_ _ | refine Zb ?_ | refine blk_alloc ?_ _)); exact BK1018.out) hb); have n4_ := Zh (Zm (g := gb1026) (o := .cells #[.int .i64 t1020, .int .i64 t1021, .slice Ao19 t1022.length co19] 29 (0, 0)) (by (with_reducible repeat (first | refine Za ?_ _ | refine Zb ?_ | refine blk_alloc ?_ _)); refine blk_put (cs := #[.int .i64 t1020, .int .i64 t1021, .slice none 0 0]) ?_ 2 _ rfl; (with_reducible repeat (first | refine Za ?_ _ | refine Zb ?_ | refine blk_alloc ?_ _)); refine blk_put (cs := #[.int .i64 t1020, .int .i64 0, .slice none 0 0]) ?_ 1 _ rfl; (with_reducible repeat (first | refine Za ?_ _ | refine Zb ?_ | refine blk_alloc ?_ _)); refine blk_put (cs := #[.int .i64 0, .int .i64 0, .slice none 0 0]) ?_ 0 _ rfl; (with_reducible repeat (first | refine Za ?_ _ | refine Zb ?_ | refine blk_alloc ?_ _)); exact BK1026.out) hb); have n5_ := Zh (Zl Zs hb); clear HO1013; clear HO1017; clear HO1024; clear BK1018; clear BK1026; clear HB; have HO1013 := n0_; have HO1017 := n1_; have HO1024 := n2_; have BK1018 := n3_; have BK1026 := n4_; have HB := n5_; clear n0_ n1_ n2_ n3_ n4_ n5_; (try clear hb); (try clear hb2); (try clear hk); (try clear hi)))
  go_meet
  case rel => exact ⟨_, (true), (by first | rfl | (simp; done) | (simp [*]; done)), H', ⟨by first | omega | exact Nat.le_refl _⟩, ⟨by (with_reducible repeat (first | apply R_alloc | apply R_drewN | apply R_drew)); exact HO1017.out⟩, ⟨by (with_reducible repeat (first | apply R_alloc | apply R_drewN | apply R_drew)); exact HO1013.out⟩, ⟨by (with_reducible repeat (first | apply R_alloc | apply R_drewN | apply R_drew)); exact R_mono HO1024.out (fun _ hk => ⟨hk.2, hk.1.2⟩)⟩, ⟨by (with_reducible repeat (first | refine Za ?_ _ | refine Zb ?_ | refine blk_alloc ?_ _)); exact BK1018.out⟩, ⟨by (with_reducible repeat (first | refine Za ?_ _ | refine Zb ?_ | refine blk_alloc ?_ _)); exact BK1026.out⟩, ⟨by repeat (first | (with_reducible first | exact HB.out | apply Zf | apply Zd | apply Ze | refine Zg ?_ GE1018.out | refine Zg ?_ GE1026.out) | exact HB.out)⟩⟩
 case rest =>
  clear HC7
  try clear c1
  try clear c2
  try clear p2
  try clear c3
  try clear c4
  try clear c12
  try clear c16
  try clear c17
  try clear c21
  try clear c22
  try clear c24
  try clear c29
  try clear c32
  try clear hcz10_0
  try clear hcz10_1
  try clear hcz10_2
  try clear hcz13_0
  try clear hcz13_1
  try clear hcz13_2
  try clear hcz18_0
  try clear hcz18_1
  try clear hcz18_2
  try clear hcz25_0
  try clear hcz25_1
  try clear hcz25_2
  try clear hcz27_0
  try clear hcz27_1
  try clear hcz27_2
  try clear hcz30_0
  try clear hcz30_1
  try clear hcz30_2
  try clear hcz33_0
  try clear hcz33_1
  try clear hcz33_2
  try clear hfz10_0
  try clear hfz10_1
  try clear hfz10_2
  try clear hfz13_0
  try clear hfz13_1
  try clear hfz13_2
  try clear hfz18_0
  try clear hfz18_1
  try clear hfz18_2
  try clear hfz25_0
  try clear hfz25_1
  try clear hfz25_2
  try clear hfz27_0
  try clear hfz27_1
  try clear hfz27_2
  try clear hfz30_0
  try clear hfz30_1
  try clear hfz30_2
  try clear hfz33_0
  try clear hfz33_1
  try clear hfz33_2
  obtain ⟨kq, x46_6, rfl, HA, HJ6, HO_5, HO_1019002, HO_1027002, BK1018, BK1026, HB⟩ := hcut
  cases kq with
  | zero => exact absurd HA.out (by simp [laws_FnAppended.j0])
  | succ kj6 =>
   have H := HA.out
   clear HA
   simp only [laws_FnAppended.j0] at H
   by_cases c35 : x46_6 = true
   ·
    subst c35
    have H1 : ((spec_TermAt.f kj6 t1009 t1010 t1011 t1014).bind fun t1029 => ((spec_AppendTo.f kj6 t1009 t1010 t1011 t1014 t1029 t1015).bind fun bt1030 => (if t1025 = true then (none) else (if bt1030.2.2.2 = true then (none) else ((laws_sameLog.f kj6 t1020 t1021 t1022 t1009 t1010 t1011).bind fun t1037 => (some t1037)))))) = some r := by rw [if_pos rfl] at H; exact H
    clear H
    have H := H1
    clear H1
    replace H := Option.bind_eq_some_iff.mp H
    obtain ⟨t1029, A360, H⟩ := H
    replace H : ((spec_AppendTo.f kj6 t1009 t1010 t1011 t1014 t1029 t1015).bind fun bt1030 => (if t1025 = true then (none) else (if bt1030.2.2.2 = true then (none) else ((laws_sameLog.f kj6 t1020 t1021 t1022 t1009 t1010 t1011).bind fun t1037 => (some t1037))))) = some r := H
    have A36 := Zh A360
    clear A360
    replace H := Option.bind_eq_some_iff.mp H
    obtain ⟨⟨t1030, t1031, t1032, t1035⟩, A370, H⟩ := H
    replace H : (if t1025 = true then (none) else (if t1035 = true then (none) else ((laws_sameLog.f kj6 t1020 t1021 t1022 t1009 t1010 t1011).bind fun t1037 => (some t1037)))) = some r := H
    have A37 := Zh A370
    clear A370
    by_cases c38 : t1025 = true
    ·
     subst c38
     have H1 : (none) = some r := by rw [if_pos rfl] at H; exact H
     clear H
     have H := H1
     clear H1
     exact absurd H (by simp)
    replace c38 := Bool.eq_false_iff.mpr c38
    subst c38
    have H1 : (if t1035 = true then (none) else ((laws_sameLog.f kj6 t1020 t1021 t1022 t1009 t1010 t1011).bind fun t1037 => (some t1037))) = some r := by rw [if_neg (show ¬ (false = true) by decide)] at H; exact H
    clear H
    have H := H1
    clear H1
    by_cases c39 : t1035 = true
    ·
     subst c39
     have H1 : (none) = some r := by rw [if_pos rfl] at H; exact H
     clear H
     have H := H1
     clear H1
     exact absurd H (by simp)
    replace c39 := Bool.eq_false_iff.mpr c39
    subst c39
    have H1 : ((laws_sameLog.f kj6 t1020 t1021 t1022 t1009 t1010 t1011).bind fun t1037 => (some t1037)) = some r := by rw [if_neg (show ¬ (false = true) by decide)] at H; exact H
    clear H
    have H := H1
    clear H1
    replace H := Option.bind_eq_some_iff.mp H
    obtain ⟨t1037, A400, H⟩ := H
    replace H : (some t1037) = some r := H
    have A40 := Zh A400
    clear A400
    obtain rfl := Option.some.inj H
    try go_wp2
    have n0_ := Zh (R_drew HO_5.out)
    have n1_ := Zh (R_drew HO_1019002.out)
    have n2_ := Zh (R_drew HO_1027002.out)
    have n3_ := Zh (Zb BK1018.out)
    have n4_ := Zh (Zb BK1026.out)
    have n5_ := Zh (Ze HB.out)
    clear HO_5
    clear HO_1019002
    clear HO_1027002
    clear BK1018
    clear BK1026
    clear HB
    have HO_5 := n0_
    have HO_1019002 := n1_
    have HO_1027002 := n2_
    have BK1018 := n3_
    have BK1026 := n4_
    have HB := n5_
    clear n0_ n1_ n2_ n3_ n4_ n5_
    refine start_ (n := 13) (S := fun w' => w'.cell? ⟨gb1018, 0, none⟩ = some (.int .i64 t1009) ∧ w'.cell? ⟨gb1018, 1, none⟩ = some (.int .i64 t1010) ∧ w'.cell? ⟨gb1018, 2, none⟩ = some (.slice Ao11 t1011.length co11)) (ds := []) #[false, false, false, false, false, false, false, false, false, false, false, false, false] (by kernel_rfl) rfl rfl ⟨(blk_cell BK1018.out 0).trans rfl, (blk_cell BK1018.out 1).trans rfl, (blk_cell BK1018.out 2).trans rfl⟩ (fun hHeld => ?_); refine with_tabW laws_FnAppended.tab7 laws_FnAppended.bits7 (fun HT_ HW_ => ?_)
    generalize wc.drew = w41 at HO_5 HO_1019002 HO_1027002 BK1018 BK1026 HB hHeld ⊢
    refine pure_ (i := 1) (N := some 49) (v := ?_) (a' := ?_) #[false, true, false, false, false, false, false, false, false, false, false, false, false] rfl rfl (any_of HT_.out (by kernel_rfl)) (fun _ _ _ h => h) (Or.inl ⟨by rfl, ?_⟩) ?_ ?_
    rotate_left
    ·
     intro w'
     go_simp
     with_reducible rfl
    rotate_left
    ·
     simp only [Act.put, List.setIfInBounds_toArray, List.set_cons_zero, List.set_cons_succ, i64_w, i32_w]
     rfl
    refine pure_ (i := 3) (N := some 51) (v := ?_) (a' := ?_) #[false, true, false, true, false, false, false, false, false, false, false, false, false] rfl rfl (any_of HT_.out (by kernel_rfl)) (fun _ _ _ h => h) (Or.inl ⟨by rfl, ?_⟩) ?_ ?_
    rotate_left
    ·
     intro w'
     go_simp
     with_reducible rfl
    rotate_left
    ·
     simp only [Act.put, List.setIfInBounds_toArray, List.set_cons_zero, List.set_cons_succ, i64_w, i32_w]
     rfl
    refine pure_ (i := 5) (N := some 53) (v := ?_) (a' := ?_) #[false, true, false, true, false, true, false, false, false, false, false, false, false] rfl rfl (any_of HT_.out (by kernel_rfl)) (fun _ _ _ h => h) (Or.inl ⟨by rfl, ?_⟩) ?_ ?_
    rotate_left
    ·
     intro w'
     go_simp
     with_reducible rfl
    rotate_left
    ·
     simp only [Act.put, List.setIfInBounds_toArray, List.set_cons_zero, List.set_cons_succ, i64_w, i32_w]
     rfl
    refine take_ (i := 0) (N := some 48) (v := ?_) (a' := ?_) #[true, true, false, true, false, true, false, false, false, false, false, false, false] rfl rfl (take_ofW HT_.out HW_.out (by kernel_rfl)) (fun _ _ _ h => h) (Or.inl ⟨by rfl, ?_⟩) hHeld ?_ ?_
    rotate_left
    ·
     rintro w' ⟨s0, s1, s2⟩
     go_simp
     with_reducible rfl
    rotate_left
    ·
     simp only [Act.put, List.setIfInBounds_toArray, List.set_cons_zero, List.set_cons_succ, i64_w, i32_w]
     rfl
    refine take_ (i := 2) (N := some 50) (v := ?_) (a' := ?_) #[true, true, true, true, false, true, false, false, false, false, false, false, false] rfl rfl (take_ofW HT_.out HW_.out (by kernel_rfl)) (fun _ _ _ h => h) (Or.inl ⟨by rfl, ?_⟩) hHeld ?_ ?_
    rotate_left
    ·
     rintro w' ⟨s0, s1, s2⟩
     go_simp
     with_reducible rfl
    rotate_left
    ·
     simp only [Act.put, List.setIfInBounds_toArray, List.set_cons_zero, List.set_cons_succ, i64_w, i32_w]
     rfl
    refine join_ (σ := Value × Nat) 2 #[true, true, true, true, true, true, true, true, true, true, true, false, false] (fun s_ => [(52, .int .i64 t1029), (54, .tuple #[.agg #[.int .i64 t1030, .int .i64 t1031, s_.1], .bool false]), (9, .pointer (some ⟨s_.2, 0, none⟩)), (47, .tuple #[.agg #[.int .i64 t1030, .int .i64 t1031, s_.1], .bool false]), (55, .agg #[.int .i64 t1030, .int .i64 t1031, s_.1]), (56, .bool false)]) (fun s_ w' => (w'.cell? ⟨gb1018, 0, none⟩ = some (.int .i64 t1009) ∧ w'.cell? ⟨gb1018, 1, none⟩ = some (.int .i64 t1010) ∧ w'.cell? ⟨gb1018, 2, none⟩ = some (.slice Ao11 t1011.length co11)) ∧ (Kd.R k54 54 w' w.heap.size (fun k_ => some k_ ≠ (.slice Ao11 t1011.length co11 : Value).ownBlock ∧ some k_ ≠ (.slice Ao19 t1022.length co19 : Value).ownBlock ∧ some k_ ≠ (.slice Ao14 t1015.length co14 : Value).ownBlock) s_.1 t1032) ∧ (Kd.R k54 54 w' w.heap.size (fun k_ => some k_ ≠ (s_.1 : Value).ownBlock ∧ some k_ ≠ (.slice Ao19 t1022.length co19 : Value).ownBlock ∧ some k_ ≠ (.slice Ao14 t1015.length co14 : Value).ownBlock) (.slice Ao11 t1011.length co11) t1011) ∧ (Kd.R k54 54 w' w.heap.size (fun k_ => some k_ ≠ (s_.1 : Value).ownBlock ∧ some k_ ≠ (.slice Ao11 t1011.length co11 : Value).ownBlock ∧ some k_ ≠ (.slice Ao14 t1015.length co14 : Value).ownBlock) (.slice Ao19 t1022.length co19) t1022) ∧ (Kd.R k54 54 w' w.heap.size (fun k_ => some k_ ≠ (s_.1 : Value).ownBlock ∧ some k_ ≠ (.slice Ao11 t1011.length co11 : Value).ownBlock ∧ some k_ ≠ (.slice Ao19 t1022.length co19 : Value).ownBlock) (.slice Ao14 t1015.length co14) t1015) ∧ (w'.heap[gb1018]? = some (.cells #[.int .i64 t1009, .int .i64 t1010, .slice Ao11 t1011.length co11] 29 (0, 0))) ∧ (w'.heap[gb1026]? = some (.cells #[.int .i64 t1020, .int .i64 t1021, .slice Ao19 t1022.length co19] 29 (0, 0))) ∧ (w'.heap[s_.2]? = some (.cells #[.int .i64 0, .int .i64 0, .slice none 0 0] 29 (0, 0))) ∧ (w.heap.size ≤ s_.2) ∧ (w.heap.size ≤ s_.2) ∧ (gb1018 ≠ s_.2) ∧ (s_.2 ≠ gb1018) ∧ (gb1026 ≠ s_.2) ∧ (s_.2 ≠ gb1026) ∧ (Below w.heap.size w w')) ?_ ?_
    rotate_left
    ·
     intro hCont
     refine two_ (i := 4) (j := 10) (Ni := some 52) (Nj := some 9) #[true, true, true, true, true, true, false, false, false, false, false, false, false] #[true, true, true, true, false, true, false, false, false, false, true, false, false] rfl rfl rfl rfl (two_of HT_.out (by kernel_rfl)) (by decide) (by decide) (fun K hK => ?_) (fun K hK => ?_)
     ·
      skip
      refine goes_ Try.func20 (by kernel_rfl) rfl #[.agg #[.int .i64 t1009, .int .i64 t1010, .slice Ao11 t1011.length co11], .int .i64 t1014] (by rfl) rfl rfl (by (try simp only [List.map_toArray, List.map_cons, List.map_nil]); first | done | rfl | (simp only [List.length_drop, List.length_take]; rfl)) ?_
      with_reducible refine (spec_TermAt.calls kj6 t1009 t1010 _ _ t1011 t1014 t1029 _ ?side1 ?side2 A36.out).mono ?_
      (case side1 => repeat (first | exact (R_reads' HO_1019002.out).2.2 | (with_reducible refine C_alloc ?_ _) | (with_reducible refine C_drewN ?_ _) | (with_reducible refine C_drew ?_)))
      (case side2 => exact (R_reads' HO_1019002.out).2.1)
      rintro e w42 ⟨rfl, hb⟩
      refine ⟨_, rfl, ?_⟩
      have n0_ := Zh (R_below (by (with_reducible repeat (first | apply R_alloc | apply R_drewN | apply R_drew)); exact HO_5.out) hb)
      have n1_ := Zh (R_below (by (with_reducible repeat (first | apply R_alloc | apply R_drewN | apply R_drew)); exact HO_1019002.out) hb)
      have n2_ := Zh (R_below (by (with_reducible repeat (first | apply R_alloc | apply R_drewN | apply R_drew)); exact HO_1027002.out) hb)
      have n3_ := Zh (Zm (g := gb1018) (o := .cells #[.int .i64 t1009, .int .i64 t1010, .slice Ao11 t1011.length co11] 29 (0, 0)) Zk hb)
      have n4_ := Zh (Zm (g := gb1026) (o := .cells #[.int .i64 t1020, .int .i64 t1021, .slice Ao19 t1022.length co19] 29 (0, 0)) Zk hb)
      have n5_ := Zh (Zl Zs hb)
      clear HO_5
      clear HO_1019002
      clear HO_1027002
      clear BK1018
      clear BK1026
      clear HB
      have HO_5 := n0_
      have HO_1019002 := n1_
      have HO_1027002 := n2_
      have BK1018 := n3_
      have BK1026 := n4_
      have HB := n5_
      clear n0_ n1_ n2_ n3_ n4_ n5_
      (try clear hb)
      (try clear hb2)
      (try clear hk)
      (try clear hi)
      refine hK.out _ _ ⟨(blk_cell BK1018.out 0).trans rfl, (blk_cell BK1018.out 1).trans rfl, (blk_cell BK1018.out 2).trans rfl⟩ (fun hHeld => ?_)
      clear hK K
      refine norm_ (a' := ?_) ?_ ?_
      rotate_left
      ·
       show Act.put _ (some 52) _ = _
       simp only [Act.put, List.setIfInBounds_toArray, List.set_cons_zero, List.set_cons_succ, i64_w, i32_w]
       rfl
      refine two_ (i := 6) (j := 10) (Ni := some 54) (Nj := some 9) #[true, true, true, true, true, true, true, false, false, false, false, false, false] #[true, true, true, true, true, true, false, false, false, false, true, false, false] rfl rfl rfl rfl (two_of HT_.out (by kernel_rfl)) (by decide) (by decide) (fun K hK => ?_) (fun K hK => ?_)
      ·
       skip
       refine goes_ Try.func36 (by kernel_rfl) rfl #[.agg #[.int .i64 t1009, .int .i64 t1010, .slice Ao11 t1011.length co11], .int .i64 t1014, .int .i64 t1029, .slice Ao14 t1015.length co14] (by rfl) rfl rfl (by (try simp only [List.map_toArray, List.map_cons, List.map_nil]); first | done | rfl | (simp only [List.length_drop, List.length_take]; rfl)) ?_
       with_reducible refine (spec_AppendTo.calls kj6 t1009 t1010 _ _ t1011 t1014 t1029 _ _ t1015 t1030 t1031 t1032 false _ ?side1 ?side2 ?side3 ?side4 A37.out).mono ?_
       (case side1 => repeat (first | exact (R_reads' HO_1019002.out).2.2 | (with_reducible refine C_alloc ?_ _) | (with_reducible refine C_drewN ?_ _) | (with_reducible refine C_drew ?_)))
       (case side2 => exact (R_reads' HO_1019002.out).2.1)
       (case side3 => repeat (first | exact (R_reads' HO_5.out).2.2 | (with_reducible refine C_alloc ?_ _) | (with_reducible refine C_drewN ?_ _) | (with_reducible refine C_drew ?_)))
       (case side4 => exact (R_reads' HO_5.out).2.1)
       rintro e w43 ⟨v1033, rfl, ho0, hb⟩
       refine ⟨_, rfl, ?_⟩
       have n0_ := Zh (R_elder' (by (with_reducible repeat (first | apply R_alloc | apply R_drewN | apply R_drew)); exact HO_5.out) (R_base ho0) hb)
       have n1_ := Zh (R_elder' (by (with_reducible repeat (first | apply R_alloc | apply R_drewN | apply R_drew)); exact HO_1019002.out) (R_base ho0) hb)
       have n2_ := Zh (R_elder' (by (with_reducible repeat (first | apply R_alloc | apply R_drewN | apply R_drew)); exact HO_1027002.out) (R_base ho0) hb)
       have n3_ := Zh (R_lower (R_new' (R_new' (R_new' ho0 (R_lt (by (with_reducible repeat (first | apply R_alloc | apply R_drewN | apply R_drew)); exact HO_5.out))) (R_lt (by (with_reducible repeat (first | apply R_alloc | apply R_drewN | apply R_drew)); exact HO_1019002.out))) (R_lt (by (with_reducible repeat (first | apply R_alloc | apply R_drewN | apply R_drew)); exact HO_1027002.out))) (below_size Zs))
       have n4_ := Zh (Zm (g := gb1018) (o := .cells #[.int .i64 t1009, .int .i64 t1010, .slice Ao11 t1011.length co11] 29 (0, 0)) Zk hb)
       have n5_ := Zh (Zm (g := gb1026) (o := .cells #[.int .i64 t1020, .int .i64 t1021, .slice Ao19 t1022.length co19] 29 (0, 0)) Zk hb)
       have n6_ := Zh (Zl Zs hb)
       clear HO_5
       clear HO_1019002
       clear HO_1027002
       clear BK1018
       clear BK1026
       clear HB
       have HO_5 := n0_
       have HO_1019002 := n1_
       have HO_1027002 := n2_
       have HO1034 := n3_
       have BK1018 := n4_
       have BK1026 := n5_
       have HB := n6_
       clear n0_ n1_ n2_ n3_ n4_ n5_ n6_
       (try clear hb)
       (try clear hb2)
       (try clear hk)
       (try clear hi)
       (try clear ho0)
       refine hK.out _ _ ⟨(blk_cell BK1018.out 0).trans rfl, (blk_cell BK1018.out 1).trans rfl, (blk_cell BK1018.out 2).trans rfl⟩ (fun hHeld => ?_)
       clear hK K
       refine norm_ (a' := ?_) ?_ ?_
       rotate_left
       ·
        show Act.put _ (some 54) _ = _
        simp only [Act.put, List.setIfInBounds_toArray, List.set_cons_zero, List.set_cons_succ, i64_w, i32_w]
        rfl
       refine pure_ (i := 7) (N := some 47) (v := ?_) (a' := ?_) #[true, true, true, true, true, true, true, true, false, false, false, false, false] rfl rfl (any_of HT_.out (by kernel_rfl)) (fun _ _ _ h => h) (Or.inl ⟨by rfl, ?_⟩) ?_ ?_
       rotate_left
       ·
        intro w'
        go_simp
        with_reducible rfl
       rotate_left
       ·
        simp only [Act.put, List.setIfInBounds_toArray, List.set_cons_zero, List.set_cons_succ, i64_w, i32_w]
        rfl
       refine pure_ (i := 8) (N := some 55) (v := ?_) (a' := ?_) #[true, true, true, true, true, true, true, true, true, false, false, false, false] rfl rfl (any_of HT_.out (by kernel_rfl)) (fun _ _ _ h => h) (Or.inl ⟨by rfl, ?_⟩) ?_ ?_
       rotate_left
       ·
        intro w'
        go_simp
        with_reducible rfl
       rotate_left
       ·
        simp only [Act.put, List.setIfInBounds_toArray, List.set_cons_zero, List.set_cons_succ, i64_w, i32_w]
        rfl
       refine pure_ (i := 9) (N := some 56) (v := ?_) (a' := ?_) #[true, true, true, true, true, true, true, true, true, true, false, false, false] rfl rfl (any_of HT_.out (by kernel_rfl)) (fun _ _ _ h => h) (Or.inl ⟨by rfl, ?_⟩) ?_ ?_
       rotate_left
       ·
        intro w'
        go_simp
        with_reducible rfl
       rotate_left
       ·
        simp only [Act.put, List.setIfInBounds_toArray, List.set_cons_zero, List.set_cons_succ, i64_w, i32_w]
        rfl
       refine one_ (i := 10) (N := some 9) #[true, true, true, true, true, true, true, true, true, true, true, false, false] rfl rfl (one_of HT_.out (by kernel_rfl)) (by decide) (fun K hK => ?_)
       refine box_step ?hg (N := 9) ?hd (cs := #[.int .i64 0, .int .i64 0, .slice none 0 0]) (t := 29) ?hr ?_; (case hd => rfl); (case hg => rfl); (case hr => first | (go_simp; done) | (go_simp; rfl))
       intro gb1036 hg w44 hbox hb
       have n0_ := Zh (R_below (by (with_reducible repeat (first | apply R_alloc | apply R_drewN | apply R_drew)); exact HO_5.out) hb)
       have n1_ := Zh (R_below (by (with_reducible repeat (first | apply R_alloc | apply R_drewN | apply R_drew)); exact HO_1019002.out) hb)
       have n2_ := Zh (R_below (by (with_reducible repeat (first | apply R_alloc | apply R_drewN | apply R_drew)); exact HO_1027002.out) hb)
       have n3_ := Zh (R_below (by (with_reducible repeat (first | apply R_alloc | apply R_drewN | apply R_drew)); exact HO1034.out) hb)
       have n4_ := Zh (Zm (g := gb1018) (o := .cells #[.int .i64 t1009, .int .i64 t1010, .slice Ao11 t1011.length co11] 29 (0, 0)) Zk hb)
       have n5_ := Zh (Zm (g := gb1026) (o := .cells #[.int .i64 t1020, .int .i64 t1021, .slice Ao19 t1022.length co19] 29 (0, 0)) Zk hb)
       have n6_ := Zh (Zl Zs hb)
       have n7_ := Zh (hbox)
       have n8_ := Zh ((by rw [hg]; exact (below_size Zs) : w.heap.size ≤ gb1036))
       have n9_ := Zh ((by rw [hg]; exact (below_size Zs) : w.heap.size ≤ gb1036))
       have n10_ := Zh ((by rw [hg]; exact Nat.ne_of_lt (blk_lt (g := gb1018) (o := .cells #[.int .i64 t1009, .int .i64 t1010, .slice Ao11 t1011.length co11] 29 (0, 0)) Zk) : gb1018 ≠ gb1036))
       have n11_ := Zh ((by rw [hg]; exact Nat.ne_of_gt (blk_lt (g := gb1018) (o := .cells #[.int .i64 t1009, .int .i64 t1010, .slice Ao11 t1011.length co11] 29 (0, 0)) Zk) : gb1036 ≠ gb1018))
       have n12_ := Zh ((by rw [hg]; exact Nat.ne_of_lt (blk_lt (g := gb1026) (o := .cells #[.int .i64 t1020, .int .i64 t1021, .slice Ao19 t1022.length co19] 29 (0, 0)) Zk) : gb1026 ≠ gb1036))
       have n13_ := Zh ((by rw [hg]; exact Nat.ne_of_gt (blk_lt (g := gb1026) (o := .cells #[.int .i64 t1020, .int .i64 t1021, .slice Ao19 t1022.length co19] 29 (0, 0)) Zk) : gb1036 ≠ gb1026))
       clear HO_5
       clear HO_1019002
       clear HO_1027002
       clear HO1034
       clear BK1018
       clear BK1026
       clear HB
       have HO_5 := n0_
       have HO_1019002 := n1_
       have HO_1027002 := n2_
       have HO1034 := n3_
       have BK1018 := n4_
       have BK1026 := n5_
       have HB := n6_
       have BK1036 := n7_
       have GW1036 := n8_
       have GE1036 := n9_
       have NB1018_1036 := n10_
       have NB1036_1018 := n11_
       have NB1026_1036 := n12_
       have NB1036_1026 := n13_
       clear n0_ n1_ n2_ n3_ n4_ n5_ n6_ n7_ n8_ n9_ n10_ n11_ n12_ n13_
       clear hb hbox hg
       refine hK.out _ _ ⟨(blk_cell BK1018.out 0).trans rfl, (blk_cell BK1018.out 1).trans rfl, (blk_cell BK1018.out 2).trans rfl⟩ (fun hHeld => ?_)
       clear hK K
       refine norm_ (a' := ?_) ?_ ?_
       rotate_left
       ·
        show Act.put _ (some 9) _ = _
        simp only [Act.put, List.setIfInBounds_toArray, List.set_cons_zero, List.set_cons_succ, i64_w, i32_w]
        rfl
       exact norm_ (by simp only [putAll, Act.put, List.setIfInBounds_toArray, List.set_cons_zero, List.set_cons_succ]) (hCont (v1033, gb1036) _ ⟨hHeld, (by (with_reducible repeat (first | apply R_alloc | apply R_drewN | apply R_drew)); exact R_mono HO1034.out (fun _ hk => ⟨hk.1.2, ⟨hk.2, hk.1.1.2⟩⟩)), (by (with_reducible repeat (first | apply R_alloc | apply R_drewN | apply R_drew)); exact R_mono HO_1019002.out (fun _ hk => ⟨hk.2, ⟨hk.1.2, hk.1.1⟩⟩)), (by (with_reducible repeat (first | apply R_alloc | apply R_drewN | apply R_drew)); exact R_mono HO_1027002.out (fun _ hk => ⟨hk.2, ⟨hk.1.2, hk.1.1⟩⟩)), (by (with_reducible repeat (first | apply R_alloc | apply R_drewN | apply R_drew)); exact R_mono HO_5.out (fun _ hk => ⟨hk.2, ⟨hk.1.1, hk.1.2⟩⟩)), Zk, Zk, Zk, GW1036.out, GE1036.out, NB1018_1036.out, NB1036_1018.out, NB1026_1036.out, NB1036_1026.out, Zs⟩)
      skip
      refine box_step ?hg (N := 9) ?hd (cs := #[.int .i64 0, .int .i64 0, .slice none 0 0]) (t := 29) ?hr ?_; (case hd => rfl); (case hg => rfl); (case hr => first | (go_simp; done) | (go_simp; rfl))
      intro gb1036 hg w43 hbox hb
      have n0_ := Zh (R_below (by (with_reducible repeat (first | apply R_alloc | apply R_drewN | apply R_drew)); exact HO_5.out) hb)
      have n1_ := Zh (R_below (by (with_reducible repeat (first | apply R_alloc | apply R_drewN | apply R_drew)); exact HO_1019002.out) hb)
      have n2_ := Zh (R_below (by (with_reducible repeat (first | apply R_alloc | apply R_drewN | apply R_drew)); exact HO_1027002.out) hb)
      have n3_ := Zh (Zm (g := gb1018) (o := .cells #[.int .i64 t1009, .int .i64 t1010, .slice Ao11 t1011.length co11] 29 (0, 0)) Zk hb)
      have n4_ := Zh (Zm (g := gb1026) (o := .cells #[.int .i64 t1020, .int .i64 t1021, .slice Ao19 t1022.length co19] 29 (0, 0)) Zk hb)
      have n5_ := Zh (Zl Zs hb)
      have n6_ := Zh (hbox)
      have n7_ := Zh ((by rw [hg]; exact (below_size Zs) : w.heap.size ≤ gb1036))
      have n8_ := Zh ((by rw [hg]; exact (below_size Zs) : w.heap.size ≤ gb1036))
      have n9_ := Zh ((by rw [hg]; exact Nat.ne_of_lt (blk_lt (g := gb1018) (o := .cells #[.int .i64 t1009, .int .i64 t1010, .slice Ao11 t1011.length co11] 29 (0, 0)) Zk) : gb1018 ≠ gb1036))
      have n10_ := Zh ((by rw [hg]; exact Nat.ne_of_gt (blk_lt (g := gb1018) (o := .cells #[.int .i64 t1009, .int .i64 t1010, .slice Ao11 t1011.length co11] 29 (0, 0)) Zk) : gb1036 ≠ gb1018))
      have n11_ := Zh ((by rw [hg]; exact Nat.ne_of_lt (blk_lt (g := gb1026) (o := .cells #[.int .i64 t1020, .int .i64 t1021, .slice Ao19 t1022.length co19] 29 (0, 0)) Zk) : gb1026 ≠ gb1036))
      have n12_ := Zh ((by rw [hg]; exact Nat.ne_of_gt (blk_lt (g := gb1026) (o := .cells #[.int .i64 t1020, .int .i64 t1021, .slice Ao19 t1022.length co19] 29 (0, 0)) Zk) : gb1036 ≠ gb1026))
      clear HO_5
      clear HO_1019002
      clear HO_1027002
      clear BK1018
      clear BK1026
      clear HB
      have HO_5 := n0_
      have HO_1019002 := n1_
      have HO_1027002 := n2_
      have BK1018 := n3_
      have BK1026 := n4_
      have HB := n5_
      have BK1036 := n6_
      have GW1036 := n7_
      have GE1036 := n8_
      have NB1018_1036 := n9_
      have NB1036_1018 := n10_
      have NB1026_1036 := n11_
      have NB1036_1026 := n12_
      clear n0_ n1_ n2_ n3_ n4_ n5_ n6_ n7_ n8_ n9_ n10_ n11_ n12_
      clear hb hbox hg
      refine hK.out _ _ ⟨(blk_cell BK1018.out 0).trans rfl, (blk_cell BK1018.out 1).trans rfl, (blk_cell BK1018.out 2).trans rfl⟩ (fun hHeld => ?_)
      clear hK K
      refine norm_ (a' := ?_) ?_ ?_
      rotate_left
      ·
       show Act.put _ (some 9) _ = _
       simp only [Act.put, List.setIfInBounds_toArray, List.set_cons_zero, List.set_cons_succ, i64_w, i32_w]
       rfl
      refine one_ (i := 6) (N := some 54) #[true, true, true, true, true, true, true, false, false, false, true, false, false] rfl rfl (one_of HT_.out (by kernel_rfl)) (by decide) (fun K hK => ?_)
      refine goes_ Try.func36 (by kernel_rfl) rfl #[.agg #[.int .i64 t1009, .int .i64 t1010, .slice Ao11 t1011.length co11], .int .i64 t1014, .int .i64 t1029, .slice Ao14 t1015.length co14] (by rfl) rfl rfl (by (try simp only [List.map_toArray, List.map_cons, List.map_nil]); first | done | rfl | (simp only [List.length_drop, List.length_take]; rfl)) ?_
      with_reducible refine (spec_AppendTo.calls kj6 t1009 t1010 _ _ t1011 t1014 t1029 _ _ t1015 t1030 t1031 t1032 false _ ?side1 ?side2 ?side3 ?side4 A37.out).mono ?_
      (case side1 => repeat (first | exact (R_reads' HO_1019002.out).2.2 | (with_reducible refine C_alloc ?_ _) | (with_reducible refine C_drewN ?_ _) | (with_reducible refine C_drew ?_)))
      (case side2 => exact (R_reads' HO_1019002.out).2.1)
      (case side3 => repeat (first | exact (R_reads' HO_5.out).2.2 | (with_reducible refine C_alloc ?_ _) | (with_reducible refine C_drewN ?_ _) | (with_reducible refine C_drew ?_)))
      (case side4 => exact (R_reads' HO_5.out).2.1)
      rintro e w44 ⟨v1033, rfl, ho0, hb⟩
      refine ⟨_, rfl, ?_⟩
      have n0_ := Zh (R_elder' (by (with_reducible repeat (first | apply R_alloc | apply R_drewN | apply R_drew)); exact HO_5.out) (R_base ho0) hb)
      have n1_ := Zh (R_elder' (by (with_reducible repeat (first | apply R_alloc | apply R_drewN | apply R_drew)); exact HO_1019002.out) (R_base ho0) hb)
      have n2_ := Zh (R_elder' (by (with_reducible repeat (first | apply R_alloc | apply R_drewN | apply R_drew)); exact HO_1027002.out) (R_base ho0) hb)
      have n3_ := Zh (R_lower (R_new' (R_new' (R_new' ho0 (R_lt (by (with_reducible repeat (first | apply R_alloc | apply R_drewN | apply R_drew)); exact HO_5.out))) (R_lt (by (with_reducible repeat (first | apply R_alloc | apply R_drewN | apply R_drew)); exact HO_1019002.out))) (R_lt (by (with_reducible repeat (first | apply R_alloc | apply R_drewN | apply R_drew)); exact HO_1027002.out))) (below_size Zs))
      have n4_ := Zh (Zm (g := gb1018) (o := .cells #[.int .i64 t1009, .int .i64 t1010, .slice Ao11 t1011.length co11] 29 (0, 0)) Zk hb)
      have n5_ := Zh (Zm (g := gb1026) (o := .cells #[.int .i64 t1020, .int .i64 t1021, .slice Ao19 t1022.length co19] 29 (0, 0)) Zk hb)
      have n6_ := Zh (Zm (g := gb1036) (o := .cells #[.int .i64 0, .int .i64 0, .slice none 0 0] 29 (0, 0)) Zk hb)
      have n7_ := Zh (Zl Zs hb)
      clear HO_5
      clear HO_1019002
      clear HO_1027002
      clear BK1018
      clear BK1026
      clear BK1036
      clear HB
      have HO_5 := n0_
      have HO_1019002 := n1_
      have HO_1027002 := n2_
      have HO1034 := n3_
      have BK1018 := n4_
      have BK1026 := n5_
      have BK1036 := n6_
      have HB := n7_
      clear n0_ n1_ n2_ n3_ n4_ n5_ n6_ n7_
      (try clear hb)
      (try clear hb2)
      (try clear hk)
      (try clear hi)
      (try clear ho0)
      refine hK.out _ _ ⟨(blk_cell BK1018.out 0).trans rfl, (blk_cell BK1018.out 1).trans rfl, (blk_cell BK1018.out 2).trans rfl⟩ (fun hHeld => ?_)
      clear hK K
      refine norm_ (a' := ?_) ?_ ?_
      rotate_left
      ·
       show Act.put _ (some 54) _ = _
       simp only [Act.put, List.setIfInBounds_toArray, List.set_cons_zero, List.set_cons_succ, i64_w, i32_w]
       rfl
      refine pure_ (i := 7) (N := some 47) (v := ?_) (a' := ?_) #[true, true, true, true, true, true, true, true, false, false, true, false, false] rfl rfl (any_of HT_.out (by kernel_rfl)) (fun _ _ _ h => h) (Or.inl ⟨by rfl, ?_⟩) ?_ ?_
      rotate_left
      ·
       intro w'
       go_simp
       with_reducible rfl
      rotate_left
      ·
       simp only [Act.put, List.setIfInBounds_toArray, List.set_cons_zero, List.set_cons_succ, i64_w, i32_w]
       rfl
      refine pure_ (i := 8) (N := some 55) (v := ?_) (a' := ?_) #[true, true, true, true, true, true, true, true, true, false, true, false, false] rfl rfl (any_of HT_.out (by kernel_rfl)) (fun _ _ _ h => h) (Or.inl ⟨by rfl, ?_⟩) ?_ ?_
      rotate_left
      ·
       intro w'
       go_simp
       with_reducible rfl
      rotate_left
      ·
       simp only [Act.put, List.setIfInBounds_toArray, List.set_cons_zero, List.set_cons_succ, i64_w, i32_w]
       rfl
      refine pure_ (i := 9) (N := some 56) (v := ?_) (a' := ?_) #[true, true, true, true, true, true, true, true, true, true, true, false, false] rfl rfl (any_of HT_.out (by kernel_rfl)) (fun _ _ _ h => h) (Or.inl ⟨by rfl, ?_⟩) ?_ ?_
      rotate_left
      ·
       intro w'
       go_simp
       with_reducible rfl
      rotate_left
      ·
       simp only [Act.put, List.setIfInBounds_toArray, List.set_cons_zero, List.set_cons_succ, i64_w, i32_w]
       rfl
      exact norm_ (by simp only [putAll, Act.put, List.setIfInBounds_toArray, List.set_cons_zero, List.set_cons_succ]) (hCont (v1033, gb1036) _ ⟨hHeld, (by (with_reducible repeat (first | apply R_alloc | apply R_drewN | apply R_drew)); exact R_mono HO1034.out (fun _ hk => ⟨hk.1.2, ⟨hk.2, hk.1.1.2⟩⟩)), (by (with_reducible repeat (first | apply R_alloc | apply R_drewN | apply R_drew)); exact R_mono HO_1019002.out (fun _ hk => ⟨hk.2, ⟨hk.1.2, hk.1.1⟩⟩)), (by (with_reducible repeat (first | apply R_alloc | apply R_drewN | apply R_drew)); exact R_mono HO_1027002.out (fun _ hk => ⟨hk.2, ⟨hk.1.2, hk.1.1⟩⟩)), (by (with_reducible repeat (first | apply R_alloc | apply R_drewN | apply R_drew)); exact R_mono HO_5.out (fun _ hk => ⟨hk.2, ⟨hk.1.1, hk.1.2⟩⟩)), Zk, Zk, Zk, GW1036.out, GE1036.out, NB1018_1036.out, NB1036_1018.out, NB1026_1036.out, NB1036_1026.out, Zs⟩)
     skip
     refine box_step ?hg (N := 9) ?hd (cs := #[.int .i64 0, .int .i64 0, .slice none 0 0]) (t := 29) ?hr ?_; (case hd => rfl); (case hg => rfl); (case hr => first | (go_simp; done) | (go_simp; rfl))
     intro gb1036 hg w42 hbox hb
     have n0_ := Zh (R_below (by (with_reducible repeat (first | apply R_alloc | apply R_drewN | apply R_drew)); exact HO_5.out) hb)
     have n1_ := Zh (R_below (by (with_reducible repeat (first | apply R_alloc | apply R_drewN | apply R_drew)); exact HO_1019002.out) hb)
     have n2_ := Zh (R_below (by (with_reducible repeat (first | apply R_alloc | apply R_drewN | apply R_drew)); exact HO_1027002.out) hb)
     have n3_ := Zh (Zm (g := gb1018) (o := .cells #[.int .i64 t1009, .int .i64 t1010, .slice Ao11 t1011.length co11] 29 (0, 0)) Zk hb)
     have n4_ := Zh (Zm (g := gb1026) (o := .cells #[.int .i64 t1020, .int .i64 t1021, .slice Ao19 t1022.length co19] 29 (0, 0)) Zk hb)
     have n5_ := Zh (Zl Zs hb)
     have n6_ := Zh (hbox)
     have n7_ := Zh ((by rw [hg]; exact (below_size Zs) : w.heap.size ≤ gb1036))
     have n8_ := Zh ((by rw [hg]; exact (below_size Zs) : w.heap.size ≤ gb1036))
     have n9_ := Zh ((by rw [hg]; exact Nat.ne_of_lt (blk_lt (g := gb1018) (o := .cells #[.int .i64 t1009, .int .i64 t1010, .slice Ao11 t1011.length co11] 29 (0, 0)) Zk) : gb1018 ≠ gb1036))
     have n10_ := Zh ((by rw [hg]; exact Nat.ne_of_gt (blk_lt (g := gb1018) (o := .cells #[.int .i64 t1009, .int .i64 t1010, .slice Ao11 t1011.length co11] 29 (0, 0)) Zk) : gb1036 ≠ gb1018))
     have n11_ := Zh ((by rw [hg]; exact Nat.ne_of_lt (blk_lt (g := gb1026) (o := .cells #[.int .i64 t1020, .int .i64 t1021, .slice Ao19 t1022.length co19] 29 (0, 0)) Zk) : gb1026 ≠ gb1036))
     have n12_ := Zh ((by rw [hg]; exact Nat.ne_of_gt (blk_lt (g := gb1026) (o := .cells #[.int .i64 t1020, .int .i64 t1021, .slice Ao19 t1022.length co19] 29 (0, 0)) Zk) : gb1036 ≠ gb1026))
     clear HO_5
     clear HO_1019002
     clear HO_1027002
     clear BK1018
     clear BK1026
     clear HB
     have HO_5 := n0_
     have HO_1019002 := n1_
     have HO_1027002 := n2_
     have BK1018 := n3_
     have BK1026 := n4_
     have HB := n5_
     have BK1036 := n6_
     have GW1036 := n7_
     have GE1036 := n8_
     have NB1018_1036 := n9_
     have NB1036_1018 := n10_
     have NB1026_1036 := n11_
     have NB1036_1026 := n12_
     clear n0_ n1_ n2_ n3_ n4_ n5_ n6_ n7_ n8_ n9_ n10_ n11_ n12_
     clear hb hbox hg
     refine hK.out _ _ ⟨(blk_cell BK1018.out 0).trans rfl, (blk_cell BK1018.out 1).trans rfl, (blk_cell BK1018.out 2).trans rfl⟩ (fun hHeld => ?_)
     clear hK K
     refine norm_ (a' := ?_) ?_ ?_
     rotate_left
     ·
      show Act.put _ (some 9) _ = _
      simp only [Act.put, List.setIfInBounds_toArray, List.set_cons_zero, List.set_cons_succ, i64_w, i32_w]
      rfl
     refine one_ (i := 4) (N := some 52) #[true, true, true, true, true, true, false, false, false, false, true, false, false] rfl rfl (one_of HT_.out (by kernel_rfl)) (by decide) (fun K hK => ?_)
     refine goes_ Try.func20 (by kernel_rfl) rfl #[.agg #[.int .i64 t1009, .int .i64 t1010, .slice Ao11 t1011.length co11], .int .i64 t1014] (by rfl) rfl rfl (by (try simp only [List.map_toArray, List.map_cons, List.map_nil]); first | done | rfl | (simp only [List.length_drop, List.length_take]; rfl)) ?_
     with_reducible refine (spec_TermAt.calls kj6 t1009 t1010 _ _ t1011 t1014 t1029 _ ?side1 ?side2 A36.out).mono ?_
     (case side1 => repeat (first | exact (R_reads' HO_1019002.out).2.2 | (with_reducible refine C_alloc ?_ _) | (with_reducible refine C_drewN ?_ _) | (with_reducible refine C_drew ?_)))
     (case side2 => exact (R_reads' HO_1019002.out).2.1)
     rintro e w43 ⟨rfl, hb⟩
     refine ⟨_, rfl, ?_⟩
     have n0_ := Zh (R_below (by (with_reducible repeat (first | apply R_alloc | apply R_drewN | apply R_drew)); exact HO_5.out) hb)
     have n1_ := Zh (R_below (by (with_reducible repeat (first | apply R_alloc | apply R_drewN | apply R_drew)); exact HO_1019002.out) hb)
     have n2_ := Zh (R_below (by (with_reducible repeat (first | apply R_alloc | apply R_drewN | apply R_drew)); exact HO_1027002.out) hb)
     have n3_ := Zh (Zm (g := gb1018) (o := .cells #[.int .i64 t1009, .int .i64 t1010, .slice Ao11 t1011.length co11] 29 (0, 0)) Zk hb)
     have n4_ := Zh (Zm (g := gb1026) (o := .cells #[.int .i64 t1020, .int .i64 t1021, .slice Ao19 t1022.length co19] 29 (0, 0)) Zk hb)
     have n5_ := Zh (Zm (g := gb1036) (o := .cells #[.int .i64 0, .int .i64 0, .slice none 0 0] 29 (0, 0)) Zk hb)
     have n6_ := Zh (Zl Zs hb)
     clear HO_5
     clear HO_1019002
     clear HO_1027002
     clear BK1018
     clear BK1026
     clear BK1036
     clear HB
     have HO_5 := n0_
     have HO_1019002 := n1_
     have HO_1027002 := n2_
     have BK1018 := n3_
     have BK1026 := n4_
     have BK1036 := n5_
     have HB := n6_
     clear n0_ n1_ n2_ n3_ n4_ n5_ n6_
     (try clear hb)
     (try clear hb2)
     (try clear hk)
     (try clear hi)
     refine hK.out _ _ ⟨(blk_cell BK1018.out 0).trans rfl, (blk_cell BK1018.out 1).trans rfl, (blk_cell BK1018.out 2).trans rfl⟩ (fun hHeld => ?_)
     clear hK K
     refine norm_ (a' := ?_) ?_ ?_
     rotate_left
     ·
      show Act.put _ (some 52) _ = _
      simp only [Act.put, List.setIfInBounds_toArray, List.set_cons_zero, List.set_cons_succ, i64_w, i32_w]
      rfl
     refine one_ (i := 6) (N := some 54) #[true, true, true, true, true, true, true, false, false, false, true, false, false] rfl rfl (one_of HT_.out (by kernel_rfl)) (by decide) (fun K hK => ?_)
     refine goes_ Try.func36 (by kernel_rfl) rfl #[.agg #[.int .i64 t1009, .int .i64 t1010, .slice Ao11 t1011.length co11], .int .i64 t1014, .int .i64 t1029, .slice Ao14 t1015.length co14] (by rfl) rfl rfl (by (try simp only [List.map_toArray, List.map_cons, List.map_nil]); first | done | rfl | (simp only [List.length_drop, List.length_take]; rfl)) ?_
     with_reducible refine (spec_AppendTo.calls kj6 t1009 t1010 _ _ t1011 t1014 t1029 _ _ t1015 t1030 t1031 t1032 false _ ?side1 ?side2 ?side3 ?side4 A37.out).mono ?_
     (case side1 => repeat (first | exact (R_reads' HO_1019002.out).2.2 | (with_reducible refine C_alloc ?_ _) | (with_reducible refine C_drewN ?_ _) | (with_reducible refine C_drew ?_)))
     (case side2 => exact (R_reads' HO_1019002.out).2.1)
     (case side3 => repeat (first | exact (R_reads' HO_5.out).2.2 | (with_reducible refine C_alloc ?_ _) | (with_reducible refine C_drewN ?_ _) | (with_reducible refine C_drew ?_)))
     (case side4 => exact (R_reads' HO_5.out).2.1)
     rintro e w44 ⟨v1033, rfl, ho0, hb⟩
     refine ⟨_, rfl, ?_⟩
     have n0_ := Zh (R_elder' (by (with_reducible repeat (first | apply R_alloc | apply R_drewN | apply R_drew)); exact HO_5.out) (R_base ho0) hb)
     have n1_ := Zh (R_elder' (by (with_reducible repeat (first | apply R_alloc | apply R_drewN | apply R_drew)); exact HO_1019002.out) (R_base ho0) hb)
     have n2_ := Zh (R_elder' (by (with_reducible repeat (first | apply R_alloc | apply R_drewN | apply R_drew)); exact HO_1027002.out) (R_base ho0) hb)
     have n3_ := Zh (R_lower (R_new' (R_new' (R_new' ho0 (R_lt (by (with_reducible repeat (first | apply R_alloc | apply R_drewN | apply R_drew)); exact HO_5.out))) (R_lt (by (with_reducible repeat (first | apply R_alloc | apply R_drewN | apply R_drew)); exact HO_1019002.out))) (R_lt (by (with_reducible repeat (first | apply R_alloc | apply R_drewN | apply R_drew)); exact HO_1027002.out))) (below_size Zs))
     have n4_ := Zh (Zm (g := gb1018) (o := .cells #[.int .i64 t1009, .int .i64 t1010, .slice Ao11 t1011.length co11] 29 (0, 0)) Zk hb)
     have n5_ := Zh (Zm (g := gb1026) (o := .cells #[.int .i64 t1020, .int .i64 t1021, .slice Ao19 t1022.length co19] 29 (0, 0)) Zk hb)
     have n6_ := Zh (Zm (g := gb1036) (o := .cells #[.int .i64 0, .int .i64 0, .slice none 0 0] 29 (0, 0)) Zk hb)
     have n7_ := Zh (Zl Zs hb)
     clear HO_5
     clear HO_1019002
     clear HO_1027002
     clear BK1018
     clear BK1026
     clear BK1036
     clear HB
     have HO_5 := n0_
     have HO_1019002 := n1_
     have HO_1027002 := n2_
     have HO1034 := n3_
     have BK1018 := n4_
     have BK1026 := n5_
     have BK1036 := n6_
     have HB := n7_
     clear n0_ n1_ n2_ n3_ n4_ n5_ n6_ n7_
     (try clear hb)
     (try clear hb2)
     (try clear hk)
     (try clear hi)
     (try clear ho0)
     refine hK.out _ _ ⟨(blk_cell BK1018.out 0).trans rfl, (blk_cell BK1018.out 1).trans rfl, (blk_cell BK1018.out 2).trans rfl⟩ (fun hHeld => ?_)
     clear hK K
     refine norm_ (a' := ?_) ?_ ?_
     rotate_left
     ·
      show Act.put _ (some 54) _ = _
      simp only [Act.put, List.setIfInBounds_toArray, List.set_cons_zero, List.set_cons_succ, i64_w, i32_w]
      rfl
     refine pure_ (i := 7) (N := some 47) (v := ?_) (a' := ?_) #[true, true, true, true, true, true, true, true, false, false, true, false, false] rfl rfl (any_of HT_.out (by kernel_rfl)) (fun _ _ _ h => h) (Or.inl ⟨by rfl, ?_⟩) ?_ ?_
     rotate_left
     ·
      intro w'
      go_simp
      with_reducible rfl
     rotate_left
     ·
      simp only [Act.put, List.setIfInBounds_toArray, List.set_cons_zero, List.set_cons_succ, i64_w, i32_w]
      rfl
     refine pure_ (i := 8) (N := some 55) (v := ?_) (a' := ?_) #[true, true, true, true, true, true, true, true, true, false, true, false, false] rfl rfl (any_of HT_.out (by kernel_rfl)) (fun _ _ _ h => h) (Or.inl ⟨by rfl, ?_⟩) ?_ ?_
     rotate_left
     ·
      intro w'
      go_simp
      with_reducible rfl
     rotate_left
     ·
      simp only [Act.put, List.setIfInBounds_toArray, List.set_cons_zero, List.set_cons_succ, i64_w, i32_w]
      rfl
     refine pure_ (i := 9) (N := some 56) (v := ?_) (a' := ?_) #[true, true, true, true, true, true, true, true, true, true, true, false, false] rfl rfl (any_of HT_.out (by kernel_rfl)) (fun _ _ _ h => h) (Or.inl ⟨by rfl, ?_⟩) ?_ ?_
     rotate_left
     ·
      intro w'
      go_simp
      with_reducible rfl
     rotate_left
     ·
      simp only [Act.put, List.setIfInBounds_toArray, List.set_cons_zero, List.set_cons_succ, i64_w, i32_w]
      rfl
     exact norm_ (by simp only [putAll, Act.put, List.setIfInBounds_toArray, List.set_cons_zero, List.set_cons_succ]) (hCont (v1033, gb1036) _ ⟨hHeld, (by (with_reducible repeat (first | apply R_alloc | apply R_drewN | apply R_drew)); exact R_mono HO1034.out (fun _ hk => ⟨hk.1.2, ⟨hk.2, hk.1.1.2⟩⟩)), (by (with_reducible repeat (first | apply R_alloc | apply R_drewN | apply R_drew)); exact R_mono HO_1019002.out (fun _ hk => ⟨hk.2, ⟨hk.1.2, hk.1.1⟩⟩)), (by (with_reducible repeat (first | apply R_alloc | apply R_drewN | apply R_drew)); exact R_mono HO_1027002.out (fun _ hk => ⟨hk.2, ⟨hk.1.2, hk.1.1⟩⟩)), (by (with_reducible repeat (first | apply R_alloc | apply R_drewN | apply R_drew)); exact R_mono HO_5.out (fun _ hk => ⟨hk.2, ⟨hk.1.1, hk.1.2⟩⟩)), Zk, Zk, Zk, GW1036.out, GE1036.out, NB1018_1036.out, NB1036_1018.out, NB1026_1036.out, NB1036_1026.out, Zs⟩)
    rintro ⟨v1033, gb1036⟩ w45 ⟨hS_, h0_, h1_, h2_, h3_, h4_, h5_, h6_, h7_, h8_, h9_, h10_, h11_, h12_, h13_⟩
    have n0_ : Aside0 (Kd.R k54 54 w45 w.heap.size (fun k_ => some k_ ≠ (.slice Ao11 t1011.length co11 : Value).ownBlock ∧ some k_ ≠ (.slice Ao19 t1022.length co19 : Value).ownBlock ∧ some k_ ≠ (.slice Ao14 t1015.length co14 : Value).ownBlock) v1033 t1032) := ⟨h0_⟩
    have n1_ : Aside0 (Kd.R k54 54 w45 w.heap.size (fun k_ => some k_ ≠ (v1033 : Value).ownBlock ∧ some k_ ≠ (.slice Ao19 t1022.length co19 : Value).ownBlock ∧ some k_ ≠ (.slice Ao14 t1015.length co14 : Value).ownBlock) (.slice Ao11 t1011.length co11) t1011) := ⟨h1_⟩
    have n2_ : Aside0 (Kd.R k54 54 w45 w.heap.size (fun k_ => some k_ ≠ (v1033 : Value).ownBlock ∧ some k_ ≠ (.slice Ao11 t1011.length co11 : Value).ownBlock ∧ some k_ ≠ (.slice Ao14 t1015.length co14 : Value).ownBlock) (.slice Ao19 t1022.length co19) t1022) := ⟨h2_⟩
    have n3_ : Aside0 (Kd.R k54 54 w45 w.heap.size (fun k_ => some k_ ≠ (v1033 : Value).ownBlock ∧ some k_ ≠ (.slice Ao11 t1011.length co11 : Value).ownBlock ∧ some k_ ≠ (.slice Ao19 t1022.length co19 : Value).ownBlock) (.slice Ao14 t1015.length co14) t1015) := ⟨h3_⟩
    have n4_ : Aside0 (w45.heap[gb1018]? = some (.cells #[.int .i64 t1009, .int .i64 t1010, .slice Ao11 t1011.length co11] 29 (0, 0))) := ⟨h4_⟩
    have n5_ : Aside0 (w45.heap[gb1026]? = some (.cells #[.int .i64 t1020, .int .i64 t1021, .slice Ao19 t1022.length co19] 29 (0, 0))) := ⟨h5_⟩
    have n6_ : Aside0 (w45.heap[gb1036]? = some (.cells #[.int .i64 0, .int .i64 0, .slice none 0 0] 29 (0, 0))) := ⟨h6_⟩
    have n7_ : Aside0 (w.heap.size ≤ gb1036) := ⟨h7_⟩
    have n8_ : Aside0 (w.heap.size ≤ gb1036) := ⟨h8_⟩
    have n9_ : Aside0 (gb1018 ≠ gb1036) := ⟨h9_⟩
    have n10_ : Aside0 (gb1036 ≠ gb1018) := ⟨h10_⟩
    have n11_ : Aside0 (gb1026 ≠ gb1036) := ⟨h11_⟩
    have n12_ : Aside0 (gb1036 ≠ gb1026) := ⟨h12_⟩
    have n13_ : Aside0 (Below w.heap.size w w45) := ⟨h13_⟩
    clear HO_5
    clear HO_1019002
    clear HO_1027002
    clear BK1018
    clear BK1026
    clear HB
    clear h0_ h1_ h2_ h3_ h4_ h5_ h6_ h7_ h8_ h9_ h10_ h11_ h12_ h13_
    have HO1034 := n0_
    have HO_1019002 := n1_
    have HO_1027002 := n2_
    have HO_5 := n3_
    have BK1018 := n4_
    have BK1026 := n5_
    have BK1036 := n6_
    have GW1036 := n7_
    have GE1036 := n8_
    have NB1018_1036 := n9_
    have NB1036_1018 := n10_
    have NB1026_1036 := n11_
    have NB1036_1026 := n12_
    have HB := n13_
    clear n0_ n1_ n2_ n3_ n4_ n5_ n6_ n7_ n8_ n9_ n10_ n11_ n12_ n13_
    have hHeld : w45.cell? ⟨gb1018, 0, none⟩ = some (.int .i64 t1009) ∧ w45.cell? ⟨gb1018, 1, none⟩ = some (.int .i64 t1010) ∧ w45.cell? ⟨gb1018, 2, none⟩ = some (.slice Ao11 t1011.length co11) := hS_
    obtain ⟨Ao48, co48, eo48⟩ := R_slice HO1034.out
    (first | subst eo48 | (injection eo48 with f1_ f2_ f3_; have f4_ := f1_.symm; have f5_ := f3_.symm; clear f1_ f2_ f3_; subst f4_; subst f5_))
    refine norm_ (a' := ?_) ?_ ?_
    rotate_left
    ·
     simp only [putAll, Act.put, List.setIfInBounds_toArray, List.set_cons_zero, List.set_cons_succ]
     rfl
    refine one_ (i := 11) (N := none) #[true, true, true, true, true, true, true, true, true, true, true, true, false] rfl rfl (one_of HT_.out (by kernel_rfl)) (by decide) (fun K hK => ?_)
    have hs46 : w45.cell? ⟨gb1036, 0, none⟩ = some (.int .i64 0) := (blk_cell BK1036.out 0).trans rfl
    have hfs46 := Zn BK1036.out 0
    have hns46_0 := NB1018_1036.out
    have hns46_1 := NB1026_1036.out
    have hms46_0 := NB1036_1018.out
    have hms46_1 := NB1036_1026.out
    have hs47 : w45.cell? ⟨gb1036, 1, none⟩ = some (.int .i64 0) := (blk_cell BK1036.out 1).trans rfl
    have hfs47 := Zn BK1036.out 1
    have hns47_0 := NB1018_1036.out
    have hns47_1 := NB1026_1036.out
    have hms47_0 := NB1036_1018.out
    have hms47_1 := NB1036_1026.out
    have hs49 : w45.cell? ⟨gb1036, 2, none⟩ = some (.slice none 0 0) := (blk_cell BK1036.out 2).trans rfl
    have hfs49 := Zn BK1036.out 2
    have hns49_0 := NB1018_1036.out
    have hns49_1 := NB1026_1036.out
    have hms49_0 := NB1036_1018.out
    have hms49_1 := NB1036_1026.out
    refine skip_ (w1 := ?_) (by rfl) rfl ?_ ?_
    rotate_left
    ·
     go_simp
     rfl
    refine hK.out _ _ ⟨((cell_far (p := ⟨gb1036, _, none⟩) NB1018_1036.out _).trans (((cell_far (p := ⟨gb1036, _, none⟩) NB1018_1036.out _).trans (((cell_far (p := ⟨gb1036, _, none⟩) NB1018_1036.out _).trans (hHeld.1)))))), ((cell_far (p := ⟨gb1036, _, none⟩) NB1018_1036.out _).trans (((cell_far (p := ⟨gb1036, _, none⟩) NB1018_1036.out _).trans (((cell_far (p := ⟨gb1036, _, none⟩) NB1018_1036.out _).trans (hHeld.2.1)))))), ((cell_far (p := ⟨gb1036, _, none⟩) NB1018_1036.out _).trans (((cell_far (p := ⟨gb1036, _, none⟩) NB1018_1036.out _).trans (((cell_far (p := ⟨gb1036, _, none⟩) NB1018_1036.out _).trans (hHeld.2.2))))))⟩ (fun hHeld => ?_)
    clear hK K
    refine pure_ (i := 12) (N := some 10) (v := ?_) (a' := ?_) #[true, true, true, true, true, true, true, true, true, true, true, true, true] rfl rfl (any_of HT_.out (by kernel_rfl)) (fun _ _ _ h => h) (Or.inl ⟨by rfl, ?_⟩) ?_ ?_
    rotate_left
    ·
     intro w'
     go_simp
     with_reducible rfl
    rotate_left
    ·
     simp only [Act.put, List.setIfInBounds_toArray, List.set_cons_zero, List.set_cons_succ, i64_w, i32_w]
     rfl
    refine done_ (done_of HT_.out (by kernel_rfl)) ?_
    have hnb50 := NB1026_1018.out
    have hnc50 := NB1018_1026.out
    have hnb51 := NB1026_1036.out
    have hnc51 := NB1036_1026.out
    have hcz52_0 : w45.cell? ⟨gb1026, 0, none⟩ = some (.int .i64 t1020) := (blk_cell BK1026.out 0).trans rfl
    have hcz52_1 : w45.cell? ⟨gb1026, 1, none⟩ = some (.int .i64 t1021) := (blk_cell BK1026.out 1).trans rfl
    have hcz52_2 : w45.cell? ⟨gb1026, 2, none⟩ = some (.slice Ao19 t1022.length co19) := (blk_cell BK1026.out 2).trans rfl
    have hfz52_0 := Zn BK1026.out 0
    have hfz52_1 := Zn BK1026.out 1
    have hfz52_2 := Zn BK1026.out 2
    have hnb53 := NB1018_1036.out
    have hnc53 := NB1036_1018.out
    have hcz54_0 : w45.cell? ⟨gb1018, 0, none⟩ = some (.int .i64 t1009) := (blk_cell BK1018.out 0).trans rfl
    have hcz54_1 : w45.cell? ⟨gb1018, 1, none⟩ = some (.int .i64 t1010) := (blk_cell BK1018.out 1).trans rfl
    have hcz54_2 : w45.cell? ⟨gb1018, 2, none⟩ = some (.slice Ao11 t1011.length co11) := (blk_cell BK1018.out 2).trans rfl
    have hfz54_0 := Zn BK1018.out 0
    have hfz54_1 := Zn BK1018.out 1
    have hfz54_2 := Zn BK1018.out 2
    try go_wp2_with (first | (go_at_call 41; (with_reducible refine (laws_sameLog.calls kj6 t1020 t1021 _ _ t1022 t1009 t1010 _ _ t1011 t1037 _ ?side1 ?side2 ?side3 ?side4 A40.out).mono ?_); (case side1 => refine (R_reads' (e := 54) (base := w.heap.size) (ok := fun k_ => (some k_ ≠ (.slice Ao48 t1032.length co48 : Value).ownBlock ∧ (some k_ ≠ (.slice Ao11 t1011.length co11 : Value).ownBlock ∧ some k_ ≠ (.slice Ao14 t1015.length co14 : Value).ownBlock))) (n := t1022.length) (c := co19) ?_).2.2; exact (by (with_reducible repeat (first | apply R_alloc | apply R_drewN | apply R_drew)); exact (R_mono (R_far (p := ⟨gb1036, 2, none⟩) (R_far (p := ⟨gb1036, 1, none⟩) (R_far (p := ⟨gb1036, 0, none⟩) (R_types HO_1027002.out BK1036.out (by decide)) (fun _ hk => hk.2) (.int .i64 t1030)) (fun _ hk => hk.2) (.int .i64 t1031)) (fun _ hk => hk.2) (.slice Ao48 t1032.length co48)) (fun _ h_ => h_.1)))); (case side2 => exact (R_reads' HO_1027002.out).2.1); (case side3 => refine (R_reads' (e := 54) (base := w.heap.size) (ok := fun k_ => (some k_ ≠ (.slice Ao48 t1032.length co48 : Value).ownBlock ∧ (some k_ ≠ (.slice Ao19 t1022.length co19 : Value).ownBlock ∧ some k_ ≠ (.slice Ao14 t1015.length co14 : Value).ownBlock))) (n := t1011.length) (c := co11) ?_).2.2; exact (by (with_reducible repeat (first | apply R_alloc | apply R_drewN | apply R_drew)); exact (R_mono (R_far (p := ⟨gb1036, 2, none⟩) (R_far (p := ⟨gb1036, 1, none⟩) (R_far (p := ⟨gb1036, 0, none⟩) (R_types HO_1019002.out BK1036.out (by decide)) (fun _ hk => hk.2) (.int .i64 t1030)) (fun _ hk => hk.2) (.int .i64 t1031)) (fun _ hk => hk.2) (.slice Ao48 t1032.length co48)) (fun _ h_ => h_.1)))); (case side4 => exact (R_reads' HO_1019002.out).2.1); rintro e w55 ⟨rfl, hb⟩; have n0_ := Zh (R_below (by (with_reducible repeat (first | apply R_alloc | apply R_drewN | apply R_drew)); exact (R_mono (R_far (p := ⟨gb1036, 2, none⟩) (R_far (p := ⟨gb1036, 1, none⟩) (R_far (p := ⟨gb1036, 0, none⟩) (R_types HO_5.out BK1036.out (by decide)) (fun _ hk => hk.2) (.int .i64 t1030)) (fun _ hk => hk.2) (.int .i64 t1031)) (fun _ hk => hk.2) (.slice Ao48 t1032.length co48)) (fun _ h_ => h_.1))) hb); have n1_ := Zh (R_below (by (with_reducible repeat (first | apply R_alloc | apply R_drewN | apply R_drew)); exact (R_mono (R_far (p := ⟨gb1036, 2, none⟩) (R_far (p := ⟨gb1036, 1, none⟩) (R_far (p := ⟨gb1036, 0, none⟩) (R_types HO_1019002.out BK1036.out (by decide)) (fun _ hk => hk.2) (.int .i64 t1030)) (fun _ hk => hk.2) (.int .i64 t1031)) (fun _ hk => hk.2) (.slice Ao48 t1032.length co48)) (fun _ h_ => h_.1))) hb); have n2_ := Zh (R_below (by (with_reducible repeat (first | apply R_alloc | apply R_drewN | apply R_drew)); exact (R_mono (R_far (p := ⟨gb1036, 2, none⟩) (R_far (p := ⟨gb1036, 1, none⟩) (R_far (p := ⟨gb1036, 0, none⟩) (R_types HO_1027002.out BK1036.out (by decide)) (fun _ hk => hk.2) (.int .i64 t1030)) (fun _ hk => hk.2) (.int .i64 t1031)) (fun _ hk => hk.2) (.slice Ao48 t1032.length co48)) (fun _ h_ => h_.1))) hb); have n3_ := Zh (R_below (by (with_reducible repeat (first | apply R_alloc | apply R_drewN | apply R_drew)); exact (R_mono (R_far (p := ⟨gb1036, 2, none⟩) (R_far (p := ⟨gb1036, 1, none⟩) (R_far (p := ⟨gb1036, 0, none⟩) (R_types HO1034.out BK1036.out (by decide)) (fun _ hk => hk.2) (.int .i64 t1030)) (fun _ hk => hk.2) (.int .i64 t1031)) (fun _ hk => hk.2) (.slice Ao48 t1032.length co48)) (fun _ h_ => h_.1))) hb); have n4_ := Zh (Zm (g := gb1018) (o := .cells #[.int .i64 t1009, .int .i64 t1010, .slice Ao11 t1011.length co11] 29 (0, 0)) (by (with_reducible repeat (first | refine Za ?_ _ | refine Zb ?_ | refine blk_alloc ?_ _)); refine Zp ?_ NB1018_1036.out _; (with_reducible repeat (first | refine Za ?_ _ | refine Zb ?_ | refine blk_alloc ?_ _)); refine Zp ?_ NB1018_1036.out _; (with_reducible repeat (first | refine Za ?_ _ | refine Zb ?_ | refine blk_alloc ?_ _)); refine Zp ?_ NB1018_1036.out _; (with_reducible repeat (first | refine Za ?_ _ | refine Zb ?_ | refine blk_alloc ?_ _)); exact BK1018.out) hb); have n5_ := Zh (Zm (g := gb1026) (o := .cells #[.int .i64 t1020, .int .i64 t1021, .slice Ao19 t1022.length co19] 29 (0, 0)) (by (with_reducible repeat (first | refine Za ?_ _ | refine Zb ?_ | refine blk_alloc ?_ _)); refine Zp ?_ NB1026_1036.out _; (with_reducible repeat (first | refine Za ?_ _ | refine Zb ?_ | refine blk_alloc ?_ _)); refine Zp ?_ NB1026_1036.out _; (with_reducible repeat (first | refine Za ?_ _ | refine Zb ?_ | refine blk_alloc ?_ _)); refine Zp ?_ NB1026_1036.out _; (with_reducible repeat (first | refine Za ?_ _ | refine Zb ?_ | refine blk_alloc ?_ _)); exact BK1026.out) hb); have n6_ := Zh (Zm (g := gb1036) (o := .cells #[.int .i64 t1030, .int .i64 t1031, .slice Ao48 t1032.length co48] 29 (0, 0)) (by (with_reducible repeat (first | refine Za ?_ _ | refine Zb ?_ | refine blk_alloc ?_ _)); refine blk_put (cs := #[.int .i64 t1030, .int .i64 t1031, .slice none 0 0]) ?_ 2 _ rfl; (with_reducible repeat (first | refine Za ?_ _ | refine Zb ?_ | refine blk_alloc ?_ _)); refine blk_put (cs := #[.int .i64 t1030, .int .i64 0, .slice none 0 0]) ?_ 1 _ rfl; (with_reducible repeat (first | refine Za ?_ _ | refine Zb ?_ | refine blk_alloc ?_ _)); refine blk_put (cs := #[.int .i64 0, .int .i64 0, .slice none 0 0]) ?_ 0 _ rfl; (with_reducible repeat (first | refine Za ?_ _ | refine Zb ?_ | refine blk_alloc ?_ _)); exact BK1036.out) hb); have n7_ := Zh (Zl Zs hb); clear HO_5; clear HO_1019002; clear HO_1027002; clear HO1034; clear BK1018; clear BK1026; clear BK1036; clear HB; have HO_5 := n0_; have HO_1019002 := n1_; have HO_1027002 := n2_; have HO1034 := n3_; have BK1018 := n4_; have BK1026 := n5_; have BK1036 := n6_; have HB := n7_; clear n0_ n1_ n2_ n3_ n4_ n5_ n6_ n7_; (try clear hb); (try clear hb2); (try clear hk); (try clear hi)))
    go_ret
    exact ⟨by first | rfl | (simp [errW_none, errW_some] <;> rfl) | (simp [*, errW_none, errW_some] <;> rfl), by repeat (first | (with_reducible first | exact HB.out | apply Zf | apply Zd | apply Ze | refine Zg ?_ GE1018.out | refine Zg ?_ GE1026.out | refine Zg ?_ GE1036.out) | exact HB.out)⟩
   replace c35 := Bool.eq_false_iff.mpr c35
   subst c35
   have H1 : ((impl_LastIndex.f kj6 t1020 t1021 t1022).bind fun t1038 => (if t1038 < (wrap64 (t1014 + (t1015.length : Int))) then (none) else (laws_FnAppended.l0 kj6 t1014 t1015 t1019 t1009 t1009 t1010 t1011 t1020 t1021 t1022))) = some r := by rw [if_neg (show ¬ (false = true) by decide)] at H; exact H
   clear H
   have H := H1
   clear H1
   replace H := Option.bind_eq_some_iff.mp H
   obtain ⟨t1038, A560, H⟩ := H
   replace H : (if t1038 < (wrap64 (t1014 + (t1015.length : Int))) then (none) else (laws_FnAppended.l0 kj6 t1014 t1015 t1019 t1009 t1009 t1010 t1011 t1020 t1021 t1022)) = some r := H
   have A56 := Zh A560
   clear A560
   by_cases c57 : t1038 < (wrap64 (t1014 + (t1015.length : Int)))
   ·
    rw [if_pos c57] at H
    exact absurd H (by simp)
   rw [if_neg c57] at H
   have c57b0 : decide (t1038 < (wrap64 (t1014 + (t1015.length : Int)))) = false := decide_eq_false c57
   clear c57
   have H' := Zh H
   clear H
   have hnb58 := NB1026_1018.out
   have hnc58 := NB1018_1026.out
   have hcz59_0 : wc.cell? ⟨gb1026, 0, none⟩ = some (.int .i64 t1020) := (blk_cell BK1026.out 0).trans rfl
   have hcz59_1 : wc.cell? ⟨gb1026, 1, none⟩ = some (.int .i64 t1021) := (blk_cell BK1026.out 1).trans rfl
   have hcz59_2 : wc.cell? ⟨gb1026, 2, none⟩ = some (.slice Ao19 t1022.length co19) := (blk_cell BK1026.out 2).trans rfl
   have hfz59_0 := Zn BK1026.out 0
   have hfz59_1 := Zn BK1026.out 1
   have hfz59_2 := Zn BK1026.out 2
   go_wp2_with (first | ((with_reducible refine gate_callee (f := 19) rfl ?_); refine goesL_ (some 69) rfl rfl Try.func19 (by kernel_rfl) rfl #[.agg #[.int .i64 t1020, .int .i64 t1021, .slice Ao19 t1022.length co19]] rfl (by (try simp only [List.map_toArray, List.map_cons, List.map_nil]); first | done | rfl | (simp only [List.length_drop, List.length_take]; rfl)) ?_; (with_reducible refine (impl_LastIndex.calls kj6 t1020 t1021 _ _ t1022 t1038 _ ?side1 ?side2 A56.out).mono ?_); (case side1 => repeat (first | exact (R_reads' HO_1027002.out).2.2 | (with_reducible refine C_alloc ?_ _) | (with_reducible refine C_drewN ?_ _) | (with_reducible refine C_drew ?_))); (case side2 => exact (R_reads' HO_1027002.out).2.1); rintro e w60 ⟨rfl, hb⟩; refine ⟨_, rfl, ?_⟩; have n0_ := Zh (R_below (by (with_reducible repeat (first | apply R_alloc | apply R_drewN | apply R_drew)); exact HO_5.out) hb); have n1_ := Zh (R_below (by (with_reducible repeat (first | apply R_alloc | apply R_drewN | apply R_drew)); exact HO_1019002.out) hb); have n2_ := Zh (R_below (by (with_reducible repeat (first | apply R_alloc | apply R_drewN | apply R_drew)); exact HO_1027002.out) hb); have n3_ := Zh (Zm (g := gb1018) (o := .cells #[.int .i64 t1009, .int .i64 t1010, .slice Ao11 t1011.length co11] 29 (0, 0)) Zk hb); have n4_ := Zh (Zm (g := gb1026) (o := .cells #[.int .i64 t1020, .int .i64 t1021, .slice Ao19 t1022.length co19] 29 (0, 0)) Zk hb); have n5_ := Zh (Zl Zs hb); clear HO_5; clear HO_1019002; clear HO_1027002; clear BK1018; clear BK1026; clear HB; have HO_5 := n0_; have HO_1019002 := n1_; have HO_1027002 := n2_; have BK1018 := n3_; have BK1026 := n4_; have HB := n5_; clear n0_ n1_ n2_ n3_ n4_ n5_; (try clear hb); (try clear hb2); (try clear hk); (try clear hi); have hcz61_0 : w60.cell? ⟨gb1018, 0, none⟩ = some (.int .i64 t1009) := (blk_cell BK1018.out 0).trans rfl; have hcz61_1 : w60.cell? ⟨gb1018, 1, none⟩ = some (.int .i64 t1010) := (blk_cell BK1018.out 1).trans rfl; have hcz61_2 : w60.cell? ⟨gb1018, 2, none⟩ = some (.slice Ao11 t1011.length co11) := (blk_cell BK1018.out 2).trans rfl; have hfz61_0 := Zn BK1018.out 0; have hfz61_1 := Zn BK1018.out 1; have hfz61_2 := Zn BK1018.out 2))
   go_loopg [11] kj6 (fun kq v11 w' => ∃ (x11_2 : Int), v11 = .int .i64 x11_2 ∧ Aside0 (laws_FnAppended.l0 kq t1014 t1015 t1019 x11_2 t1009 t1010 t1011 t1020 t1021 t1022 = some r) ∧ Aside0 (kq ≤ kj6) ∧ Aside0 (Kd.R k54 54 w' w.heap.size (fun k_ => some k_ ≠ ((.slice Ao11 t1011.length co11) : Value).ownBlock ∧ some k_ ≠ ((.slice Ao19 t1022.length co19) : Value).ownBlock) (.slice Ao14 t1015.length co14) t1015) ∧ Aside0 (Kd.R k54 54 w' w.heap.size (fun k_ => some k_ ≠ ((.slice Ao14 t1015.length co14) : Value).ownBlock ∧ some k_ ≠ ((.slice Ao19 t1022.length co19) : Value).ownBlock) (.slice Ao11 t1011.length co11) t1011) ∧ Aside0 (Kd.R k54 54 w' w.heap.size (fun k_ => some k_ ≠ ((.slice Ao14 t1015.length co14) : Value).ownBlock ∧ some k_ ≠ ((.slice Ao11 t1011.length co11) : Value).ownBlock) (.slice Ao19 t1022.length co19) t1022) ∧ Aside0 (w'.heap[gb1018]? = some (.cells #[.int .i64 t1009, .int .i64 t1010, (.slice Ao11 t1011.length co11)] 29 (0, 0))) ∧ Aside0 (w'.heap[gb1026]? = some (.cells #[.int .i64 t1020, .int .i64 t1021, (.slice Ao19 t1022.length co19)] 29 (0, 0))) ∧ Aside0 (Below w.heap.size w w'))
   case atStart => exact ⟨(t1009), (by first | rfl | (simp; done) | (simp [*]; done)), H', ⟨Nat.le_refl _⟩, ⟨by (with_reducible repeat (first | apply R_alloc | apply R_drewN | apply R_drew)); exact HO_5.out⟩, ⟨by (with_reducible repeat (first | apply R_alloc | apply R_drewN | apply R_drew)); exact HO_1019002.out⟩, ⟨by (with_reducible repeat (first | apply R_alloc | apply R_drewN | apply R_drew)); exact HO_1027002.out⟩, ⟨by (with_reducible repeat (first | refine Za ?_ _ | refine Zb ?_ | refine blk_alloc ?_ _)); exact BK1018.out⟩, ⟨by (with_reducible repeat (first | refine Za ?_ _ | refine Zb ?_ | refine blk_alloc ?_ _)); exact BK1026.out⟩, ⟨by repeat (first | (with_reducible first | exact HB.out | apply Zf | apply Zd | apply Ze | refine Zg ?_ GE1018.out | refine Zg ?_ GE1026.out) | exact HB.out)⟩⟩
   case round =>
    clear H'
    try clear c1
    try clear c2
    try clear p2
    try clear c3
    try clear c5
    try clear p6
    try clear c19
    try clear c20
    try clear c35
    try clear c36
    try clear c50
    try clear c51
    try clear c53
    try clear c57
    try clear c57b0
    try clear c58
    try clear hcz52_0
    try clear hcz52_1
    try clear hcz52_2
    try clear hcz54_0
    try clear hcz54_1
    try clear hcz54_2
    try clear hcz59_0
    try clear hcz59_1
    try clear hcz59_2
    try clear hcz61_0
    try clear hcz61_1
    try clear hcz61_2
    try clear hfz52_0
    try clear hfz52_1
    try clear hfz52_2
    try clear hfz54_0
    try clear hfz54_1
    try clear hfz54_2
    try clear hfz59_0
    try clear hfz59_1
    try clear hfz59_2
    try clear hfz61_0
    try clear hfz61_1
    try clear hfz61_2
    obtain ⟨x11_2, rfl, HA, HK2, HO_5, HO_1019002, HO_1027002, BK1018, BK1026, HB⟩ := hrel
    cases gk with
    | zero => exact absurd HA.out (by simp [laws_FnAppended.l0])
    | succ k2 =>
     have H := HA.out
     clear HA
     simp only [laws_FnAppended.l0] at H
     by_cases c62 : x11_2 ≤ t1014
     ·
      rw [if_pos c62] at H
      have c62b0 : decide (x11_2 ≤ t1014) = true := decide_eq_true c62
      clear c62
      replace H := Option.bind_eq_some_iff.mp H
      obtain ⟨t1039, A630, H⟩ := H
      replace H : ((impl_TermAt.f k2 t1009 t1010 t1011 x11_2).bind fun t1040 => (if t1039 = t1040 then (laws_FnAppended.l0 k2 t1014 t1015 t1019 (wrap64 (x11_2 + 1)) t1009 t1010 t1011 t1020 t1021 t1022) else (none))) = some r := H
      have A63 := Zh A630
      clear A630
      replace H := Option.bind_eq_some_iff.mp H
      obtain ⟨t1040, A640, H⟩ := H
      replace H : (if t1039 = t1040 then (laws_FnAppended.l0 k2 t1014 t1015 t1019 (wrap64 (x11_2 + 1)) t1009 t1010 t1011 t1020 t1021 t1022) else (none)) = some r := H
      have A64 := Zh A640
      clear A640
      by_cases c65 : t1039 = t1040
      ·
       rw [if_pos c65] at H
       have c65b0 : (t1039 == t1040) = true := beq_iff_eq.mpr c65
       have c65b1 : (t1039 != t1040) = false := bne_eq_false_iff_eq.mpr c65
       clear c65
       have H' := Zh H
       clear H
       try go_wp2
       have n0_ := Zh (R_drew HO_5.out)
       have n1_ := Zh (R_drew HO_1019002.out)
       have n2_ := Zh (R_drew HO_1027002.out)
       have n3_ := Zh (Zb BK1018.out)
       have n4_ := Zh (Zb BK1026.out)
       have n5_ := Zh (Ze HB.out)
       clear HO_5
       clear HO_1019002
       clear HO_1027002
       clear BK1018
       clear BK1026
       clear HB
       have HO_5 := n0_
       have HO_1019002 := n1_
       have HO_1027002 := n2_
       have BK1018 := n3_
       have BK1026 := n4_
       have HB := n5_
       clear n0_ n1_ n2_ n3_ n4_ n5_
       refine start_ (n := 7) (S := fun w' => w'.cell? ⟨gb1026, 0, none⟩ = some (.int .i64 t1020) ∧ w'.cell? ⟨gb1026, 1, none⟩ = some (.int .i64 t1021) ∧ w'.cell? ⟨gb1026, 2, none⟩ = some (.slice Ao19 t1022.length co19) ∧ w'.cell? ⟨gb1018, 0, none⟩ = some (.int .i64 t1009) ∧ w'.cell? ⟨gb1018, 1, none⟩ = some (.int .i64 t1010) ∧ w'.cell? ⟨gb1018, 2, none⟩ = some (.slice Ao11 t1011.length co11)) (ds := []) #[false, false, false, false, false, false, false] (by kernel_rfl) rfl rfl ⟨(blk_cell BK1026.out 0).trans rfl, (blk_cell BK1026.out 1).trans rfl, (blk_cell BK1026.out 2).trans rfl, (blk_cell BK1018.out 0).trans rfl, (blk_cell BK1018.out 1).trans rfl, (blk_cell BK1018.out 2).trans rfl⟩ (fun hHeld => ?_)
       generalize wr.drew = w66 at HO_5 HO_1019002 HO_1027002 BK1018 BK1026 HB hHeld ⊢
       refine pure_ (i := 1) (N := some 83) (v := ?_) (a' := ?_) #[false, true, false, false, false, false, false] rfl rfl (by kernel_rfl) (fun _ _ _ h => h) (Or.inl ⟨by rfl, ?_⟩) ?_ ?_
       rotate_left
       ·
        intro w'
        go_simp
        with_reducible rfl
       rotate_left
       ·
        simp only [Act.put, List.setIfInBounds_toArray, List.set_cons_zero, List.set_cons_succ, i64_w, i32_w]
        rfl
       refine pure_ (i := 4) (N := some 86) (v := ?_) (a' := ?_) #[false, true, false, false, true, false, false] rfl rfl (by kernel_rfl) (fun _ _ _ h => h) (Or.inl ⟨by rfl, ?_⟩) ?_ ?_
       rotate_left
       ·
        intro w'
        go_simp
        with_reducible rfl
       rotate_left
       ·
        simp only [Act.put, List.setIfInBounds_toArray, List.set_cons_zero, List.set_cons_succ, i64_w, i32_w]
        rfl
       refine take_ (i := 0) (N := some 82) (v := ?_) (a' := ?_) #[true, true, false, false, true, false, false] rfl rfl (by kernel_rfl) (fun _ _ _ h => h) (Or.inl ⟨by rfl, ?_⟩) hHeld ?_ ?_
       rotate_left
       ·
        rintro w' ⟨s0, s1, s2, s3, s4, s5⟩
        go_simp
        with_reducible rfl
       rotate_left
       ·
        simp only [Act.put, List.setIfInBounds_toArray, List.set_cons_zero, List.set_cons_succ, i64_w, i32_w]
        rfl
       refine take_ (i := 3) (N := some 85) (v := ?_) (a' := ?_) #[true, true, false, true, true, false, false] rfl rfl (by kernel_rfl) (fun _ _ _ h => h) (Or.inl ⟨by rfl, ?_⟩) hHeld ?_ ?_
       rotate_left
       ·
        rintro w' ⟨s0, s1, s2, s3, s4, s5⟩
        go_simp
        with_reducible rfl
       rotate_left
       ·
        simp only [Act.put, List.setIfInBounds_toArray, List.set_cons_zero, List.set_cons_succ, i64_w, i32_w]
        rfl
       refine one_ (i := 2) (N := some 84) #[true, true, true, true, true, false, false] rfl rfl (by kernel_rfl) (by decide) (fun K hK => ?_)
       refine goes_ Try.func21 (by kernel_rfl) rfl #[.agg #[.int .i64 t1020, .int .i64 t1021, .slice Ao19 t1022.length co19], .int .i64 x11_2] (by rfl) rfl rfl (by (try simp only [List.map_toArray, List.map_cons, List.map_nil]); first | done | rfl | (simp only [List.length_drop, List.length_take]; rfl)) ?_
       with_reducible refine (impl_TermAt.calls k2 t1020 t1021 _ _ t1022 x11_2 t1039 _ ?side1 ?side2 A63.out).mono ?_
       (case side1 => repeat (first | exact (R_reads' HO_1027002.out).2.2 | (with_reducible refine C_alloc ?_ _) | (with_reducible refine C_drewN ?_ _) | (with_reducible refine C_drew ?_)))
       (case side2 => exact (R_reads' HO_1027002.out).2.1)
       rintro e w67 ⟨rfl, hb⟩
       refine ⟨_, rfl, ?_⟩
       have n0_ := Zh (R_below (by (with_reducible repeat (first | apply R_alloc | apply R_drewN | apply R_drew)); exact HO_5.out) hb)
       have n1_ := Zh (R_below (by (with_reducible repeat (first | apply R_alloc | apply R_drewN | apply R_drew)); exact HO_1019002.out) hb)
       have n2_ := Zh (R_below (by (with_reducible repeat (first | apply R_alloc | apply R_drewN | apply R_drew)); exact HO_1027002.out) hb)
       have n3_ := Zh (Zm (g := gb1018) (o := .cells #[.int .i64 t1009, .int .i64 t1010, .slice Ao11 t1011.length co11] 29 (0, 0)) Zk hb)
       have n4_ := Zh (Zm (g := gb1026) (o := .cells #[.int .i64 t1020, .int .i64 t1021, .slice Ao19 t1022.length co19] 29 (0, 0)) Zk hb)
       have n5_ := Zh (Zl Zs hb)
       clear HO_5
       clear HO_1019002
       clear HO_1027002
       clear BK1018
       clear BK1026
       clear HB
       have HO_5 := n0_
       have HO_1019002 := n1_
       have HO_1027002 := n2_
       have BK1018 := n3_
       have BK1026 := n4_
       have HB := n5_
       clear n0_ n1_ n2_ n3_ n4_ n5_
       (try clear hb)
       (try clear hb2)
       (try clear hk)
       (try clear hi)
       refine hK.out _ _ ⟨(blk_cell BK1026.out 0).trans rfl, (blk_cell BK1026.out 1).trans rfl, (blk_cell BK1026.out 2).trans rfl, (blk_cell BK1018.out 0).trans rfl, (blk_cell BK1018.out 1).trans rfl, (blk_cell BK1018.out 2).trans rfl⟩ (fun hHeld => ?_)
       clear hK K
       refine norm_ (a' := ?_) ?_ ?_
       rotate_left
       ·
        show Act.put _ (some 84) _ = _
        simp only [Act.put, List.setIfInBounds_toArray, List.set_cons_zero, List.set_cons_succ, i64_w, i32_w]
        rfl
       refine one_ (i := 5) (N := some 87) #[true, true, true, true, true, true, false] rfl rfl (by kernel_rfl) (by decide) (fun K hK => ?_)
       refine goes_ Try.func21 (by kernel_rfl) rfl #[.agg #[.int .i64 t1009, .int .i64 t1010, .slice Ao11 t1011.length co11], .int .i64 x11_2] (by rfl) rfl rfl (by (try simp only [List.map_toArray, List.map_cons, List.map_nil]); first | done | rfl | (simp only [List.length_drop, List.length_take]; rfl)) ?_
       with_reducible refine (impl_TermAt.calls k2 t1009 t1010 _ _ t1011 x11_2 t1040 _ ?side1 ?side2 A64.out).mono ?_
       (case side1 => repeat (first | exact (R_reads' HO_1019002.out).2.2 | (with_reducible refine C_alloc ?_ _) | (with_reducible refine C_drewN ?_ _) | (with_reducible refine C_drew ?_)))
       (case side2 => exact (R_reads' HO_1019002.out).2.1)
       rintro e w68 ⟨rfl, hb⟩
       refine ⟨_, rfl, ?_⟩
       have n0_ := Zh (R_below (by (with_reducible repeat (first | apply R_alloc | apply R_drewN | apply R_drew)); exact HO_5.out) hb)
       have n1_ := Zh (R_below (by (with_reducible repeat (first | apply R_alloc | apply R_drewN | apply R_drew)); exact HO_1019002.out) hb)
       have n2_ := Zh (R_below (by (with_reducible repeat (first | apply R_alloc | apply R_drewN | apply R_drew)); exact HO_1027002.out) hb)
       have n3_ := Zh (Zm (g := gb1018) (o := .cells #[.int .i64 t1009, .int .i64 t1010, .slice Ao11 t1011.length co11] 29 (0, 0)) Zk hb)
       have n4_ := Zh (Zm (g := gb1026) (o := .cells #[.int .i64 t1020, .int .i64 t1021, .slice Ao19 t1022.length co19] 29 (0, 0)) Zk hb)
       have n5_ := Zh (Zl Zs hb)
       clear HO_5
       clear HO_1019002
       clear HO_1027002
       clear BK1018
       clear BK1026
       clear HB
       have HO_5 := n0_
       have HO_1019002 := n1_
       have HO_1027002 := n2_
       have BK1018 := n3_
       have BK1026 := n4_
       have HB := n5_
       clear n0_ n1_ n2_ n3_ n4_ n5_
       (try clear hb)
       (try clear hb2)
       (try clear hk)
       (try clear hi)
       refine hK.out _ _ ⟨(blk_cell BK1026.out 0).trans rfl, (blk_cell BK1026.out 1).trans rfl, (blk_cell BK1026.out 2).trans rfl, (blk_cell BK1018.out 0).trans rfl, (blk_cell BK1018.out 1).trans rfl, (blk_cell BK1018.out 2).trans rfl⟩ (fun hHeld => ?_)
       clear hK K
       refine norm_ (a' := ?_) ?_ ?_
       rotate_left
       ·
        show Act.put _ (some 87) _ = _
        simp only [Act.put, List.setIfInBounds_toArray, List.set_cons_zero, List.set_cons_succ, i64_w, i32_w]
        rfl
       refine pure_ (i := 6) (N := some 88) (v := ?_) (a' := ?_) #[true, true, true, true, true, true, true] rfl rfl (by kernel_rfl) (fun _ _ _ h => h) (Or.inl ⟨by rfl, ?_⟩) ?_ ?_
       rotate_left
       ·
        intro w'
        go_simp
        with_reducible rfl
       rotate_left
       ·
        simp only [Act.put, List.setIfInBounds_toArray, List.set_cons_zero, List.set_cons_succ, i64_w, i32_w]
        rfl
       refine done_ (by kernel_rfl) ?_
       try go_wp2
       go_roundg k2
       case measure => have := HJ6.out; have := HK2.out; omega
       case rel => exact ⟨(wrap64 (x11_2 + 1)), (by first | rfl | (simp; done) | (simp [*]; done)), H', ⟨by have := HJ6.out; have := HK2.out; omega⟩, ⟨by (with_reducible repeat (first | apply R_alloc | apply R_drewN | apply R_drew)); exact HO_5.out⟩, ⟨by (with_reducible repeat (first | apply R_alloc | apply R_drewN | apply R_drew)); exact HO_1019002.out⟩, ⟨by (with_reducible repeat (first | apply R_alloc | apply R_drewN | apply R_drew)); exact HO_1027002.out⟩, ⟨by (with_reducible repeat (first | refine Za ?_ _ | refine Zb ?_ | refine blk_alloc ?_ _)); exact BK1018.out⟩, ⟨by (with_reducible repeat (first | refine Za ?_ _ | refine Zb ?_ | refine blk_alloc ?_ _)); exact BK1026.out⟩, ⟨by repeat (first | (with_reducible first | exact HB.out | apply Zf | apply Zd | apply Ze | refine Zg ?_ GE1018.out | refine Zg ?_ GE1026.out) | exact HB.out)⟩⟩
      rw [if_neg c65] at H
      exact absurd H (by simp)
     rw [if_neg c62] at H
     have c62b0 : decide (x11_2 ≤ t1014) = false := decide_eq_false c62
     clear c62
     replace H := Option.bind_eq_some_iff.mp H
     obtain ⟨t1041, A690, H⟩ := H
     replace H : (laws_FnAppended.l1 k2 t1014 t1015 t1019 t1041 0 t1009 t1010 t1011 t1020 t1021 t1022) = some r := H
     have A69 := Zh A690
     clear A690
     have H' := Zh H
     clear H
     have hnb70 := NB1026_1018.out
     have hnc70 := NB1018_1026.out
     have hcz71_0 : wr.cell? ⟨gb1026, 0, none⟩ = some (.int .i64 t1020) := (blk_cell BK1026.out 0).trans rfl
     have hcz71_1 : wr.cell? ⟨gb1026, 1, none⟩ = some (.int .i64 t1021) := (blk_cell BK1026.out 1).trans rfl
     have hcz71_2 : wr.cell? ⟨gb1026, 2, none⟩ = some (.slice Ao19 t1022.length co19) := (blk_cell BK1026.out 2).trans rfl
     have hfz71_0 := Zn BK1026.out 0
     have hfz71_1 := Zn BK1026.out 1
     have hfz71_2 := Zn BK1026.out 2
     go_wp2_with (first | ((with_reducible refine gate_callee (f := 27) rfl ?_); refine goesL_ (some 92) rfl rfl Try.func27 (by kernel_rfl) rfl #[.agg #[.int .i64 t1020, .int .i64 t1021, .slice Ao19 t1022.length co19], .int .i64 (wrap64 (t1014 + 1)), .int .i64 10] rfl (by (try simp only [List.map_toArray, List.map_cons, List.map_nil]); first | done | rfl | (simp only [List.length_drop, List.length_take]; rfl)) ?_; (with_reducible refine (impl_TailOf.calls k2 t1020 t1021 _ _ t1022 (wrap64 (t1014 + 1)) 10 t1041 _ ?side1 ?side2 A69.out).mono ?_); (case side1 => repeat (first | exact (R_reads' HO_1027002.out).2.2 | (with_reducible refine C_alloc ?_ _) | (with_reducible refine C_drewN ?_ _) | (with_reducible refine C_drew ?_))); (case side2 => exact (R_reads' HO_1027002.out).2.1); rintro e w72 ⟨v1042, rfl, ho0, hb⟩; refine ⟨_, rfl, ?_⟩; have n0_ := Zh (R_elder' (by (with_reducible repeat (first | apply R_alloc | apply R_drewN | apply R_drew)); exact HO_5.out) (R_base ho0) hb); have n1_ := Zh (R_elder' (by (with_reducible repeat (first | apply R_alloc | apply R_drewN | apply R_drew)); exact HO_1019002.out) (R_base ho0) hb); have n2_ := Zh (R_elder' (by (with_reducible repeat (first | apply R_alloc | apply R_drewN | apply R_drew)); exact HO_1027002.out) (R_base ho0) hb); have n3_ := Zh (R_lower (R_new' (R_new' (R_new' ho0 (R_lt (by (with_reducible repeat (first | apply R_alloc | apply R_drewN | apply R_drew)); exact HO_5.out))) (R_lt (by (with_reducible repeat (first | apply R_alloc | apply R_drewN | apply R_drew)); exact HO_1019002.out))) (R_lt (by (with_reducible repeat (first | apply R_alloc | apply R_drewN | apply R_drew)); exact HO_1027002.out))) (below_size Zs)); have n4_ := Zh (Zm (g := gb1018) (o := .cells #[.int .i64 t1009, .int .i64 t1010, .slice Ao11 t1011.length co11] 29 (0, 0)) Zk hb); have n5_ := Zh (Zm (g := gb1026) (o := .cells #[.int .i64 t1020, .int .i64 t1021, .slice Ao19 t1022.length co19] 29 (0, 0)) Zk hb); have n6_ := Zh (Zl Zs hb); clear HO_5; clear HO_1019002; clear HO_1027002; clear BK1018; clear BK1026; clear HB; have HO_5 := n0_; have HO_1019002 := n1_; have HO_1027002 := n2_; have HO1043 := n3_; have BK1018 := n4_; have BK1026 := n5_; have HB := n6_; clear n0_ n1_ n2_ n3_ n4_ n5_ n6_; (try clear hb); (try clear hb2); (try clear hk); (try clear hi); (try clear ho0)))
     go_loopg [13] k2 (fun kq v13 w' => ∃ (x13_3 : Int), v13 = .int .i64 x13_3 ∧ Aside0 (laws_FnAppended.l1 kq t1014 t1015 t1019 t1041 x13_3 t1009 t1010 t1011 t1020 t1021 t1022 = some r) ∧ Aside0 (kq ≤ k2) ∧ Aside0 (Kd.R k54 54 w' w.heap.size (fun k_ => some k_ ≠ (v1042 : Value).ownBlock ∧ some k_ ≠ ((.slice Ao11 t1011.length co11) : Value).ownBlock ∧ some k_ ≠ ((.slice Ao19 t1022.length co19) : Value).ownBlock) (.slice Ao14 t1015.length co14) t1015) ∧ Aside0 (Kd.R k54 54 w' w.heap.size (fun k_ => some k_ ≠ ((.slice Ao14 t1015.length co14) : Value).ownBlock ∧ some k_ ≠ ((.slice Ao11 t1011.length co11) : Value).ownBlock ∧ some k_ ≠ ((.slice Ao19 t1022.length co19) : Value).ownBlock) v1042 t1041) ∧ Aside0 (Kd.R k54 54 w' w.heap.size (fun k_ => some k_ ≠ ((.slice Ao14 t1015.length co14) : Value).ownBlock ∧ some k_ ≠ (v1042 : Value).ownBlock ∧ some k_ ≠ ((.slice Ao19 t1022.length co19) : Value).ownBlock) (.slice Ao11 t1011.length co11) t1011) ∧ Aside0 (Kd.R k54 54 w' w.heap.size (fun k_ => some k_ ≠ ((.slice Ao14 t1015.length co14) : Value).ownBlock ∧ some k_ ≠ (v1042 : Value).ownBlock ∧ some k_ ≠ ((.slice Ao11 t1011.length co11) : Value).ownBlock) (.slice Ao19 t1022.length co19) t1022) ∧ Aside0 (w'.heap[gb1018]? = some (.cells #[.int .i64 t1009, .int .i64 t1010, (.slice Ao11 t1011.length co11)] 29 (0, 0))) ∧ Aside0 (w'.heap[gb1026]? = some (.cells #[.int .i64 t1020, .int .i64 t1021, (.slice Ao19 t1022.length co19)] 29 (0, 0))) ∧ Aside0 (Below w.heap.size w w'))
     case atStart => exact ⟨(0), (by first | rfl | (simp; done) | (simp [*]; done)), H', ⟨Nat.le_refl _⟩, ⟨by (with_reducible repeat (first | apply R_alloc | apply R_drewN | apply R_drew)); exact R_mono HO_5.out (fun _ hk => ⟨hk.2, ⟨hk.1.1, hk.1.2⟩⟩)⟩, ⟨by (with_reducible repeat (first | apply R_alloc | apply R_drewN | apply R_drew)); exact R_mono HO1043.out (fun _ hk => ⟨hk.1.1.2, ⟨hk.1.2, hk.2⟩⟩)⟩, ⟨by (with_reducible repeat (first | apply R_alloc | apply R_drewN | apply R_drew)); exact R_mono HO_1019002.out (fun _ hk => ⟨hk.1.1, ⟨hk.2, hk.1.2⟩⟩)⟩, ⟨by (with_reducible repeat (first | apply R_alloc | apply R_drewN | apply R_drew)); exact R_mono HO_1027002.out (fun _ hk => ⟨hk.1.1, ⟨hk.2, hk.1.2⟩⟩)⟩, ⟨by (with_reducible repeat (first | refine Za ?_ _ | refine Zb ?_ | refine blk_alloc ?_ _)); exact BK1018.out⟩, ⟨by (with_reducible repeat (first | refine Za ?_ _ | refine Zb ?_ | refine blk_alloc ?_ _)); exact BK1026.out⟩, ⟨by repeat (first | (with_reducible first | exact HB.out | apply Zf | apply Zd | apply Ze | refine Zg ?_ GE1018.out | refine Zg ?_ GE1026.out) | exact HB.out)⟩⟩
     case round =>
      clear H'
      try clear c1
      try clear c2
      try clear p2
      try clear c3
      try clear c5
      try clear c6
      try clear p6
      try clear c7
      try clear c19
      try clear c20
      try clear c21
      try clear c27
      try clear c35
      try clear c36
      try clear c50
      try clear c51
      try clear c53
      try clear c57
      try clear c57b0
      try clear c58
      try clear c62
      try clear c62b0
      try clear p64
      try clear c65
      try clear c65b0
      try clear c65b1
      try clear c70
      try clear hcz52_0
      try clear hcz52_1
      try clear hcz52_2
      try clear hcz54_0
      try clear hcz54_1
      try clear hcz54_2
      try clear hcz59_0
      try clear hcz59_1
      try clear hcz59_2
      try clear hcz61_0
      try clear hcz61_1
      try clear hcz61_2
      try clear hcz71_0
      try clear hcz71_1
      try clear hcz71_2
      try clear hfz52_0
      try clear hfz52_1
      try clear hfz52_2
      try clear hfz54_0
      try clear hfz54_1
      try clear hfz54_2
      try clear hfz59_0
      try clear hfz59_1
      try clear hfz59_2
      try clear hfz61_0
      try clear hfz61_1
      try clear hfz61_2
      try clear hfz71_0
      try clear hfz71_1
      try clear hfz71_2
      try clear p2
      try clear p6
      obtain ⟨x13_3, rfl, HA, HK3, HO_5, HO_12, HO_1019002, HO_1027002, BK1018, BK1026, HB⟩ := hrel
      cases gk with
      | zero => exact absurd HA.out (by simp [laws_FnAppended.l1])
      | succ k3 =>
       have H := HA.out
       clear HA
       simp only [laws_FnAppended.l1] at H
       by_cases c73 : x13_3 < (t1015.length : Int)
       ·
        rw [if_pos c73] at H
        have c73b0 : decide (x13_3 < (t1015.length : Int)) = true := decide_eq_true c73
        clear c73
        by_cases c74 : x13_3 ≥ (t1041.length : Int)
        ·
         rw [if_pos c74] at H
         have c74b0 : decide ((t1041.length : Int) ≤ x13_3) = true := decide_eq_true c74
         clear c74
         exact absurd H (by simp)
        rw [if_neg c74] at H
        have c74b0 : decide ((t1041.length : Int) ≤ x13_3) = false := decide_eq_false c74
        clear c74
        by_cases c75 : 0 ≤ x13_3
        ·
         rw [if_pos c75] at H
         have c75b0 : decide (0 ≤ x13_3) = true := decide_eq_true c75
         clear c75
         by_cases c76 : x13_3 < (t1041.length : Int)
         ·
          rw [if_pos c76] at H
          have c76b0 : decide (x13_3 < (t1041.length : Int)) = true := decide_eq_true c76
          clear c76
          by_cases c77 : ((rd_T54 t1041 x13_3).f0) = ((rd_T54 t1015 x13_3).f0)
          ·
           rw [if_pos c77] at H
           have c77b0 : (((rd_T54 t1041 x13_3).f0) == ((rd_T54 t1015 x13_3).f0)) = true := beq_iff_eq.mpr c77
           have c77b1 : (((rd_T54 t1041 x13_3).f0) != ((rd_T54 t1015 x13_3).f0)) = false := bne_eq_false_iff_eq.mpr c77
           clear c77
           have H' := Zh H
           clear H
           try go_wp2
           have n0_ := Zh (R_drew HO_5.out)
           have n1_ := Zh (R_drew HO_12.out)
           have n2_ := Zh (R_drew HO_1019002.out)
           have n3_ := Zh (R_drew HO_1027002.out)
           have n4_ := Zh (Zb BK1018.out)
           have n5_ := Zh (Zb BK1026.out)
           have n6_ := Zh (Ze HB.out)
           clear HO_5
           clear HO_12
           clear HO_1019002
           clear HO_1027002
           clear BK1018
           clear BK1026
           clear HB
           have HO_5 := n0_
           have HO_12 := n1_
           have HO_1019002 := n2_
           have HO_1027002 := n3_
           have BK1018 := n4_
           have BK1026 := n5_
           have HB := n6_
           clear n0_ n1_ n2_ n3_ n4_ n5_ n6_
           obtain ⟨Ao79, co79, eo79⟩ := R_slice HO_12.out
           (first | subst eo79 | (injection eo79 with f1_ f2_ f3_; have f4_ := f1_.symm; have f5_ := f3_.symm; clear f1_ f2_ f3_; subst f4_; subst f5_))
           have p1044 : 0 ≤ (x13_3 : Int) := Zo
           have q1044 : x13_3 < (t1041.length : Int) := Zo
           obtain ⟨ad1044, e1044, hx1044_0, hx1044_1⟩ := at_T54 (R_reads' HO_12.out).2.2 x13_3 p1044 q1044
           cases e1044
           replace p1044 := eq_true p1044
           replace q1044 := eq_true q1044
           have p1045 : 0 ≤ (x13_3 : Int) := Zo
           have q1045 : x13_3 < (t1015.length : Int) := Zo
           obtain ⟨ad1045, e1045, hx1045_0, hx1045_1⟩ := at_T54 (R_reads' HO_5.out).2.2 x13_3 p1045 q1045
           cases e1045
           replace p1045 := eq_true p1045
           replace q1045 := eq_true q1045
           refine start_ (n := 17) (S := fun w' => w'.cell? (ad1044.add ((x13_3).toNat * 2)) = some (.int .i64 ((rd_T54 t1041 x13_3).f0)) ∧ w'.cell? ⟨(ad1044.add ((x13_3).toNat * 2)).block, (ad1044.add ((x13_3).toNat * 2)).off + 1, none⟩ = some (.string ((rd_T54 t1041 x13_3).f1)) ∧ w'.cell? (ad1045.add ((x13_3).toNat * 2)) = some (.int .i64 ((rd_T54 t1015 x13_3).f0)) ∧ w'.cell? ⟨(ad1045.add ((x13_3).toNat * 2)).block, (ad1045.add ((x13_3).toNat * 2)).off + 1, none⟩ = some (.string ((rd_T54 t1015 x13_3).f1))) (ds := []) #[false, false, false, false, false, false, false, false, false, false, false, false, false, false, false, false, false] (by kernel_rfl) rfl rfl ⟨hx1044_0, hx1044_1, hx1045_0, hx1045_1⟩ (fun hHeld => ?_); refine with_tabW laws_FnAppended.tab20 laws_FnAppended.bits20 (fun HT_ HW_ => ?_)
           generalize wr.drew = w78 at HO_5 HO_12 HO_1019002 HO_1027002 BK1018 BK1026 HB hx1044_0 hx1044_1 hx1045_0 hx1045_1 hHeld ⊢
           refine pure_ (i := 0) (N := some 99) (v := ?_) (a' := ?_) #[true, false, false, false, false, false, false, false, false, false, false, false, false, false, false, false, false] rfl rfl (any_of HT_.out (by kernel_rfl)) (fun _ _ _ h => h) (Or.inl ⟨by rfl, ?_⟩) ?_ ?_
           rotate_left
           ·
            intro w'
            go_simp
            with_reducible rfl
           rotate_left
           ·
            simp only [Act.put, List.setIfInBounds_toArray, List.set_cons_zero, List.set_cons_succ, i64_w, i32_w]
            rfl
           refine pure_ (i := 1) (N := some 100) (v := ?_) (a' := ?_) #[true, true, false, false, false, false, false, false, false, false, false, false, false, false, false, false, false] rfl rfl (any_of HT_.out (by kernel_rfl)) (fun _ _ _ h => h) (Or.inl ⟨by rfl, ?_⟩) ?_ ?_
           rotate_left
           ·
            intro w'
            go_simp
            with_reducible rfl
           rotate_left
           ·
            simp only [Act.put, List.setIfInBounds_toArray, List.set_cons_zero, List.set_cons_succ, i64_w, i32_w]
            rfl
           refine pure_ (i := 2) (N := some 101) (v := ?_) (a' := ?_) #[true, true, true, false, false, false, false, false, false, false, false, false, false, false, false, false, false] rfl rfl (any_of HT_.out (by kernel_rfl)) (fun _ _ _ h => h) (Or.inl ⟨by rfl, ?_⟩) ?_ ?_
           rotate_left
           ·
            intro w'
            go_simp
            with_reducible rfl
           rotate_left
           ·
            simp only [Act.put, List.setIfInBounds_toArray, List.set_cons_zero, List.set_cons_succ, i64_w, i32_w]
            rfl
           refine pure_ (i := 3) (N := some 102) (v := ?_) (a' := ?_) #[true, true, true, true, false, false, false, false, false, false, false, false, false, false, false, false, false] rfl rfl (any_of HT_.out (by kernel_rfl)) (fun _ _ _ h => h) (Or.inl ⟨by rfl, ?_⟩) ?_ ?_
           rotate_left
           ·
            intro w'
            go_simp
            with_reducible rfl
           rotate_left
           ·
            simp only [Act.put, List.setIfInBounds_toArray, List.set_cons_zero, List.set_cons_succ, i64_w, i32_w]
            rfl
           refine pure_ (i := 4) (N := some 103) (v := ?_) (a' := ?_) #[true, true, true, true, true, false, false, false, false, false, false, false, false, false, false, false, false] rfl rfl (any_of HT_.out (by kernel_rfl)) (fun _ _ _ h => h) (Or.inl ⟨by rfl, ?_⟩) ?_ ?_
           rotate_left
           ·
            intro w'
            go_simp
            with_reducible rfl
           rotate_left
           ·
            simp only [Act.put, List.setIfInBounds_toArray, List.set_cons_zero, List.set_cons_succ, i64_w, i32_w]
            rfl
           refine pure_ (i := 5) (N := some 104) (v := ?_) (a' := ?_) #[true, true, true, true, true, true, false, false, false, false, false, false, false, false, false, false, false] rfl rfl (any_of HT_.out (by kernel_rfl)) (fun _ _ _ h => h) (Or.inl ⟨by rfl, ?_⟩) ?_ ?_
           rotate_left
           ·
            intro w'
            go_simp
            with_reducible rfl
           rotate_left
           ·
            simp only [Act.put, List.setIfInBounds_toArray, List.set_cons_zero, List.set_cons_succ, i64_w, i32_w]
            rfl
           refine pure_ (i := 6) (N := some 105) (v := ?_) (a' := ?_) #[true, true, true, true, true, true, true, false, false, false, false, false, false, false, false, false, false] rfl rfl (any_of HT_.out (by kernel_rfl)) (fun _ _ _ h => h) (Or.inl ⟨by rfl, ?_⟩) ?_ ?_
           rotate_left
           ·
            intro w'
            go_simp
            with_reducible rfl
           rotate_left
           ·
            simp only [Act.put, List.setIfInBounds_toArray, List.set_cons_zero, List.set_cons_succ, i64_w, i32_w]
            rfl
           refine pure_ (i := 7) (N := some 106) (v := ?_) (a' := ?_) #[true, true, true, true, true, true, true, true, false, false, false, false, false, false, false, false, false] rfl rfl (any_of HT_.out (by kernel_rfl)) (fun _ _ _ h => h) (Or.inl ⟨by rfl, ?_⟩) ?_ ?_
           rotate_left
           ·
            intro w'
            go_simp
            with_reducible rfl
           rotate_left
           ·
            simp only [Act.put, List.setIfInBounds_toArray, List.set_cons_zero, List.set_cons_succ, i64_w, i32_w]
            rfl
           refine pure_ (i := 8) (N := some 107) (v := ?_) (a' := ?_) #[true, true, true, true, true, true, true, true, true, false, false, false, false, false, false, false, false] rfl rfl (any_of HT_.out (by kernel_rfl)) (fun _ _ _ h => h) (Or.inl ⟨by rfl, ?_⟩) ?_ ?_
           rotate_left
           ·
            intro w'
            go_simp
            with_reducible rfl
           rotate_left
           ·
            simp only [Act.put, List.setIfInBounds_toArray, List.set_cons_zero, List.set_cons_succ, i64_w, i32_w]
            rfl
           refine pure_ (i := 10) (N := some 109) (v := ?_) (a' := ?_) #[true, true, true, true, true, true, true, true, true, false, true, false, false, false, false, false, false] rfl rfl (any_of HT_.out (by kernel_rfl)) (fun _ _ _ h => h) (Or.inl ⟨by rfl, ?_⟩) ?_ ?_
           rotate_left
           ·
            intro w'
            go_simp
            with_reducible rfl
           rotate_left
           ·
            simp only [Act.put, List.setIfInBounds_toArray, List.set_cons_zero, List.set_cons_succ, i64_w, i32_w]
            rfl
           refine pure_ (i := 11) (N := some 110) (v := ?_) (a' := ?_) #[true, true, true, true, true, true, true, true, true, false, true, true, false, false, false, false, false] rfl rfl (any_of HT_.out (by kernel_rfl)) (fun _ _ _ h => h) (Or.inl ⟨by rfl, ?_⟩) ?_ ?_
           rotate_left
           ·
            intro w'
            go_simp
            with_reducible rfl
           rotate_left
           ·
            simp only [Act.put, List.setIfInBounds_toArray, List.set_cons_zero, List.set_cons_succ, i64_w, i32_w]
            rfl
           refine pure_ (i := 12) (N := some 111) (v := ?_) (a' := ?_) #[true, true, true, true, true, true, true, true, true, false, true, true, true, false, false, false, false] rfl rfl (any_of HT_.out (by kernel_rfl)) (fun _ _ _ h => h) (Or.inl ⟨by rfl, ?_⟩) ?_ ?_
           rotate_left
           ·
            intro w'
            go_simp
            with_reducible rfl
           rotate_left
           ·
            simp only [Act.put, List.setIfInBounds_toArray, List.set_cons_zero, List.set_cons_succ, i64_w, i32_w]
            rfl
           refine pure_ (i := 13) (N := some 112) (v := ?_) (a' := ?_) #[true, true, true, true, true, true, true, true, true, false, true, true, true, true, false, false, false] rfl rfl (any_of HT_.out (by kernel_rfl)) (fun _ _ _ h => h) (Or.inl ⟨by rfl, ?_⟩) ?_ ?_
           rotate_left
           ·
            intro w'
            go_simp
            with_reducible rfl
           rotate_left
           ·
            simp only [Act.put, List.setIfInBounds_toArray, List.set_cons_zero, List.set_cons_succ, i64_w, i32_w]
            rfl
           refine take_ (i := 9) (N := some 108) (v := ?_) (a' := ?_) #[true, true, true, true, true, true, true, true, true, true, true, true, true, true, false, false, false] rfl rfl (take_ofW HT_.out HW_.out (by kernel_rfl)) (fun _ _ _ h => h) (Or.inl ⟨by rfl, ?_⟩) hHeld ?_ ?_
           rotate_left
           ·
            rintro w' ⟨s0, s1, s2, s3⟩
            go_simp
            with_reducible rfl
           rotate_left
           ·
            simp only [Act.put, List.setIfInBounds_toArray, List.set_cons_zero, List.set_cons_succ, i64_w, i32_w]
            rfl
           refine take_ (i := 14) (N := some 113) (v := ?_) (a' := ?_) #[true, true, true, true, true, true, true, true, true, true, true, true, true, true, true, false, false] rfl rfl (take_ofW HT_.out HW_.out (by kernel_rfl)) (fun _ _ _ h => h) (Or.inl ⟨by rfl, ?_⟩) hHeld ?_ ?_
           rotate_left
           ·
            rintro w' ⟨s0, s1, s2, s3⟩
            go_simp
            with_reducible rfl
           rotate_left
           ·
            simp only [Act.put, List.setIfInBounds_toArray, List.set_cons_zero, List.set_cons_succ, i64_w, i32_w]
            rfl
           refine pure_ (i := 15) (N := some 114) (v := ?_) (a' := ?_) #[true, true, true, true, true, true, true, true, true, true, true, true, true, true, true, true, false] rfl rfl (any_of HT_.out (by kernel_rfl)) (fun _ _ _ h => h) (Or.inl ⟨by rfl, ?_⟩) ?_ ?_
           rotate_left
           ·
            intro w'
            go_simp
            with_reducible rfl
           rotate_left
           ·
            simp only [Act.put, List.setIfInBounds_toArray, List.set_cons_zero, List.set_cons_succ, i64_w, i32_w]
            rfl
           refine pure_ (i := 16) (N := some 115) (v := ?_) (a' := ?_) #[true, true, true, true, true, true, true, true, true, true, true, true, true, true, true, true, true] rfl rfl (any_of HT_.out (by kernel_rfl)) (fun _ _ _ h => h) (Or.inl ⟨by rfl, ?_⟩) ?_ ?_
           rotate_left
           ·
            intro w'
            go_simp
            with_reducible rfl
           rotate_left
           ·
            simp only [Act.put, List.setIfInBounds_toArray, List.set_cons_zero, List.set_cons_succ, i64_w, i32_w]
            rfl
           refine done_ (done_of HT_.out (by kernel_rfl)) ?_
           try go_wp2
           go_roundg k3
           case measure => have := HJ6.out; have := HK2.out; have := HK3.out; omega
           case rel => exact ⟨(wrap64 (x13_3 + 1)), (by first | rfl | (simp; done) | (simp [*]; done)), H', ⟨by have := HJ6.out; have := HK2.out; have := HK3.out; omega⟩, ⟨by (with_reducible repeat (first | apply R_alloc | apply R_drewN | apply R_drew)); exact HO_5.out⟩, ⟨by (with_reducible repeat (first | apply R_alloc | apply R_drewN | apply R_drew)); exact HO_12.out⟩, ⟨by (with_reducible repeat (first | apply R_alloc | apply R_drewN | apply R_drew)); exact HO_1019002.out⟩, ⟨by (with_reducible repeat (first | apply R_alloc | apply R_drewN | apply R_drew)); exact HO_1027002.out⟩, ⟨by (with_reducible repeat (first | refine Za ?_ _ | refine Zb ?_ | refine blk_alloc ?_ _)); exact BK1018.out⟩, ⟨by (with_reducible repeat (first | refine Za ?_ _ | refine Zb ?_ | refine blk_alloc ?_ _)); exact BK1026.out⟩, ⟨by repeat (first | (with_reducible first | exact HB.out | apply Zf | apply Zd | apply Ze | refine Zg ?_ GE1018.out | refine Zg ?_ GE1026.out) | exact HB.out)⟩⟩
          rw [if_neg c77] at H
          exact absurd H (by simp)
         rw [if_neg c76] at H
         exact absurd H (by simp)
        rw [if_neg c75] at H
        exact absurd H (by simp)
       rw [if_neg c73] at H
       have c73b0 : decide (x13_3 < (t1015.length : Int)) = false := decide_eq_false c73
       clear c73
       replace H := Option.bind_eq_some_iff.mp H
       obtain ⟨⟨t1046, t1047, t1048, t1051⟩, A800, H⟩ := H
       replace H : (if t1051 = true then ((laws_sameLog.f k3 t1046 t1047 t1048 t1020 t1021 t1022).bind fun t1053 => (if t1053 = true then ((impl_Agree.f k3 t1020 t1021 t1022 t1009 t1010 t1011).bind fun t1054 => (if t1054 ≥ t1014 then ((impl_LastIndex.f k3 t1020 t1021 t1022).bind fun t1055 => ((impl_TermAt.f k3 t1020 t1021 t1022 t1055).bind fun t1056 => ((impl_LastIndex.f k3 t1020 t1021 t1022).bind fun t1057 => ((impl_UpToDate.f k3 t1020 t1021 t1022 t1056 t1057).bind fun t1058 => (some t1058))))) else (none))) else (none))) else (none)) = some r := H
       have A80 := Zh A800
       clear A800
       by_cases c81 : t1051 = true
       ·
        subst c81
        have H1 : ((laws_sameLog.f k3 t1046 t1047 t1048 t1020 t1021 t1022).bind fun t1053 => (if t1053 = true then ((impl_Agree.f k3 t1020 t1021 t1022 t1009 t1010 t1011).bind fun t1054 => (if t1054 ≥ t1014 then ((impl_LastIndex.f k3 t1020 t1021 t1022).bind fun t1055 => ((impl_TermAt.f k3 t1020 t1021 t1022 t1055).bind fun t1056 => ((impl_LastIndex.f k3 t1020 t1021 t1022).bind fun t1057 => ((impl_UpToDate.f k3 t1020 t1021 t1022 t1056 t1057).bind fun t1058 => (some t1058))))) else (none))) else (none))) = some r := by rw [if_pos rfl] at H; exact H
        clear H
        have H := H1
        clear H1
        replace H := Option.bind_eq_some_iff.mp H
        obtain ⟨t1053, A820, H⟩ := H
        replace H : (if t1053 = true then ((impl_Agree.f k3 t1020 t1021 t1022 t1009 t1010 t1011).bind fun t1054 => (if t1054 ≥ t1014 then ((impl_LastIndex.f k3 t1020 t1021 t1022).bind fun t1055 => ((impl_TermAt.f k3 t1020 t1021 t1022 t1055).bind fun t1056 => ((impl_LastIndex.f k3 t1020 t1021 t1022).bind fun t1057 => ((impl_UpToDate.f k3 t1020 t1021 t1022 t1056 t1057).bind fun t1058 => (some t1058))))) else (none))) else (none)) = some r := H
        have A82 := Zh A820
        clear A820
        by_cases c83 : t1053 = true
        ·
         subst c83
         have H1 : ((impl_Agree.f k3 t1020 t1021 t1022 t1009 t1010 t1011).bind fun t1054 => (if t1054 ≥ t1014 then ((impl_LastIndex.f k3 t1020 t1021 t1022).bind fun t1055 => ((impl_TermAt.f k3 t1020 t1021 t1022 t1055).bind fun t1056 => ((impl_LastIndex.f k3 t1020 t1021 t1022).bind fun t1057 => ((impl_UpToDate.f k3 t1020 t1021 t1022 t1056 t1057).bind fun t1058 => (some t1058))))) else (none))) = some r := by rw [if_pos rfl] at H; exact H
         clear H
         have H := H1
         clear H1
         replace H := Option.bind_eq_some_iff.mp H
         obtain ⟨t1054, A840, H⟩ := H
         replace H : (if t1054 ≥ t1014 then ((impl_LastIndex.f k3 t1020 t1021 t1022).bind fun t1055 => ((impl_TermAt.f k3 t1020 t1021 t1022 t1055).bind fun t1056 => ((impl_LastIndex.f k3 t1020 t1021 t1022).bind fun t1057 => ((impl_UpToDate.f k3 t1020 t1021 t1022 t1056 t1057).bind fun t1058 => (some t1058))))) else (none)) = some r := H
         have A84 := Zh A840
         clear A840
         by_cases c85 : t1054 ≥ t1014
         ·
          rw [if_pos c85] at H
          have c85b0 : decide (t1014 ≤ t1054) = true := decide_eq_true c85
          clear c85
          replace H := Option.bind_eq_some_iff.mp H
          obtain ⟨t1055, A860, H⟩ := H
          replace H : ((impl_TermAt.f k3 t1020 t1021 t1022 t1055).bind fun t1056 => ((impl_LastIndex.f k3 t1020 t1021 t1022).bind fun t1057 => ((impl_UpToDate.f k3 t1020 t1021 t1022 t1056 t1057).bind fun t1058 => (some t1058)))) = some r := H
          have A86 := Zh A860
          clear A860
          replace H := Option.bind_eq_some_iff.mp H
          obtain ⟨t1056, A870, H⟩ := H
          replace H : ((impl_LastIndex.f k3 t1020 t1021 t1022).bind fun t1057 => ((impl_UpToDate.f k3 t1020 t1021 t1022 t1056 t1057).bind fun t1058 => (some t1058))) = some r := H
          have A87 := Zh A870
          clear A870
          replace H := Option.bind_eq_some_iff.mp H
          obtain ⟨t1057, A880, H⟩ := H
          replace H : ((impl_UpToDate.f k3 t1020 t1021 t1022 t1056 t1057).bind fun t1058 => (some t1058)) = some r := H
          have A88 := Zh A880
          clear A880
          replace H := Option.bind_eq_some_iff.mp H
          obtain ⟨t1058, A890, H⟩ := H
          replace H : (some t1058) = some r := H
          have A89 := Zh A890
          clear A890
          obtain rfl := Option.some.inj H
          have hnb90 := NB1026_1018.out
          have hnc90 := NB1018_1026.out
          have hcz91_0 : wr.cell? ⟨gb1026, 0, none⟩ = some (.int .i64 t1020) := (blk_cell BK1026.out 0).trans rfl
          have hcz91_1 : wr.cell? ⟨gb1026, 1, none⟩ = some (.int .i64 t1021) := (blk_cell BK1026.out 1).trans rfl
          have hcz91_2 : wr.cell? ⟨gb1026, 2, none⟩ = some (.slice Ao19 t1022.length co19) := (blk_cell BK1026.out 2).trans rfl
          have hfz91_0 := Zn BK1026.out 0
          have hfz91_1 := Zn BK1026.out 1
          have hfz91_2 := Zn BK1026.out 2
          try go_wp2_with (first | ((with_reducible refine gate_callee (f := 38) rfl ?_); refine goesL_ (some 121) rfl rfl Try.func38 (by kernel_rfl) rfl #[.agg #[.int .i64 t1020, .int .i64 t1021, .slice Ao19 t1022.length co19], .int .i64 t1014, .int .i64 t1019, .slice Ao14 t1015.length co14] rfl (by (try simp only [List.map_toArray, List.map_cons, List.map_nil]); first | done | rfl | (simp only [List.length_drop, List.length_take]; rfl)) ?_; (with_reducible refine (impl_AppendTo.calls k3 t1020 t1021 _ _ t1022 t1014 t1019 _ _ t1015 t1046 t1047 t1048 true _ ?side1 ?side2 ?side3 ?side4 A80.out).mono ?_); (case side1 => repeat (first | exact (R_reads' HO_1027002.out).2.2 | (with_reducible refine C_alloc ?_ _) | (with_reducible refine C_drewN ?_ _) | (with_reducible refine C_drew ?_))); (case side2 => exact (R_reads' HO_1027002.out).2.1); (case side3 => repeat (first | exact (R_reads' HO_5.out).2.2 | (with_reducible refine C_alloc ?_ _) | (with_reducible refine C_drewN ?_ _) | (with_reducible refine C_drew ?_))); (case side4 => exact (R_reads' HO_5.out).2.1); rintro e w92 ⟨v1049, rfl, ho0, hb⟩; refine ⟨_, rfl, ?_⟩; have n0_ := Zh (R_elder' (by (with_reducible repeat (first | apply R_alloc | apply R_drewN | apply R_drew)); exact HO_5.out) (R_base ho0) hb); have n1_ := Zh (R_elder' (by (with_reducible repeat (first | apply R_alloc | apply R_drewN | apply R_drew)); exact HO_12.out) (R_base ho0) hb); have n2_ := Zh (R_elder' (by (with_reducible repeat (first | apply R_alloc | apply R_drewN | apply R_drew)); exact HO_1019002.out) (R_base ho0) hb); have n3_ := Zh (R_elder' (by (with_reducible repeat (first | apply R_alloc | apply R_drewN | apply R_drew)); exact HO_1027002.out) (R_base ho0) hb); have n4_ := Zh (R_lower (R_new' (R_new' (R_new' (R_new' ho0 (R_lt (by (with_reducible repeat (first | apply R_alloc | apply R_drewN | apply R_drew)); exact HO_5.out))) (R_lt (by (with_reducible repeat (first | apply R_alloc | apply R_drewN | apply R_drew)); exact HO_12.out))) (R_lt (by (with_reducible repeat (first | apply R_alloc | apply R_drewN | apply R_drew)); exact HO_1019002.out))) (R_lt (by (with_reducible repeat (first | apply R_alloc | apply R_drewN | apply R_drew)); exact HO_1027002.out))) (below_size Zs)); have n5_ := Zh (Zm (g := gb1018) (o := .cells #[.int .i64 t1009, .int .i64 t1010, .slice Ao11 t1011.length co11] 29 (0, 0)) Zk hb); have n6_ := Zh (Zm (g := gb1026) (o := .cells #[.int .i64 t1020, .int .i64 t1021, .slice Ao19 t1022.length co19] 29 (0, 0)) Zk hb); have n7_ := Zh (Zl Zs hb); clear HO_5; clear HO_12; clear HO_1019002; clear HO_1027002; clear BK1018; clear BK1026; clear HB; have HO_5 := n0_; have HO_12 := n1_; have HO_1019002 := n2_; have HO_1027002 := n3_; have HO1050 := n4_; have BK1018 := n5_; have BK1026 := n6_; have HB := n7_; clear n0_ n1_ n2_ n3_ n4_ n5_ n6_ n7_; (try clear hb); (try clear hb2); (try clear hk); (try clear hi); (try clear ho0)) | ((with_reducible refine gate_dst (N := 14) rfl ?_); refine box_event ?hg (N := 14) ?hd (cs := #[.int .i64 0, .int .i64 0, .slice none 0 0]) (t := 29) ?hr ?_; (case hd => rfl); (case hg => rfl); (case hr => first | (go_simp; done) | (go_simp; rfl)); intro gb1052 hg w93 hbox hb; have n0_ := Zh (R_below (by (with_reducible repeat (first | apply R_alloc | apply R_drewN | apply R_drew)); exact HO_5.out) hb); have n1_ := Zh (R_below (by (with_reducible repeat (first | apply R_alloc | apply R_drewN | apply R_drew)); exact HO_12.out) hb); have n2_ := Zh (R_below (by (with_reducible repeat (first | apply R_alloc | apply R_drewN | apply R_drew)); exact HO_1019002.out) hb); have n3_ := Zh (R_below (by (with_reducible repeat (first | apply R_alloc | apply R_drewN | apply R_drew)); exact HO_1027002.out) hb); have n4_ := Zh (R_below (by (with_reducible repeat (first | apply R_alloc | apply R_drewN | apply R_drew)); exact HO1050.out) hb); have n5_ := Zh (Zm (g := gb1018) (o := .cells #[.int .i64 t1009, .int .i64 t1010, .slice Ao11 t1011.length co11] 29 (0, 0)) Zk hb); have n6_ := Zh (Zm (g := gb1026) (o := .cells #[.int .i64 t1020, .int .i64 t1021, .slice Ao19 t1022.length co19] 29 (0, 0)) Zk hb); have n7_ := Zh (Zl Zs hb); have n8_ := Zh (hbox); have n9_ := Zh ((by rw [hg]; exact (below_size Zs) : w.heap.size ≤ gb1052)); have n10_ := Zh ((by rw [hg]; exact (below_size Zs) : w.heap.size ≤ gb1052)); have n11_ := Zh ((by rw [hg]; exact Nat.ne_of_lt (blk_lt (g := gb1018) (o := .cells #[.int .i64 t1009, .int .i64 t1010, .slice Ao11 t1011.length co11] 29 (0, 0)) Zk) : gb1018 ≠ gb1052)); have n12_ := Zh ((by rw [hg]; exact Nat.ne_of_gt (blk_lt (g := gb1018) (o := .cells #[.int .i64 t1009, .int .i64 t1010, .slice Ao11 t1011.length co11] 29 (0, 0)) Zk) : gb1052 ≠ gb1018)); have n13_ := Zh ((by rw [hg]; exact Nat.ne_of_lt (blk_lt (g := gb1026) (o := .cells #[.int .i64 t1020, .int .i64 t1021, .slice Ao19 t1022.length co19] 29 (0, 0)) Zk) : gb1026 ≠ gb1052)); have n14_ := Zh ((by rw [hg]; exact Nat.ne_of_gt (blk_lt (g := gb1026) (o := .cells #[.int .i64 t1020, .int .i64 t1021, .slice Ao19 t1022.length co19] 29 (0, 0)) Zk) : gb1052 ≠ gb1026)); clear HO_5; clear HO_12; clear HO_1019002; clear HO_1027002; clear HO1050; clear BK1018; clear BK1026; clear HB; have HO_5 := n0_; have HO_12 := n1_; have HO_1019002 := n2_; have HO_1027002 := n3_; have HO1050 := n4_; have BK1018 := n5_; have BK1026 := n6_; have HB := n7_; have BK1052 := n8_; have GW1052 := n9_; have GE1052 := n10_; have NB1018_1052 := n11_; have NB1052_1018 := n12_; have NB1026_1052 := n13_; have NB1052_1026 := n14_; clear n0_ n1_ n2_ n3_ n4_ n5_ n6_ n7_ n8_ n9_ n10_ n11_ n12_ n13_ n14_; clear hb hbox hg; have hnb94 := NB1052_1018.out; have hnc94 := NB1018_1052.out; have hnb95 := NB1052_1026.out; have hnc95 := NB1026_1052.out; have hcz96_0 : w93.cell? ⟨gb1052, 0, none⟩ = some (.int .i64 0) := (blk_cell BK1052.out 0).trans rfl; have hcz96_1 : w93.cell? ⟨gb1052, 1, none⟩ = some (.int .i64 0) := (blk_cell BK1052.out 1).trans rfl; have hcz96_2 : w93.cell? ⟨gb1052, 2, none⟩ = some (.slice none 0 0) := (blk_cell BK1052.out 2).trans rfl; have hfz96_0 := Zn BK1052.out 0; have hfz96_1 := Zn BK1052.out 1; have hfz96_2 := Zn BK1052.out 2; obtain ⟨Ao97, co97, eo97⟩ := R_slice HO1050.out; subst eo97))
          have n0_ : Aside0 (Kd.R k54 54 (((w93.setCell ⟨gb1052, 0, none⟩ (.int .i64 t1046)).setCell ⟨gb1052, 1, none⟩ (.int .i64 t1047)).setCell ⟨gb1052, 2, none⟩ (.slice Ao97 t1048.length co97)) w.heap.size (fun k_ => some k_ ≠ (v1042 : Value).ownBlock ∧ some k_ ≠ (.slice Ao11 t1011.length co11 : Value).ownBlock ∧ some k_ ≠ (.slice Ao19 t1022.length co19 : Value).ownBlock ∧ some k_ ≠ (.slice Ao97 t1048.length co97 : Value).ownBlock) (.slice Ao14 t1015.length co14) t1015) := ⟨by (with_reducible repeat (first | apply R_alloc | apply R_drewN | apply R_drew)); exact R_mono (R_far (p := ⟨gb1052, 2, none⟩) (R_far (p := ⟨gb1052, 1, none⟩) (R_far (p := ⟨gb1052, 0, none⟩) (R_types HO_5.out BK1052.out (by decide)) (fun _ hk => hk.2) (.int .i64 t1046)) (fun _ hk => hk.2) (.int .i64 t1047)) (fun _ hk => hk.2) (.slice Ao97 t1048.length co97)) (fun _ hk => ⟨hk.1.1.1, ⟨hk.1.1.2.1, ⟨hk.1.1.2.2, hk.1.2⟩⟩⟩)⟩
          have n1_ : Aside0 (Kd.R k54 54 (((w93.setCell ⟨gb1052, 0, none⟩ (.int .i64 t1046)).setCell ⟨gb1052, 1, none⟩ (.int .i64 t1047)).setCell ⟨gb1052, 2, none⟩ (.slice Ao97 t1048.length co97)) w.heap.size (fun k_ => some k_ ≠ (.slice Ao14 t1015.length co14 : Value).ownBlock ∧ some k_ ≠ (.slice Ao11 t1011.length co11 : Value).ownBlock ∧ some k_ ≠ (.slice Ao19 t1022.length co19 : Value).ownBlock ∧ some k_ ≠ (.slice Ao97 t1048.length co97 : Value).ownBlock) v1042 t1041) := ⟨by (with_reducible repeat (first | apply R_alloc | apply R_drewN | apply R_drew)); exact R_mono (R_far (p := ⟨gb1052, 2, none⟩) (R_far (p := ⟨gb1052, 1, none⟩) (R_far (p := ⟨gb1052, 0, none⟩) (R_types HO_12.out BK1052.out (by decide)) (fun _ hk => hk.2) (.int .i64 t1046)) (fun _ hk => hk.2) (.int .i64 t1047)) (fun _ hk => hk.2) (.slice Ao97 t1048.length co97)) (fun _ hk => ⟨hk.1.1.1, ⟨hk.1.1.2.1, ⟨hk.1.1.2.2, hk.1.2⟩⟩⟩)⟩
          have n2_ : Aside0 (Kd.R k54 54 (((w93.setCell ⟨gb1052, 0, none⟩ (.int .i64 t1046)).setCell ⟨gb1052, 1, none⟩ (.int .i64 t1047)).setCell ⟨gb1052, 2, none⟩ (.slice Ao97 t1048.length co97)) w.heap.size (fun k_ => some k_ ≠ (.slice Ao14 t1015.length co14 : Value).ownBlock ∧ some k_ ≠ (v1042 : Value).ownBlock ∧ some k_ ≠ (.slice Ao19 t1022.length co19 : Value).ownBlock ∧ some k_ ≠ (.slice Ao97 t1048.length co97 : Value).ownBlock) (.slice Ao11 t1011.length co11) t1011) := ⟨by (with_reducible repeat (first | apply R_alloc | apply R_drewN | apply R_drew)); exact R_mono (R_far (p := ⟨gb1052, 2, none⟩) (R_far (p := ⟨gb1052, 1, none⟩) (R_far (p := ⟨gb1052, 0, none⟩) (R_types HO_1019002.out BK1052.out (by decide)) (fun _ hk => hk.2) (.int .i64 t1046)) (fun _ hk => hk.2) (.int .i64 t1047)) (fun _ hk => hk.2) (.slice Ao97 t1048.length co97)) (fun _ hk => ⟨hk.1.1.1, ⟨hk.1.1.2.1, ⟨hk.1.1.2.2, hk.1.2⟩⟩⟩)⟩
          have n3_ : Aside0 (Kd.R k54 54 (((w93.setCell ⟨gb1052, 0, none⟩ (.int .i64 t1046)).setCell ⟨gb1052, 1, none⟩ (.int .i64 t1047)).setCell ⟨gb1052, 2, none⟩ (.slice Ao97 t1048.length co97)) w.heap.size (fun k_ => some k_ ≠ (.slice Ao14 t1015.length co14 : Value).ownBlock ∧ some k_ ≠ (v1042 : Value).ownBlock ∧ some k_ ≠ (.slice Ao11 t1011.length co11 : Value).ownBlock ∧ some k_ ≠ (.slice Ao97 t1048.length co97 : Value).ownBlock) (.slice Ao19 t1022.length co19) t1022) := ⟨by (with_reducible repeat (first | apply R_alloc | apply R_drewN | apply R_drew)); exact R_mono (R_far (p := ⟨gb1052, 2, none⟩) (R_far (p := ⟨gb1052, 1, none⟩) (R_far (p := ⟨gb1052, 0, none⟩) (R_types HO_1027002.out BK1052.out (by decide)) (fun _ hk => hk.2) (.int .i64 t1046)) (fun _ hk => hk.2) (.int .i64 t1047)) (fun _ hk => hk.2) (.slice Ao97 t1048.length co97)) (fun _ hk => ⟨hk.1.1.1, ⟨hk.1.1.2.1, ⟨hk.1.1.2.2, hk.1.2⟩⟩⟩)⟩
          have n4_ : Aside0 (Kd.R k54 54 (((w93.setCell ⟨gb1052, 0, none⟩ (.int .i64 t1046)).setCell ⟨gb1052, 1, none⟩ (.int .i64 t1047)).setCell ⟨gb1052, 2, none⟩ (.slice Ao97 t1048.length co97)) w.heap.size (fun k_ => some k_ ≠ (.slice Ao14 t1015.length co14 : Value).ownBlock ∧ some k_ ≠ (v1042 : Value).ownBlock ∧ some k_ ≠ (.slice Ao11 t1011.length co11 : Value).ownBlock ∧ some k_ ≠ (.slice Ao19 t1022.length co19 : Value).ownBlock) (.slice Ao97 t1048.length co97) t1048) := ⟨by (with_reducible repeat (first | apply R_alloc | apply R_drewN | apply R_drew)); exact R_mono (R_far (p := ⟨gb1052, 2, none⟩) (R_far (p := ⟨gb1052, 1, none⟩) (R_far (p := ⟨gb1052, 0, none⟩) (R_types HO1050.out BK1052.out (by decide)) (fun _ hk => hk.2) (.int .i64 t1046)) (fun _ hk => hk.2) (.int .i64 t1047)) (fun _ hk => hk.2) (.slice Ao97 t1048.length co97)) (fun _ hk => ⟨hk.1.1.1.1.2, ⟨hk.1.1.1.2, ⟨hk.1.1.2, hk.1.2⟩⟩⟩)⟩
          have n5_ : Aside0 ((((w93.setCell ⟨gb1052, 0, none⟩ (.int .i64 t1046)).setCell ⟨gb1052, 1, none⟩ (.int .i64 t1047)).setCell ⟨gb1052, 2, none⟩ (.slice Ao97 t1048.length co97)).heap[gb1018]? = some (.cells #[.int .i64 t1009, .int .i64 t1010, .slice Ao11 t1011.length co11] 29 (0, 0))) := ⟨by (with_reducible repeat (first | refine Za ?_ _ | refine Zb ?_ | refine blk_alloc ?_ _)); refine Zp ?_ NB1018_1052.out _; (with_reducible repeat (first | refine Za ?_ _ | refine Zb ?_ | refine blk_alloc ?_ _)); refine Zp ?_ NB1018_1052.out _; (with_reducible repeat (first | refine Za ?_ _ | refine Zb ?_ | refine blk_alloc ?_ _)); refine Zp ?_ NB1018_1052.out _; (with_reducible repeat (first | refine Za ?_ _ | refine Zb ?_ | refine blk_alloc ?_ _)); exact BK1018.out⟩
          have n6_ : Aside0 ((((w93.setCell ⟨gb1052, 0, none⟩ (.int .i64 t1046)).setCell ⟨gb1052, 1, none⟩ (.int .i64 t1047)).setCell ⟨gb1052, 2, none⟩ (.slice Ao97 t1048.length co97)).heap[gb1026]? = some (.cells #[.int .i64 t1020, .int .i64 t1021, .slice Ao19 t1022.length co19] 29 (0, 0))) := ⟨by (with_reducible repeat (first | refine Za ?_ _ | refine Zb ?_ | refine blk_alloc ?_ _)); refine Zp ?_ NB1026_1052.out _; (with_reducible repeat (first | refine Za ?_ _ | refine Zb ?_ | refine blk_alloc ?_ _)); refine Zp ?_ NB1026_1052.out _; (with_reducible repeat (first | refine Za ?_ _ | refine Zb ?_ | refine blk_alloc ?_ _)); refine Zp ?_ NB1026_1052.out _; (with_reducible repeat (first | refine Za ?_ _ | refine Zb ?_ | refine blk_alloc ?_ _)); exact BK1026.out⟩
          have n7_ : Aside0 ((((w93.setCell ⟨gb1052, 0, none⟩ (.int .i64 t1046)).setCell ⟨gb1052, 1, none⟩ (.int .i64 t1047)).setCell ⟨gb1052, 2, none⟩ (.slice Ao97 t1048.length co97)).heap[gb1052]? = some (.cells #[.int .i64 t1046, .int .i64 t1047, .slice Ao97 t1048.length co97] 29 (0, 0))) := ⟨by (with_reducible repeat (first | refine Za ?_ _ | refine Zb ?_ | refine blk_alloc ?_ _)); refine blk_put (cs := #[.int .i64 t1046, .int .i64 t1047, .slice none 0 0]) ?_ 2 _ rfl; (with_reducible repeat (first | refine Za ?_ _ | refine Zb ?_ | refine blk_alloc ?_ _)); refine blk_put (cs := #[.int .i64 t1046, .int .i64 0, .slice none 0 0]) ?_ 1 _ rfl; (with_reducible repeat (first | refine Za ?_ _ | refine Zb ?_ | refine blk_alloc ?_ _)); refine blk_put (cs := #[.int .i64 0, .int .i64 0, .slice none 0 0]) ?_ 0 _ rfl; (with_reducible repeat (first | refine Za ?_ _ | refine Zb ?_ | refine blk_alloc ?_ _)); exact BK1052.out⟩
          have n8_ : Aside0 (Below w.heap.size w (((w93.setCell ⟨gb1052, 0, none⟩ (.int .i64 t1046)).setCell ⟨gb1052, 1, none⟩ (.int .i64 t1047)).setCell ⟨gb1052, 2, none⟩ (.slice Ao97 t1048.length co97))) := ⟨by repeat (first | (with_reducible first | exact HB.out | apply Zf | apply Zd | apply Ze | refine Zg ?_ GE1018.out | refine Zg ?_ GE1026.out | refine Zg ?_ GE1052.out) | exact HB.out)⟩
          (try clear HO_5)
          (try clear HO_12)
          (try clear HO_1019002)
          (try clear HO_1027002)
          (try clear HO1050)
          (try clear BK1018)
          (try clear BK1026)
          (try clear BK1052)
          (try clear HB)
          generalize (((w93.setCell ⟨gb1052, 0, none⟩ (.int .i64 t1046)).setCell ⟨gb1052, 1, none⟩ (.int .i64 t1047)).setCell ⟨gb1052, 2, none⟩ (.slice Ao97 t1048.length co97)) = w98 at n0_ n1_ n2_ n3_ n4_ n5_ n6_ n7_ n8_ ⊢
          have HO_5 := n0_
          have HO_12 := n1_
          have HO_1019002 := n2_
          have HO_1027002 := n3_
          have HO1050 := n4_
          have BK1018 := n5_
          have BK1026 := n6_
          have BK1052 := n7_
          have HB := n8_
          clear n0_ n1_ n2_ n3_ n4_ n5_ n6_ n7_ n8_
          have n0_ := Zh (R_drew HO_5.out)
          have n1_ := Zh (R_drew HO_12.out)
          have n2_ := Zh (R_drew HO_1019002.out)
          have n3_ := Zh (R_drew HO_1027002.out)
          have n4_ := Zh (R_drew HO1050.out)
          have n5_ := Zh (Zb BK1018.out)
          have n6_ := Zh (Zb BK1026.out)
          have n7_ := Zh (Zb BK1052.out)
          have n8_ := Zh (Ze HB.out)
          clear HO_5
          clear HO_12
          clear HO_1019002
          clear HO_1027002
          clear HO1050
          clear BK1018
          clear BK1026
          clear BK1052
          clear HB
          have HO_5 := n0_
          have HO_12 := n1_
          have HO_1019002 := n2_
          have HO_1027002 := n3_
          have HO1050 := n4_
          have BK1018 := n5_
          have BK1026 := n6_
          have BK1052 := n7_
          have HB := n8_
          clear n0_ n1_ n2_ n3_ n4_ n5_ n6_ n7_ n8_
          refine start_ (n := 24) (S := fun w' => w'.cell? ⟨gb1052, 0, none⟩ = some (.int .i64 t1046) ∧ w'.cell? ⟨gb1052, 1, none⟩ = some (.int .i64 t1047) ∧ w'.cell? ⟨gb1052, 2, none⟩ = some (.slice Ao97 t1048.length co97) ∧ w'.cell? ⟨gb1026, 0, none⟩ = some (.int .i64 t1020) ∧ w'.cell? ⟨gb1026, 1, none⟩ = some (.int .i64 t1021) ∧ w'.cell? ⟨gb1026, 2, none⟩ = some (.slice Ao19 t1022.length co19) ∧ w'.cell? ⟨gb1018, 0, none⟩ = some (.int .i64 t1009) ∧ w'.cell? ⟨gb1018, 1, none⟩ = some (.int .i64 t1010) ∧ w'.cell? ⟨gb1018, 2, none⟩ = some (.slice Ao11 t1011.length co11)) (ds := []) #[false, false, false, false, false, false, false, false, false, false, false, false, false, false, false, false, false, false, false, false, false, false, false, false] (by kernel_rfl) rfl rfl ⟨(blk_cell BK1052.out 0).trans rfl, (blk_cell BK1052.out 1).trans rfl, (blk_cell BK1052.out 2).trans rfl, (blk_cell BK1026.out 0).trans rfl, (blk_cell BK1026.out 1).trans rfl, (blk_cell BK1026.out 2).trans rfl, (blk_cell BK1018.out 0).trans rfl, (blk_cell BK1018.out 1).trans rfl, (blk_cell BK1018.out 2).trans rfl⟩ (fun hHeld => ?_); refine with_tabW laws_FnAppended.tab23 laws_FnAppended.bits23 (fun HT_ HW_ => ?_)
          generalize w98.drew = w99 at HO_5 HO_12 HO_1019002 HO_1027002 HO1050 BK1018 BK1026 BK1052 HB hHeld ⊢
          refine pure_ (i := 0) (N := some 124) (v := ?_) (a' := ?_) #[true, false, false, false, false, false, false, false, false, false, false, false, false, false, false, false, false, false, false, false, false, false, false, false] rfl rfl (any_of HT_.out (by kernel_rfl)) (fun _ _ _ h => h) (Or.inl ⟨by rfl, ?_⟩) ?_ ?_
          rotate_left
          ·
           intro w'
           go_simp
           with_reducible rfl
          rotate_left
          ·
           simp only [Act.put, List.setIfInBounds_toArray, List.set_cons_zero, List.set_cons_succ, i64_w, i32_w]
           rfl
          refine pure_ (i := 1) (N := some 125) (v := ?_) (a' := ?_) #[true, true, false, false, false, false, false, false, false, false, false, false, false, false, false, false, false, false, false, false, false, false, false, false] rfl rfl (any_of HT_.out (by kernel_rfl)) (fun _ _ _ h => h) (Or.inl ⟨by rfl, ?_⟩) ?_ ?_
          rotate_left
          ·
           intro w'
           go_simp
           with_reducible rfl
          rotate_left
          ·
           simp only [Act.put, List.setIfInBounds_toArray, List.set_cons_zero, List.set_cons_succ, i64_w, i32_w]
           rfl
          refine take_ (i := 2) (N := some 126) (v := ?_) (a' := ?_) #[true, true, true, false, false, false, false, false, false, false, false, false, false, false, false, false, false, false, false, false, false, false, false, false] rfl rfl (take_ofW HT_.out HW_.out (by kernel_rfl)) (fun _ _ _ h => h) (Or.inl ⟨by rfl, ?_⟩) hHeld ?_ ?_
          rotate_left
          ·
           rintro w' ⟨s0, s1, s2, s3, s4, s5, s6, s7, s8⟩
           go_simp
           with_reducible rfl
          rotate_left
          ·
           simp only [Act.put, List.setIfInBounds_toArray, List.set_cons_zero, List.set_cons_succ, i64_w, i32_w]
           rfl
          refine take_ (i := 3) (N := some 127) (v := ?_) (a' := ?_) #[true, true, true, true, false, false, false, false, false, false, false, false, false, false, false, false, false, false, false, false, false, false, false, false] rfl rfl (take_ofW HT_.out HW_.out (by kernel_rfl)) (fun _ _ _ h => h) (Or.inl ⟨by rfl, ?_⟩) hHeld ?_ ?_
          rotate_left
          ·
           rintro w' ⟨s0, s1, s2, s3, s4, s5, s6, s7, s8⟩
           go_simp
           with_reducible rfl
          rotate_left
          ·
           simp only [Act.put, List.setIfInBounds_toArray, List.set_cons_zero, List.set_cons_succ, i64_w, i32_w]
           rfl
          refine one_ (i := 4) (N := some 128) #[true, true, true, true, true, false, false, false, false, false, false, false, false, false, false, false, false, false, false, false, false, false, false, false] rfl rfl (one_of HT_.out (by kernel_rfl)) (by decide) (fun K hK => ?_)
          refine goes_ Try.func41 (by kernel_rfl) rfl #[.agg #[.int .i64 t1046, .int .i64 t1047, .slice Ao97 t1048.length co97], .agg #[.int .i64 t1020, .int .i64 t1021, .slice Ao19 t1022.length co19]] (by rfl) rfl rfl (by (try simp only [List.map_toArray, List.map_cons, List.map_nil]); first | done | rfl | (simp only [List.length_drop, List.length_take]; rfl)) ?_
          with_reducible refine (laws_sameLog.calls k3 t1046 t1047 _ _ t1048 t1020 t1021 _ _ t1022 true _ ?side1 ?side2 ?side3 ?side4 A82.out).mono ?_
          (case side1 => repeat (first | exact (R_reads' HO1050.out).2.2 | (with_reducible refine C_alloc ?_ _) | (with_reducible refine C_drewN ?_ _) | (with_reducible refine C_drew ?_)))
          (case side2 => exact (R_reads' HO1050.out).2.1)
          (case side3 => repeat (first | exact (R_reads' HO_1027002.out).2.2 | (with_reducible refine C_alloc ?_ _) | (with_reducible refine C_drewN ?_ _) | (with_reducible refine C_drew ?_)))
          (case side4 => exact (R_reads' HO_1027002.out).2.1)
          rintro e w100 ⟨rfl, hb⟩
          refine ⟨_, rfl, ?_⟩
          have n0_ := Zh (R_below (by (with_reducible repeat (first | apply R_alloc | apply R_drewN | apply R_drew)); exact HO_5.out) hb)
          have n1_ := Zh (R_below (by (with_reducible repeat (first | apply R_alloc | apply R_drewN | apply R_drew)); exact HO_12.out) hb)
          have n2_ := Zh (R_below (by (with_reducible repeat (first | apply R_alloc | apply R_drewN | apply R_drew)); exact HO_1019002.out) hb)
          have n3_ := Zh (R_below (by (with_reducible repeat (first | apply R_alloc | apply R_drewN | apply R_drew)); exact HO_1027002.out) hb)
          have n4_ := Zh (R_below (by (with_reducible repeat (first | apply R_alloc | apply R_drewN | apply R_drew)); exact HO1050.out) hb)
          have n5_ := Zh (Zm (g := gb1018) (o := .cells #[.int .i64 t1009, .int .i64 t1010, .slice Ao11 t1011.length co11] 29 (0, 0)) Zk hb)
          have n6_ := Zh (Zm (g := gb1026) (o := .cells #[.int .i64 t1020, .int .i64 t1021, .slice Ao19 t1022.length co19] 29 (0, 0)) Zk hb)
          have n7_ := Zh (Zm (g := gb1052) (o := .cells #[.int .i64 t1046, .int .i64 t1047, .slice Ao97 t1048.length co97] 29 (0, 0)) Zk hb)
          have n8_ := Zh (Zl Zs hb)
          clear HO_5
          clear HO_12
          clear HO_1019002
          clear HO_1027002
          clear HO1050
          clear BK1018
          clear BK1026
          clear BK1052
          clear HB
          have HO_5 := n0_
          have HO_12 := n1_
          have HO_1019002 := n2_
          have HO_1027002 := n3_
          have HO1050 := n4_
          have BK1018 := n5_
          have BK1026 := n6_
          have BK1052 := n7_
          have HB := n8_
          clear n0_ n1_ n2_ n3_ n4_ n5_ n6_ n7_ n8_
          (try clear hb)
          (try clear hb2)
          (try clear hk)
          (try clear hi)
          refine hK.out _ _ ⟨(blk_cell BK1052.out 0).trans rfl, (blk_cell BK1052.out 1).trans rfl, (blk_cell BK1052.out 2).trans rfl, (blk_cell BK1026.out 0).trans rfl, (blk_cell BK1026.out 1).trans rfl, (blk_cell BK1026.out 2).trans rfl, (blk_cell BK1018.out 0).trans rfl, (blk_cell BK1018.out 1).trans rfl, (blk_cell BK1018.out 2).trans rfl⟩ (fun hHeld => ?_)
          clear hK K
          refine norm_ (a' := ?_) ?_ ?_
          rotate_left
          ·
           show Act.put _ (some 128) _ = _
           simp only [Act.put, List.setIfInBounds_toArray, List.set_cons_zero, List.set_cons_succ, i64_w, i32_w]
           rfl
          refine pure_ (i := 5) (N := some 129) (v := ?_) (a' := ?_) #[true, true, true, true, true, true, false, false, false, false, false, false, false, false, false, false, false, false, false, false, false, false, false, false] rfl rfl (any_of HT_.out (by kernel_rfl)) (fun _ _ _ h => h) (Or.inl ⟨by rfl, ?_⟩) ?_ ?_
          rotate_left
          ·
           intro w'
           go_simp
           with_reducible rfl
          rotate_left
          ·
           simp only [Act.put, List.setIfInBounds_toArray, List.set_cons_zero, List.set_cons_succ, i64_w, i32_w]
           rfl
          refine pure_ (i := 6) (N := some 130) (v := ?_) (a' := ?_) #[true, true, true, true, true, true, true, false, false, false, false, false, false, false, false, false, false, false, false, false, false, false, false, false] rfl rfl (any_of HT_.out (by kernel_rfl)) (fun _ _ _ h => h) (Or.inl ⟨by rfl, ?_⟩) ?_ ?_
          rotate_left
          ·
           intro w'
           go_simp
           with_reducible rfl
          rotate_left
          ·
           simp only [Act.put, List.setIfInBounds_toArray, List.set_cons_zero, List.set_cons_succ, i64_w, i32_w]
           rfl
          refine pure_ (i := 10) (N := some 134) (v := ?_) (a' := ?_) #[true, true, true, true, true, true, true, false, false, false, true, false, false, false, false, false, false, false, false, false, false, false, false, false] rfl rfl (any_of HT_.out (by kernel_rfl)) (fun _ _ _ h => h) (Or.inl ⟨by rfl, ?_⟩) ?_ ?_
          rotate_left
          ·
           intro w'
           go_simp
           with_reducible rfl
          rotate_left
          ·
           simp only [Act.put, List.setIfInBounds_toArray, List.set_cons_zero, List.set_cons_succ, i64_w, i32_w]
           rfl
          refine take_ (i := 7) (N := some 131) (v := ?_) (a' := ?_) #[true, true, true, true, true, true, true, true, false, false, true, false, false, false, false, false, false, false, false, false, false, false, false, false] rfl rfl (take_ofW HT_.out HW_.out (by kernel_rfl)) (fun _ _ _ h => h) (Or.inl ⟨by rfl, ?_⟩) hHeld ?_ ?_
          rotate_left
          ·
           rintro w' ⟨s0, s1, s2, s3, s4, s5, s6, s7, s8⟩
           go_simp
           with_reducible rfl
          rotate_left
          ·
           simp only [Act.put, List.setIfInBounds_toArray, List.set_cons_zero, List.set_cons_succ, i64_w, i32_w]
           rfl
          refine take_ (i := 8) (N := some 132) (v := ?_) (a' := ?_) #[true, true, true, true, true, true, true, true, true, false, true, false, false, false, false, false, false, false, false, false, false, false, false, false] rfl rfl (take_ofW HT_.out HW_.out (by kernel_rfl)) (fun _ _ _ h => h) (Or.inl ⟨by rfl, ?_⟩) hHeld ?_ ?_
          rotate_left
          ·
           rintro w' ⟨s0, s1, s2, s3, s4, s5, s6, s7, s8⟩
           go_simp
           with_reducible rfl
          rotate_left
          ·
           simp only [Act.put, List.setIfInBounds_toArray, List.set_cons_zero, List.set_cons_succ, i64_w, i32_w]
           rfl
          refine one_ (i := 9) (N := some 133) #[true, true, true, true, true, true, true, true, true, true, true, false, false, false, false, false, false, false, false, false, false, false, false, false] rfl rfl (one_of HT_.out (by kernel_rfl)) (by decide) (fun K hK => ?_)
          refine goes_ Try.func25 (by kernel_rfl) rfl #[.agg #[.int .i64 t1020, .int .i64 t1021, .slice Ao19 t1022.length co19], .agg #[.int .i64 t1009, .int .i64 t1010, .slice Ao11 t1011.length co11]] (by rfl) rfl rfl (by (try simp only [List.map_toArray, List.map_cons, List.map_nil]); first | done | rfl | (simp only [List.length_drop, List.length_take]; rfl)) ?_
          with_reducible refine (impl_Agree.calls k3 t1020 t1021 _ _ t1022 t1009 t1010 _ _ t1011 t1054 _ ?side1 ?side2 ?side3 ?side4 A84.out).mono ?_
          (case side1 => repeat (first | exact (R_reads' HO_1027002.out).2.2 | (with_reducible refine C_alloc ?_ _) | (with_reducible refine C_drewN ?_ _) | (with_reducible refine C_drew ?_)))
          (case side2 => exact (R_reads' HO_1027002.out).2.1)
          (case side3 => repeat (first | exact (R_reads' HO_1019002.out).2.2 | (with_reducible refine C_alloc ?_ _) | (with_reducible refine C_drewN ?_ _) | (with_reducible refine C_drew ?_)))
          (case side4 => exact (R_reads' HO_1019002.out).2.1)
          rintro e w101 ⟨rfl, hb⟩
          refine ⟨_, rfl, ?_⟩
          have n0_ := Zh (R_below (by (with_reducible repeat (first | apply R_alloc | apply R_drewN | apply R_drew)); exact HO_5.out) hb)
          have n1_ := Zh (R_below (by (with_reducible repeat (first | apply R_alloc | apply R_drewN | apply R_drew)); exact HO_12.out) hb)
          have n2_ := Zh (R_below (by (with_reducible repeat (first | apply R_alloc | apply R_drewN | apply R_drew)); exact HO_1019002.out) hb)
          have n3_ := Zh (R_below (by (with_reducible repeat (first | apply R_alloc | apply R_drewN | apply R_drew)); exact HO_1027002.out) hb)
          have n4_ := Zh (R_below (by (with_reducible repeat (first | apply R_alloc | apply R_drewN | apply R_drew)); exact HO1050.out) hb)
          have n5_ := Zh (Zm (g := gb1018) (o := .cells #[.int .i64 t1009, .int .i64 t1010, .slice Ao11 t1011.length co11] 29 (0, 0)) Zk hb)
          have n6_ := Zh (Zm (g := gb1026) (o := .cells #[.int .i64 t1020, .int .i64 t1021, .slice Ao19 t1022.length co19] 29 (0, 0)) Zk hb)
          have n7_ := Zh (Zm (g := gb1052) (o := .cells #[.int .i64 t1046, .int .i64 t1047, .slice Ao97 t1048.length co97] 29 (0, 0)) Zk hb)
          have n8_ := Zh (Zl Zs hb)
          clear HO_5
          clear HO_12
          clear HO_1019002
          clear HO_1027002
          clear HO1050
          clear BK1018
          clear BK1026
          clear BK1052
          clear HB
          have HO_5 := n0_
          have HO_12 := n1_
          have HO_1019002 := n2_
          have HO_1027002 := n3_
          have HO1050 := n4_
          have BK1018 := n5_
          have BK1026 := n6_
          have BK1052 := n7_
          have HB := n8_
          clear n0_ n1_ n2_ n3_ n4_ n5_ n6_ n7_ n8_
          (try clear hb)
          (try clear hb2)
          (try clear hk)
          (try clear hi)
          refine hK.out _ _ ⟨(blk_cell BK1052.out 0).trans rfl, (blk_cell BK1052.out 1).trans rfl, (blk_cell BK1052.out 2).trans rfl, (blk_cell BK1026.out 0).trans rfl, (blk_cell BK1026.out 1).trans rfl, (blk_cell BK1026.out 2).trans rfl, (blk_cell BK1018.out 0).trans rfl, (blk_cell BK1018.out 1).trans rfl, (blk_cell BK1018.out 2).trans rfl⟩ (fun hHeld => ?_)
          clear hK K
          refine norm_ (a' := ?_) ?_ ?_
          rotate_left
          ·
           show Act.put _ (some 133) _ = _
           simp only [Act.put, List.setIfInBounds_toArray, List.set_cons_zero, List.set_cons_succ, i64_w, i32_w]
           rfl
          refine pure_ (i := 11) (N := some 135) (v := ?_) (a' := ?_) #[true, true, true, true, true, true, true, true, true, true, true, true, false, false, false, false, false, false, false, false, false, false, false, false] rfl rfl (any_of HT_.out (by kernel_rfl)) (fun _ _ _ h => h) (Or.inl ⟨by rfl, ?_⟩) ?_ ?_
          rotate_left
          ·
           intro w'
           go_simp
           with_reducible rfl
          rotate_left
          ·
           simp only [Act.put, List.setIfInBounds_toArray, List.set_cons_zero, List.set_cons_succ, i64_w, i32_w]
           rfl
          refine pure_ (i := 12) (N := some 136) (v := ?_) (a' := ?_) #[true, true, true, true, true, true, true, true, true, true, true, true, true, false, false, false, false, false, false, false, false, false, false, false] rfl rfl (any_of HT_.out (by kernel_rfl)) (fun _ _ _ h => h) (Or.inl ⟨by rfl, ?_⟩) ?_ ?_
          rotate_left
          ·
           intro w'
           go_simp
           with_reducible rfl
          rotate_left
          ·
           simp only [Act.put, List.setIfInBounds_toArray, List.set_cons_zero, List.set_cons_succ, i64_w, i32_w]
           rfl
          refine pure_ (i := 13) (N := some 137) (v := ?_) (a' := ?_) #[true, true, true, true, true, true, true, true, true, true, true, true, true, true, false, false, false, false, false, false, false, false, false, false] rfl rfl (any_of HT_.out (by kernel_rfl)) (fun _ _ _ h => h) (Or.inl ⟨by rfl, ?_⟩) ?_ ?_
          rotate_left
          ·
           intro w'
           go_simp
           with_reducible rfl
          rotate_left
          ·
           simp only [Act.put, List.setIfInBounds_toArray, List.set_cons_zero, List.set_cons_succ, i64_w, i32_w]
           rfl
          refine take_ (i := 14) (N := some 138) (v := ?_) (a' := ?_) #[true, true, true, true, true, true, true, true, true, true, true, true, true, true, true, false, false, false, false, false, false, false, false, false] rfl rfl (take_ofW HT_.out HW_.out (by kernel_rfl)) (fun _ _ _ h => h) (Or.inl ⟨by rfl, ?_⟩) hHeld ?_ ?_
          rotate_left
          ·
           rintro w' ⟨s0, s1, s2, s3, s4, s5, s6, s7, s8⟩
           go_simp
           with_reducible rfl
          rotate_left
          ·
           simp only [Act.put, List.setIfInBounds_toArray, List.set_cons_zero, List.set_cons_succ, i64_w, i32_w]
           rfl
          refine take_ (i := 15) (N := some 139) (v := ?_) (a' := ?_) #[true, true, true, true, true, true, true, true, true, true, true, true, true, true, true, true, false, false, false, false, false, false, false, false] rfl rfl (take_ofW HT_.out HW_.out (by kernel_rfl)) (fun _ _ _ h => h) (Or.inl ⟨by rfl, ?_⟩) hHeld ?_ ?_
          rotate_left
          ·
           rintro w' ⟨s0, s1, s2, s3, s4, s5, s6, s7, s8⟩
           go_simp
           with_reducible rfl
          rotate_left
          ·
           simp only [Act.put, List.setIfInBounds_toArray, List.set_cons_zero, List.set_cons_succ, i64_w, i32_w]
           rfl
          refine take_ (i := 16) (N := some 140) (v := ?_) (a' := ?_) #[true, true, true, true, true, true, true, true, true, true, true, true, true, true, true, true, true, false, false, false, false, false, false, false] rfl rfl (take_ofW HT_.out HW_.out (by kernel_rfl)) (fun _ _ _ h => h) (Or.inl ⟨by rfl, ?_⟩) hHeld ?_ ?_
          rotate_left
          ·
           rintro w' ⟨s0, s1, s2, s3, s4, s5, s6, s7, s8⟩
           go_simp
           with_reducible rfl
          rotate_left
          ·
           simp only [Act.put, List.setIfInBounds_toArray, List.set_cons_zero, List.set_cons_succ, i64_w, i32_w]
           rfl
          refine take_ (i := 19) (N := some 143) (v := ?_) (a' := ?_) #[true, true, true, true, true, true, true, true, true, true, true, true, true, true, true, true, true, false, false, true, false, false, false, false] rfl rfl (take_ofW HT_.out HW_.out (by kernel_rfl)) (fun _ _ _ h => h) (Or.inl ⟨by rfl, ?_⟩) hHeld ?_ ?_
          rotate_left
          ·
           rintro w' ⟨s0, s1, s2, s3, s4, s5, s6, s7, s8⟩
           go_simp
           with_reducible rfl
          rotate_left
          ·
           simp only [Act.put, List.setIfInBounds_toArray, List.set_cons_zero, List.set_cons_succ, i64_w, i32_w]
           rfl
          refine one_ (i := 17) (N := some 141) #[true, true, true, true, true, true, true, true, true, true, true, true, true, true, true, true, true, true, false, true, false, false, false, false] rfl rfl (one_of HT_.out (by kernel_rfl)) (by decide) (fun K hK => ?_)
          refine goes_ Try.func19 (by kernel_rfl) rfl #[.agg #[.int .i64 t1020, .int .i64 t1021, .slice Ao19 t1022.length co19]] (by rfl) rfl rfl (by (try simp only [List.map_toArray, List.map_cons, List.map_nil]); first | done | rfl | (simp only [List.length_drop, List.length_take]; rfl)) ?_
          with_reducible refine (impl_LastIndex.calls k3 t1020 t1021 _ _ t1022 t1055 _ ?side1 ?side2 A86.out).mono ?_
          (case side1 => repeat (first | exact (R_reads' HO_1027002.out).2.2 | (with_reducible refine C_alloc ?_ _) | (with_reducible refine C_drewN ?_ _) | (with_reducible refine C_drew ?_)))
          (case side2 => exact (R_reads' HO_1027002.out).2.1)
          rintro e w102 ⟨rfl, hb⟩
          refine ⟨_, rfl, ?_⟩
          have n0_ := Zh (R_below (by (with_reducible repeat (first | apply R_alloc | apply R_drewN | apply R_drew)); exact HO_5.out) hb)
          have n1_ := Zh (R_below (by (with_reducible repeat (first | apply R_alloc | apply R_drewN | apply R_drew)); exact HO_12.out) hb)
          have n2_ := Zh (R_below (by (with_reducible repeat (first | apply R_alloc | apply R_drewN | apply R_drew)); exact HO_1019002.out) hb)
          have n3_ := Zh (R_below (by (with_reducible repeat (first | apply R_alloc | apply R_drewN | apply R_drew)); exact HO_1027002.out) hb)
          have n4_ := Zh (R_below (by (with_reducible repeat (first | apply R_alloc | apply R_drewN | apply R_drew)); exact HO1050.out) hb)
          have n5_ := Zh (Zm (g := gb1018) (o := .cells #[.int .i64 t1009, .int .i64 t1010, .slice Ao11 t1011.length co11] 29 (0, 0)) Zk hb)
          have n6_ := Zh (Zm (g := gb1026) (o := .cells #[.int .i64 t1020, .int .i64 t1021, .slice Ao19 t1022.length co19] 29 (0, 0)) Zk hb)
          have n7_ := Zh (Zm (g := gb1052) (o := .cells #[.int .i64 t1046, .int .i64 t1047, .slice Ao97 t1048.length co97] 29 (0, 0)) Zk hb)
          have n8_ := Zh (Zl Zs hb)
          clear HO_5
          clear HO_12
          clear HO_1019002
          clear HO_1027002
          clear HO1050
          clear BK1018
          clear BK1026
          clear BK1052
          clear HB
          have HO_5 := n0_
          have HO_12 := n1_
          have HO_1019002 := n2_
          have HO_1027002 := n3_
          have HO1050 := n4_
          have BK1018 := n5_
          have BK1026 := n6_
          have BK1052 := n7_
          have HB := n8_
          clear n0_ n1_ n2_ n3_ n4_ n5_ n6_ n7_ n8_
          (try clear hb)
          (try clear hb2)
          (try clear hk)
          (try clear hi)
          refine hK.out _ _ ⟨(blk_cell BK1052.out 0).trans rfl, (blk_cell BK1052.out 1).trans rfl, (blk_cell BK1052.out 2).trans rfl, (blk_cell BK1026.out 0).trans rfl, (blk_cell BK1026.out 1).trans rfl, (blk_cell BK1026.out 2).trans rfl, (blk_cell BK1018.out 0).trans rfl, (blk_cell BK1018.out 1).trans rfl, (blk_cell BK1018.out 2).trans rfl⟩ (fun hHeld => ?_)
          clear hK K
          refine norm_ (a' := ?_) ?_ ?_
          rotate_left
          ·
           show Act.put _ (some 141) _ = _
           simp only [Act.put, List.setIfInBounds_toArray, List.set_cons_zero, List.set_cons_succ, i64_w, i32_w]
           rfl
          refine one_ (i := 18) (N := some 142) #[true, true, true, true, true, true, true, true, true, true, true, true, true, true, true, true, true, true, true, true, false, false, false, false] rfl rfl (one_of HT_.out (by kernel_rfl)) (by decide) (fun K hK => ?_)
          refine goes_ Try.func21 (by kernel_rfl) rfl #[.agg #[.int .i64 t1020, .int .i64 t1021, .slice Ao19 t1022.length co19], .int .i64 t1055] (by rfl) rfl rfl (by (try simp only [List.map_toArray, List.map_cons, List.map_nil]); first | done | rfl | (simp only [List.length_drop, List.length_take]; rfl)) ?_
          with_reducible refine (impl_TermAt.calls k3 t1020 t1021 _ _ t1022 t1055 t1056 _ ?side1 ?side2 A87.out).mono ?_
          (case side1 => repeat (first | exact (R_reads' HO_1027002.out).2.2 | (with_reducible refine C_alloc ?_ _) | (with_reducible refine C_drewN ?_ _) | (with_reducible refine C_drew ?_)))
          (case side2 => exact (R_reads' HO_1027002.out).2.1)
          rintro e w103 ⟨rfl, hb⟩
          refine ⟨_, rfl, ?_⟩
          have n0_ := Zh (R_below (by (with_reducible repeat (first | apply R_alloc | apply R_drewN | apply R_drew)); exact HO_5.out) hb)
          have n1_ := Zh (R_below (by (with_reducible repeat (first | apply R_alloc | apply R_drewN | apply R_drew)); exact HO_12.out) hb)
          have n2_ := Zh (R_below (by (with_reducible repeat (first | apply R_alloc | apply R_drewN | apply R_drew)); exact HO_1019002.out) hb)
          have n3_ := Zh (R_below (by (with_reducible repeat (first | apply R_alloc | apply R_drewN | apply R_drew)); exact HO_1027002.out) hb)
          have n4_ := Zh (R_below (by (with_reducible repeat (first | apply R_alloc | apply R_drewN | apply R_drew)); exact HO1050.out) hb)
          have n5_ := Zh (Zm (g := gb1018) (o := .cells #[.int .i64 t1009, .int .i64 t1010, .slice Ao11 t1011.length co11] 29 (0, 0)) Zk hb)
          have n6_ := Zh (Zm (g := gb1026) (o := .cells #[.int .i64 t1020, .int .i64 t1021, .slice Ao19 t1022.length co19] 29 (0, 0)) Zk hb)
          have n7_ := Zh (Zm (g := gb1052) (o := .cells #[.int .i64 t1046, .int .i64 t1047, .slice Ao97 t1048.length co97] 29 (0, 0)) Zk hb)
          have n8_ := Zh (Zl Zs hb)
          clear HO_5
          clear HO_12
          clear HO_1019002
          clear HO_1027002
          clear HO1050
          clear BK1018
          clear BK1026
          clear BK1052
          clear HB
          have HO_5 := n0_
          have HO_12 := n1_
          have HO_1019002 := n2_
          have HO_1027002 := n3_
          have HO1050 := n4_
          have BK1018 := n5_
          have BK1026 := n6_
          have BK1052 := n7_
          have HB := n8_
          clear n0_ n1_ n2_ n3_ n4_ n5_ n6_ n7_ n8_
          (try clear hb)
          (try clear hb2)
          (try clear hk)
          (try clear hi)
          refine hK.out _ _ ⟨(blk_cell BK1052.out 0).trans rfl, (blk_cell BK1052.out 1).trans rfl, (blk_cell BK1052.out 2).trans rfl, (blk_cell BK1026.out 0).trans rfl, (blk_cell BK1026.out 1).trans rfl, (blk_cell BK1026.out 2).trans rfl, (blk_cell BK1018.out 0).trans rfl, (blk_cell BK1018.out 1).trans rfl, (blk_cell BK1018.out 2).trans rfl⟩ (fun hHeld => ?_)
          clear hK K
          refine norm_ (a' := ?_) ?_ ?_
          rotate_left
          ·
           show Act.put _ (some 142) _ = _
           simp only [Act.put, List.setIfInBounds_toArray, List.set_cons_zero, List.set_cons_succ, i64_w, i32_w]
           rfl
          refine one_ (i := 20) (N := some 144) #[true, true, true, true, true, true, true, true, true, true, true, true, true, true, true, true, true, true, true, true, true, false, false, false] rfl rfl (one_of HT_.out (by kernel_rfl)) (by decide) (fun K hK => ?_)
          refine goes_ Try.func19 (by kernel_rfl) rfl #[.agg #[.int .i64 t1020, .int .i64 t1021, .slice Ao19 t1022.length co19]] (by rfl) rfl rfl (by (try simp only [List.map_toArray, List.map_cons, List.map_nil]); first | done | rfl | (simp only [List.length_drop, List.length_take]; rfl)) ?_
          with_reducible refine (impl_LastIndex.calls k3 t1020 t1021 _ _ t1022 t1057 _ ?side1 ?side2 A88.out).mono ?_
          (case side1 => repeat (first | exact (R_reads' HO_1027002.out).2.2 | (with_reducible refine C_alloc ?_ _) | (with_reducible refine C_drewN ?_ _) | (with_reducible refine C_drew ?_)))
          (case side2 => exact (R_reads' HO_1027002.out).2.1)
          rintro e w104 ⟨rfl, hb⟩
          refine ⟨_, rfl, ?_⟩
          have n0_ := Zh (R_below (by (with_reducible repeat (first | apply R_alloc | apply R_drewN | apply R_drew)); exact HO_5.out) hb)
          have n1_ := Zh (R_below (by (with_reducible repeat (first | apply R_alloc | apply R_drewN | apply R_drew)); exact HO_12.out) hb)
          have n2_ := Zh (R_below (by (with_reducible repeat (first | apply R_alloc | apply R_drewN | apply R_drew)); exact HO_1019002.out) hb)
          have n3_ := Zh (R_below (by (with_reducible repeat (first | apply R_alloc | apply R_drewN | apply R_drew)); exact HO_1027002.out) hb)
          have n4_ := Zh (R_below (by (with_reducible repeat (first | apply R_alloc | apply R_drewN | apply R_drew)); exact HO1050.out) hb)
          have n5_ := Zh (Zm (g := gb1018) (o := .cells #[.int .i64 t1009, .int .i64 t1010, .slice Ao11 t1011.length co11] 29 (0, 0)) Zk hb)
          have n6_ := Zh (Zm (g := gb1026) (o := .cells #[.int .i64 t1020, .int .i64 t1021, .slice Ao19 t1022.length co19] 29 (0, 0)) Zk hb)
          have n7_ := Zh (Zm (g := gb1052) (o := .cells #[.int .i64 t1046, .int .i64 t1047, .slice Ao97 t1048.length co97] 29 (0, 0)) Zk hb)
          have n8_ := Zh (Zl Zs hb)
          clear HO_5
          clear HO_12
          clear HO_1019002
          clear HO_1027002
          clear HO1050
          clear BK1018
          clear BK1026
          clear BK1052
          clear HB
          have HO_5 := n0_
          have HO_12 := n1_
          have HO_1019002 := n2_
          have HO_1027002 := n3_
          have HO1050 := n4_
          have BK1018 := n5_
          have BK1026 := n6_
          have BK1052 := n7_
          have HB := n8_
          clear n0_ n1_ n2_ n3_ n4_ n5_ n6_ n7_ n8_
          (try clear hb)
          (try clear hb2)
          (try clear hk)
          (try clear hi)
          refine hK.out _ _ ⟨(blk_cell BK1052.out 0).trans rfl, (blk_cell BK1052.out 1).trans rfl, (blk_cell BK1052.out 2).trans rfl, (blk_cell BK1026.out 0).trans rfl, (blk_cell BK1026.out 1).trans rfl, (blk_cell BK1026.out 2).trans rfl, (blk_cell BK1018.out 0).trans rfl, (blk_cell BK1018.out 1).trans rfl, (blk_cell BK1018.out 2).trans rfl⟩ (fun hHeld => ?_)
          clear hK K
          refine norm_ (a' := ?_) ?_ ?_
          rotate_left
          ·
           show Act.put _ (some 144) _ = _
           simp only [Act.put, List.setIfInBounds_toArray, List.set_cons_zero, List.set_cons_succ, i64_w, i32_w]
           rfl
          refine one_ (i := 21) (N := some 145) #[true, true, true, true, true, true, true, true, true, true, true, true, true, true, true, true, true, true, true, true, true, true, false, false] rfl rfl (one_of HT_.out (by kernel_rfl)) (by decide) (fun K hK => ?_)
          refine goes_ Try.func23 (by kernel_rfl) rfl #[.agg #[.int .i64 t1020, .int .i64 t1021, .slice Ao19 t1022.length co19], .int .i64 t1056, .int .i64 t1057] (by rfl) rfl rfl (by (try simp only [List.map_toArray, List.map_cons, List.map_nil]); first | done | rfl | (simp only [List.length_drop, List.length_take]; rfl)) ?_
          with_reducible refine (impl_UpToDate.calls k3 t1020 t1021 _ _ t1022 t1056 t1057 t1058 _ ?side1 ?side2 A89.out).mono ?_
          (case side1 => repeat (first | exact (R_reads' HO_1027002.out).2.2 | (with_reducible refine C_alloc ?_ _) | (with_reducible refine C_drewN ?_ _) | (with_reducible refine C_drew ?_)))
          (case side2 => exact (R_reads' HO_1027002.out).2.1)
          rintro e w105 ⟨rfl, hb⟩
          refine ⟨_, rfl, ?_⟩
          have n0_ := Zh (R_below (by (with_reducible repeat (first | apply R_alloc | apply R_drewN | apply R_drew)); exact HO_5.out) hb)
          have n1_ := Zh (R_below (by (with_reducible repeat (first | apply R_alloc | apply R_drewN | apply R_drew)); exact HO_12.out) hb)
          have n2_ := Zh (R_below (by (with_reducible repeat (first | apply R_alloc | apply R_drewN | apply R_drew)); exact HO_1019002.out) hb)
          have n3_ := Zh (R_below (by (with_reducible repeat (first | apply R_alloc | apply R_drewN | apply R_drew)); exact HO_1027002.out) hb)
          have n4_ := Zh (R_below (by (with_reducible repeat (first | apply R_alloc | apply R_drewN | apply R_drew)); exact HO1050.out) hb)
          have n5_ := Zh (Zm (g := gb1018) (o := .cells #[.int .i64 t1009, .int .i64 t1010, .slice Ao11 t1011.length co11] 29 (0, 0)) Zk hb)
          have n6_ := Zh (Zm (g := gb1026) (o := .cells #[.int .i64 t1020, .int .i64 t1021, .slice Ao19 t1022.length co19] 29 (0, 0)) Zk hb)
          have n7_ := Zh (Zm (g := gb1052) (o := .cells #[.int .i64 t1046, .int .i64 t1047, .slice Ao97 t1048.length co97] 29 (0, 0)) Zk hb)
          have n8_ := Zh (Zl Zs hb)
          clear HO_5
          clear HO_12
          clear HO_1019002
          clear HO_1027002
          clear HO1050
          clear BK1018
          clear BK1026
          clear BK1052
          clear HB
          have HO_5 := n0_
          have HO_12 := n1_
          have HO_1019002 := n2_
          have HO_1027002 := n3_
          have HO1050 := n4_
          have BK1018 := n5_
          have BK1026 := n6_
          have BK1052 := n7_
          have HB := n8_
          clear n0_ n1_ n2_ n3_ n4_ n5_ n6_ n7_ n8_
          (try clear hb)
          (try clear hb2)
          (try clear hk)
          (try clear hi)
          refine hK.out _ _ ⟨(blk_cell BK1052.out 0).trans rfl, (blk_cell BK1052.out 1).trans rfl, (blk_cell BK1052.out 2).trans rfl, (blk_cell BK1026.out 0).trans rfl, (blk_cell BK1026.out 1).trans rfl, (blk_cell BK1026.out 2).trans rfl, (blk_cell BK1018.out 0).trans rfl, (blk_cell BK1018.out 1).trans rfl, (blk_cell BK1018.out 2).trans rfl⟩ (fun hHeld => ?_)
          clear hK K
          refine norm_ (a' := ?_) ?_ ?_
          rotate_left
          ·
           show Act.put _ (some 145) _ = _
           simp only [Act.put, List.setIfInBounds_toArray, List.set_cons_zero, List.set_cons_succ, i64_w, i32_w]
           rfl
          refine pure_ (i := 22) (N := some 146) (v := ?_) (a' := ?_) #[true, true, true, true, true, true, true, true, true, true, true, true, true, true, true, true, true, true, true, true, true, true, true, false] rfl rfl (any_of HT_.out (by kernel_rfl)) (fun _ _ _ h => h) (Or.inl ⟨by rfl, ?_⟩) ?_ ?_
          rotate_left
          ·
           intro w'
           go_simp
           with_reducible rfl
          rotate_left
          ·
           simp only [Act.put, List.setIfInBounds_toArray, List.set_cons_zero, List.set_cons_succ, i64_w, i32_w]
           rfl
          refine pure_ (i := 23) (N := some 2) (v := ?_) (a' := ?_) #[true, true, true, true, true, true, true, true, true, true, true, true, true, true, true, true, true, true, true, true, true, true, true, true] rfl rfl (any_of HT_.out (by kernel_rfl)) (fun _ _ _ h => h) (Or.inl ⟨by rfl, ?_⟩) ?_ ?_
          rotate_left
          ·
           intro w'
           go_simp
           with_reducible rfl
          rotate_left
          ·
           simp only [Act.put, List.setIfInBounds_toArray, List.set_cons_zero, List.set_cons_succ, i64_w, i32_w]
           rfl
          refine done_ (done_of HT_.out (by kernel_rfl)) ?_
          try go_wp2
          go_ret
          exact ⟨by first | rfl | (simp [errW_none, errW_some] <;> rfl) | (simp [*, errW_none, errW_some] <;> rfl), by repeat (first | (with_reducible first | exact HB.out | apply Zf | apply Zd | apply Ze | refine Zg ?_ GE1018.out | refine Zg ?_ GE1026.out | refine Zg ?_ GE1052.out) | exact HB.out)⟩
         rw [if_neg c85] at H
         have c85b0 : decide (t1014 ≤ t1054) = false := decide_eq_false c85
         clear c85
         exact absurd H (by simp)
        replace c83 := Bool.eq_false_iff.mpr c83
        subst c83
        have H1 : (none) = some r := by rw [if_neg (show ¬ (false = true) by decide)] at H; exact H
        clear H
        have H := H1
        clear H1
        exact absurd H (by simp)
       replace c81 := Bool.eq_false_iff.mpr c81
       subst c81
       have H1 : (none) = some r := by rw [if_neg (show ¬ (false = true) by decide)] at H; exact H
       clear H
       have H := H1
       clear H1
       exact absurd H (by simp)
def laws_FnAppended.Pure : Prop := ∀ (l0 : List Int), l0.length ≤ maxLen → l0.length * 1 ≤ 140737488351232 → (∀ x ∈ l0, (Lit.int .u8 x).wf = true) → ∃ k, laws_FnAppended.f k l0 = some true
theorem laws_FnAppended.walk (P : laws_FnAppended.Pure) (a0 : Option Addr) (len0 cap0 : Nat) (z0 : List Int) (w : World) (w0 : (a0 = none ∧ len0 = 0 ∧ cap0 = 0 ∧ z0 = []) ∨ ∃ x, a0 = some x ∧ len0 ≤ cap0 ∧ cap0 ≤ maxLen ∧ z0.length = cap0 ∧ (∀ i, i < z0.length → w.cell? (x.add i) = some (.int .u8 (z0.getD i 0))) ∧ ∀ n ∈ z0, (Lit.int .u8 n).wf = true) (y0 : len0 * 1 ≤ 140737488351232) :
  Calls Try.prog 12 #[.slice a0 len0 cap0] w fun e w' => e = .returned (.bool true) ∧ Below w.heap.size w w' := by
 obtain ⟨l0, rfl, hr0, hm0, hw0, hc0⟩ := ReadsInt.ofRowC w0
 obtain ⟨k, h⟩ := P l0 hm0 y0 hw0
 refine (laws_FnAppended.calls k _ _ l0 true w (C_of_reads (d := (0 : Int)) (h1 := fun _ => rfl) hr0) hc0 h).mono ?_
 rintro e w' ⟨rfl, hd⟩
 exact ⟨rfl, hd⟩
end Go.Proofs.Ytalbkbmnjpameaa.F
