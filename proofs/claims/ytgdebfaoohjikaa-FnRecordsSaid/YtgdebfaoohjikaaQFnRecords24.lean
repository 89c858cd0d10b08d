/- Merged texts below the law FnRecords: Go functions as Lean functions, their contracts, and plain lemmas. -/
import Derived.Test.YtgdebfaoohjikaaQFnRecords23
import Derived.Test.YtgdebfaoohjikaaQFnRecords13
import Derived.Test.YtgdebfaoohjikaaVFnRecordsMore
import Derived.Laws.BitsAllLaws
import Derived.Laws.Bits64
import Derived.Lib.ConvBytes
namespace Go.Proofs.Ytgdebfaoohjikaa.F
open Go.RowKit Go.Proofs.YtgdebfaoohjikaaW.PrintWords Go.Proofs.YtgdebfaoohjikaaW.PrintWords.Kd Go.Proofs.YtgdebfaoohjikaaW.PrintMore.Kd Go.Proofs.YtgdebfaoohjikaaW.PrintLast Go.Proofs.YtgdebfaoohjikaaW.PrintMore
attribute [local go_sem] max2_int min2_int max_two min_two max_three min_three max_four min_four   -- for this text's walks alone
set_option linter.unusedVariables false
set_option linter.unusedSimpArgs false
def spec_l01Big.l0 : Nat → Int → Int → List Int → Int → Int → Option (Int × Int × Int)
 | 0, _, _, _, _, _ => none
 | k + 1, x3, x4, x1000, x1001, x1002 => if x4 < 8 then ((spec_l01Below.f x1000 x1001 x1002 256).bind fun bt710 => (spec_l01Big.l0 k (IntKind.u64.wrap ((IntKind.u64.wrap (x3 * 256)) + (IntKind.u64.wrap (bt710.1)))) (wrap64 (x4 + 1)) x1000 bt710.2.1 bt710.2.2)) else ((spec_l01Below.f x1000 x1001 x1002 64).bind fun bt713 => (if 0 ≤ (IntKind.u64.wrap (bt713.1)) then (some (shr .u64 x3 (IntKind.u64.wrap (bt713.1)), bt713.2.1, bt713.2.2)) else (none)))
def spec_l01Big.f (k : Nat) (s0_0 : List Int) (s0_1 : Int) (s0_2 : Int) : Option (Int × Int × Int) := (spec_l01Below.f s0_0 s0_1 s0_2 8).bind fun bt698 => (if bt698.1 = 0 then (some (0, bt698.2.1, bt698.2.2)) else (if bt698.1 = 1 then (some (18446744073709551615, bt698.2.1, bt698.2.2)) else (if bt698.1 = 2 then ((spec_l01Below.f s0_0 bt698.2.1 bt698.2.2 300).bind fun bt701 => (some (IntKind.u64.wrap (bt701.1), bt701.2.1, bt701.2.2))) else (if bt698.1 = 3 then ((spec_l01Below.f s0_0 bt698.2.1 bt698.2.2 300).bind fun bt704 => (some (IntKind.u64.wrap (18446744073709551615 - (IntKind.u64.wrap (bt704.1))), bt704.2.1, bt704.2.2))) else (if bt698.1 = 4 then ((spec_l01Below.f s0_0 bt698.2.1 bt698.2.2 64).bind fun bt707 => (if 0 ≤ (IntKind.u64.wrap (bt707.1)) then (some (shl .u64 1 (IntKind.u64.wrap (bt707.1)), bt707.2.1, bt707.2.2)) else (none))) else (spec_l01Big.l0 k 0 0 s0_0 bt698.2.1 bt698.2.2))))))
set_option maxHeartbeats 8000000 in
set_option maxRecDepth 100000 in
theorem spec_l01Big.calls (k : Nat) (g : Nat) (s0_0 : List Int) (s0_1 : Int) (s0_2 : Int) (r1 : Int) (r2 : Int) (r3 : Int) (w0 w : World) (hI : IsS76 w0 w g s0_0 s0_1 s0_2) (hB : Below w0.heap.size w0 w) (h : spec_l01Big.f k s0_0 s0_1 s0_2 = some (r1, r2, r3)) :
  Calls Try.prog 76 #[.pointer (some ⟨g, 0, none⟩)] w fun e w' => e = .returned (.int .u64 r1) ∧ IsS76 w0 w' g s0_0 r2 r3 ∧ Below w0.heap.size w0 w' ∧ KeepBut w w' g none := by
 have HI0 := Zh hI
 have HK := Zh (KeepBut.refl w g none)
 have HL := Zh hB.size
 clear hI
 have HW0 := Zh hB.size
 have HB := Zh hB
 clear hB
 have H : ((spec_l01Below.f s0_0 s0_1 s0_2 8).bind fun bt698 => (if bt698.1 = 0 then (some (0, bt698.2.1, bt698.2.2)) else (if bt698.1 = 1 then (some (18446744073709551615, bt698.2.1, bt698.2.2)) else (if bt698.1 = 2 then ((spec_l01Below.f s0_0 bt698.2.1 bt698.2.2 300).bind fun bt701 => (some (IntKind.u64.wrap (bt701.1), bt701.2.1, bt701.2.2))) else (if bt698.1 = 3 then ((spec_l01Below.f s0_0 bt698.2.1 bt698.2.2 300).bind fun bt704 => (some (IntKind.u64.wrap (18446744073709551615 - (IntKind.u64.wrap (bt704.1))), bt704.2.1, bt704.2.2))) else (if bt698.1 = 4 then ((spec_l01Below.f s0_0 bt698.2.1 bt698.2.2 64).bind fun bt707 => (if 0 ≤ (IntKind.u64.wrap (bt707.1)) then (some (shl .u64 1 (IntKind.u64.wrap (bt707.1)), bt707.2.1, bt707.2.2)) else (none))) else (spec_l01Big.l0 k 0 0 s0_0 bt698.2.1 bt698.2.2))))))) = some (r1, r2, r3) := h
 clear h
 replace H := Option.bind_eq_some_iff.mp H
 obtain ⟨⟨t698, t699, t700⟩, A20, H⟩ := H
 replace H : (if t698 = 0 then (some (0, t699, t700)) else (if t698 = 1 then (some (18446744073709551615, t699, t700)) else (if t698 = 2 then ((spec_l01Below.f s0_0 t699 t700 300).bind fun bt701 => (some (IntKind.u64.wrap (bt701.1), bt701.2.1, bt701.2.2))) else (if t698 = 3 then ((spec_l01Below.f s0_0 t699 t700 300).bind fun bt704 => (some (IntKind.u64.wrap (18446744073709551615 - (IntKind.u64.wrap (bt704.1))), bt704.2.1, bt704.2.2))) else (if t698 = 4 then ((spec_l01Below.f s0_0 t699 t700 64).bind fun bt707 => (if 0 ≤ (IntKind.u64.wrap (bt707.1)) then (some (shl .u64 1 (IntKind.u64.wrap (bt707.1)), bt707.2.1, bt707.2.2)) else (none))) else (spec_l01Big.l0 k 0 0 s0_0 t699 t700)))))) = some (r1, r2, r3) := H
 have A2 := Zh A20
 clear A20
 by_cases c3 : t698 = 0
 ·
  rw [if_pos c3] at H
  have c3b0 : (t698 == 0) = true := beq_iff_eq.mpr c3
  have c3b1 : (t698 != 0) = false := bne_eq_false_iff_eq.mpr c3
  clear c3
  simp only [Option.some.injEq, Prod.mk.injEq] at H
  obtain ⟨rfl, rfl, rfl⟩ := H
  go_enter Try.func76, Try.ntmps76
  go_wp2_with (first | ((with_reducible refine gate_callee (f := 67) rfl ?_); refine ZG (some 6) Try.func67 #[.pointer (some ⟨g, 0, none⟩), .int .i64 8] rfl ?_; (with_reducible refine (spec_l01Below.calls g s0_0 s0_1 s0_2 8 t698 t699 t700 w0 _ ?side1 ?side2 A2.out).mono ?_); (case side1 => repeat (first | (with_reducible first | exact HI0.out | apply IsS76.alloc | apply IsS76.drewN | apply IsS76.drew | apply IsS76.set_1 | apply IsS76.set_2) | exact HI0.out)); (case side2 => repeat (first | (with_reducible first | exact HB.out | apply Zf | apply Zd | apply Ze | refine Zg ?_ (IsS76.ge HI0.out)) | exact HB.out)); rintro e w4 ⟨rfl, hi, hb, hk⟩; refine ⟨_, rfl, ?_⟩; replace HK := Zh (KeepBut.trans (by repeat (first | (with_reducible first | exact HK.out | apply KeepBut.set_ | apply keep_drewN | apply keep_drew | apply keep_alloc) | exact HK.out)) hk (.inl rfl)); replace HB := Zh (hb); replace HI0 := Zh (hi); (try clear hb); (try clear hb2); (try clear hk); (try clear hi)))
  go_ret
  exact ⟨ZE, by repeat (first | (with_reducible first | exact HI0.out | apply IsS76.alloc | apply IsS76.drewN | apply IsS76.drew | apply IsS76.set_1 | apply IsS76.set_2) | exact HI0.out), by repeat (first | (with_reducible first | exact HB.out | apply Zf | apply Zd | apply Ze | refine Zg ?_ (IsS76.ge HI0.out)) | exact HB.out), by repeat (first | (with_reducible first | exact HK.out | apply KeepBut.set_ | apply keep_drewN | apply keep_drew | apply keep_alloc) | exact HK.out)⟩
 rw [if_neg c3] at H
 have c3b0 : (t698 == 0) = false := beq_eq_false_iff_ne.mpr c3
 have c3b1 : (t698 != 0) = true := bne_iff_ne.mpr c3
 by_cases c5 : t698 = 1
 ·
  rw [if_pos c5] at H
  have c5b0 : (t698 == 1) = true := beq_iff_eq.mpr c5
  have c5b1 : (t698 != 1) = false := bne_eq_false_iff_eq.mpr c5
  clear c5
  simp only [Option.some.injEq, Prod.mk.injEq] at H
  obtain ⟨rfl, rfl, rfl⟩ := H
  go_enter Try.func76, Try.ntmps76
  go_wp2_with (first | ((with_reducible refine gate_callee (f := 67) rfl ?_); refine ZG (some 6) Try.func67 #[.pointer (some ⟨g, 0, none⟩), .int .i64 8] rfl ?_; (with_reducible refine (spec_l01Below.calls g s0_0 s0_1 s0_2 8 t698 t699 t700 w0 _ ?side1 ?side2 A2.out).mono ?_); (case side1 => repeat (first | (with_reducible first | exact HI0.out | apply IsS76.alloc | apply IsS76.drewN | apply IsS76.drew | apply IsS76.set_1 | apply IsS76.set_2) | exact HI0.out)); (case side2 => repeat (first | (with_reducible first | exact HB.out | apply Zf | apply Zd | apply Ze | refine Zg ?_ (IsS76.ge HI0.out)) | exact HB.out)); rintro e w6 ⟨rfl, hi, hb, hk⟩; refine ⟨_, rfl, ?_⟩; replace HK := Zh (KeepBut.trans (by repeat (first | (with_reducible first | exact HK.out | apply KeepBut.set_ | apply keep_drewN | apply keep_drew | apply keep_alloc) | exact HK.out)) hk (.inl rfl)); replace HB := Zh (hb); replace HI0 := Zh (hi); (try clear hb); (try clear hb2); (try clear hk); (try clear hi)))
  go_ret
  exact ⟨ZE, by repeat (first | (with_reducible first | exact HI0.out | apply IsS76.alloc | apply IsS76.drewN | apply IsS76.drew | apply IsS76.set_1 | apply IsS76.set_2) | exact HI0.out), by repeat (first | (with_reducible first | exact HB.out | apply Zf | apply Zd | apply Ze | refine Zg ?_ (IsS76.ge HI0.out)) | exact HB.out), by repeat (first | (with_reducible first | exact HK.out | apply KeepBut.set_ | apply keep_drewN | apply keep_drew | apply keep_alloc) | exact HK.out)⟩
 rw [if_neg c5] at H
 have c5b0 : (t698 == 1) = false := beq_eq_false_iff_ne.mpr c5
 have c5b1 : (t698 != 1) = true := bne_iff_ne.mpr c5
 by_cases c7 : t698 = 2
 ·
  rw [if_pos c7] at H
  have c7b0 : (t698 == 2) = true := beq_iff_eq.mpr c7
  have c7b1 : (t698 != 2) = false := bne_eq_false_iff_eq.mpr c7
  clear c7
  replace H := Option.bind_eq_some_iff.mp H
  obtain ⟨⟨t701, t702, t703⟩, A80, H⟩ := H
  replace H : (some (IntKind.u64.wrap (t701), t702, t703)) = some (r1, r2, r3) := H
  have A8 := Zh A80
  clear A80
  simp only [Option.some.injEq, Prod.mk.injEq] at H
  obtain ⟨rfl, rfl, rfl⟩ := H
  go_enter Try.func76, Try.ntmps76
  go_wp2_with (first | ((with_reducible refine gate_callee (f := 67) rfl ?_); refine ZG (some 6) Try.func67 #[.pointer (some ⟨g, 0, none⟩), .int .i64 8] rfl ?_; (with_reducible refine (spec_l01Below.calls g s0_0 s0_1 s0_2 8 t698 t699 t700 w0 _ ?side1 ?side2 A2.out).mono ?_); (case side1 => repeat (first | (with_reducible first | exact HI0.out | apply IsS76.alloc | apply IsS76.drewN | apply IsS76.drew | apply IsS76.set_1 | apply IsS76.set_2) | exact HI0.out)); (case side2 => repeat (first | (with_reducible first | exact HB.out | apply Zf | apply Zd | apply Ze | refine Zg ?_ (IsS76.ge HI0.out)) | exact HB.out)); rintro e w9 ⟨rfl, hi, hb, hk⟩; refine ⟨_, rfl, ?_⟩; replace HK := Zh (KeepBut.trans (by repeat (first | (with_reducible first | exact HK.out | apply KeepBut.set_ | apply keep_drewN | apply keep_drew | apply keep_alloc) | exact HK.out)) hk (.inl rfl)); replace HB := Zh (hb); replace HI0 := Zh (hi); (try clear hb); (try clear hb2); (try clear hk); (try clear hi)) | ((with_reducible refine gate_callee (f := 67) rfl ?_); refine ZG (some 14) Try.func67 #[.pointer (some ⟨g, 0, none⟩), .int .i64 300] rfl ?_; (with_reducible refine (spec_l01Below.calls g s0_0 t699 t700 300 t701 t702 t703 w0 _ ?side1 ?side2 A8.out).mono ?_); (case side1 => repeat (first | (with_reducible first | exact HI0.out | apply IsS76.alloc | apply IsS76.drewN | apply IsS76.drew | apply IsS76.set_1 | apply IsS76.set_2) | exact HI0.out)); (case side2 => repeat (first | (with_reducible first | exact HB.out | apply Zf | apply Zd | apply Ze | refine Zg ?_ (IsS76.ge HI0.out)) | exact HB.out)); rintro e w10 ⟨rfl, hi, hb, hk⟩; refine ⟨_, rfl, ?_⟩; replace HK := Zh (KeepBut.trans (by repeat (first | (with_reducible first | exact HK.out | apply KeepBut.set_ | apply keep_drewN | apply keep_drew | apply keep_alloc) | exact HK.out)) hk (.inl rfl)); replace HB := Zh (hb); replace HI0 := Zh (hi); (try clear hb); (try clear hb2); (try clear hk); (try clear hi)))
  go_ret
  exact ⟨ZE, by repeat (first | (with_reducible first | exact HI0.out | apply IsS76.alloc | apply IsS76.drewN | apply IsS76.drew | apply IsS76.set_1 | apply IsS76.set_2) | exact HI0.out), by repeat (first | (with_reducible first | exact HB.out | apply Zf | apply Zd | apply Ze | refine Zg ?_ (IsS76.ge HI0.out)) | exact HB.out), by repeat (first | (with_reducible first | exact HK.out | apply KeepBut.set_ | apply keep_drewN | apply keep_drew | apply keep_alloc) | exact HK.out)⟩
 rw [if_neg c7] at H
 have c7b0 : (t698 == 2) = false := beq_eq_false_iff_ne.mpr c7
 have c7b1 : (t698 != 2) = true := bne_iff_ne.mpr c7
 by_cases c11 : t698 = 3
 ·
  rw [if_pos c11] at H
  have c11b0 : (t698 == 3) = true := beq_iff_eq.mpr c11
  have c11b1 : (t698 != 3) = false := bne_eq_false_iff_eq.mpr c11
  clear c11
  replace H := Option.bind_eq_some_iff.mp H
  obtain ⟨⟨t704, t705, t706⟩, A120, H⟩ := H
  replace H : (some (IntKind.u64.wrap (18446744073709551615 - (IntKind.u64.wrap (t704))), t705, t706)) = some (r1, r2, r3) := H
  have A12 := Zh A120
  clear A120
  simp only [Option.some.injEq, Prod.mk.injEq] at H
  obtain ⟨rfl, rfl, rfl⟩ := H
  go_enter Try.func76, Try.ntmps76
  go_wp2_with (first | ((with_reducible refine gate_callee (f := 67) rfl ?_); refine ZG (some 6) Try.func67 #[.pointer (some ⟨g, 0, none⟩), .int .i64 8] rfl ?_; (with_reducible refine (spec_l01Below.calls g s0_0 s0_1 s0_2 8 t698 t699 t700 w0 _ ?side1 ?side2 A2.out).mono ?_); (case side1 => repeat (first | (with_reducible first | exact HI0.out | apply IsS76.alloc | apply IsS76.drewN | apply IsS76.drew | apply IsS76.set_1 | apply IsS76.set_2) | exact HI0.out)); (case side2 => repeat (first | (with_reducible first | exact HB.out | apply Zf | apply Zd | apply Ze | refine Zg ?_ (IsS76.ge HI0.out)) | exact HB.out)); rintro e w13 ⟨rfl, hi, hb, hk⟩; refine ⟨_, rfl, ?_⟩; replace HK := Zh (KeepBut.trans (by repeat (first | (with_reducible first | exact HK.out | apply KeepBut.set_ | apply keep_drewN | apply keep_drew | apply keep_alloc) | exact HK.out)) hk (.inl rfl)); replace HB := Zh (hb); replace HI0 := Zh (hi); (try clear hb); (try clear hb2); (try clear hk); (try clear hi)) | ((with_reducible refine gate_callee (f := 67) rfl ?_); refine ZG (some 19) Try.func67 #[.pointer (some ⟨g, 0, none⟩), .int .i64 300] rfl ?_; (with_reducible refine (spec_l01Below.calls g s0_0 t699 t700 300 t704 t705 t706 w0 _ ?side1 ?side2 A12.out).mono ?_); (case side1 => repeat (first | (with_reducible first | exact HI0.out | apply IsS76.alloc | apply IsS76.drewN | apply IsS76.drew | apply IsS76.set_1 | apply IsS76.set_2) | exact HI0.out)); (case side2 => repeat (first | (with_reducible first | exact HB.out | apply Zf | apply Zd | apply Ze | refine Zg ?_ (IsS76.ge HI0.out)) | exact HB.out)); rintro e w14 ⟨rfl, hi, hb, hk⟩; refine ⟨_, rfl, ?_⟩; replace HK := Zh (KeepBut.trans (by repeat (first | (with_reducible first | exact HK.out | apply KeepBut.set_ | apply keep_drewN | apply keep_drew | apply keep_alloc) | exact HK.out)) hk (.inl rfl)); replace HB := Zh (hb); replace HI0 := Zh (hi); (try clear hb); (try clear hb2); (try clear hk); (try clear hi)))
  go_ret
  exact ⟨ZE, by repeat (first | (with_reducible first | exact HI0.out | apply IsS76.alloc | apply IsS76.drewN | apply IsS76.drew | apply IsS76.set_1 | apply IsS76.set_2) | exact HI0.out), by repeat (first | (with_reducible first | exact HB.out | apply Zf | apply Zd | apply Ze | refine Zg ?_ (IsS76.ge HI0.out)) | exact HB.out), by repeat (first | (with_reducible first | exact HK.out | apply KeepBut.set_ | apply keep_drewN | apply keep_drew | apply keep_alloc) | exact HK.out)⟩
 rw [if_neg c11] at H
 have c11b0 : (t698 == 3) = false := beq_eq_false_iff_ne.mpr c11
 have c11b1 : (t698 != 3) = true := bne_iff_ne.mpr c11
 by_cases c15 : t698 = 4
 ·
  rw [if_pos c15] at H
  have c15b0 : (t698 == 4) = true := beq_iff_eq.mpr c15
  have c15b1 : (t698 != 4) = false := bne_eq_false_iff_eq.mpr c15
  clear c15
  replace H := Option.bind_eq_some_iff.mp H
  obtain ⟨⟨t707, t708, t709⟩, A160, H⟩ := H
  replace H : (if 0 ≤ (IntKind.u64.wrap (t707)) then (some (shl .u64 1 (IntKind.u64.wrap (t707)), t708, t709)) else (none)) = some (r1, r2, r3) := H
  have A16 := Zh A160
  clear A160
  obtain ⟨ji17, hji17⟩ : ∃ j_ : Int, (IntKind.u64.wrap (t707)) = j_ := ⟨_, rfl⟩
  replace H : (if 0 ≤ (ji17) then (some (shl .u64 1 (ji17), t708, t709)) else (none)) = some (r1, r2, r3) := by first | (rw [hji17] at H; exact H) | (simp only [hji17] at H ⊢; exact H)
  (try rw [hji17] at A2)
  (try rw [hji17] at A16)
  by_cases c18 : 0 ≤ (ji17)
  ·
   rw [if_pos c18] at H
   have c18b0 := eq_true c18
   have c18b1 : decide (0 ≤ (ji17)) = true := decide_eq_true c18
   clear c18
   obtain ⟨ji19, hji19⟩ : ∃ j_ : Int, (shl .u64 1 (ji17)) = j_ := ⟨_, rfl⟩
   replace H : (some (ji19, t708, t709)) = some (r1, r2, r3) := by first | (rw [hji19] at H; exact H) | (simp only [hji19] at H ⊢; exact H)
   (try rw [hji19] at A2)
   (try rw [hji19] at A16)
   have hji19_ : (IntKind.u64.wrap (1 * 2 ^ min (ji17).toNat 64)) = ji19 := hji19
   have hji19z : (ji17) ≤ 64 → (IntKind.u64.wrap (1 * 2 ^ (ji17).toNat)) = ji19 := shl_small hji19
   have hji19u : (IntKind.u64.wrap (2 ^ min (ji17).toNat 64)) = ji19 := by have h_ := hji19_; rw [Int.one_mul] at h_; exact h_
   have hji19v : (ji17) ≤ 64 → (IntKind.u64.wrap (2 ^ (ji17).toNat)) = ji19 := fun hle_ => by have h_ := hji19z hle_; rw [Int.one_mul] at h_; exact h_
   simp only [Option.some.injEq, Prod.mk.injEq] at H
   obtain ⟨rfl, rfl, rfl⟩ := H
   go_enter Try.func76, Try.ntmps76
   go_wp2_with (first | ((with_reducible refine gate_callee (f := 67) rfl ?_); refine ZG (some 6) Try.func67 #[.pointer (some ⟨g, 0, none⟩), .int .i64 8] rfl ?_; (with_reducible refine (spec_l01Below.calls g s0_0 s0_1 s0_2 8 t698 t699 t700 w0 _ ?side1 ?side2 A2.out).mono ?_); (case side1 => repeat (first | (with_reducible first | exact HI0.out | apply IsS76.alloc | apply IsS76.drewN | apply IsS76.drew | apply IsS76.set_1 | apply IsS76.set_2) | exact HI0.out)); (case side2 => repeat (first | (with_reducible first | exact HB.out | apply Zf | apply Zd | apply Ze | refine Zg ?_ (IsS76.ge HI0.out)) | exact HB.out)); rintro e w20 ⟨rfl, hi, hb, hk⟩; refine ⟨_, rfl, ?_⟩; replace HK := Zh (KeepBut.trans (by repeat (first | (with_reducible first | exact HK.out | apply KeepBut.set_ | apply keep_drewN | apply keep_drew | apply keep_alloc) | exact HK.out)) hk (.inl rfl)); replace HB := Zh (hb); replace HI0 := Zh (hi); (try clear hb); (try clear hb2); (try clear hk); (try clear hi)) | ((with_reducible refine gate_callee (f := 67) rfl ?_); refine ZG (some 25) Try.func67 #[.pointer (some ⟨g, 0, none⟩), .int .i64 64] rfl ?_; (with_reducible refine (spec_l01Below.calls g s0_0 t699 t700 64 t707 t708 t709 w0 _ ?side1 ?side2 A16.out).mono ?_); (case side1 => repeat (first | (with_reducible first | exact HI0.out | apply IsS76.alloc | apply IsS76.drewN | apply IsS76.drew | apply IsS76.set_1 | apply IsS76.set_2) | exact HI0.out)); (case side2 => repeat (first | (with_reducible first | exact HB.out | apply Zf | apply Zd | apply Ze | refine Zg ?_ (IsS76.ge HI0.out)) | exact HB.out)); rintro e w21 ⟨rfl, hi, hb, hk⟩; refine ⟨_, rfl, ?_⟩; replace HK := Zh (KeepBut.trans (by repeat (first | (with_reducible first | exact HK.out | apply KeepBut.set_ | apply keep_drewN | apply keep_drew | apply keep_alloc) | exact HK.out)) hk (.inl rfl)); replace HB := Zh (hb); replace HI0 := Zh (hi); (try clear hb); (try clear hb2); (try clear hk); (try clear hi)))
   go_ret
   exact ⟨by first | rfl | (simp [errW_none, errW_some] <;> rfl) | (simp only [← hji17, ← hji19]; first | rfl | (simp [errW_none, errW_some] <;> rfl)) | (simp [*, errW_none, errW_some] <;> rfl), by repeat (first | (with_reducible first | exact HI0.out | apply IsS76.alloc | apply IsS76.drewN | apply IsS76.drew | apply IsS76.set_1 | apply IsS76.set_2) | exact HI0.out), by repeat (first | (with_reducible first | exact HB.out | apply Zf | apply Zd | apply Ze | refine Zg ?_ (IsS76.ge HI0.out)) | exact HB.out), by repeat (first | (with_reducible first | exact HK.out | apply KeepBut.set_ | apply keep_drewN | apply keep_drew | apply keep_alloc) | exact HK.out)⟩
  rw [if_neg c18] at H
  exact absurd H (by simp)
 rw [if_neg c15] at H
 have c15b0 : (t698 == 4) = false := beq_eq_false_iff_ne.mpr c15
 have c15b1 : (t698 != 4) = true := bne_iff_ne.mpr c15
 have H' := Zh H
 clear H
 go_enter Try.func76, Try.ntmps76
 go_wp2_with (first | ((with_reducible refine gate_callee (f := 67) rfl ?_); refine ZG (some 6) Try.func67 #[.pointer (some ⟨g, 0, none⟩), .int .i64 8] rfl ?_; (with_reducible refine (spec_l01Below.calls g s0_0 s0_1 s0_2 8 t698 t699 t700 w0 _ ?side1 ?side2 A2.out).mono ?_); (case side1 => repeat (first | (with_reducible first | exact HI0.out | apply IsS76.alloc | apply IsS76.drewN | apply IsS76.drew | apply IsS76.set_1 | apply IsS76.set_2) | exact HI0.out)); (case side2 => repeat (first | (with_reducible first | exact HB.out | apply Zf | apply Zd | apply Ze | refine Zg ?_ (IsS76.ge HI0.out)) | exact HB.out)); rintro e w22 ⟨rfl, hi, hb, hk⟩; refine ⟨_, rfl, ?_⟩; replace HK := Zh (KeepBut.trans (by repeat (first | (with_reducible first | exact HK.out | apply KeepBut.set_ | apply keep_drewN | apply keep_drew | apply keep_alloc) | exact HK.out)) hk (.inl rfl)); replace HB := Zh (hb); replace HI0 := Zh (hi); (try clear hb); (try clear hb2); (try clear hk); (try clear hi)))
 go_loopg [3, 4] k (fun kq v3 v4 w' => ∃ (x3_1 : Int) (x4_1 : Int) (x1001_1 : Int) (x1002_1 : Int), v3 = .int .u64 x3_1 ∧ v4 = .int .i64 x4_1 ∧ Aside0 (spec_l01Big.l0 kq x3_1 x4_1 s0_0 x1001_1 x1002_1 = some (r1, r2, r3)) ∧ Aside0 (kq ≤ k) ∧ Aside0 (IsS76 w0 w' g s0_0 x1001_1 x1002_1) ∧ Aside0 (KeepBut w w' g none) ∧ Aside0 (Below w0.heap.size w0 w'))
 case atStart => exact ⟨(0), (0), (t699), (t700), (by first | rfl | (simp; done) | (simp [*]; done)), (by first | rfl | (simp; done) | (simp [*]; done)), H', ⟨Nat.le_refl _⟩, ⟨by repeat (first | (with_reducible first | exact HI0.out | apply IsS76.alloc | apply IsS76.drewN | apply IsS76.drew | apply IsS76.set_1 | apply IsS76.set_2) | exact HI0.out)⟩, ⟨by repeat (first | (with_reducible first | exact HK.out | apply KeepBut.set_ | apply keep_drewN | apply keep_drew | apply keep_alloc) | exact HK.out)⟩, ⟨by repeat (first | (with_reducible first | exact HB.out | apply Zf | apply Zd | apply Ze | refine Zg ?_ (IsS76.ge HI0.out)) | exact HB.out)⟩⟩
 case round =>
  clear H'
  try clear c1
  try clear p2
  try clear c3
  try clear c3b0
  try clear c3b1
  try clear c5
  try clear c5b0
  try clear c5b1
  try clear c6
  try clear c7
  try clear c7b0
  try clear c7b1
  try clear c11
  try clear c11b0
  try clear c11b1
  try clear c15
  try clear c15b0
  try clear c15b1
  try clear c18
  try clear c18b0
  try clear c18b1
  obtain ⟨x3_1, x4_1, x1001_1, x1002_1, rfl, rfl, HA, HK1, HI0, HK, HB⟩ := hrel
  cases gk with
  | zero => exact absurd HA.out (by simp [spec_l01Big.l0])
  | succ k1 =>
   have H := HA.out
   clear HA
   simp only [spec_l01Big.l0] at H
   by_cases c23 : x4_1 < 8
   ·
    rw [if_pos c23] at H
    have c23b0 : decide (x4_1 < 8) = true := decide_eq_true c23
    clear c23
    replace H := Option.bind_eq_some_iff.mp H
    obtain ⟨⟨t710, t711, t712⟩, A240, H⟩ := H
    replace H : (spec_l01Big.l0 k1 (IntKind.u64.wrap ((IntKind.u64.wrap (x3_1 * 256)) + (IntKind.u64.wrap (t710)))) (wrap64 (x4_1 + 1)) s0_0 t711 t712) = some (r1, r2, r3) := H
    have A24 := Zh A240
    clear A240
    have H' := Zh H
    clear H
    go_wp2_with (first | ((with_reducible refine gate_callee (f := 67) rfl ?_); refine ZG (some 35) Try.func67 #[.pointer (some ⟨g, 0, none⟩), .int .i64 256] rfl ?_; (with_reducible refine (spec_l01Below.calls g s0_0 x1001_1 x1002_1 256 t710 t711 t712 w0 _ ?side1 ?side2 A24.out).mono ?_); (case side1 => repeat (first | (with_reducible first | exact HI0.out | apply IsS76.alloc | apply IsS76.drewN | apply IsS76.drew | apply IsS76.set_1 | apply IsS76.set_2) | exact HI0.out)); (case side2 => repeat (first | (with_reducible first | exact HB.out | apply Zf | apply Zd | apply Ze | refine Zg ?_ (IsS76.ge HI0.out)) | exact HB.out)); rintro e w25 ⟨rfl, hi, hb, hk⟩; refine ⟨_, rfl, ?_⟩; replace HK := Zh (KeepBut.trans (by repeat (first | (with_reducible first | exact HK.out | apply KeepBut.set_ | apply keep_drewN | apply keep_drew | apply keep_alloc) | exact HK.out)) hk (.inl rfl)); replace HB := Zh (hb); replace HI0 := Zh (hi); (try clear hb); (try clear hb2); (try clear hk); (try clear hi)))
    go_roundg k1
    case measure => have := HK1.out; omega
    case rel => exact ⟨(IntKind.u64.wrap ((IntKind.u64.wrap (x3_1 * 256)) + (IntKind.u64.wrap (t710)))), (wrap64 (x4_1 + 1)), (t711), (t712), (by first | rfl | (simp; done) | (simp [*]; done)), (by first | rfl | (simp; done) | (simp [*]; done)), H', ⟨by have := HK1.out; omega⟩, ⟨by repeat (first | (with_reducible first | exact HI0.out | apply IsS76.alloc | apply IsS76.drewN | apply IsS76.drew | apply IsS76.set_1 | apply IsS76.set_2) | exact HI0.out)⟩, ⟨by repeat (first | (with_reducible first | exact HK.out | apply KeepBut.set_ | apply keep_drewN | apply keep_drew | apply keep_alloc) | exact HK.out)⟩, ⟨by repeat (first | (with_reducible first | exact HB.out | apply Zf | apply Zd | apply Ze | refine Zg ?_ (IsS76.ge HI0.out)) | exact HB.out)⟩⟩
   rw [if_neg c23] at H
   have c23b0 : decide (x4_1 < 8) = false := decide_eq_false c23
   clear c23
   replace H := Option.bind_eq_some_iff.mp H
   obtain ⟨⟨t713, t714, t715⟩, A260, H⟩ := H
   replace H : (if 0 ≤ (IntKind.u64.wrap (t713)) then (some (shr .u64 x3_1 (IntKind.u64.wrap (t713)), t714, t715)) else (none)) = some (r1, r2, r3) := H
   have A26 := Zh A260
   clear A260
   obtain ⟨ji27, hji27⟩ : ∃ j_ : Int, (IntKind.u64.wrap (t713)) = j_ := ⟨_, rfl⟩
   replace H : (if 0 ≤ (ji27) then (some (shr .u64 x3_1 (ji27), t714, t715)) else (none)) = some (r1, r2, r3) := by first | (rw [hji27] at H; exact H) | (simp only [hji27] at H ⊢; exact H)
   (try rw [hji27] at A26)
   by_cases c28 : 0 ≤ (ji27)
   ·
    rw [if_pos c28] at H
    have c28b0 := eq_true c28
    have c28b1 : decide (0 ≤ (ji27)) = true := decide_eq_true c28
    clear c28
    obtain ⟨ji29, hji29⟩ : ∃ j_ : Int, (shr .u64 x3_1 (ji27)) = j_ := ⟨_, rfl⟩
    replace H : (some (ji29, t714, t715)) = some (r1, r2, r3) := by first | (rw [hji29] at H; exact H) | (simp only [hji29] at H ⊢; exact H)
    (try rw [hji29] at A26)
    have hji29_ : (x3_1 / 2 ^ min (ji27).toNat 64) = ji29 := hji29
    have hji29z : (ji27) ≤ 64 → (x3_1 / 2 ^ (ji27).toNat) = ji29 := shr_small hji29
    simp only [Option.some.injEq, Prod.mk.injEq] at H
    obtain ⟨rfl, rfl, rfl⟩ := H
    go_wp2_with (first | ((with_reducible refine gate_callee (f := 67) rfl ?_); refine ZG (some 40) Try.func67 #[.pointer (some ⟨g, 0, none⟩), .int .i64 64] rfl ?_; (with_reducible refine (spec_l01Below.calls g s0_0 x1001_1 x1002_1 64 t713 t714 t715 w0 _ ?side1 ?side2 A26.out).mono ?_); (case side1 => repeat (first | (with_reducible first | exact HI0.out | apply IsS76.alloc | apply IsS76.drewN | apply IsS76.drew | apply IsS76.set_1 | apply IsS76.set_2) | exact HI0.out)); (case side2 => repeat (first | (with_reducible first | exact HB.out | apply Zf | apply Zd | apply Ze | refine Zg ?_ (IsS76.ge HI0.out)) | exact HB.out)); rintro e w30 ⟨rfl, hi, hb, hk⟩; refine ⟨_, rfl, ?_⟩; replace HK := Zh (KeepBut.trans (by repeat (first | (with_reducible first | exact HK.out | apply KeepBut.set_ | apply keep_drewN | apply keep_drew | apply keep_alloc) | exact HK.out)) hk (.inl rfl)); replace HB := Zh (hb); replace HI0 := Zh (hi); (try clear hb); (try clear hb2); (try clear hk); (try clear hi)))
    go_ret
    exact ⟨by first | rfl | (simp [errW_none, errW_some] <;> rfl) | (simp only [← hji27, ← hji29]; first | rfl | (simp [errW_none, errW_some] <;> rfl)) | (simp [*, errW_none, errW_some] <;> rfl), by repeat (first | (with_reducible first | exact HI0.out | apply IsS76.alloc | apply IsS76.drewN | apply IsS76.drew | apply IsS76.set_1 | apply IsS76.set_2) | exact HI0.out), by repeat (first | (with_reducible first | exact HB.out | apply Zf | apply Zd | apply Ze | refine Zg ?_ (IsS76.ge HI0.out)) | exact HB.out), by repeat (first | (with_reducible first | exact HK.out | apply KeepBut.set_ | apply keep_drewN | apply keep_drew | apply keep_alloc) | exact HK.out)⟩
   rw [if_neg c28] at H
   exact absurd H (by simp)
def spec_l01DrawBytes.l0 : Nat → Int → List Int → Int → List Int → Int → Int → Option (List Int × Int × Int)
 | 0, _, _, _, _, _, _ => none
 | k + 1, x1, x5, x6, x1000, x1001, x1002 => if x6 < x1 then ((spec_l01Below.f x1000 x1001 x1002 256).bind fun bt719 => ((spec_l01Below.f x1000 bt719.2.1 bt719.2.2 256).bind fun bt722 => ((spec_l01PickInt.f x1000 bt722.2.1 bt722.2.2 (([0, 1, 255, 128, bt719.1, bt722.1] : List Int))).bind fun bt728 => (if x5.length < 140737488355328 then (spec_l01DrawBytes.l0 k x1 (x5 ++ [(bt728.1) % 256]) (wrap64 (x6 + 1)) x1000 bt728.2.1 bt728.2.2) else (none))))) else (some (x5, x1001, x1002))
def spec_l01DrawBytes.f (k : Nat) (s0_0 : List Int) (s0_1 : Int) (s0_2 : Int) (a1 : Int) : Option (List Int × Int × Int) := spec_l01DrawBytes.l0 k a1 (([] : List Int)) 0 s0_0 s0_1 s0_2
set_option maxHeartbeats 8000000 in
set_option maxRecDepth 100000 in
theorem spec_l01DrawBytes.calls (k : Nat) (g : Nat) (s0_0 : List Int) (s0_1 : Int) (s0_2 : Int) (a1 : Int) (r1 : List Int) (r2 : Int) (r3 : Int) (w0 w : World) (hI : IsS76 w0 w g s0_0 s0_1 s0_2) (hB : Below w0.heap.size w0 w) (h : spec_l01DrawBytes.f k s0_0 s0_1 s0_2 a1 = some (r1, r2, r3)) :
  Calls Try.prog 77 #[.pointer (some ⟨g, 0, none⟩), .int .i64 a1] w fun e w' => ∃ v0_ : Value, e = .returned (v0_) ∧ Kd.R (Kd.int .u8) 5 w' w.heap.size (fun _ => True) v0_ r1 ∧ IsS76 w0 w' g s0_0 r2 r3 ∧ Below w0.heap.size w0 w' ∧ KeepBut w w' g none := by
 have HI0 := Zh hI
 have HK := Zh (KeepBut.refl w g none)
 have HL := Zh hB.size
 clear hI
 have HW0 := Zh hB.size
 have HB := Zh hB
 clear hB
 have H : (spec_l01DrawBytes.l0 k a1 (([] : List Int)) 0 s0_0 s0_1 s0_2) = some (r1, r2, r3) := h
 clear h
 obtain ⟨y716, hy716⟩ : ∃ y_ : List Int, y_ = (([] : List Int)) := ⟨_, rfl⟩
 replace H : (spec_l01DrawBytes.l0 k a1 y716 0 s0_0 s0_1 s0_2) = some (r1, r2, r3) := by first | (rw [hy716]; with_reducible exact H) | (have H2_ := (Option.bind_some _ _).symm.trans H; rw [hy716]; with_reducible exact H2_) | (have H2_ := (Option.bind_some _ _).symm.trans H; with_reducible exact H2_) | with_reducible exact H | (rw [hy716]; exact H) | exact H
 have Ny716 := Zh hy716
 clear hy716
 have H' := Zh H
 clear H
 go_enter Try.func77, Try.ntmps77
 go_wp2_with (first | ((with_reducible refine gate_dst (N := 7) rfl ?_); refine R_lit (Kd.int .u8) _ 5 ?hg (N := 7) ?hd (xs := ([] : List Int)) (inner := []) (ok := fun _ => True) (okp := fun _ => True) ?hr ?hp (fun _ hk => hk) trivial (Below.refl _ _) (Nat.le_refl _) (by simp) ?_; (case hd => rfl); (case hg => rfl); (case hr => first | (go_simp; done) | (go_simp; rfl)); (case hp => exact (Reps.none _ _)); intro v717 w3 ho4 hb hg_ hnew_; clear hg_ hnew_; (first | rw [← Ny716.out] at ho4 | (simp only [Int.reduceToNat] at ho4; rw [← Ny716.out] at ho4)); have HO718 := Zh (R_lower ho4 (keep_size (w := w) (g := g) (row := none) (by repeat (first | (with_reducible first | exact HK.out | apply KeepBut.set_ | apply keep_drewN | apply keep_drew | apply keep_alloc) | exact HK.out)))); replace HK := Zh (KeepBut.trans (by repeat (first | (with_reducible first | exact HK.out | apply KeepBut.set_ | apply keep_drewN | apply keep_drew | apply keep_alloc) | exact HK.out)) (KeepBut.of_below hb g none) (.inl rfl)); replace HB := Zh (Zl (by repeat (first | (with_reducible first | exact HB.out | apply Zf | apply Zd | apply Ze | refine Zg ?_ (IsS76.ge HI0.out)) | exact HB.out)) hb); replace HI0 := Zh (IsS76.below (by repeat (first | (with_reducible first | exact HI0.out | apply IsS76.alloc | apply IsS76.drewN | apply IsS76.drew | apply IsS76.set_1 | apply IsS76.set_2) | exact HI0.out)) hb); clear hb ho4))
 go_loopg [5, 6] k (fun kq v5 v6 w' => ∃ (x5_1 : List Int) (x6_1 : Int) (x1001_1 : Int) (x1002_1 : Int), v6 = .int .i64 x6_1 ∧ Aside0 (spec_l01DrawBytes.l0 kq a1 x5_1 x6_1 s0_0 x1001_1 x1002_1 = some (r1, r2, r3)) ∧ Aside0 (kq ≤ k) ∧ Aside0 (Kd.R (Kd.int .u8) 5 w' w.heap.size (fun _ => True) v5 x5_1) ∧ Aside0 (IsS76 w0 w' g s0_0 x1001_1 x1002_1) ∧ Aside0 (KeepBut w w' g none) ∧ Aside0 (Below w0.heap.size w0 w'))
 case atStart => exact ⟨(y716), (0), (s0_1), (s0_2), (by first | rfl | (simp; done) | (simp [*]; done)), H', ⟨Nat.le_refl _⟩, ⟨ZR HO718.out⟩, ⟨by repeat (first | (with_reducible first | exact HI0.out | apply IsS76.alloc | apply IsS76.drewN | apply IsS76.drew | apply IsS76.set_1 | apply IsS76.set_2) | exact HI0.out)⟩, ⟨by repeat (first | (with_reducible first | exact HK.out | apply KeepBut.set_ | apply keep_drewN | apply keep_drew | apply keep_alloc) | exact HK.out)⟩, ⟨by repeat (first | (with_reducible first | exact HB.out | apply Zf | apply Zd | apply Ze | refine Zg ?_ (IsS76.ge HI0.out)) | exact HB.out)⟩⟩
 case round =>
  clear H'
  try clear p2
  obtain ⟨x5_1, x6_1, x1001_1, x1002_1, rfl, HA, HK1, HO_5, HI0, HK, HB⟩ := hrel
  cases gk with
  | zero => exact absurd HA.out (by simp [spec_l01DrawBytes.l0])
  | succ k1 =>
   have H := HA.out
   clear HA
   simp only [spec_l01DrawBytes.l0] at H
   by_cases c5 : x6_1 < a1
   ·
    rw [if_pos c5] at H
    have c5b0 : decide (x6_1 < a1) = true := decide_eq_true c5
    clear c5
    replace H := Option.bind_eq_some_iff.mp H
    obtain ⟨⟨t719, t720, t721⟩, A60, H⟩ := H
    replace H : ((spec_l01Below.f s0_0 t720 t721 256).bind fun bt722 => ((spec_l01PickInt.f s0_0 bt722.2.1 bt722.2.2 (([0, 1, 255, 128, t719, bt722.1] : List Int))).bind fun bt728 => (if x5_1.length < 140737488355328 then (spec_l01DrawBytes.l0 k1 a1 (x5_1 ++ [(bt728.1) % 256]) (wrap64 (x6_1 + 1)) s0_0 bt728.2.1 bt728.2.2) else (none)))) = some (r1, r2, r3) := H
    have A6 := Zh A60
    clear A60
    replace H := Option.bind_eq_some_iff.mp H
    obtain ⟨⟨t722, t723, t724⟩, A70, H⟩ := H
    replace H : ((spec_l01PickInt.f s0_0 t723 t724 (([0, 1, 255, 128, t719, t722] : List Int))).bind fun bt728 => (if x5_1.length < 140737488355328 then (spec_l01DrawBytes.l0 k1 a1 (x5_1 ++ [(bt728.1) % 256]) (wrap64 (x6_1 + 1)) s0_0 bt728.2.1 bt728.2.2) else (none))) = some (r1, r2, r3) := H
    have A7 := Zh A70
    clear A70
    obtain ⟨y725, hy725⟩ : ∃ y_ : List Int, y_ = (([0, 1, 255, 128, t719, t722] : List Int)) := ⟨_, rfl⟩
    replace H : ((spec_l01PickInt.f s0_0 t723 t724 y725).bind fun bt728 => (if x5_1.length < 140737488355328 then (spec_l01DrawBytes.l0 k1 a1 (x5_1 ++ [(bt728.1) % 256]) (wrap64 (x6_1 + 1)) s0_0 bt728.2.1 bt728.2.2) else (none))) = some (r1, r2, r3) := by first | (rw [hy725]; with_reducible exact H) | (have H2_ := (Option.bind_some _ _).symm.trans H; rw [hy725]; with_reducible exact H2_) | (have H2_ := (Option.bind_some _ _).symm.trans H; with_reducible exact H2_) | with_reducible exact H | (rw [hy725]; exact H) | exact H
    have Ny725 := Zh hy725
    clear hy725
    replace H := Option.bind_eq_some_iff.mp H
    obtain ⟨⟨t728, t729, t730⟩, A80, H⟩ := H
    replace H : (if x5_1.length < 140737488355328 then (spec_l01DrawBytes.l0 k1 a1 (x5_1 ++ [(t728) % 256]) (wrap64 (x6_1 + 1)) s0_0 t729 t730) else (none)) = some (r1, r2, r3) := H
    have A8 := Zh A80
    clear A80
    by_cases c9 : x5_1.length < 140737488355328
    ·
     rw [if_pos c9] at H
     have LMc9 := Zh c9
     clear c9
     obtain ⟨y731, hy731⟩ : ∃ y_ : List Int, y_ = (x5_1 ++ [(t728) % 256]) := ⟨_, rfl⟩
     replace H : (spec_l01DrawBytes.l0 k1 a1 y731 (wrap64 (x6_1 + 1)) s0_0 t729 t730) = some (r1, r2, r3) := by first | (rw [hy731]; with_reducible exact H) | (have H2_ := (Option.bind_some _ _).symm.trans H; rw [hy731]; with_reducible exact H2_) | (have H2_ := (Option.bind_some _ _).symm.trans H; with_reducible exact H2_) | with_reducible exact H | (rw [hy731]; exact H) | exact H
     have Ny731 := Zh hy731
     clear hy731
     have H' := Zh H
     clear H
     go_wp2_with (first | ((with_reducible refine gate_callee (f := 67) rfl ?_); refine ZG (some 16) Try.func67 #[.pointer (some ⟨g, 0, none⟩), .int .i64 256] rfl ?_; (with_reducible refine (spec_l01Below.calls g s0_0 x1001_1 x1002_1 256 t719 t720 t721 w0 _ ?side1 ?side2 A6.out).mono ?_); (case side1 => repeat (first | (with_reducible first | exact HI0.out | apply IsS76.alloc | apply IsS76.drewN | apply IsS76.drew | apply IsS76.set_1 | apply IsS76.set_2) | exact HI0.out)); (case side2 => repeat (first | (with_reducible first | exact HB.out | apply Zf | apply Zd | apply Ze | refine Zg ?_ (IsS76.ge HI0.out)) | exact HB.out)); rintro e w10 ⟨rfl, hi, hb, hk⟩; refine ⟨_, rfl, ?_⟩; replace HO_5 := Zh (R_mono (R_keep (IsS76.apart (show IsS76 w0 _ g s0_0 x1001_1 x1002_1 from by repeat (first | (with_reducible first | exact HI0.out | apply IsS76.alloc | apply IsS76.drewN | apply IsS76.drew | apply IsS76.set_1 | apply IsS76.set_2) | exact HI0.out)) (ZR HO_5.out) (by decide)) hk (fun _ h => h.2)) (fun _ h => h.1)); replace HK := Zh (KeepBut.trans (by repeat (first | (with_reducible first | exact HK.out | apply KeepBut.set_ | apply keep_drewN | apply keep_drew | apply keep_alloc) | exact HK.out)) hk (.inl rfl)); replace HB := Zh (hb); replace HI0 := Zh (hi); (try clear hb); (try clear hb2); (try clear hk); (try clear hi)) | ((with_reducible refine gate_callee (f := 67) rfl ?_); refine ZG (some 18) Try.func67 #[.pointer (some ⟨g, 0, none⟩), .int .i64 256] rfl ?_; (with_reducible refine (spec_l01Below.calls g s0_0 t720 t721 256 t722 t723 t724 w0 _ ?side1 ?side2 A7.out).mono ?_); (case side1 => repeat (first | (with_reducible first | exact HI0.out | apply IsS76.alloc | apply IsS76.drewN | apply IsS76.drew | apply IsS76.set_1 | apply IsS76.set_2) | exact HI0.out)); (case side2 => repeat (first | (with_reducible first | exact HB.out | apply Zf | apply Zd | apply Ze | refine Zg ?_ (IsS76.ge HI0.out)) | exact HB.out)); rintro e w11 ⟨rfl, hi, hb, hk⟩; refine ⟨_, rfl, ?_⟩; replace HO_5 := Zh (R_mono (R_keep (IsS76.apart (show IsS76 w0 _ g s0_0 t720 t721 from by repeat (first | (with_reducible first | exact HI0.out | apply IsS76.alloc | apply IsS76.drewN | apply IsS76.drew | apply IsS76.set_1 | apply IsS76.set_2) | exact HI0.out)) (ZR HO_5.out) (by decide)) hk (fun _ h => h.2)) (fun _ h => h.1)); replace HK := Zh (KeepBut.trans (by repeat (first | (with_reducible first | exact HK.out | apply KeepBut.set_ | apply keep_drewN | apply keep_drew | apply keep_alloc) | exact HK.out)) hk (.inl rfl)); replace HB := Zh (hb); replace HI0 := Zh (hi); (try clear hb); (try clear hb2); (try clear hk); (try clear hi)) | ((with_reducible refine gate_dst (N := 19) rfl ?_); refine R_lit (Kd.int .i64) _ 3 ?hg (N := 19) ?hd (xs := ([0, 1, 255, 128, t719, t722] : List Int)) (inner := [.int .i64 0, .int .i64 1, .int .i64 255, .int .i64 128, .int .i64 t719, .int .i64 t722]) (ok := fun _ => True) (okp := fun _ => True) ?hr ?hp (fun _ hk => hk) trivial (Below.refl _ _) (Nat.le_refl _) (by simp) ?_; (case hd => rfl); (case hg => rfl); (case hr => first | (go_simp; done) | (go_simp; rfl)); (case hp => exact (Reps.one (show Kd.M (Kd.int .i64) _ _ _ 0 [.int .i64 0] from rfl) (Reps.one (show Kd.M (Kd.int .i64) _ _ _ 1 [.int .i64 1] from rfl) (Reps.one (show Kd.M (Kd.int .i64) _ _ _ 255 [.int .i64 255] from rfl) (Reps.one (show Kd.M (Kd.int .i64) _ _ _ 128 [.int .i64 128] from rfl) (Reps.one (show Kd.M (Kd.int .i64) _ _ _ t719 [.int .i64 t719] from rfl) (Reps.one (show Kd.M (Kd.int .i64) _ _ _ t722 [.int .i64 t722] from rfl) (Reps.none _ _)))))))); intro v726 w12 ho13 hb hg_ hnew_; clear hg_ hnew_; (first | rw [← Ny725.out] at ho13 | (simp only [Int.reduceToNat] at ho13; rw [← Ny725.out] at ho13)); replace HO_5 := Zh (R_below (ZR HO_5.out) hb); have HO727 := Zh (R_lower ho13 (keep_size (w := w) (g := g) (row := none) (by repeat (first | (with_reducible first | exact HK.out | apply KeepBut.set_ | apply keep_drewN | apply keep_drew | apply keep_alloc) | exact HK.out)))); replace HK := Zh (KeepBut.trans (by repeat (first | (with_reducible first | exact HK.out | apply KeepBut.set_ | apply keep_drewN | apply keep_drew | apply keep_alloc) | exact HK.out)) (KeepBut.of_below hb g none) (.inl rfl)); replace HB := Zh (Zl (by repeat (first | (with_reducible first | exact HB.out | apply Zf | apply Zd | apply Ze | refine Zg ?_ (IsS76.ge HI0.out)) | exact HB.out)) hb); replace HI0 := Zh (IsS76.below (by repeat (first | (with_reducible first | exact HI0.out | apply IsS76.alloc | apply IsS76.drewN | apply IsS76.drew | apply IsS76.set_1 | apply IsS76.set_2) | exact HI0.out)) hb); clear hb ho13; obtain ⟨Ao14, co14, eo14⟩ := R_slice HO727.out; subst eo14) | ((with_reducible refine gate_callee (f := 75) rfl ?_); refine ZG (some 20) Try.func75 #[.pointer (some ⟨g, 0, none⟩), .slice Ao14 y725.length co14] rfl ?_; (with_reducible refine (spec_l01PickInt.calls g s0_0 t723 t724 _ _ y725 t728 t729 t730 w0 _ ?side1 ?side2 ?side3 ?side4 ?side5 A8.out).mono ?_); (case side1 => repeat (first | (with_reducible first | exact HI0.out | apply IsS76.alloc | apply IsS76.drewN | apply IsS76.drew | apply IsS76.set_1 | apply IsS76.set_2) | exact HI0.out)); (case side2 => repeat (first | (with_reducible first | exact HB.out | apply Zf | apply Zd | apply Ze | refine Zg ?_ (IsS76.ge HI0.out)) | exact HB.out)); (case side3 => repeat (first | exact (R_reads' HO727.out).2.2 | (with_reducible refine C_alloc ?_ _) | (with_reducible refine C_drewN ?_ _) | (with_reducible refine C_drew ?_))); (case side4 => exact (R_reads' HO727.out).2.1); (case side5 => exact far_slice (IsS76.own_ne HI0.out HO727.out (by decide))); rintro e w15 ⟨rfl, hi, hb, hk⟩; refine ⟨_, rfl, ?_⟩; replace HO_5 := Zh (R_mono (R_keep (IsS76.apart (show IsS76 w0 _ g s0_0 t723 t724 from by repeat (first | (with_reducible first | exact HI0.out | apply IsS76.alloc | apply IsS76.drewN | apply IsS76.drew | apply IsS76.set_1 | apply IsS76.set_2) | exact HI0.out)) (ZR HO_5.out) (by decide)) hk (fun _ h => h.2)) (fun _ h => h.1)); replace HO727 := Zh (R_mono (R_keep (IsS76.apart (show IsS76 w0 _ g s0_0 t723 t724 from by repeat (first | (with_reducible first | exact HI0.out | apply IsS76.alloc | apply IsS76.drewN | apply IsS76.drew | apply IsS76.set_1 | apply IsS76.set_2) | exact HI0.out)) (ZR HO727.out) (by decide)) hk (fun _ h => h.2)) (fun _ h => h.1)); replace HK := Zh (KeepBut.trans (by repeat (first | (with_reducible first | exact HK.out | apply KeepBut.set_ | apply keep_drewN | apply keep_drew | apply keep_alloc) | exact HK.out)) hk (.inl rfl)); replace HB := Zh (hb); replace HI0 := Zh (hi); (try clear hb); (try clear hb2); (try clear hk); (try clear hi)) | ((with_reducible refine gate_builtin (b := .append) (xs := #[.tmp 13, .tmp 22]) rfl ?_); at_builtin; refine R_append (Kd.int .u8) w.heap.size rfl (.tmp 13) (.tmp 22) 24 5 (.int .u8 0) 1 rfl Try.underlying24 info5 rfl (by decide) (by omega) u5 x5_1 ((t728) % 256) [.int .u8 ((t728) % 256)] (fun _ => True) (fun _ => False) rfl rfl ?aP (fun _ hk => hk.elim) ?aF ?aO (Below.refl _ _) ?aS ?aL ?_; (case aP => exact rfl); (case aF => exact (fun _ _ => trivial)); (case aO => exact (ZR HO_5.out)); (case aS => exact (keep_size (w := w) (g := g) (row := none) (by repeat (first | (with_reducible first | exact HK.out | apply KeepBut.set_ | apply keep_drewN | apply keep_drew | apply keep_alloc) | exact HK.out)))); (case aL => have := LMc9.out; omega); intro v732 w16 ho hb hg hat; rw [← Ny731.out] at ho; have n0_ := Zh (IsS76.grown (show IsS76 w0 _ g s0_0 t729 t730 from by repeat (first | (with_reducible first | exact HI0.out | apply IsS76.alloc | apply IsS76.drewN | apply IsS76.drew | apply IsS76.set_1 | apply IsS76.set_2) | exact HI0.out)) hg (IsS76.own_ne HI0.out HO_5.out (by decide))); have n1_ := Zh (R_over' (ZR HO727.out) (R_typed (ZR HO_5.out)) (by decide) hg); have n2_ := Zh (below_weaken (by repeat (first | (with_reducible first | exact HB.out | apply Zf | apply Zd | apply Ze | refine Zg ?_ (IsS76.ge HI0.out)) | exact HB.out)) HL.out hb); have n3_ := Zh (KeepBut.trans (by repeat (first | (with_reducible first | exact HK.out | apply KeepBut.set_ | apply keep_drewN | apply keep_drew | apply keep_alloc) | exact HK.out)) (KeepBut.of_grown hg g) (R_base2 HO_5.out)); have n4_ := Zh (ho); clear HI0; clear HO727; clear HB; clear HK; clear HO_5; have HI0 := n0_; have HO727 := n1_; have HB := n2_; have HK := n3_; have HO733 := n4_; clear n0_ n1_ n2_ n3_ n4_; clear ho hb hg hat))
     go_roundg k1
     case measure => have := HK1.out; omega
     case rel => exact ⟨(y731), (wrap64 (x6_1 + 1)), (t729), (t730), (by first | rfl | (simp; done) | (simp [*]; done)), H', ⟨by have := HK1.out; omega⟩, ⟨ZR HO733.out⟩, ⟨by repeat (first | (with_reducible first | exact HI0.out | apply IsS76.alloc | apply IsS76.drewN | apply IsS76.drew | apply IsS76.set_1 | apply IsS76.set_2) | exact HI0.out)⟩, ⟨by repeat (first | (with_reducible first | exact HK.out | apply KeepBut.set_ | apply keep_drewN | apply keep_drew | apply keep_alloc) | exact HK.out)⟩, ⟨by repeat (first | (with_reducible first | exact HB.out | apply Zf | apply Zd | apply Ze | refine Zg ?_ (IsS76.ge HI0.out)) | exact HB.out)⟩⟩
    rw [if_neg c9] at H
    exact absurd H (by simp)
   rw [if_neg c5] at H
   have c5b0 : decide (x6_1 < a1) = false := decide_eq_false c5
   clear c5
   simp only [Option.some.injEq, Prod.mk.injEq] at H
   obtain ⟨rfl, rfl, rfl⟩ := H
   go_wp2
   go_ret
   exact ⟨_, ZE, ZR HO_5.out, by repeat (first | (with_reducible first | exact HI0.out | apply IsS76.alloc | apply IsS76.drewN | apply IsS76.drew | apply IsS76.set_1 | apply IsS76.set_2) | exact HI0.out), by repeat (first | (with_reducible first | exact HB.out | apply Zf | apply Zd | apply Ze | refine Zg ?_ (IsS76.ge HI0.out)) | exact HB.out), by repeat (first | (with_reducible first | exact HK.out | apply KeepBut.set_ | apply keep_drewN | apply keep_drew | apply keep_alloc) | exact HK.out)⟩
mutual
def spec_l01DrawRecord.l0 : Nat → Int → List Int → Int → Int → Int → List Int → Option (Int × List Int × List ByteArray × Int × Int)
 | 0, _, _, _, _, _, _ => none
 | k + 1, x4, x1000, x1001, x1002, x745000, x745001 => if x4 > 0 then ((spec_l01Big.f k x1000 x1001 x1002).bind fun bt748 => (if x745001.length < 17592186044416 then (spec_l01DrawRecord.l0 k (wrap64 (x4 - 1)) x1000 bt748.2.1 bt748.2.2 x745000 (x745001 ++ [bt748.1])) else (none))) else ((spec_l01Below.f x1000 x1001 x1002 4).bind fun bt754 => (spec_l01DrawRecord.l1 k bt754.1 x1000 bt754.2.1 bt754.2.2 x745000 x745001 ([] : List ByteArray)))
def spec_l01DrawRecord.l1 : Nat → Int → List Int → Int → Int → Int → List Int → List ByteArray → Option (Int × List Int × List ByteArray × Int × Int)
 | 0, _, _, _, _, _, _, _ => none
 | k + 1, x5, x1000, x1001, x1002, x745000, x745001, x745002 => if x5 > 0 then ((spec_l01Below.f x1000 x1001 x1002 6).bind fun bt757 => ((spec_l01DrawBytes.f k x1000 bt757.2.1 bt757.2.2 bt757.1).bind fun bt760 => (if x745002.length < 8796093022208 then (spec_l01DrawRecord.l1 k (wrap64 (x5 - 1)) x1000 bt760.2.1 bt760.2.2 x745000 x745001 (x745002 ++ [strOfNums bt760.1])) else (none)))) else (some (x745000, x745001, x745002, x1001, x1002))
end
def spec_l01DrawRecord.f (k : Nat) (s0_0 : List Int) (s0_1 : Int) (s0_2 : Int) : Option (Int × List Int × List ByteArray × Int × Int) := (spec_l01Below.f s0_0 s0_1 s0_2 251).bind fun bt735 => ((spec_l01PickInt.f s0_0 bt735.2.1 bt735.2.2 (([0, 1, 2, 250, bt735.1] : List Int))).bind fun bt741 => ((spec_l01Below.f s0_0 bt741.2.1 bt741.2.2 5).bind fun bt745 => (spec_l01DrawRecord.l0 k bt745.1 s0_0 bt745.2.1 bt745.2.2 bt741.1 ([] : List Int))))
def spec_l01DrawRecord.T5 : Bool × List (List Nat × List Nat) := (true, [([], []), ([0], [0]), ([], []), ([2], [2]), ([3], [3]), ([1, 4, 3], [1, 4]), ([0, 1, 2, 3, 4, 5], []), ([6, 5, 5, 0, 1, 2, 3, 4, 5], [5, 6])])
def spec_l01DrawRecord.B5 : List Nat := [0, 1, 0, 4, 12, 31, 63, 127]
theorem spec_l01DrawRecord.tab5 : rtab .any (opsOf Try.f69 5) = spec_l01DrawRecord.T5 := by kernel_rfl
theorem spec_l01DrawRecord.bits5 : waitsOk spec_l01DrawRecord.T5.2 spec_l01DrawRecord.B5 = true := by kernel_rfl
def spec_l01DrawRecord.T9 : Bool × List (List Nat × List Nat) := (true, [([], []), ([0], [0]), ([], []), ([], []), ([3], [3]), ([2, 4, 4], [2, 4]), ([5], [5]), ([6], [6]), ([1, 7, 5], [1, 7]), ([0, 1, 2, 3, 4, 5, 6, 7, 8], []), ([9, 8, 8, 0, 1, 2, 3, 4, 5, 6, 7, 8], [8, 9])])
def spec_l01DrawRecord.B9 : List Nat := [0, 1, 0, 0, 8, 28, 60, 124, 255, 511, 1023]
theorem spec_l01DrawRecord.tab9 : rtab .any (opsOf Try.f69 9) = spec_l01DrawRecord.T9 := by kernel_rfl
theorem spec_l01DrawRecord.bits9 : waitsOk spec_l01DrawRecord.T9.2 spec_l01DrawRecord.B9 = true := by kernel_rfl
set_option maxHeartbeats 8000000 in
set_option maxRecDepth 100000 in
theorem spec_l01DrawRecord.calls (k : Nat) (g : Nat) (s0_0 : List Int) (s0_1 : Int) (s0_2 : Int) (r1 : Int) (r2 : List Int) (r3 : List ByteArray) (r4 : Int) (r5 : Int) (w0 w : World) (hI : IsS76 w0 w g s0_0 s0_1 s0_2) (hB : Below w0.heap.size w0 w) (h : spec_l01DrawRecord.f k s0_0 s0_1 s0_2 = some (r1, r2, r3, r4, r5)) :
  Calls Try.prog 69 #[.pointer (some ⟨g, 0, none⟩)] w fun e w' => ∃ v1_ v2_ : Value, e = .returned (.agg #[.int .i64 r1, v1_, v2_]) ∧ Kd.R (Kd.int .u64) 23 w' w.heap.size (fun _ => True) v1_ r2 ∧ Kd.R Kd.string 9 w' w.heap.size (fun _ => True) v2_ r3 ∧ IsS76 w0 w' g s0_0 r4 r5 ∧ Below w0.heap.size w0 w' ∧ KeepBut w w' g none := by
 have hu42 := Try.underlying42
 have HI0 := Zh hI
 have HK := Zh (KeepBut.refl w g none)
 have HL := Zh hB.size
 clear hI
 have HW0 := Zh hB.size
 have HB := Zh hB
 clear hB
 have H : ((spec_l01Below.f s0_0 s0_1 s0_2 251).bind fun bt735 => ((spec_l01PickInt.f s0_0 bt735.2.1 bt735.2.2 (([0, 1, 2, 250, bt735.1] : List Int))).bind fun bt741 => ((spec_l01Below.f s0_0 bt741.2.1 bt741.2.2 5).bind fun bt745 => (spec_l01DrawRecord.l0 k bt745.1 s0_0 bt745.2.1 bt745.2.2 bt741.1 ([] : List Int))))) = some (r1, r2, r3, r4, r5) := h
 clear h
 replace H := Option.bind_eq_some_iff.mp H
 obtain ⟨⟨t735, t736, t737⟩, A20, H⟩ := H
 replace H : ((spec_l01PickInt.f s0_0 t736 t737 (([0, 1, 2, 250, t735] : List Int))).bind fun bt741 => ((spec_l01Below.f s0_0 bt741.2.1 bt741.2.2 5).bind fun bt745 => (spec_l01DrawRecord.l0 k bt745.1 s0_0 bt745.2.1 bt745.2.2 bt741.1 ([] : List Int)))) = some (r1, r2, r3, r4, r5) := H
 have A2 := Zh A20
 clear A20
 obtain ⟨y738, hy738⟩ : ∃ y_ : List Int, y_ = (([0, 1, 2, 250, t735] : List Int)) := ⟨_, rfl⟩
 replace H : ((spec_l01PickInt.f s0_0 t736 t737 y738).bind fun bt741 => ((spec_l01Below.f s0_0 bt741.2.1 bt741.2.2 5).bind fun bt745 => (spec_l01DrawRecord.l0 k bt745.1 s0_0 bt745.2.1 bt745.2.2 bt741.1 ([] : List Int)))) = some (r1, r2, r3, r4, r5) := by first | (rw [hy738]; with_reducible exact H) | (have H2_ := (Option.bind_some _ _).symm.trans H; rw [hy738]; with_reducible exact H2_) | (have H2_ := (Option.bind_some _ _).symm.trans H; with_reducible exact H2_) | with_reducible exact H | (rw [hy738]; exact H) | exact H
 have Ny738 := Zh hy738
 clear hy738
 replace H := Option.bind_eq_some_iff.mp H
 obtain ⟨⟨t741, t742, t743⟩, A30, H⟩ := H
 replace H : ((spec_l01Below.f s0_0 t742 t743 5).bind fun bt745 => (spec_l01DrawRecord.l0 k bt745.1 s0_0 bt745.2.1 bt745.2.2 t741 ([] : List Int))) = some (r1, r2, r3, r4, r5) := H
 have A3 := Zh A30
 clear A30
 replace H := Option.bind_eq_some_iff.mp H
 obtain ⟨⟨t745, t746, t747⟩, A40, H⟩ := H
 replace H : (spec_l01DrawRecord.l0 k t745 s0_0 t746 t747 t741 ([] : List Int)) = some (r1, r2, r3, r4, r5) := H
 have A4 := Zh A40
 clear A40
 have H' := Zh H
 clear H
 go_enter Try.func69, Try.ntmps69
 go_wp2_with (first | ((with_reducible refine gate_dst (N := 2) rfl ?_); refine box_event ?hg (N := 2) ?hd (cs := #[.int .i64 0, .slice none 0 0, .slice none 0 0]) (t := 42) ?hr ?_; (case hd => rfl); (case hg => rfl); (case hr => first | (go_simp; done) | (go_simp; rfl)); intro gb734 hg w5 hbox hb; replace HB := Zh (Zl (by repeat (first | (with_reducible first | exact HB.out | apply Zf | apply Zd | apply Ze | refine Zg ?_ (IsS76.ge HI0.out)) | exact HB.out)) hb); have BK734 := Zh (hbox); have GW734 := Zh ((by rw [hg]; exact (keep_size (w := w) (g := g) (row := none) (by repeat (first | (with_reducible first | exact HK.out | apply KeepBut.set_ | apply keep_drewN | apply keep_drew | apply keep_alloc) | exact HK.out))) : w.heap.size ≤ gb734)); have GE734 := Zh ((Nat.le_trans HW0.out (by rw [hg]; exact (keep_size (w := w) (g := g) (row := none) (by repeat (first | (with_reducible first | exact HK.out | apply KeepBut.set_ | apply keep_drewN | apply keep_drew | apply keep_alloc) | exact HK.out))) : w.heap.size ≤ gb734) : w0.heap.size ≤ gb734)); replace HK := Zh (KeepBut.trans (by repeat (first | (with_reducible first | exact HK.out | apply KeepBut.set_ | apply keep_drewN | apply keep_drew | apply keep_alloc) | exact HK.out)) (KeepBut.of_below hb g none) (.inl rfl)); have NB0_734 := Zh ((by rw [hg]; exact Nat.ne_of_lt (IsS76.lt (show IsS76 w0 _ g s0_0 s0_1 s0_2 from by repeat (first | (with_reducible first | exact HI0.out | apply IsS76.alloc | apply IsS76.drewN | apply IsS76.drew | apply IsS76.set_1 | apply IsS76.set_2) | exact HI0.out))) : g ≠ gb734)); have NB734_0 := Zh ((by rw [hg]; exact Nat.ne_of_gt (IsS76.lt (show IsS76 w0 _ g s0_0 s0_1 s0_2 from by repeat (first | (with_reducible first | exact HI0.out | apply IsS76.alloc | apply IsS76.drewN | apply IsS76.drew | apply IsS76.set_1 | apply IsS76.set_2) | exact HI0.out))) : gb734 ≠ g)); replace HI0 := Zh (IsS76.below (by repeat (first | (with_reducible first | exact HI0.out | apply IsS76.alloc | apply IsS76.drewN | apply IsS76.drew | apply IsS76.set_1 | apply IsS76.set_2) | exact HI0.out)) hb); clear hb hbox hg) | ((with_reducible refine gate_callee (f := 67) rfl ?_); refine ZG (some 8) Try.func67 #[.pointer (some ⟨g, 0, none⟩), .int .i64 251] rfl ?_; (with_reducible refine (spec_l01Below.calls g s0_0 s0_1 s0_2 251 t735 t736 t737 w0 _ ?side1 ?side2 A2.out).mono ?_); (case side1 => repeat (first | (with_reducible first | exact HI0.out | apply IsS76.alloc | apply IsS76.drewN | apply IsS76.drew | apply IsS76.set_1 | apply IsS76.set_2 | refine IsS76.far ?_ NB0_734.out _) | exact HI0.out)); (case side2 => repeat (first | (with_reducible first | exact HB.out | apply Zf | apply Zd | apply Ze | refine Zg ?_ (IsS76.ge HI0.out) | refine Zg ?_ GE734.out) | exact HB.out)); rintro e w6 ⟨rfl, hi, hb, hk⟩; refine ⟨_, rfl, ?_⟩; replace BK734 := Zh (KeepBut.blk hk (g' := gb734) (o := .cells #[.int .i64 0, .slice none 0 0, .slice none 0 0] 42 (0, 0)) Zk NB734_0.out (by simp)); replace HK := Zh (KeepBut.trans (by repeat (first | (with_reducible first | exact HK.out | apply KeepBut.set_ | apply keep_drewN | apply keep_drew | apply keep_alloc | refine keep_far ?_ GW734.out _) | exact HK.out)) hk (.inl rfl)); replace HB := Zh (hb); replace HI0 := Zh (hi); (try clear hb); (try clear hb2); (try clear hk); (try clear hi)) | ((with_reducible refine gate_dst (N := 9) rfl ?_); refine R_lit (Kd.int .i64) _ 3 ?hg (N := 9) ?hd (xs := ([0, 1, 2, 250, t735] : List Int)) (inner := [.int .i64 0, .int .i64 1, .int .i64 2, .int .i64 250, .int .i64 t735]) (ok := fun _ => True) (okp := fun _ => True) ?hr ?hp (fun _ hk => hk) trivial (Below.refl _ _) (Nat.le_refl _) (by simp) ?_; (case hd => rfl); (case hg => rfl); (case hr => first | (go_simp; done) | (go_simp; rfl)); (case hp => exact (Reps.one (show Kd.M (Kd.int .i64) _ _ _ 0 [.int .i64 0] from rfl) (Reps.one (show Kd.M (Kd.int .i64) _ _ _ 1 [.int .i64 1] from rfl) (Reps.one (show Kd.M (Kd.int .i64) _ _ _ 2 [.int .i64 2] from rfl) (Reps.one (show Kd.M (Kd.int .i64) _ _ _ 250 [.int .i64 250] from rfl) (Reps.one (show Kd.M (Kd.int .i64) _ _ _ t735 [.int .i64 t735] from rfl) (Reps.none _ _))))))); intro v739 w7 ho8 hb hg_ hnew_; clear hg_ hnew_; (first | rw [← Ny738.out] at ho8 | (simp only [Int.reduceToNat] at ho8; rw [← Ny738.out] at ho8)); have HO740 := Zh (R_lower ho8 (keep_size (w := w) (g := g) (row := none) (by repeat (first | (with_reducible first | exact HK.out | apply KeepBut.set_ | apply keep_drewN | apply keep_drew | apply keep_alloc | refine keep_far ?_ GW734.out _) | exact HK.out)))); replace BK734 := Zh (blk_below (g := gb734) (o := .cells #[.int .i64 0, .slice none 0 0, .slice none 0 0] 42 (0, 0)) Zk hb); replace HK := Zh (KeepBut.trans (by repeat (first | (with_reducible first | exact HK.out | apply KeepBut.set_ | apply keep_drewN | apply keep_drew | apply keep_alloc | refine keep_far ?_ GW734.out _) | exact HK.out)) (KeepBut.of_below hb g none) (.inl rfl)); replace HB := Zh (Zl (by repeat (first | (with_reducible first | exact HB.out | apply Zf | apply Zd | apply Ze | refine Zg ?_ (IsS76.ge HI0.out) | refine Zg ?_ GE734.out) | exact HB.out)) hb); replace HI0 := Zh (IsS76.below (by repeat (first | (with_reducible first | exact HI0.out | apply IsS76.alloc | apply IsS76.drewN | apply IsS76.drew | apply IsS76.set_1 | apply IsS76.set_2 | refine IsS76.far ?_ NB0_734.out _) | exact HI0.out)) hb); clear hb ho8; obtain ⟨Ao9, co9, eo9⟩ := R_slice HO740.out; subst eo9) | ((with_reducible refine gate_callee (f := 75) rfl ?_); refine ZG (some 10) Try.func75 #[.pointer (some ⟨g, 0, none⟩), .slice Ao9 y738.length co9] rfl ?_; (with_reducible refine (spec_l01PickInt.calls g s0_0 t736 t737 _ _ y738 t741 t742 t743 w0 _ ?side1 ?side2 ?side3 ?side4 ?side5 A3.out).mono ?_); (case side1 => repeat (first | (with_reducible first | exact HI0.out | apply IsS76.alloc | apply IsS76.drewN | apply IsS76.drew | apply IsS76.set_1 | apply IsS76.set_2 | refine IsS76.far ?_ NB0_734.out _) | exact HI0.out)); (case side2 => repeat (first | (with_reducible first | exact HB.out | apply Zf | apply Zd | apply Ze | refine Zg ?_ (IsS76.ge HI0.out) | refine Zg ?_ GE734.out) | exact HB.out)); (case side3 => repeat (first | exact (R_reads' HO740.out).2.2 | (with_reducible refine C_alloc ?_ _) | (with_reducible refine C_drewN ?_ _) | (with_reducible refine C_drew ?_))); (case side4 => exact (R_reads' HO740.out).2.1); (case side5 => exact far_slice (IsS76.own_ne HI0.out HO740.out (by decide))); rintro e w10 ⟨rfl, hi, hb, hk⟩; refine ⟨_, rfl, ?_⟩; replace BK734 := Zh (KeepBut.blk hk (g' := gb734) (o := .cells #[.int .i64 0, .slice none 0 0, .slice none 0 0] 42 (0, 0)) Zk NB734_0.out (by simp)); replace HO740 := Zh (R_mono (R_keep (IsS76.apart (show IsS76 w0 _ g s0_0 t736 t737 from by repeat (first | (with_reducible first | exact HI0.out | apply IsS76.alloc | apply IsS76.drewN | apply IsS76.drew | apply IsS76.set_1 | apply IsS76.set_2 | refine IsS76.far ?_ NB0_734.out _) | exact HI0.out)) (ZR HO740.out) (by decide)) hk (fun _ h => h.2)) (fun _ h => h.1)); replace HK := Zh (KeepBut.trans (by repeat (first | (with_reducible first | exact HK.out | apply KeepBut.set_ | apply keep_drewN | apply keep_drew | apply keep_alloc | refine keep_far ?_ GW734.out _) | exact HK.out)) hk (.inl rfl)); replace HB := Zh (hb); replace HI0 := Zh (hi); (try clear hb); (try clear hb2); (try clear hk); (try clear hi)) | ((with_reducible refine gate_dst (N := 3) rfl ?_); refine box_event ?hg (N := 3) ?hd (cs := #[.int .i64 0, .slice none 0 0, .slice none 0 0]) (t := 42) ?hr ?_; (case hd => rfl); (case hg => rfl); (case hr => first | (go_simp; done) | (go_simp; rfl)); intro gb744 hg w11 hbox hb; replace HO740 := Zh (R_below (ZR HO740.out) hb); replace HB := Zh (Zl (by repeat (first | (with_reducible first | exact HB.out | apply Zf | apply Zd | apply Ze | refine Zg ?_ (IsS76.ge HI0.out) | refine Zg ?_ GE734.out) | exact HB.out)) hb); have BK744 := Zh (hbox); have GW744 := Zh ((by rw [hg]; exact (keep_size (w := w) (g := g) (row := none) (by repeat (first | (with_reducible first | exact HK.out | apply KeepBut.set_ | apply keep_drewN | apply keep_drew | apply keep_alloc | refine keep_far ?_ GW734.out _) | exact HK.out))) : w.heap.size ≤ gb744)); have GE744 := Zh ((Nat.le_trans HW0.out (by rw [hg]; exact (keep_size (w := w) (g := g) (row := none) (by repeat (first | (with_reducible first | exact HK.out | apply KeepBut.set_ | apply keep_drewN | apply keep_drew | apply keep_alloc | refine keep_far ?_ GW734.out _) | exact HK.out))) : w.heap.size ≤ gb744) : w0.heap.size ≤ gb744)); replace HK := Zh (KeepBut.trans (by repeat (first | (with_reducible first | exact HK.out | apply KeepBut.set_ | apply keep_drewN | apply keep_drew | apply keep_alloc | refine keep_far ?_ GW734.out _) | exact HK.out)) (KeepBut.of_below hb g none) (.inl rfl)); have NB734_744 := Zh ((by rw [hg]; exact Nat.ne_of_lt (blk_lt (g := gb734) (o := .cells #[.int .i64 0, .slice none 0 0, .slice none 0 0] 42 (0, 0)) Zk) : gb734 ≠ gb744)); have NB744_734 := Zh ((by rw [hg]; exact Nat.ne_of_gt (blk_lt (g := gb734) (o := .cells #[.int .i64 0, .slice none 0 0, .slice none 0 0] 42 (0, 0)) Zk) : gb744 ≠ gb734)); replace BK734 := Zh (blk_below (g := gb734) (o := .cells #[.int .i64 0, .slice none 0 0, .slice none 0 0] 42 (0, 0)) Zk hb); have NB0_744 := Zh ((by rw [hg]; exact Nat.ne_of_lt (IsS76.lt (show IsS76 w0 _ g s0_0 t742 t743 from by repeat (first | (with_reducible first | exact HI0.out | apply IsS76.alloc | apply IsS76.drewN | apply IsS76.drew | apply IsS76.set_1 | apply IsS76.set_2 | refine IsS76.far ?_ NB0_734.out _) | exact HI0.out))) : g ≠ gb744)); have NB744_0 := Zh ((by rw [hg]; exact Nat.ne_of_gt (IsS76.lt (show IsS76 w0 _ g s0_0 t742 t743 from by repeat (first | (with_reducible first | exact HI0.out | apply IsS76.alloc | apply IsS76.drewN | apply IsS76.drew | apply IsS76.set_1 | apply IsS76.set_2 | refine IsS76.far ?_ NB0_734.out _) | exact HI0.out))) : gb744 ≠ g)); replace HI0 := Zh (IsS76.below (by repeat (first | (with_reducible first | exact HI0.out | apply IsS76.alloc | apply IsS76.drewN | apply IsS76.drew | apply IsS76.set_1 | apply IsS76.set_2 | refine IsS76.far ?_ NB0_734.out _) | exact HI0.out)) hb); clear hb hbox hg; have hnb12 := NB744_734.out; have hnc12 := NB734_744.out; have hnb13 := NB744_0.out; have hnc13 := NB0_744.out; have hcz14_0 : w11.cell? ⟨gb744, 0, none⟩ = some (.int .i64 0) := (blk_cell BK744.out 0).trans rfl; have hcz14_1 : w11.cell? ⟨gb744, 1, none⟩ = some (.slice none 0 0) := (blk_cell BK744.out 1).trans rfl; have hcz14_2 : w11.cell? ⟨gb744, 2, none⟩ = some (.slice none 0 0) := (blk_cell BK744.out 2).trans rfl; have hfz14_0 := Zn BK744.out 0; have hfz14_1 := Zn BK744.out 1; have hfz14_2 := Zn BK744.out 2) | ((with_reducible refine gate_callee (f := 67) rfl ?_); refine ZG (some 13) Try.func67 #[.pointer (some ⟨g, 0, none⟩), .int .i64 5] rfl ?_; (with_reducible refine (spec_l01Below.calls g s0_0 t742 t743 5 t745 t746 t747 w0 _ ?side1 ?side2 A4.out).mono ?_); (case side1 => repeat (first | (with_reducible first | exact HI0.out | apply IsS76.alloc | apply IsS76.drewN | apply IsS76.drew | apply IsS76.set_1 | apply IsS76.set_2 | refine IsS76.far ?_ NB0_734.out _ | refine IsS76.far ?_ NB0_744.out _) | exact HI0.out)); (case side2 => repeat (first | (with_reducible first | exact HB.out | apply Zf | apply Zd | apply Ze | refine Zg ?_ (IsS76.ge HI0.out) | refine Zg ?_ GE734.out | refine Zg ?_ GE744.out) | exact HB.out)); rintro e w15 ⟨rfl, hi, hb, hk⟩; refine ⟨_, rfl, ?_⟩; replace BK734 := Zh (KeepBut.blk hk (g' := gb734) (o := .cells #[.int .i64 0, .slice none 0 0, .slice none 0 0] 42 (0, 0)) (by (with_reducible repeat (first | refine Za ?_ _ | refine Zb ?_ | refine blk_alloc ?_ _)); refine blk_far ?_ NB734_744.out _; (with_reducible repeat (first | refine Za ?_ _ | refine Zb ?_ | refine blk_alloc ?_ _)); refine blk_far ?_ NB734_744.out _; (with_reducible repeat (first | refine Za ?_ _ | refine Zb ?_ | refine blk_alloc ?_ _)); refine blk_far ?_ NB734_744.out _; (with_reducible repeat (first | refine Za ?_ _ | refine Zb ?_ | refine blk_alloc ?_ _)); exact BK734.out) NB734_0.out (by simp)); replace HO740 := Zh (R_mono (R_keep (IsS76.apart (show IsS76 w0 _ g s0_0 t742 t743 from by repeat (first | (with_reducible first | exact HI0.out | apply IsS76.alloc | apply IsS76.drewN | apply IsS76.drew | apply IsS76.set_1 | apply IsS76.set_2 | refine IsS76.far ?_ NB0_734.out _ | refine IsS76.far ?_ NB0_744.out _) | exact HI0.out)) (ZR (R_mono (R_far (p := ⟨gb744, 2, none⟩) (R_far (p := ⟨gb744, 1, none⟩) (R_far (p := ⟨gb744, 0, none⟩) (R_types HO740.out BK744.out (by decide)) (fun _ hk => hk.2) (.int .i64 t741)) (fun _ hk => hk.2) (.slice none 0 0)) (fun _ hk => hk.2) (.slice none 0 0)) (fun _ h_ => h_.1))) (by decide)) hk (fun _ h => h.2)) (fun _ h => h.1)); replace BK744 := Zh (KeepBut.blk hk (g' := gb744) (o := .cells #[.int .i64 t741, .slice none 0 0, .slice none 0 0] 42 (0, 0)) (by (with_reducible repeat (first | refine Za ?_ _ | refine Zb ?_ | refine blk_alloc ?_ _)); refine blk_put (cs := #[.int .i64 t741, .slice none 0 0, .slice none 0 0]) ?_ 2 _ rfl; (with_reducible repeat (first | refine Za ?_ _ | refine Zb ?_ | refine blk_alloc ?_ _)); refine blk_put (cs := #[.int .i64 t741, .slice none 0 0, .slice none 0 0]) ?_ 1 _ rfl; (with_reducible repeat (first | refine Za ?_ _ | refine Zb ?_ | refine blk_alloc ?_ _)); refine blk_put (cs := #[.int .i64 0, .slice none 0 0, .slice none 0 0]) ?_ 0 _ rfl; (with_reducible repeat (first | refine Za ?_ _ | refine Zb ?_ | refine blk_alloc ?_ _)); exact BK744.out) NB744_0.out (by simp)); replace HK := Zh (KeepBut.trans (by repeat (first | (with_reducible first | exact HK.out | apply KeepBut.set_ | apply keep_drewN | apply keep_drew | apply keep_alloc | refine keep_far ?_ GW734.out _ | refine keep_far ?_ GW744.out _) | exact HK.out)) hk (.inl rfl)); replace HB := Zh (hb); replace HI0 := Zh (hi); (try clear hb); (try clear hb2); (try clear hk); (try clear hi)))
 go_loopg [4] k (fun kq v4 w' => ∃ (x4_1 : Int) (x1001_1 : Int) (x1002_1 : Int) (x745001_1 : List Int) (u745001 : Value), v4 = .int .i64 x4_1 ∧ Aside0 (spec_l01DrawRecord.l0 kq x4_1 s0_0 x1001_1 x1002_1 t741 x745001_1 = some (r1, r2, r3, r4, r5)) ∧ Aside0 (kq ≤ k) ∧ Aside0 (Kd.R (Kd.int .u64) 23 w' w.heap.size (fun _ => True) u745001 x745001_1) ∧ Aside0 (w'.heap[gb734]? = some (.cells #[.int .i64 0, (.slice none 0 0), (.slice none 0 0)] 42 (0, 0))) ∧ Aside0 (w'.heap[gb744]? = some (.cells #[.int .i64 t741, u745001, (.slice none 0 0)] 42 (0, 0))) ∧ Aside0 (IsS76 w0 w' g s0_0 x1001_1 x1002_1) ∧ Aside0 (KeepBut w w' g none) ∧ Aside0 (Below w0.heap.size w0 w'))
 case atStart => exact ⟨(t745), (t746), (t747), (([] : List Int)), (.slice none 0 0), (by first | rfl | (simp; done) | (simp [*]; done)), H', ⟨Nat.le_refl _⟩, ⟨by first | exact R_nil _ _ _ _ _ | exact N_nil _ _ _ _ _ | exact V_nil _ _ _ _ _ | exact Q_nil _ _ _ _ _ | exact S_nil _ _ _ _ _⟩, ⟨Zk⟩, ⟨Zk⟩, ⟨by repeat (first | (with_reducible first | exact HI0.out | apply IsS76.alloc | apply IsS76.drewN | apply IsS76.drew | apply IsS76.set_1 | apply IsS76.set_2 | refine IsS76.far ?_ NB0_734.out _ | refine IsS76.far ?_ NB0_744.out _) | exact HI0.out)⟩, ⟨by repeat (first | (with_reducible first | exact HK.out | apply KeepBut.set_ | apply keep_drewN | apply keep_drew | apply keep_alloc | refine keep_far ?_ GW734.out _ | refine keep_far ?_ GW744.out _) | exact HK.out)⟩, ⟨by repeat (first | (with_reducible first | exact HB.out | apply Zf | apply Zd | apply Ze | refine Zg ?_ (IsS76.ge HI0.out) | refine Zg ?_ GE734.out | refine Zg ?_ GE744.out) | exact HB.out)⟩⟩
 case round =>
  clear H'
  try clear c1
  try clear p2
  try clear c6
  try clear c7
  try clear c12
  try clear c13
  try clear hcz14_0
  try clear hcz14_1
  try clear hcz14_2
  try clear hfz14_0
  try clear hfz14_1
  try clear hfz14_2
  obtain ⟨x4_1, x1001_1, x1002_1, x745001_1, u745001, rfl, HA, HK1, HO_745001, BK734, BK744, HI0, HK, HB⟩ := hrel
  cases gk with
  | zero => exact absurd HA.out (by simp [spec_l01DrawRecord.l0])
  | succ k1 =>
   have H := HA.out
   clear HA
   simp only [spec_l01DrawRecord.l0] at H
   by_cases c16 : x4_1 > 0
   ·
    rw [if_pos c16] at H
    have c16b0 : decide (0 < x4_1) = true := decide_eq_true c16
    clear c16
    replace H := Option.bind_eq_some_iff.mp H
    obtain ⟨⟨t748, t749, t750⟩, A170, H⟩ := H
    replace H : (if x745001_1.length < 17592186044416 then (spec_l01DrawRecord.l0 k1 (wrap64 (x4_1 - 1)) s0_0 t749 t750 t741 (x745001_1 ++ [t748])) else (none)) = some (r1, r2, r3, r4, r5) := H
    have A17 := Zh A170
    clear A170
    by_cases c18 : x745001_1.length < 17592186044416
    ·
     rw [if_pos c18] at H
     have LMc18 := Zh c18
     clear c18
     obtain ⟨y751, hy751⟩ : ∃ y_ : List Int, y_ = (x745001_1 ++ [t748]) := ⟨_, rfl⟩
     replace H : (spec_l01DrawRecord.l0 k1 (wrap64 (x4_1 - 1)) s0_0 t749 t750 t741 y751) = some (r1, r2, r3, r4, r5) := by first | (rw [hy751]; with_reducible exact H) | (have H2_ := (Option.bind_some _ _).symm.trans H; rw [hy751]; with_reducible exact H2_) | (have H2_ := (Option.bind_some _ _).symm.trans H; with_reducible exact H2_) | with_reducible exact H | (rw [hy751]; exact H) | exact H
     have Ny751 := Zh hy751
     clear hy751
     have H' := Zh H
     clear H
     try go_wp2
     replace HO_745001 := Zh (R_drew HO_745001.out)
     replace BK734 := Zh (Zb BK734.out)
     replace BK744 := Zh (Zb BK744.out)
     replace HI0 := Zh (IsS76.drew HI0.out)
     replace HK := Zh (keep_drew HK.out)
     replace HB := Zh (Ze HB.out)
     refine start_ (n := 8) (S := fun w' => w'.cell? ⟨gb744, 0, none⟩ = some (.int .i64 t741) ∧ w'.cell? ⟨gb744, 1, none⟩ = some (u745001) ∧ w'.cell? ⟨gb744, 2, none⟩ = some (.slice none 0 0)) (ds := [7]) #[false, false, false, false, false, false, false, false] (by kernel_rfl) rfl rfl ⟨(blk_cell BK744.out 0).trans rfl, (blk_cell BK744.out 1).trans rfl, (blk_cell BK744.out 2).trans rfl⟩ (fun hHeld => ?_); refine with_tabW spec_l01DrawRecord.tab5 spec_l01DrawRecord.bits5 (fun HT_ HW_ => ?_)
     generalize wr.drew = w19 at HO_745001 BK734 BK744 HI0 HK HB hHeld ⊢
     refine pure_ (i := 0) (N := some 18) (v := ?_) (a' := ?_) #[true, false, false, false, false, false, false, false] rfl rfl (any_of HT_.out (by kernel_rfl)) (fun _ _ _ h => h) (Or.inl ⟨by rfl, ?_⟩) ?_ ?_
     rotate_left
     ·
      intro w'
      go_simp
      with_reducible rfl
     rotate_left
     ·
      simp only [Act.put, List.setIfInBounds_toArray, List.set_cons_zero, List.set_cons_succ, i64_w, i32_w]
      rfl
     refine pure_ (i := 2) (N := some 20) (v := ?_) (a' := ?_) #[true, false, true, false, false, false, false, false] rfl rfl (any_of HT_.out (by kernel_rfl)) (fun _ _ _ h => h) (Or.inl ⟨by rfl, ?_⟩) ?_ ?_
     rotate_left
     ·
      intro w'
      go_simp
      with_reducible rfl
     rotate_left
     ·
      simp only [Act.put, List.setIfInBounds_toArray, List.set_cons_zero, List.set_cons_succ, i64_w, i32_w]
      rfl
     refine take_ (i := 1) (N := some 19) (v := ?_) (a' := ?_) #[true, true, true, false, false, false, false, false] rfl rfl (take_ofW HT_.out HW_.out (by kernel_rfl)) (fun _ _ _ h => h) (Or.inl ⟨by rfl, ?_⟩) hHeld ?_ ?_
     rotate_left
     ·
      rintro w' ⟨s0, s1, s2⟩
      go_simp
      with_reducible rfl
     rotate_left
     ·
      simp only [Act.put, List.setIfInBounds_toArray, List.set_cons_zero, List.set_cons_succ, i64_w, i32_w]
      rfl
     refine one_ (i := 3) (N := some 21) #[true, true, true, true, false, false, false, false] rfl rfl (one_of HT_.out (by kernel_rfl)) (by decide) (fun K hK => ?_)
     refine goes_ Try.func76 (by kernel_rfl) rfl #[.pointer (some ⟨g, 0, none⟩)] (by rfl) rfl rfl (by (try simp only [List.map_toArray, List.map_cons, List.map_nil]); first | done | rfl | (simp only [List.length_drop, List.length_take]; rfl)) ?_
     with_reducible refine (spec_l01Big.calls k1 g s0_0 x1001_1 x1002_1 t748 t749 t750 w0 _ ?side1 ?side2 A17.out).mono ?_
     (case side1 => repeat (first | (with_reducible first | exact HI0.out | apply IsS76.alloc | apply IsS76.drewN | apply IsS76.drew | apply IsS76.set_1 | apply IsS76.set_2 | refine IsS76.far ?_ NB0_734.out _ | refine IsS76.far ?_ NB0_744.out _) | exact HI0.out))
     (case side2 => repeat (first | (with_reducible first | exact HB.out | apply Zf | apply Zd | apply Ze | refine Zg ?_ (IsS76.ge HI0.out) | refine Zg ?_ GE734.out | refine Zg ?_ GE744.out) | exact HB.out))
     rintro e w20 ⟨rfl, hi, hb, hk⟩
     refine ⟨_, rfl, ?_⟩
     replace HO_745001 := Zh (R_mono (R_keep (IsS76.apart (show IsS76 w0 _ g s0_0 x1001_1 x1002_1 from by repeat (first | (with_reducible first | exact HI0.out | apply IsS76.alloc | apply IsS76.drewN | apply IsS76.drew | apply IsS76.set_1 | apply IsS76.set_2 | refine IsS76.far ?_ NB0_734.out _ | refine IsS76.far ?_ NB0_744.out _) | exact HI0.out)) (ZR HO_745001.out) (by decide)) hk (fun _ h => h.2)) (fun _ h => h.1))
     replace BK734 := Zh (KeepBut.blk hk (g' := gb734) (o := .cells #[.int .i64 0, .slice none 0 0, .slice none 0 0] 42 (0, 0)) Zk NB734_0.out (by simp))
     replace BK744 := Zh (KeepBut.blk hk (g' := gb744) (o := .cells #[.int .i64 t741, u745001, .slice none 0 0] 42 (0, 0)) Zk NB744_0.out (by simp))
     replace HK := Zh (KeepBut.trans (by repeat (first | (with_reducible first | exact HK.out | apply KeepBut.set_ | apply keep_drewN | apply keep_drew | apply keep_alloc | refine keep_far ?_ GW734.out _ | refine keep_far ?_ GW744.out _) | exact HK.out)) hk (.inl rfl))
     replace HB := Zh (hb)
     replace HI0 := Zh (hi)
     (try clear hb)
     (try clear hb2)
     (try clear hk)
     (try clear hi)
     refine hK.out _ _ ⟨(blk_cell BK744.out 0).trans rfl, (blk_cell BK744.out 1).trans rfl, (blk_cell BK744.out 2).trans rfl⟩ (fun hHeld => ?_)
     clear hK K
     refine norm_ (a' := ?_) ?_ ?_
     rotate_left
     ·
      show Act.put _ (some 21) _ = _
      simp only [Act.put, List.setIfInBounds_toArray, List.set_cons_zero, List.set_cons_succ, i64_w, i32_w]
      rfl
     refine one_ (i := 4) (N := some 22) #[true, true, true, true, true, false, false, false] rfl rfl (one_of HT_.out (by kernel_rfl)) (by decide) (fun K hK => ?_)
     refine value_ (w1 := ?_) (v := ?_) (by rfl) rfl ?_ ?_
     rotate_left 2
     ·
      go_simp
      constructor
      ·
       rfl
      rfl
     refine hK.out _ _ ⟨(blk_cell (blk_alloc BK744.out _) 0).trans rfl, (blk_cell (blk_alloc BK744.out _) 1).trans rfl, (blk_cell (blk_alloc BK744.out _) 2).trans rfl⟩ (fun hHeld => ?_)
     clear hK K
     refine norm_ (a' := ?_) ?_ ?_
     rotate_left
     ·
      show Act.put _ (some 22) _ = _
      simp only [Act.put, List.setIfInBounds_toArray, List.set_cons_zero, List.set_cons_succ, i64_w, i32_w]
      rfl
     refine one_ (i := 5) (N := some 23) #[true, true, true, true, true, true, false, false] rfl rfl (one_of HT_.out (by kernel_rfl)) (by decide) (fun K hK => ?_)
     refine R_append_step (Kd.int .u64) w.heap.size (by rfl) (.tmp 19) (.tmp 22) 36 23 (.int .u64 0) 8 rfl Try.underlying36 info23 rfl (by decide) (by omega) u745001 x745001_1 t748 [.int .u64 t748] (fun _ => True) (fun _ => False) rfl rfl ?aP (fun _ hk => hk.elim) ?aF ?aO (Below.refl _ _) ?aS ?aL ?_
     (case aP => exact rfl)
     (case aF => exact (fun _ _ => trivial))
     (case aO => exact (ZR HO_745001.out))
     (case aS => exact (keep_size (w := w) (g := g) (row := none) (by repeat (first | (with_reducible first | exact HK.out | apply KeepBut.set_ | apply keep_drewN | apply keep_drew | apply keep_alloc | refine keep_far ?_ GW734.out _ | refine keep_far ?_ GW744.out _) | exact HK.out))))
     (case aL => have := LMc18.out; omega)
     intro v752 w21 ho hb hg hat
     rw [← Ny751.out] at ho
     have n0_ := Zh (blk_grown (g := gb734) (o := .cells #[.int .i64 0, .slice none 0 0, .slice none 0 0] 42 (0, 0)) Zk hg (R_ne HO_745001.out BK734.out (by decide)))
     have n1_ := Zh (blk_grown (g := gb744) (o := .cells #[.int .i64 t741, u745001, .slice none 0 0] 42 (0, 0)) Zk hg (R_ne HO_745001.out BK744.out (by decide)))
     have n2_ := Zh (IsS76.grown (show IsS76 w0 _ g s0_0 t749 t750 from by repeat (first | (with_reducible first | exact HI0.out | apply IsS76.alloc | apply IsS76.drewN | apply IsS76.drew | apply IsS76.set_1 | apply IsS76.set_2 | refine IsS76.far ?_ NB0_734.out _ | refine IsS76.far ?_ NB0_744.out _) | exact HI0.out)) hg (IsS76.own_ne HI0.out HO_745001.out (by decide)))
     have n3_ := Zh (below_weaken (by repeat (first | (with_reducible first | exact HB.out | apply Zf | apply Zd | apply Ze | refine Zg ?_ (IsS76.ge HI0.out) | refine Zg ?_ GE734.out | refine Zg ?_ GE744.out) | exact HB.out)) HL.out hb)
     have n4_ := Zh (KeepBut.trans (by repeat (first | (with_reducible first | exact HK.out | apply KeepBut.set_ | apply keep_drewN | apply keep_drew | apply keep_alloc | refine keep_far ?_ GW734.out _ | refine keep_far ?_ GW744.out _) | exact HK.out)) (KeepBut.of_grown hg g) (R_base2 HO_745001.out))
     have n5_ := Zh (ho)
     clear BK734
     clear BK744
     clear HI0
     clear HB
     clear HK
     clear HO_745001
     have BK734 := n0_
     have BK744 := n1_
     have HI0 := n2_
     have HB := n3_
     have HK := n4_
     have HO753 := n5_
     clear n0_ n1_ n2_ n3_ n4_ n5_
     clear ho hb hg hat
     obtain ⟨Ao22, co22, eo22⟩ := R_slice HO753.out
     (first | subst eo22 | (injection eo22 with f1_ f2_ f3_; have f4_ := f1_.symm; have f5_ := f3_.symm; clear f1_ f2_ f3_; subst f4_; subst f5_))
     refine hK.out _ _ ⟨(blk_cell BK744.out 0).trans rfl, (blk_cell BK744.out 1).trans rfl, (blk_cell BK744.out 2).trans rfl⟩ (fun hHeld => ?_)
     clear hK K
     refine norm_ (a' := ?_) ?_ ?_
     rotate_left
     ·
      show Act.put _ (some 23) _ = _
      simp only [Act.put, List.setIfInBounds_toArray, List.set_cons_zero, List.set_cons_succ, i64_w, i32_w]
      rfl
     refine pure_ (i := 6) (N := some 24) (v := ?_) (a' := ?_) #[true, true, true, true, true, true, true, false] rfl rfl (any_of HT_.out (by kernel_rfl)) (fun _ _ _ h => h) (Or.inl ⟨by rfl, ?_⟩) ?_ ?_
     rotate_left
     ·
      intro w'
      go_simp
      with_reducible rfl
     rotate_left
     ·
      simp only [Act.put, List.setIfInBounds_toArray, List.set_cons_zero, List.set_cons_succ, i64_w, i32_w]
      rfl
     refine last_ (i := 7) (N := none) #[true, true, true, true, true, true, true, true] rfl rfl (one_of HT_.out (by kernel_rfl)) (by decide) (fun K hK => ?_)
     have hs23 : w21.cell? ⟨gb744, 1, none⟩ = some (u745001) := (blk_cell BK744.out 1).trans rfl
     have hfs23 := Zn BK744.out 1
     have hns23_0 := NB734_744.out
     have hms23_0 := NB744_734.out
     refine skip_ (w1 := ?_) (by rfl) rfl ?_ ?_
     rotate_left
     ·
      go_simp
      rfl
     refine hK.out _ _ ?_
     clear hK K
     refine done_ (done_of HT_.out (by kernel_rfl)) ?_
     try go_wp2
     go_roundg k1
     case measure => have := HK1.out; omega
     case rel => exact ⟨(wrap64 (x4_1 - 1)), (t749), (t750), (y751), (.slice Ao22 y751.length co22), (by first | rfl | (simp; done) | (simp [*]; done)), H', ⟨by have := HK1.out; omega⟩, ⟨ZR (R_mono (R_far (p := ⟨gb744, 1, none⟩) (R_types HO753.out BK744.out (by decide)) (fun _ hk => hk.2) (.slice Ao22 y751.length co22)) (fun _ hk => trivial))⟩, ⟨by (with_reducible repeat (first | refine Za ?_ _ | refine Zb ?_ | refine blk_alloc ?_ _)); refine blk_far ?_ NB734_744.out _; (with_reducible repeat (first | refine Za ?_ _ | refine Zb ?_ | refine blk_alloc ?_ _)); exact BK734.out⟩, ⟨by (with_reducible repeat (first | refine Za ?_ _ | refine Zb ?_ | refine blk_alloc ?_ _)); refine blk_put (cs := #[.int .i64 t741, u745001, .slice none 0 0]) ?_ 1 _ rfl; (with_reducible repeat (first | refine Za ?_ _ | refine Zb ?_ | refine blk_alloc ?_ _)); exact BK744.out⟩, ⟨by repeat (first | (with_reducible first | exact HI0.out | apply IsS76.alloc | apply IsS76.drewN | apply IsS76.drew | apply IsS76.set_1 | apply IsS76.set_2 | refine IsS76.far ?_ NB0_734.out _ | refine IsS76.far ?_ NB0_744.out _) | exact HI0.out)⟩, ⟨by repeat (first | (with_reducible first | exact HK.out | apply KeepBut.set_ | apply keep_drewN | apply keep_drew | apply keep_alloc | refine keep_far ?_ GW734.out _ | refine keep_far ?_ GW744.out _) | exact HK.out)⟩, ⟨by repeat (first | (with_reducible first | exact HB.out | apply Zf | apply Zd | apply Ze | refine Zg ?_ (IsS76.ge HI0.out) | refine Zg ?_ GE734.out | refine Zg ?_ GE744.out) | exact HB.out)⟩⟩
    rw [if_neg c18] at H
    exact absurd H (by simp)
   rw [if_neg c16] at H
   have c16b0 : decide (0 < x4_1) = false := decide_eq_false c16
   clear c16
   replace H := Option.bind_eq_some_iff.mp H
   obtain ⟨⟨t754, t755, t756⟩, A240, H⟩ := H
   replace H : (spec_l01DrawRecord.l1 k1 t754 s0_0 t755 t756 t741 x745001_1 ([] : List ByteArray)) = some (r1, r2, r3, r4, r5) := H
   have A24 := Zh A240
   clear A240
   have H' := Zh H
   clear H
   go_wp2_with (first | ((with_reducible refine gate_callee (f := 67) rfl ?_); refine ZG (some 26) Try.func67 #[.pointer (some ⟨g, 0, none⟩), .int .i64 4] rfl ?_; (with_reducible refine (spec_l01Below.calls g s0_0 x1001_1 x1002_1 4 t754 t755 t756 w0 _ ?side1 ?side2 A24.out).mono ?_); (case side1 => repeat (first | (with_reducible first | exact HI0.out | apply IsS76.alloc | apply IsS76.drewN | apply IsS76.drew | apply IsS76.set_1 | apply IsS76.set_2 | refine IsS76.far ?_ NB0_734.out _ | refine IsS76.far ?_ NB0_744.out _) | exact HI0.out)); (case side2 => repeat (first | (with_reducible first | exact HB.out | apply Zf | apply Zd | apply Ze | refine Zg ?_ (IsS76.ge HI0.out) | refine Zg ?_ GE734.out | refine Zg ?_ GE744.out) | exact HB.out)); rintro e w25 ⟨rfl, hi, hb, hk⟩; refine ⟨_, rfl, ?_⟩; replace HO_745001 := Zh (R_mono (R_keep (IsS76.apart (show IsS76 w0 _ g s0_0 x1001_1 x1002_1 from by repeat (first | (with_reducible first | exact HI0.out | apply IsS76.alloc | apply IsS76.drewN | apply IsS76.drew | apply IsS76.set_1 | apply IsS76.set_2 | refine IsS76.far ?_ NB0_734.out _ | refine IsS76.far ?_ NB0_744.out _) | exact HI0.out)) (ZR HO_745001.out) (by decide)) hk (fun _ h => h.2)) (fun _ h => h.1)); replace BK734 := Zh (KeepBut.blk hk (g' := gb734) (o := .cells #[.int .i64 0, .slice none 0 0, .slice none 0 0] 42 (0, 0)) Zk NB734_0.out (by simp)); replace BK744 := Zh (KeepBut.blk hk (g' := gb744) (o := .cells #[.int .i64 t741, u745001, .slice none 0 0] 42 (0, 0)) Zk NB744_0.out (by simp)); replace HK := Zh (KeepBut.trans (by repeat (first | (with_reducible first | exact HK.out | apply KeepBut.set_ | apply keep_drewN | apply keep_drew | apply keep_alloc | refine keep_far ?_ GW734.out _ | refine keep_far ?_ GW744.out _) | exact HK.out)) hk (.inl rfl)); replace HB := Zh (hb); replace HI0 := Zh (hi); (try clear hb); (try clear hb2); (try clear hk); (try clear hi)))
   go_loopg [5] k1 (fun kq v5 w' => ∃ (x5_2 : Int) (x1001_2 : Int) (x1002_2 : Int) (x745002_2 : List ByteArray) (u745002 : Value), v5 = .int .i64 x5_2 ∧ Aside0 (spec_l01DrawRecord.l1 kq x5_2 s0_0 x1001_2 x1002_2 t741 x745001_1 x745002_2 = some (r1, r2, r3, r4, r5)) ∧ Aside0 (kq ≤ k1) ∧ Aside0 (Kd.R (Kd.int .u64) 23 w' w.heap.size (fun _ => True) u745001 x745001_1) ∧ Aside0 (Kd.R Kd.string 9 w' w.heap.size (fun _ => True) u745002 x745002_2) ∧ Aside0 (w'.heap[gb734]? = some (.cells #[.int .i64 0, (.slice none 0 0), (.slice none 0 0)] 42 (0, 0))) ∧ Aside0 (w'.heap[gb744]? = some (.cells #[.int .i64 t741, u745001, u745002] 42 (0, 0))) ∧ Aside0 (IsS76 w0 w' g s0_0 x1001_2 x1002_2) ∧ Aside0 (KeepBut w w' g none) ∧ Aside0 (Below w0.heap.size w0 w'))
   case atStart => exact ⟨(t754), (t755), (t756), (([] : List ByteArray)), (.slice none 0 0), (by first | rfl | (simp; done) | (simp [*]; done)), H', ⟨Nat.le_refl _⟩, ⟨ZR HO_745001.out⟩, ⟨by first | exact R_nil _ _ _ _ _ | exact N_nil _ _ _ _ _ | exact V_nil _ _ _ _ _ | exact Q_nil _ _ _ _ _ | exact S_nil _ _ _ _ _⟩, ⟨Zk⟩, ⟨Zk⟩, ⟨by repeat (first | (with_reducible first | exact HI0.out | apply IsS76.alloc | apply IsS76.drewN | apply IsS76.drew | apply IsS76.set_1 | apply IsS76.set_2 | refine IsS76.far ?_ NB0_734.out _ | refine IsS76.far ?_ NB0_744.out _) | exact HI0.out)⟩, ⟨by repeat (first | (with_reducible first | exact HK.out | apply KeepBut.set_ | apply keep_drewN | apply keep_drew | apply keep_alloc | refine keep_far ?_ GW734.out _ | refine keep_far ?_ GW744.out _) | exact HK.out)⟩, ⟨by repeat (first | (with_reducible first | exact HB.out | apply Zf | apply Zd | apply Ze | refine Zg ?_ (IsS76.ge HI0.out) | refine Zg ?_ GE734.out | refine Zg ?_ GE744.out) | exact HB.out)⟩⟩
   case round =>
    clear H'
    try clear c1
    try clear p2
    try clear c6
    try clear p6
    try clear c7
    try clear c12
    try clear c13
    try clear c16
    try clear c16b0
    try clear c18
    try clear hcz14_0
    try clear hcz14_1
    try clear hcz14_2
    try clear hfz14_0
    try clear hfz14_1
    try clear hfz14_2
    try clear p2
    obtain ⟨x5_2, x1001_2, x1002_2, x745002_2, u745002, rfl, HA, HK2, HO_745001, HO_745002, BK734, BK744, HI0, HK, HB⟩ := hrel
    cases gk with
    | zero => exact absurd HA.out (by simp [spec_l01DrawRecord.l1])
    | succ k2 =>
     have H := HA.out
     clear HA
     simp only [spec_l01DrawRecord.l1] at H
     by_cases c26 : x5_2 > 0
     ·
      rw [if_pos c26] at H
      have c26b0 : decide (0 < x5_2) = true := decide_eq_true c26
      clear c26
      replace H := Option.bind_eq_some_iff.mp H
      obtain ⟨⟨t757, t758, t759⟩, A270, H⟩ := H
      replace H : ((spec_l01DrawBytes.f k2 s0_0 t758 t759 t757).bind fun bt760 => (if x745002_2.length < 8796093022208 then (spec_l01DrawRecord.l1 k2 (wrap64 (x5_2 - 1)) s0_0 bt760.2.1 bt760.2.2 t741 x745001_1 (x745002_2 ++ [strOfNums bt760.1])) else (none))) = some (r1, r2, r3, r4, r5) := H
      have A27 := Zh A270
      clear A270
      replace H := Option.bind_eq_some_iff.mp H
      obtain ⟨⟨t760, t763, t764⟩, A280, H⟩ := H
      replace H : (if x745002_2.length < 8796093022208 then (spec_l01DrawRecord.l1 k2 (wrap64 (x5_2 - 1)) s0_0 t763 t764 t741 x745001_1 (x745002_2 ++ [strOfNums t760])) else (none)) = some (r1, r2, r3, r4, r5) := H
      have A28 := Zh A280
      clear A280
      by_cases c29 : x745002_2.length < 8796093022208
      ·
       rw [if_pos c29] at H
       have LMc29 := Zh c29
       clear c29
       obtain ⟨y765, hy765⟩ : ∃ y_ : List ByteArray, y_ = (x745002_2 ++ [strOfNums t760]) := ⟨_, rfl⟩
       replace H : (spec_l01DrawRecord.l1 k2 (wrap64 (x5_2 - 1)) s0_0 t763 t764 t741 x745001_1 y765) = some (r1, r2, r3, r4, r5) := by first | (rw [hy765]; with_reducible exact H) | (have H2_ := (Option.bind_some _ _).symm.trans H; rw [hy765]; with_reducible exact H2_) | (have H2_ := (Option.bind_some _ _).symm.trans H; with_reducible exact H2_) | with_reducible exact H | (rw [hy765]; exact H) | exact H
       have Ny765 := Zh hy765
       clear hy765
       have H' := Zh H
       clear H
       try go_wp2
       replace HO_745001 := Zh (R_drew HO_745001.out)
       replace HO_745002 := Zh (R_drew HO_745002.out)
       replace BK734 := Zh (Zb BK734.out)
       replace BK744 := Zh (Zb BK744.out)
       replace HI0 := Zh (IsS76.drew HI0.out)
       replace HK := Zh (keep_drew HK.out)
       replace HB := Zh (Ze HB.out)
       refine start_ (n := 11) (S := fun w' => w'.cell? ⟨gb744, 0, none⟩ = some (.int .i64 t741) ∧ w'.cell? ⟨gb744, 1, none⟩ = some (u745001) ∧ w'.cell? ⟨gb744, 2, none⟩ = some (u745002)) (ds := [10]) #[false, false, false, false, false, false, false, false, false, false, false] (by kernel_rfl) rfl rfl ⟨(blk_cell BK744.out 0).trans rfl, (blk_cell BK744.out 1).trans rfl, (blk_cell BK744.out 2).trans rfl⟩ (fun hHeld => ?_); refine with_tabW spec_l01DrawRecord.tab9 spec_l01DrawRecord.bits9 (fun HT_ HW_ => ?_)
       generalize wr.drew = w30 at HO_745001 HO_745002 BK734 BK744 HI0 HK HB hHeld ⊢
       refine pure_ (i := 0) (N := some 31) (v := ?_) (a' := ?_) #[true, false, false, false, false, false, false, false, false, false, false] rfl rfl (any_of HT_.out (by kernel_rfl)) (fun _ _ _ h => h) (Or.inl ⟨by rfl, ?_⟩) ?_ ?_
       rotate_left
       ·
        intro w'
        go_simp
        with_reducible rfl
       rotate_left
       ·
        simp only [Act.put, List.setIfInBounds_toArray, List.set_cons_zero, List.set_cons_succ, i64_w, i32_w]
        rfl
       refine pure_ (i := 2) (N := some 33) (v := ?_) (a' := ?_) #[true, false, true, false, false, false, false, false, false, false, false] rfl rfl (any_of HT_.out (by kernel_rfl)) (fun _ _ _ h => h) (Or.inl ⟨by rfl, ?_⟩) ?_ ?_
       rotate_left
       ·
        intro w'
        go_simp
        with_reducible rfl
       rotate_left
       ·
        simp only [Act.put, List.setIfInBounds_toArray, List.set_cons_zero, List.set_cons_succ, i64_w, i32_w]
        rfl
       refine pure_ (i := 3) (N := some 34) (v := ?_) (a' := ?_) #[true, false, true, true, false, false, false, false, false, false, false] rfl rfl (any_of HT_.out (by kernel_rfl)) (fun _ _ _ h => h) (Or.inl ⟨by rfl, ?_⟩) ?_ ?_
       rotate_left
       ·
        intro w'
        go_simp
        with_reducible rfl
       rotate_left
       ·
        simp only [Act.put, List.setIfInBounds_toArray, List.set_cons_zero, List.set_cons_succ, i64_w, i32_w]
        rfl
       refine take_ (i := 1) (N := some 32) (v := ?_) (a' := ?_) #[true, true, true, true, false, false, false, false, false, false, false] rfl rfl (take_ofW HT_.out HW_.out (by kernel_rfl)) (fun _ _ _ h => h) (Or.inl ⟨by rfl, ?_⟩) hHeld ?_ ?_
       rotate_left
       ·
        rintro w' ⟨s0, s1, s2⟩
        go_simp
        with_reducible rfl
       rotate_left
       ·
        simp only [Act.put, List.setIfInBounds_toArray, List.set_cons_zero, List.set_cons_succ, i64_w, i32_w]
        rfl
       refine one_ (i := 4) (N := some 35) #[true, true, true, true, true, false, false, false, false, false, false] rfl rfl (one_of HT_.out (by kernel_rfl)) (by decide) (fun K hK => ?_)
       refine goes_ Try.func67 (by kernel_rfl) rfl #[.pointer (some ⟨g, 0, none⟩), .int .i64 6] (by rfl) rfl rfl (by (try simp only [List.map_toArray, List.map_cons, List.map_nil]); first | done | rfl | (simp only [List.length_drop, List.length_take]; rfl)) ?_
       with_reducible refine (spec_l01Below.calls g s0_0 x1001_2 x1002_2 6 t757 t758 t759 w0 _ ?side1 ?side2 A27.out).mono ?_
       (case side1 => repeat (first | (with_reducible first | exact HI0.out | apply IsS76.alloc | apply IsS76.drewN | apply IsS76.drew | apply IsS76.set_1 | apply IsS76.set_2 | refine IsS76.far ?_ NB0_734.out _ | refine IsS76.far ?_ NB0_744.out _) | exact HI0.out))
       (case side2 => repeat (first | (with_reducible first | exact HB.out | apply Zf | apply Zd | apply Ze | refine Zg ?_ (IsS76.ge HI0.out) | refine Zg ?_ GE734.out | refine Zg ?_ GE744.out) | exact HB.out))
       rintro e w31 ⟨rfl, hi, hb, hk⟩
       refine ⟨_, rfl, ?_⟩
       replace HO_745001 := Zh (R_mono (R_keep (IsS76.apart (show IsS76 w0 _ g s0_0 x1001_2 x1002_2 from by repeat (first | (with_reducible first | exact HI0.out | apply IsS76.alloc | apply IsS76.drewN | apply IsS76.drew | apply IsS76.set_1 | apply IsS76.set_2 | refine IsS76.far ?_ NB0_734.out _ | refine IsS76.far ?_ NB0_744.out _) | exact HI0.out)) (ZR HO_745001.out) (by decide)) hk (fun _ h => h.2)) (fun _ h => h.1))
       replace HO_745002 := Zh (R_mono (R_keep (IsS76.apart (show IsS76 w0 _ g s0_0 x1001_2 x1002_2 from by repeat (first | (with_reducible first | exact HI0.out | apply IsS76.alloc | apply IsS76.drewN | apply IsS76.drew | apply IsS76.set_1 | apply IsS76.set_2 | refine IsS76.far ?_ NB0_734.out _ | refine IsS76.far ?_ NB0_744.out _) | exact HI0.out)) (ZR HO_745002.out) (by decide)) hk (fun _ h => h.2)) (fun _ h => h.1))
       replace BK734 := Zh (KeepBut.blk hk (g' := gb734) (o := .cells #[.int .i64 0, .slice none 0 0, .slice none 0 0] 42 (0, 0)) Zk NB734_0.out (by simp))
       replace BK744 := Zh (KeepBut.blk hk (g' := gb744) (o := .cells #[.int .i64 t741, u745001, u745002] 42 (0, 0)) Zk NB744_0.out (by simp))
       replace HK := Zh (KeepBut.trans (by repeat (first | (with_reducible first | exact HK.out | apply KeepBut.set_ | apply keep_drewN | apply keep_drew | apply keep_alloc | refine keep_far ?_ GW734.out _ | refine keep_far ?_ GW744.out _) | exact HK.out)) hk (.inl rfl))
       replace HB := Zh (hb)
       replace HI0 := Zh (hi)
       (try clear hb)
       (try clear hb2)
       (try clear hk)
       (try clear hi)
       refine hK.out _ _ ⟨(blk_cell BK744.out 0).trans rfl, (blk_cell BK744.out 1).trans rfl, (blk_cell BK744.out 2).trans rfl⟩ (fun hHeld => ?_)
       clear hK K
       refine norm_ (a' := ?_) ?_ ?_
       rotate_left
       ·
        show Act.put _ (some 35) _ = _
        simp only [Act.put, List.setIfInBounds_toArray, List.set_cons_zero, List.set_cons_succ, i64_w, i32_w]
        rfl
       refine one_ (i := 5) (N := some 36) #[true, true, true, true, true, true, false, false, false, false, false] rfl rfl (one_of HT_.out (by kernel_rfl)) (by decide) (fun K hK => ?_)
       refine goes_ Try.func77 (by kernel_rfl) rfl #[.pointer (some ⟨g, 0, none⟩), .int .i64 t757] (by rfl) rfl rfl (by (try simp only [List.map_toArray, List.map_cons, List.map_nil]); first | done | rfl | (simp only [List.length_drop, List.length_take]; rfl)) ?_
       with_reducible refine (spec_l01DrawBytes.calls k2 g s0_0 t758 t759 t757 t760 t763 t764 w0 _ ?side1 ?side2 A28.out).mono ?_
       (case side1 => repeat (first | (with_reducible first | exact HI0.out | apply IsS76.alloc | apply IsS76.drewN | apply IsS76.drew | apply IsS76.set_1 | apply IsS76.set_2 | refine IsS76.far ?_ NB0_734.out _ | refine IsS76.far ?_ NB0_744.out _) | exact HI0.out))
       (case side2 => repeat (first | (with_reducible first | exact HB.out | apply Zf | apply Zd | apply Ze | refine Zg ?_ (IsS76.ge HI0.out) | refine Zg ?_ GE734.out | refine Zg ?_ GE744.out) | exact HB.out))
       rintro e w32 ⟨v761, rfl, ho0, hi, hb, hk⟩
       refine ⟨_, rfl, ?_⟩
       replace HO_745001 := Zh (R_mono (R_keep (IsS76.apart (show IsS76 w0 _ g s0_0 t758 t759 from by repeat (first | (with_reducible first | exact HI0.out | apply IsS76.alloc | apply IsS76.drewN | apply IsS76.drew | apply IsS76.set_1 | apply IsS76.set_2 | refine IsS76.far ?_ NB0_734.out _ | refine IsS76.far ?_ NB0_744.out _) | exact HI0.out)) (ZR HO_745001.out) (by decide)) hk (fun _ h => h.2)) (fun _ h => h.1))
       replace HO_745002 := Zh (R_mono (R_keep (IsS76.apart (show IsS76 w0 _ g s0_0 t758 t759 from by repeat (first | (with_reducible first | exact HI0.out | apply IsS76.alloc | apply IsS76.drewN | apply IsS76.drew | apply IsS76.set_1 | apply IsS76.set_2 | refine IsS76.far ?_ NB0_734.out _ | refine IsS76.far ?_ NB0_744.out _) | exact HI0.out)) (ZR HO_745002.out) (by decide)) hk (fun _ h => h.2)) (fun _ h => h.1))
       replace BK734 := Zh (KeepBut.blk hk (g' := gb734) (o := .cells #[.int .i64 0, .slice none 0 0, .slice none 0 0] 42 (0, 0)) Zk NB734_0.out (by simp))
       replace BK744 := Zh (KeepBut.blk hk (g' := gb744) (o := .cells #[.int .i64 t741, u745001, u745002] 42 (0, 0)) Zk NB744_0.out (by simp))
       have HO762 := Zh (R_lower ho0 (keep_size (w := w) (g := g) (row := none) (by repeat (first | (with_reducible first | exact HK.out | apply KeepBut.set_ | apply keep_drewN | apply keep_drew | apply keep_alloc | refine keep_far ?_ GW734.out _ | refine keep_far ?_ GW744.out _) | exact HK.out))))
       replace HK := Zh (KeepBut.trans (by repeat (first | (with_reducible first | exact HK.out | apply KeepBut.set_ | apply keep_drewN | apply keep_drew | apply keep_alloc | refine keep_far ?_ GW734.out _ | refine keep_far ?_ GW744.out _) | exact HK.out)) hk (.inl rfl))
       replace HB := Zh (hb)
       replace HI0 := Zh (hi)
       (try clear hb)
       (try clear hb2)
       (try clear hk)
       (try clear hi)
       (try clear ho0)
       refine hK.out _ _ ⟨(blk_cell BK744.out 0).trans rfl, (blk_cell BK744.out 1).trans rfl, (blk_cell BK744.out 2).trans rfl⟩ (fun hHeld => ?_)
       clear hK K
       refine norm_ (a' := ?_) ?_ ?_
       rotate_left
       ·
        show Act.put _ (some 36) _ = _
        simp only [Act.put, List.setIfInBounds_toArray, List.set_cons_zero, List.set_cons_succ, i64_w, i32_w]
        rfl
       refine one_ (i := 6) (N := some 37) #[true, true, true, true, true, true, true, false, false, false, false] rfl rfl (one_of HT_.out (by kernel_rfl)) (by decide) (fun K hK => ?_)
       have hcv33 := own_string (P := Try.prog) Try.underlying24 Try.underlying5 Try.underlying9 (Kd.own_of_R HO762.out)
       refine value_ (w1 := ?_) (v := ?_) (by rfl) rfl ?_ ?_
       rotate_left 2
       ·
        go_simp
        constructor
        ·
         rfl
        rfl
       clear hcv33
       refine hK.out _ _ ⟨(blk_cell BK744.out 0).trans rfl, (blk_cell BK744.out 1).trans rfl, (blk_cell BK744.out 2).trans rfl⟩ (fun hHeld => ?_)
       clear hK K
       refine norm_ (a' := ?_) ?_ ?_
       rotate_left
       ·
        show Act.put _ (some 37) _ = _
        simp only [Act.put, List.setIfInBounds_toArray, List.set_cons_zero, List.set_cons_succ, i64_w, i32_w]
        rfl
       refine one_ (i := 7) (N := some 38) #[true, true, true, true, true, true, true, true, false, false, false] rfl rfl (one_of HT_.out (by kernel_rfl)) (by decide) (fun K hK => ?_)
       refine value_ (w1 := ?_) (v := ?_) (by rfl) rfl ?_ ?_
       rotate_left 2
       ·
        go_simp
        constructor
        ·
         rfl
        rfl
       refine hK.out _ _ ⟨(blk_cell (blk_alloc BK744.out _) 0).trans rfl, (blk_cell (blk_alloc BK744.out _) 1).trans rfl, (blk_cell (blk_alloc BK744.out _) 2).trans rfl⟩ (fun hHeld => ?_)
       clear hK K
       refine norm_ (a' := ?_) ?_ ?_
       rotate_left
       ·
        show Act.put _ (some 38) _ = _
        simp only [Act.put, List.setIfInBounds_toArray, List.set_cons_zero, List.set_cons_succ, i64_w, i32_w]
        rfl
       refine one_ (i := 8) (N := some 39) #[true, true, true, true, true, true, true, true, true, false, false] rfl rfl (one_of HT_.out (by kernel_rfl)) (by decide) (fun K hK => ?_)
       refine R_append_step Kd.string w.heap.size (by rfl) (.tmp 32) (.tmp 38) 37 9 (.string ⟨#[]⟩) 16 rfl Try.underlying37 info9 rfl (by decide) (by omega) u745002 x745002_2 (strOfNums t760) [.string (strOfNums t760)] (fun _ => True) (fun _ => False) rfl rfl ?aP (fun _ hk => hk.elim) ?aF ?aO (Below.refl _ _) ?aS ?aL ?_
       (case aP => exact rfl)
       (case aF => exact (fun _ _ => trivial))
       (case aO => exact (ZR HO_745002.out))
       (case aS => exact (keep_size (w := w) (g := g) (row := none) (by repeat (first | (with_reducible first | exact HK.out | apply KeepBut.set_ | apply keep_drewN | apply keep_drew | apply keep_alloc | refine keep_far ?_ GW734.out _ | refine keep_far ?_ GW744.out _) | exact HK.out))))
       (case aL => have := LMc29.out; omega)
       intro v766 w34 ho hb hg hat
       rw [← Ny765.out] at ho
       have n0_ := Zh (R_over' (ZR HO_745001.out) (R_typed (ZR HO_745002.out)) (by decide) hg)
       have n1_ := Zh (blk_grown (g := gb734) (o := .cells #[.int .i64 0, .slice none 0 0, .slice none 0 0] 42 (0, 0)) Zk hg (R_ne HO_745002.out BK734.out (by decide)))
       have n2_ := Zh (blk_grown (g := gb744) (o := .cells #[.int .i64 t741, u745001, u745002] 42 (0, 0)) Zk hg (R_ne HO_745002.out BK744.out (by decide)))
       have n3_ := Zh (IsS76.grown (show IsS76 w0 _ g s0_0 t763 t764 from by repeat (first | (with_reducible first | exact HI0.out | apply IsS76.alloc | apply IsS76.drewN | apply IsS76.drew | apply IsS76.set_1 | apply IsS76.set_2 | refine IsS76.far ?_ NB0_734.out _ | refine IsS76.far ?_ NB0_744.out _) | exact HI0.out)) hg (IsS76.own_ne HI0.out HO_745002.out (by decide)))
       have n4_ := Zh (R_over' (ZR HO762.out) (R_typed (ZR HO_745002.out)) (by decide) hg)
       have n5_ := Zh (below_weaken (by repeat (first | (with_reducible first | exact HB.out | apply Zf | apply Zd | apply Ze | refine Zg ?_ (IsS76.ge HI0.out) | refine Zg ?_ GE734.out | refine Zg ?_ GE744.out) | exact HB.out)) HL.out hb)
       have n6_ := Zh (KeepBut.trans (by repeat (first | (with_reducible first | exact HK.out | apply KeepBut.set_ | apply keep_drewN | apply keep_drew | apply keep_alloc | refine keep_far ?_ GW734.out _ | refine keep_far ?_ GW744.out _) | exact HK.out)) (KeepBut.of_grown hg g) (R_base2 HO_745002.out))
       have n7_ := Zh (ho)
       clear HO_745001
       clear BK734
       clear BK744
       clear HI0
       clear HO762
       clear HB
       clear HK
       clear HO_745002
       have HO_745001 := n0_
       have BK734 := n1_
       have BK744 := n2_
       have HI0 := n3_
       have HO762 := n4_
       have HB := n5_
       have HK := n6_
       have HO767 := n7_
       clear n0_ n1_ n2_ n3_ n4_ n5_ n6_ n7_
       clear ho hb hg hat
       obtain ⟨Ao35, co35, eo35⟩ := R_slice HO767.out
       (first | subst eo35 | (injection eo35 with f1_ f2_ f3_; have f4_ := f1_.symm; have f5_ := f3_.symm; clear f1_ f2_ f3_; subst f4_; subst f5_))
       refine hK.out _ _ ⟨(blk_cell BK744.out 0).trans rfl, (blk_cell BK744.out 1).trans rfl, (blk_cell BK744.out 2).trans rfl⟩ (fun hHeld => ?_)
       clear hK K
       refine norm_ (a' := ?_) ?_ ?_
       rotate_left
       ·
        show Act.put _ (some 39) _ = _
        simp only [Act.put, List.setIfInBounds_toArray, List.set_cons_zero, List.set_cons_succ, i64_w, i32_w]
        rfl
       refine pure_ (i := 9) (N := some 40) (v := ?_) (a' := ?_) #[true, true, true, true, true, true, true, true, true, true, false] rfl rfl (any_of HT_.out (by kernel_rfl)) (fun _ _ _ h => h) (Or.inl ⟨by rfl, ?_⟩) ?_ ?_
       rotate_left
       ·
        intro w'
        go_simp
        with_reducible rfl
       rotate_left
       ·
        simp only [Act.put, List.setIfInBounds_toArray, List.set_cons_zero, List.set_cons_succ, i64_w, i32_w]
        rfl
       refine last_ (i := 10) (N := none) #[true, true, true, true, true, true, true, true, true, true, true] rfl rfl (one_of HT_.out (by kernel_rfl)) (by decide) (fun K hK => ?_)
       have hs36 : w34.cell? ⟨gb744, 2, none⟩ = some (u745002) := (blk_cell BK744.out 2).trans rfl
       have hfs36 := Zn BK744.out 2
       have hns36_0 := NB734_744.out
       have hms36_0 := NB744_734.out
       refine skip_ (w1 := ?_) (by rfl) rfl ?_ ?_
       rotate_left
       ·
        go_simp
        rfl
       refine hK.out _ _ ?_
       clear hK K
       refine done_ (done_of HT_.out (by kernel_rfl)) ?_
       try go_wp2
       go_roundg k2
       case measure => have := HK1.out; have := HK2.out; omega
       case rel => exact ⟨(wrap64 (x5_2 - 1)), (t763), (t764), (y765), (.slice Ao35 y765.length co35), (by first | rfl | (simp; done) | (simp [*]; done)), H', ⟨by have := HK1.out; have := HK2.out; omega⟩, ⟨ZR (R_mono (R_far (p := ⟨gb744, 2, none⟩) (R_types HO_745001.out BK744.out (by decide)) (fun _ hk => hk.2) (.slice Ao35 y765.length co35)) (fun _ hk => trivial))⟩, ⟨ZR (R_mono (R_far (p := ⟨gb744, 2, none⟩) (R_types HO767.out BK744.out (by decide)) (fun _ hk => hk.2) (.slice Ao35 y765.length co35)) (fun _ hk => trivial))⟩, ⟨by (with_reducible repeat (first | refine Za ?_ _ | refine Zb ?_ | refine blk_alloc ?_ _)); refine blk_far ?_ NB734_744.out _; (with_reducible repeat (first | refine Za ?_ _ | refine Zb ?_ | refine blk_alloc ?_ _)); exact BK734.out⟩, ⟨by (with_reducible repeat (first | refine Za ?_ _ | refine Zb ?_ | refine blk_alloc ?_ _)); refine blk_put (cs := #[.int .i64 t741, u745001, u745002]) ?_ 2 _ rfl; (with_reducible repeat (first | refine Za ?_ _ | refine Zb ?_ | refine blk_alloc ?_ _)); exact BK744.out⟩, ⟨by repeat (first | (with_reducible first | exact HI0.out | apply IsS76.alloc | apply IsS76.drewN | apply IsS76.drew | apply IsS76.set_1 | apply IsS76.set_2 | refine IsS76.far ?_ NB0_734.out _ | refine IsS76.far ?_ NB0_744.out _) | exact HI0.out)⟩, ⟨by repeat (first | (with_reducible first | exact HK.out | apply KeepBut.set_ | apply keep_drewN | apply keep_drew | apply keep_alloc | refine keep_far ?_ GW734.out _ | refine keep_far ?_ GW744.out _) | exact HK.out)⟩, ⟨by repeat (first | (with_reducible first | exact HB.out | apply Zf | apply Zd | apply Ze | refine Zg ?_ (IsS76.ge HI0.out) | refine Zg ?_ GE734.out | refine Zg ?_ GE744.out) | exact HB.out)⟩⟩
      rw [if_neg c29] at H
      exact absurd H (by simp)
     rw [if_neg c26] at H
     have c26b0 : decide (0 < x5_2) = false := decide_eq_false c26
     clear c26
     simp only [Option.some.injEq, Prod.mk.injEq] at H
     obtain ⟨rfl, rfl, rfl, rfl, rfl⟩ := H
     have hnb37 := NB744_734.out
     have hnc37 := NB734_744.out
     have hnb38 := NB744_0.out
     have hnc38 := NB0_744.out
     have hcz39_0 : wr.cell? ⟨gb744, 0, none⟩ = some (.int .i64 t741) := (blk_cell BK744.out 0).trans rfl
     have hcz39_1 : wr.cell? ⟨gb744, 1, none⟩ = some (u745001) := (blk_cell BK744.out 1).trans rfl
     have hcz39_2 : wr.cell? ⟨gb744, 2, none⟩ = some (u745002) := (blk_cell BK744.out 2).trans rfl
     have hfz39_0 := Zn BK744.out 0
     have hfz39_1 := Zn BK744.out 1
     have hfz39_2 := Zn BK744.out 2
     have hnb40 := NB734_0.out
     have hnc40 := NB0_734.out
     have hcz41_0 : wr.cell? ⟨gb734, 0, none⟩ = some (.int .i64 0) := (blk_cell BK734.out 0).trans rfl
     have hcz41_1 : wr.cell? ⟨gb734, 1, none⟩ = some (.slice none 0 0) := (blk_cell BK734.out 1).trans rfl
     have hcz41_2 : wr.cell? ⟨gb734, 2, none⟩ = some (.slice none 0 0) := (blk_cell BK734.out 2).trans rfl
     have hfz41_0 := Zn BK734.out 0
     have hfz41_1 := Zn BK734.out 1
     have hfz41_2 := Zn BK734.out 2
     obtain ⟨Ao42, co42, eo42⟩ := R_slice HO_745001.out
     subst eo42
     obtain ⟨Ao43, co43, eo43⟩ := R_slice HO_745002.out
     subst eo43
     go_wp2
     refine bodyPost_ret (results_cell_row rfl _ _ gb734 42 #[.int .i64 t741, .slice Ao42 x745001_1.length co42, .slice Ao43 x745002_2.length co43] (0, 0) _ rfl (by (with_reducible repeat (first | refine Za ?_ _ | refine Zb ?_ | refine blk_alloc ?_ _)); refine blk_put (cs := #[.int .i64 t741, .slice Ao42 x745001_1.length co42, .slice none 0 0]) ?_ 2 _ rfl; (with_reducible repeat (first | refine Za ?_ _ | refine Zb ?_ | refine blk_alloc ?_ _)); refine blk_put (cs := #[.int .i64 t741, .slice none 0 0, .slice none 0 0]) ?_ 1 _ rfl; (with_reducible repeat (first | refine Za ?_ _ | refine Zb ?_ | refine blk_alloc ?_ _)); refine blk_put (cs := #[.int .i64 0, .slice none 0 0, .slice none 0 0]) ?_ 0 _ rfl; (with_reducible repeat (first | refine Za ?_ _ | refine Zb ?_ | refine blk_alloc ?_ _)); exact BK734.out) Try.underlying42 rfl (by kernel_rfl)) rfl ?_
     exact ⟨_, _, ZE, ZR (R_mono (R_far (p := ⟨gb734, 2, none⟩) (R_far (p := ⟨gb734, 1, none⟩) (R_far (p := ⟨gb734, 0, none⟩) (R_types HO_745001.out BK734.out (by decide)) (fun _ hk => hk.2) (.int .i64 t741)) (fun _ hk => hk.2) (.slice Ao42 x745001_1.length co42)) (fun _ hk => hk.2) (.slice Ao43 x745002_2.length co43)) (fun _ hk => trivial)), ZR (R_mono (R_far (p := ⟨gb734, 2, none⟩) (R_far (p := ⟨gb734, 1, none⟩) (R_far (p := ⟨gb734, 0, none⟩) (R_types HO_745002.out BK734.out (by decide)) (fun _ hk => hk.2) (.int .i64 t741)) (fun _ hk => hk.2) (.slice Ao42 x745001_1.length co42)) (fun _ hk => hk.2) (.slice Ao43 x745002_2.length co43)) (fun _ hk => trivial)), by repeat (first | (with_reducible first | exact HI0.out | apply IsS76.alloc | apply IsS76.drewN | apply IsS76.drew | apply IsS76.set_1 | apply IsS76.set_2 | refine IsS76.far ?_ NB0_734.out _ | refine IsS76.far ?_ NB0_744.out _) | exact HI0.out), by repeat (first | (with_reducible first | exact HB.out | apply Zf | apply Zd | apply Ze | refine Zg ?_ (IsS76.ge HI0.out) | refine Zg ?_ GE734.out | refine Zg ?_ GE744.out) | exact HB.out), by repeat (first | (with_reducible first | exact HK.out | apply KeepBut.set_ | apply keep_drewN | apply keep_drew | apply keep_alloc | refine keep_far ?_ GW734.out _ | refine keep_far ?_ GW744.out _) | exact HK.out)⟩
def spec_DrawRightRecords.l0 : Nat → List (S42) → Int → List Int → Int → Int → Option ((List (S42)))
 | 0, _, _, _, _, _ => none
 | k + 1, x4, x5, x772000, x772001, x772002 => if x5 > 0 then ((spec_l01DrawRecord.f k x772000 x772001 x772002).bind fun bt779 => (if x4.length < 2513169434916 then (spec_DrawRightRecords.l0 k (x4 ++ [(⟨bt779.1, bt779.2.1, bt779.2.2.1⟩ : S42)]) (wrap64 (x5 - 1)) x772000 bt779.2.2.2.1 bt779.2.2.2.2) else (none))) else (some x4)
def spec_DrawRightRecords.f (k : Nat) (l0 : List Int) : Option ((List (S42))) := (spec_l01New.f k l0).bind fun bt768 => ((spec_l01Size.f l0 8).bind fun t775 => ((spec_l01Below.f bt768.1 bt768.2.1 bt768.2.2 t775).bind fun bt776 => (spec_DrawRightRecords.l0 k (([] : List (S42))) bt776.1 bt768.1 bt776.2.1 bt776.2.2)))
set_option maxHeartbeats 8000000 in
set_option maxRecDepth 100000 in
theorem spec_DrawRightRecords.calls (k : Nat) (A0 : Option Addr) (c0 : Nat) (l0 : List Int) (r : List (S42)) (w : World) (hr0 : Kd.C (Kd.int .u8) w A0 l0.length l0) (hc0 : l0.length ≤ c0) (h : spec_DrawRightRecords.f k l0 = some r) :
  Calls Try.prog 44 #[.slice A0 l0.length c0] w fun e w' => ∃ v0_ : Value, e = .returned (v0_) ∧ Kd.S k42 42 w' w.heap.size (fun _ => True) v0_ r ∧ Below w.heap.size w w' := by
 have HR0 := Zh hr0
 have HC0 := Zh hc0
 clear hr0 hc0
 have HB := Zh (Below.refl w.heap.size w)
 have H : ((spec_l01New.f k l0).bind fun bt768 => ((spec_l01Size.f l0 8).bind fun t775 => ((spec_l01Below.f bt768.1 bt768.2.1 bt768.2.2 t775).bind fun bt776 => (spec_DrawRightRecords.l0 k (([] : List (S42))) bt776.1 bt768.1 bt776.2.1 bt776.2.2)))) = some r := h
 clear h
 replace H := Option.bind_eq_some_iff.mp H
 obtain ⟨⟨t768, t769, t770⟩, A20, H⟩ := H
 replace H : ((spec_l01Size.f l0 8).bind fun t775 => ((spec_l01Below.f t768 t769 t770 t775).bind fun bt776 => (spec_DrawRightRecords.l0 k (([] : List (S42))) bt776.1 t768 bt776.2.1 bt776.2.2))) = some r := H
 have A2 := Zh A20
 clear A20
 obtain ⟨y772, hy772⟩ : ∃ y_ : List (S42), y_ = (([] : List (S42))) := ⟨_, rfl⟩
 replace H : ((spec_l01Size.f l0 8).bind fun t775 => ((spec_l01Below.f t768 t769 t770 t775).bind fun bt776 => (spec_DrawRightRecords.l0 k y772 bt776.1 t768 bt776.2.1 bt776.2.2))) = some r := by first | (rw [hy772]; with_reducible exact H) | (have H2_ := (Option.bind_some _ _).symm.trans H; rw [hy772]; with_reducible exact H2_) | (have H2_ := (Option.bind_some _ _).symm.trans H; with_reducible exact H2_) | with_reducible exact H | (rw [hy772]; exact H) | exact H
 have Ny772 := Zh hy772
 clear hy772
 replace H := Option.bind_eq_some_iff.mp H
 obtain ⟨t775, A30, H⟩ := H
 replace H : ((spec_l01Below.f t768 t769 t770 t775).bind fun bt776 => (spec_DrawRightRecords.l0 k y772 bt776.1 t768 bt776.2.1 bt776.2.2)) = some r := H
 have A3 := Zh A30
 clear A30
 replace H := Option.bind_eq_some_iff.mp H
 obtain ⟨⟨t776, t777, t778⟩, A40, H⟩ := H
 replace H : (spec_DrawRightRecords.l0 k y772 t776 t768 t777 t778) = some r := H
 have A4 := Zh A40
 clear A40
 have H' := Zh H
 clear H
 go_enter Try.func44, Try.ntmps44
 go_wp2_with (first | ((with_reducible refine gate_callee (f := 66) rfl ?_); refine ZG (some 7) Try.func66 #[.slice A0 l0.length c0] rfl ?_; (with_reducible refine (spec_l01New.calls k _ _ l0 t768 t769 t770 w _ ?side1 ?side2 ?side3 A2.out).mono ?_); (case side1 => repeat (first | (with_reducible first | exact HB.out | apply Zf | apply Zd | apply Ze) | exact HB.out)); (case side2 => exact HR0.out); (case side3 => exact HC0.out); rintro e w5 ⟨g771, rfl, hi, hb, hb2⟩; refine ⟨_, rfl, ?_⟩; replace HB := Zh (hb); have HI771 := Zh (hi); (try clear hb); (try clear hb2); (try clear hk); (try clear hi)) | ((with_reducible refine gate_dst (N := 8) rfl ?_); refine S_lit k42 _ 42 ?hg (N := 8) ?hd (xs := ([] : List (S42))) (inner := []) (ok := fun _ => True) (okp := fun _ => True) ?hr ?hp (fun _ hk => hk) trivial (Below.refl _ _) (Nat.le_refl _) (by simp) ?_; (case hd => rfl); (case hg => rfl); (case hr => first | (go_simp; done) | (go_simp; rfl)); (case hp => exact (Reps.none _ _)); intro v773 w6 ho7 hb hg_ hnew_; clear hg_ hnew_; (first | rw [← Ny772.out] at ho7 | (simp only [Int.reduceToNat] at ho7; rw [← Ny772.out] at ho7)); have HO774 := Zh (S_lower ho7 (below_size (by repeat (first | (with_reducible first | exact HB.out | apply Zf | apply Zd | apply Ze | refine Zg ?_ (IsS76.ge HI771.out)) | exact HB.out)))); replace HB := Zh (Zl (by repeat (first | (with_reducible first | exact HB.out | apply Zf | apply Zd | apply Ze | refine Zg ?_ (IsS76.ge HI771.out)) | exact HB.out)) hb); replace HI771 := Zh (IsS76.below (by repeat (first | (with_reducible first | exact HI771.out | apply IsS76.alloc | apply IsS76.drewN | apply IsS76.drew | apply IsS76.set_1 | apply IsS76.set_2) | exact HI771.out)) hb); clear hb ho7) | ((with_reducible refine gate_callee (f := 68) rfl ?_); refine ZG (some 11) Try.func68 #[.slice A0 l0.length c0, .int .i64 8] rfl ?_; (with_reducible refine (spec_l01Size.calls _ _ l0 8 t775 _ ?side1 ?side2 A3.out).mono ?_); (case side1 => repeat (first | exact (C_below HR0.out HB.out) | (with_reducible refine C_alloc ?_ _) | (with_reducible refine C_drewN ?_ _) | (with_reducible refine C_drew ?_))); (case side2 => exact HC0.out); rintro e w' ⟨rfl, ⟨nd, rfl⟩⟩; refine ⟨_, rfl, ?_⟩) | ((with_reducible refine gate_callee (f := 67) rfl ?_); refine ZG (some 12) Try.func67 #[.pointer (some ⟨g771, 0, none⟩), .int .i64 t775] rfl ?_; (with_reducible refine (spec_l01Below.calls g771 t768 t769 t770 t775 t776 t777 t778 w _ ?side1 ?side2 A4.out).mono ?_); (case side1 => repeat (first | (with_reducible first | exact HI771.out | apply IsS76.alloc | apply IsS76.drewN | apply IsS76.drew | apply IsS76.set_1 | apply IsS76.set_2) | exact HI771.out)); (case side2 => repeat (first | (with_reducible first | exact HB.out | apply Zf | apply Zd | apply Ze | refine Zg ?_ (IsS76.ge HI771.out)) | exact HB.out)); rintro e w8 ⟨rfl, hi, hb, hk⟩; refine ⟨_, rfl, ?_⟩; replace HO774 := Zh (S_mono (S_keep (IsS76.apartS (show IsS76 w _ g771 t768 t769 t770 from by repeat (first | (with_reducible first | exact HI771.out | apply IsS76.alloc | apply IsS76.drewN | apply IsS76.drew | apply IsS76.set_1 | apply IsS76.set_2) | exact HI771.out)) (ZS HO774.out) (by decide)) hk (fun _ h => h.2)) (fun _ h => h.1)); replace HB := Zh (hb); replace HI771 := Zh (hi); (try clear hb); (try clear hb2); (try clear hk); (try clear hi)))
 go_loopg [4, 5] k (fun kq v4 v5 w' => ∃ (x4_1 : List (S42)) (x5_1 : Int) (x772001_1 : Int) (x772002_1 : Int), v5 = .int .i64 x5_1 ∧ Aside0 (spec_DrawRightRecords.l0 kq x4_1 x5_1 t768 x772001_1 x772002_1 = some r) ∧ Aside0 (kq ≤ k) ∧ Aside0 (Kd.S k42 42 w' w.heap.size (fun _ => True) v4 x4_1) ∧ Aside0 (IsS76 w w' g771 t768 x772001_1 x772002_1) ∧ Aside0 (Below w.heap.size w w'))
 case atStart => exact ⟨(y772), (t776), (t777), (t778), (by first | rfl | (simp; done) | (simp [*]; done)), H', ⟨Nat.le_refl _⟩, ⟨ZS HO774.out⟩, ⟨by repeat (first | (with_reducible first | exact HI771.out | apply IsS76.alloc | apply IsS76.drewN | apply IsS76.drew | apply IsS76.set_1 | apply IsS76.set_2) | exact HI771.out)⟩, ⟨by repeat (first | (with_reducible first | exact HB.out | apply Zf | apply Zd | apply Ze | refine Zg ?_ (IsS76.ge HI771.out)) | exact HB.out)⟩⟩
 case round =>
  clear H'
  try clear p2
  try clear c4
  try clear c6
  obtain ⟨x4_1, x5_1, x772001_1, x772002_1, rfl, HA, HK1, HO_4, HI771, HB⟩ := hrel
  cases gk with
  | zero => exact absurd HA.out (by simp [spec_DrawRightRecords.l0])
  | succ k1 =>
   have H := HA.out
   clear HA
   simp only [spec_DrawRightRecords.l0] at H
   by_cases c9 : x5_1 > 0
   ·
    rw [if_pos c9] at H
    have c9b0 : decide (0 < x5_1) = true := decide_eq_true c9
    clear c9
    replace H := Option.bind_eq_some_iff.mp H
    obtain ⟨⟨t779, t780, t783, t786, t787⟩, A100, H⟩ := H
    replace H : (if x4_1.length < 2513169434916 then (spec_DrawRightRecords.l0 k1 (x4_1 ++ [(⟨t779, t780, t783⟩ : S42)]) (wrap64 (x5_1 - 1)) t768 t786 t787) else (none)) = some r := H
    have A10 := Zh A100
    clear A100
    by_cases c11 : x4_1.length < 2513169434916
    ·
     rw [if_pos c11] at H
     have LMc11 := Zh c11
     clear c11
     obtain ⟨y788, hy788⟩ : ∃ y_ : List (S42), y_ = (x4_1 ++ [(⟨t779, t780, t783⟩ : S42)]) := ⟨_, rfl⟩
     replace H : (spec_DrawRightRecords.l0 k1 y788 (wrap64 (x5_1 - 1)) t768 t786 t787) = some r := by first | (rw [hy788]; with_reducible exact H) | (have H2_ := (Option.bind_some _ _).symm.trans H; rw [hy788]; with_reducible exact H2_) | (have H2_ := (Option.bind_some _ _).symm.trans H; with_reducible exact H2_) | with_reducible exact H | (rw [hy788]; exact H) | exact H
     have Ny788 := Zh hy788
     clear hy788
     have H' := Zh H
     clear H
     go_wp2_with (first | ((with_reducible refine gate_callee (f := 69) rfl ?_); refine ZG (some 19) Try.func69 #[.pointer (some ⟨g771, 0, none⟩)] rfl ?_; (with_reducible refine (spec_l01DrawRecord.calls k1 g771 t768 x772001_1 x772002_1 t779 t780 t783 t786 t787 w _ ?side1 ?side2 A10.out).mono ?_); (case side1 => repeat (first | (with_reducible first | exact HI771.out | apply IsS76.alloc | apply IsS76.drewN | apply IsS76.drew | apply IsS76.set_1 | apply IsS76.set_2) | exact HI771.out)); (case side2 => repeat (first | (with_reducible first | exact HB.out | apply Zf | apply Zd | apply Ze | refine Zg ?_ (IsS76.ge HI771.out)) | exact HB.out)); rintro e w12 ⟨v781, v784, rfl, ho0, ho1, hi, hb, hk⟩; refine ⟨_, rfl, ?_⟩; replace HO_4 := Zh (S_mono (S_told (S_told (S_oldK (IsS76.apartS (show IsS76 w _ g771 t768 x772001_1 x772002_1 from by repeat (first | (with_reducible first | exact HI771.out | apply IsS76.alloc | apply IsS76.drewN | apply IsS76.drew | apply IsS76.set_1 | apply IsS76.set_2) | exact HI771.out)) (ZS HO_4.out) (by decide)) hk) (R_base ho0)) (R_base ho1)) (fun _ h_ => h_.1)); have HO782 := Zh (R_lower ho0 (below_size (by repeat (first | (with_reducible first | exact HB.out | apply Zf | apply Zd | apply Ze | refine Zg ?_ (IsS76.ge HI771.out)) | exact HB.out)))); have HO785 := Zh (R_lower ho1 (below_size (by repeat (first | (with_reducible first | exact HB.out | apply Zf | apply Zd | apply Ze | refine Zg ?_ (IsS76.ge HI771.out)) | exact HB.out)))); replace HB := Zh (hb); replace HI771 := Zh (hi); (try clear hb); (try clear hb2); (try clear hk); (try clear hi); (try clear ho0); (try clear ho1); obtain ⟨Ao14, co14, eo14⟩ := R_slice HO782.out; subst eo14; obtain ⟨Ao15, co15, eo15⟩ := R_slice HO785.out; subst eo15) | ((with_reducible refine gate_builtin (b := .append) (xs := #[.tmp 17, .tmp 20]) rfl ?_); at_builtin; refine S_append k42 (w0 := w) w.heap.size rfl (.tmp 17) (.tmp 20) 53 42 (.agg #[(.int .i64 0), (.slice none 0 0), (.slice none 0 0)]) 56 rfl Try.underlying53 info42 rfl (by decide) (by omega) u4 x4_1 (⟨t779, t780, t783⟩ : S42) [.int .i64 t779, .slice Ao14 t780.length co14, .slice Ao15 t783.length co15] (fun _ => True) (fun k_ => some k_ = (.slice Ao14 t780.length co14 : Value).ownBlock ∨ some k_ = (.slice Ao15 t783.length co15 : Value).ownBlock) rfl rfl ?aP (fun k_ hk_ => hk_.elim (fun h_ => ((R_mono (ok' := fun k_ => ((fun _ => True)) k_ ∧ some k_ ≠ (u4 : Value).ownBlock) (R_apart' (HO782.out) (S_typed HO_4.out) (by decide)) (fun k_ hk => ⟨trivial, hk.2⟩))).1 k_ h_.symm) (fun h_ => ((R_mono (ok' := fun k_ => ((fun _ => True)) k_ ∧ some k_ ≠ (u4 : Value).ownBlock) (R_apart' (HO785.out) (S_typed HO_4.out) (by decide)) (fun k_ hk => ⟨trivial, hk.2⟩))).1 k_ h_.symm)) ?aF ?aO ?aB ?aS ?aL ?_; (case aP => exact k42_mkM _ _ _ (⟨t779, t780, t783⟩ : S42) (R_mono (R_tight rfl (R_mono (ok' := fun k_ => ((fun _ => True)) k_ ∧ some k_ ≠ (u4 : Value).ownBlock) (R_apart' (HO782.out) (S_typed HO_4.out) (by decide)) (fun k_ hk => ⟨trivial, hk.2⟩))) (fun _ h_ => Or.inl h_)) (R_mono (R_tight rfl (R_mono (ok' := fun k_ => ((fun _ => True)) k_ ∧ some k_ ≠ (u4 : Value).ownBlock) (R_apart' (HO785.out) (S_typed HO_4.out) (by decide)) (fun k_ hk => ⟨trivial, hk.2⟩))) (fun _ h_ => Or.inr (h_)))); (case aB => exact (by repeat (first | (with_reducible first | exact HB.out | apply Zf | apply Zd | apply Ze | refine Zg ?_ (IsS76.ge HI771.out)) | exact HB.out))); (case aF => exact (fun _ _ => trivial)); (case aO => exact (ZS (S_mono HO_4.out (fun k_ hk => ⟨trivial, fun e_ => e_.elim (fun h_ => hk.1.2 h_) (fun h_ => hk.2 h_)⟩)))); (case aS => exact (below_size (by repeat (first | (with_reducible first | exact HB.out | apply Zf | apply Zd | apply Ze | refine Zg ?_ (IsS76.ge HI771.out)) | exact HB.out)))); (case aL => have := LMc11.out; omega); intro v789 w13 ho hb hg hat; rw [← Ny788.out] at ho; have n0_ := Zh (IsS76.grown (show IsS76 w _ g771 t768 t786 t787 from by repeat (first | (with_reducible first | exact HI771.out | apply IsS76.alloc | apply IsS76.drewN | apply IsS76.drew | apply IsS76.set_1 | apply IsS76.set_2) | exact HI771.out)) hg (IsS76.own_neS HI771.out HO_4.out (by decide))); have n1_ := Zh (hb); have n2_ := Zh (ho); clear HI771; clear HB; clear HO_4; clear HO782; clear HO785; have HI771 := n0_; have HB := n1_; have HO790 := n2_; clear n0_ n1_ n2_; clear ho hb hg hat))
     go_roundg k1
     case measure => have := HK1.out; omega
     case rel => exact ⟨(y788), (wrap64 (x5_1 - 1)), (t786), (t787), (by first | rfl | (simp; done) | (simp [*]; done)), H', ⟨by have := HK1.out; omega⟩, ⟨ZS HO790.out⟩, ⟨by repeat (first | (with_reducible first | exact HI771.out | apply IsS76.alloc | apply IsS76.drewN | apply IsS76.drew | apply IsS76.set_1 | apply IsS76.set_2) | exact HI771.out)⟩, ⟨by repeat (first | (with_reducible first | exact HB.out | apply Zf | apply Zd | apply Ze | refine Zg ?_ (IsS76.ge HI771.out)) | exact HB.out)⟩⟩
    rw [if_neg c11] at H
    exact absurd H (by simp)
   rw [if_neg c9] at H
   have c9b0 : decide (0 < x5_1) = false := decide_eq_false c9
   clear c9
   obtain rfl := Option.some.inj H
   go_wp2
   go_ret
   exact ⟨_, ZE, ZS HO_4.out, by repeat (first | (with_reducible first | exact HB.out | apply Zf | apply Zd | apply Ze | refine Zg ?_ (IsS76.ge HI771.out)) | exact HB.out)⟩
mutual
def laws_sameRecord.j0 : Nat → Bool → Int → List Int → List ByteArray → Int → List Int → List ByteArray → Option (Bool)
 | 0, _, _, _, _, _, _, _ => none
 | k + 1, x29, x792000, x792001, x792002, x793000, x793001, x793002 => if x29 = true then (some false) else (laws_sameRecord.l0 k 0 x792000 x792001 x792002 x793000 x793001 x793002)
def laws_sameRecord.l0 : Nat → Int → Int → List Int → List ByteArray → Int → List Int → List ByteArray → Option (Bool)
 | 0, _, _, _, _, _, _, _ => none
 | k + 1, x5, x792000, x792001, x792002, x793000, x793001, x793002 => if x5 < (x792001.length : Int) then (if 0 ≤ x5 then (if x5 < (x793001.length : Int) then (if (rd x792001 x5) = (rd x793001 x5) then (laws_sameRecord.l0 k (wrap64 (x5 + 1)) x792000 x792001 x792002 x793000 x793001 x793002) else (some false)) else (none)) else (none)) else (laws_sameRecord.l1 k 0 x792000 x792001 x792002 x793000 x793001 x793002)
def laws_sameRecord.l1 : Nat → Int → Int → List Int → List ByteArray → Int → List Int → List ByteArray → Option (Bool)
 | 0, _, _, _, _, _, _, _ => none
 | k + 1, x6, x792000, x792001, x792002, x793000, x793001, x793002 => if x6 < (x792002.length : Int) then (if 0 ≤ x6 then (if x6 < (x793002.length : Int) then (if (rdOf ByteArray.empty x792002 x6).toList = (rdOf ByteArray.empty x793002 x6).toList then (laws_sameRecord.l1 k (wrap64 (x6 + 1)) x792000 x792001 x792002 x793000 x793001 x793002) else (some false)) else (none)) else (none)) else (some true)
end
def laws_sameRecord.f (k : Nat) (a0_0 : Int) (l0_1 : List Int) (l0_2 : List ByteArray) (a1_0 : Int) (l1_1 : List Int) (l1_2 : List ByteArray) : Option (Bool) := if a0_0 = a1_0 then (if (l0_1.length : Int) = (l1_1.length : Int) then (laws_sameRecord.j0 k ((l0_2.length : Int) != (l1_2.length : Int)) a0_0 l0_1 l0_2 a1_0 l1_1 l1_2) else (laws_sameRecord.j0 k true a0_0 l0_1 l0_2 a1_0 l1_1 l1_2)) else (laws_sameRecord.j0 k true a0_0 l0_1 l0_2 a1_0 l1_1 l1_2)
set_option maxHeartbeats 8000000 in
set_option maxRecDepth 100000 in
theorem laws_sameRecord.calls (k : Nat) (a0_0 : Int) (A0_1 : Option Addr) (c0_1 : Nat) (l0_1 : List Int) (A0_2 : Option Addr) (c0_2 : Nat) (l0_2 : List ByteArray) (a1_0 : Int) (A1_1 : Option Addr) (c1_1 : Nat) (l1_1 : List Int) (A1_2 : Option Addr) (c1_2 : Nat) (l1_2 : List ByteArray) (r : Bool) (w : World) (hr0_1 : Kd.C (Kd.int .u64) w A0_1 l0_1.length l0_1) (hc0_1 : l0_1.length ≤ c0_1) (hr0_2 : Kd.C Kd.string w A0_2 l0_2.length l0_2) (hc0_2 : l0_2.length ≤ c0_2) (hr1_1 : Kd.C (Kd.int .u64) w A1_1 l1_1.length l1_1) (hc1_1 : l1_1.length ≤ c1_1) (hr1_2 : Kd.C Kd.string w A1_2 l1_2.length l1_2) (hc1_2 : l1_2.length ≤ c1_2) (h : laws_sameRecord.f k a0_0 l0_1 l0_2 a1_0 l1_1 l1_2 = some r) :
  Calls Try.prog 46 #[.agg #[.int .i64 a0_0, .slice A0_1 l0_1.length c0_1, .slice A0_2 l0_2.length c0_2], .agg #[.int .i64 a1_0, .slice A1_1 l1_1.length c1_1, .slice A1_2 l1_2.length c1_2]] w fun e w' => e = .returned (.bool r) ∧ Below w.heap.size w w' := by
 have hu42 := Try.underlying42
 have HR0_1 := Zh hr0_1
 have HC0_1 := Zh hc0_1
 clear hr0_1 hc0_1
 have HR0_2 := Zh hr0_2
 have HC0_2 := Zh hc0_2
 clear hr0_2 hc0_2
 have HR1_1 := Zh hr1_1
 have HC1_1 := Zh hc1_1
 clear hr1_1 hc1_1
 have HR1_2 := Zh hr1_2
 have HC1_2 := Zh hc1_2
 clear hr1_2 hc1_2
 have HB := Zh (Below.refl w.heap.size w)
 have H : (if a0_0 = a1_0 then (if (l0_1.length : Int) = (l1_1.length : Int) then (laws_sameRecord.j0 k ((l0_2.length : Int) != (l1_2.length : Int)) a0_0 l0_1 l0_2 a1_0 l1_1 l1_2) else (laws_sameRecord.j0 k true a0_0 l0_1 l0_2 a1_0 l1_1 l1_2)) else (laws_sameRecord.j0 k true a0_0 l0_1 l0_2 a1_0 l1_1 l1_2)) = some r := h
 clear h
 have HC3 := Zh H
 clear H
 go_enter Try.func46, Try.ntmps46
 go_upto_region 1 with (first | ((with_reducible refine gate_dst (N := 2) rfl ?_); (try (refine gate_guard (by rfl) ?_; dsimp only)); refine box_event ?hg (N := 2) ?hd (cs := #[.int .i64 a0_0, .slice A0_1 l0_1.length c0_1, .slice A0_2 l0_2.length c0_2]) (t := 42) ?hr ?_; (case hd => rfl); (case hg => rfl); (case hr => first | (go_simp; done) | (go_simp; rfl)); intro gb791 hg w4 hbox hb; have BK791 := Zh (hbox); have GW791 := Zh ((by rw [hg]; exact (below_size Zs) : w.heap.size ≤ gb791)); have GE791 := Zh ((by rw [hg]; exact (below_size Zs) : w.heap.size ≤ gb791)); replace HB := Zh (Zl Zs hb); clear hb hbox hg) | ((with_reducible refine gate_dst (N := 3) rfl ?_); (try (refine gate_guard (by rfl) ?_; dsimp only)); refine box_event ?hg (N := 3) ?hd (cs := #[.int .i64 a1_0, .slice A1_1 l1_1.length c1_1, .slice A1_2 l1_2.length c1_2]) (t := 42) ?hr ?_; (case hd => rfl); (case hg => rfl); (case hr => first | (go_simp; done) | (go_simp; rfl)); intro gb792 hg w5 hbox hb; have BK792 := Zh (hbox); have GW792 := Zh ((by rw [hg]; exact (below_size Zs) : w.heap.size ≤ gb792)); have GE792 := Zh ((by rw [hg]; exact (below_size Zs) : w.heap.size ≤ gb792)); replace HB := Zh (Zl Zs hb); have NB791_792 := Zh ((by rw [hg]; exact Nat.ne_of_lt (blk_lt (g := gb791) (o := .cells #[.int .i64 a0_0, .slice A0_1 l0_1.length c0_1, .slice A0_2 l0_2.length c0_2] 42 (0, 0)) Zk) : gb791 ≠ gb792)); have NB792_791 := Zh ((by rw [hg]; exact Nat.ne_of_gt (blk_lt (g := gb791) (o := .cells #[.int .i64 a0_0, .slice A0_1 l0_1.length c0_1, .slice A0_2 l0_2.length c0_2] 42 (0, 0)) Zk) : gb792 ≠ gb791)); replace BK791 := Zh (blk_below (g := gb791) (o := .cells #[.int .i64 a0_0, .slice A0_1 l0_1.length c0_1, .slice A0_2 l0_2.length c0_2] 42 (0, 0)) Zk hb); clear hb hbox hg))
 repeat (go_quiet (first | ((with_reducible refine gate_dst (N := 2) rfl ?_); (try (refine gate_guard (by rfl) ?_; dsimp only)); refine box_event ?hg (N := 2) ?hd (cs := #[.int .i64 a0_0, .slice A0_1 l0_1.length c0_1, .slice A0_2 l0_2.length c0_2]) (t := 42) ?hr ?_; (case hd => rfl); (case hg => rfl); (case hr => first | (go_simp; done) | (go_simp; rfl)); intro gb791 hg w4 hbox hb; have BK791 := Zh (hbox); have GW791 := Zh ((by rw [hg]; exact (below_size Zs) : w.heap.size ≤ gb791)); have GE791 := Zh ((by rw [hg]; exact (below_size Zs) : w.heap.size ≤ gb791)); replace HB := Zh (Zl Zs hb); clear hb hbox hg) | ((with_reducible refine gate_dst (N := 3) rfl ?_); (try (refine gate_guard (by rfl) ?_; dsimp only)); refine box_event ?hg (N := 3) ?hd (cs := #[.int .i64 a1_0, .slice A1_1 l1_1.length c1_1, .slice A1_2 l1_2.length c1_2]) (t := 42) ?hr ?_; (case hd => rfl); (case hg => rfl); (case hr => first | (go_simp; done) | (go_simp; rfl)); intro gb792 hg w5 hbox hb; have BK792 := Zh (hbox); have GW792 := Zh ((by rw [hg]; exact (below_size Zs) : w.heap.size ≤ gb792)); have GE792 := Zh ((by rw [hg]; exact (below_size Zs) : w.heap.size ≤ gb792)); replace HB := Zh (Zl Zs hb); have NB791_792 := Zh ((by rw [hg]; exact Nat.ne_of_lt (blk_lt (g := gb791) (o := .cells #[.int .i64 a0_0, .slice A0_1 l0_1.length c0_1, .slice A0_2 l0_2.length c0_2] 42 (0, 0)) Zk) : gb791 ≠ gb792)); have NB792_791 := Zh ((by rw [hg]; exact Nat.ne_of_gt (blk_lt (g := gb791) (o := .cells #[.int .i64 a0_0, .slice A0_1 l0_1.length c0_1, .slice A0_2 l0_2.length c0_2] 42 (0, 0)) Zk) : gb792 ≠ gb791)); replace BK791 := Zh (blk_below (g := gb791) (o := .cells #[.int .i64 a0_0, .slice A0_1 l0_1.length c0_1, .slice A0_2 l0_2.length c0_2] 42 (0, 0)) Zk hb); clear hb hbox hg)); go_upto_region 1 with (first | ((with_reducible refine gate_dst (N := 2) rfl ?_); (try (refine gate_guard (by rfl) ?_; dsimp only)); refine box_event ?hg (N := 2) ?hd (cs := #[.int .i64 a0_0, .slice A0_1 l0_1.length c0_1, .slice A0_2 l0_2.length c0_2]) (t := 42) ?hr ?_; (case hd => rfl); (case hg => rfl); (case hr => first | (go_simp; done) | (go_simp; rfl)); intro gb791 hg w4 hbox hb; have BK791 := Zh (hbox); have GW791 := Zh ((by rw [hg]; exact (below_size Zs) : w.heap.size ≤ gb791)); have GE791 := Zh ((by rw [hg]; exact (below_size Zs) : w.heap.size ≤ gb791)); replace HB := Zh (Zl Zs hb); clear hb hbox hg) | ((with_reducible refine gate_dst (N := 3) rfl ?_); (try (refine gate_guard (by rfl) ?_; dsimp only)); refine box_event ?hg (N := 3) ?hd (cs := #[.int .i64 a1_0, .slice A1_1 l1_1.length c1_1, .slice A1_2 l1_2.length c1_2]) (t := 42) ?hr ?_; (case hd => rfl); (case hg => rfl); (case hr => first | (go_simp; done) | (go_simp; rfl)); intro gb792 hg w5 hbox hb; have BK792 := Zh (hbox); have GW792 := Zh ((by rw [hg]; exact (below_size Zs) : w.heap.size ≤ gb792)); have GE792 := Zh ((by rw [hg]; exact (below_size Zs) : w.heap.size ≤ gb792)); replace HB := Zh (Zl Zs hb); have NB791_792 := Zh ((by rw [hg]; exact Nat.ne_of_lt (blk_lt (g := gb791) (o := .cells #[.int .i64 a0_0, .slice A0_1 l0_1.length c0_1, .slice A0_2 l0_2.length c0_2] 42 (0, 0)) Zk) : gb791 ≠ gb792)); have NB792_791 := Zh ((by rw [hg]; exact Nat.ne_of_gt (blk_lt (g := gb791) (o := .cells #[.int .i64 a0_0, .slice A0_1 l0_1.length c0_1, .slice A0_2 l0_2.length c0_2] 42 (0, 0)) Zk) : gb792 ≠ gb791)); replace BK791 := Zh (blk_below (g := gb791) (o := .cells #[.int .i64 a0_0, .slice A0_1 l0_1.length c0_1, .slice A0_2 l0_2.length c0_2] 42 (0, 0)) Zk hb); clear hb hbox hg)))
 (try simp only [Act.put, List.setIfInBounds_toArray, List.set_cons_zero, List.set_cons_succ])
 go_cut [29] (fun v29 wc => ∃ (kq : Nat) (x29_2 : Bool), v29 = .bool x29_2 ∧ Aside0 (laws_sameRecord.j0 kq x29_2 a0_0 l0_1 l0_2 a1_0 l1_1 l1_2 = some r) ∧ Aside0 (kq ≤ k) ∧ Aside0 (wc.heap[gb791]? = some (.cells #[.int .i64 a0_0, (.slice A0_1 l0_1.length c0_1), (.slice A0_2 l0_2.length c0_2)] 42 (0, 0))) ∧ Aside0 (wc.heap[gb792]? = some (.cells #[.int .i64 a1_0, (.slice A1_1 l1_1.length c1_1), (.slice A1_2 l1_2.length c1_2)] 42 (0, 0))) ∧ Aside0 (Below w.heap.size w wc))
 case first =>
  have H := HC3.out
  clear HC3
  by_cases c6 : a0_0 = a1_0
  ·
   rw [if_pos c6] at H
   have c6b0 : (a0_0 == a1_0) = true := beq_iff_eq.mpr c6
   have c6b1 : (a0_0 != a1_0) = false := bne_eq_false_iff_eq.mpr c6
   clear c6
   (first | rw [c6b0] | (simp only [i64_w, i32_w]; rw [c6b0]) | skip)
   by_cases c7 : (l0_1.length : Int) = (l1_1.length : Int)
   ·
    rw [if_pos c7] at H
    have c7b0 : ((l0_1.length : Int) == (l1_1.length : Int)) = true := beq_iff_eq.mpr c7
    have c7b1 : ((l0_1.length : Int) != (l1_1.length : Int)) = false := bne_eq_false_iff_eq.mpr c7
    have c7b2 : (l0_1.length == l1_1.length) = true := by first | simpa using c7 | (simp at c7 ⊢; omega)
    clear c7
    have H' := Zh H
    clear H
    have hnb8 := NB791_792.out
    have hnc8 := NB792_791.out
    have hcz9_0 : w5.cell? ⟨gb791, 0, none⟩ = some (.int .i64 a0_0) := (blk_cell BK791.out 0).trans rfl
    have hcz9_1 : w5.cell? ⟨gb791, 1, none⟩ = some (.slice A0_1 l0_1.length c0_1) := (blk_cell BK791.out 1).trans rfl
    have hcz9_2 : w5.cell? ⟨gb791, 2, none⟩ = some (.slice A0_2 l0_2.length c0_2) := (blk_cell BK791.out 2).trans rfl
    have hfz9_0 := Zn BK791.out 0
    have hfz9_1 := Zn BK791.out 1
    have hfz9_2 := Zn BK791.out 2
    have hcz10_0 : w5.cell? ⟨gb792, 0, none⟩ = some (.int .i64 a1_0) := (blk_cell BK792.out 0).trans rfl
    have hcz10_1 : w5.cell? ⟨gb792, 1, none⟩ = some (.slice A1_1 l1_1.length c1_1) := (blk_cell BK792.out 1).trans rfl
    have hcz10_2 : w5.cell? ⟨gb792, 2, none⟩ = some (.slice A1_2 l1_2.length c1_2) := (blk_cell BK792.out 2).trans rfl
    have hfz10_0 := Zn BK792.out 0
    have hfz10_1 := Zn BK792.out 1
    have hfz10_2 := Zn BK792.out 2
    go_wp2
    repeat (go_quiet (fail); try go_wp2)
    go_meet
    case rel => exact ⟨_, (((l0_2.length : Int) != (l1_2.length : Int))), (by first | rfl | (simp; done) | (simp [*]; done)), H', ⟨by first | omega | exact Nat.le_refl _⟩, ⟨Zk⟩, ⟨Zk⟩, ⟨Zs⟩⟩
   rw [if_neg c7] at H
   have c7b0 : ((l0_1.length : Int) == (l1_1.length : Int)) = false := beq_eq_false_iff_ne.mpr c7
   have c7b1 : ((l0_1.length : Int) != (l1_1.length : Int)) = true := bne_iff_ne.mpr c7
   have c7b2 : (l0_1.length == l1_1.length) = false := by first | simpa using c7 | (simp at c7 ⊢; omega)
   have H' := Zh H
   clear H
   have hnb11 := NB791_792.out
   have hnc11 := NB792_791.out
   have hcz12_0 : w5.cell? ⟨gb791, 0, none⟩ = some (.int .i64 a0_0) := (blk_cell BK791.out 0).trans rfl
   have hcz12_1 : w5.cell? ⟨gb791, 1, none⟩ = some (.slice A0_1 l0_1.length c0_1) := (blk_cell BK791.out 1).trans rfl
   have hcz12_2 : w5.cell? ⟨gb791, 2, none⟩ = some (.slice A0_2 l0_2.length c0_2) := (blk_cell BK791.out 2).trans rfl
   have hfz12_0 := Zn BK791.out 0
   have hfz12_1 := Zn BK791.out 1
   have hfz12_2 := Zn BK791.out 2
   have hcz13_0 : w5.cell? ⟨gb792, 0, none⟩ = some (.int .i64 a1_0) := (blk_cell BK792.out 0).trans rfl
   have hcz13_1 : w5.cell? ⟨gb792, 1, none⟩ = some (.slice A1_1 l1_1.length c1_1) := (blk_cell BK792.out 1).trans rfl
   have hcz13_2 : w5.cell? ⟨gb792, 2, none⟩ = some (.slice A1_2 l1_2.length c1_2) := (blk_cell BK792.out 2).trans rfl
   have hfz13_0 := Zn BK792.out 0
   have hfz13_1 := Zn BK792.out 1
   have hfz13_2 := Zn BK792.out 2
   go_wp2
   repeat (go_quiet (fail); try go_wp2)
   go_meet
   case rel => exact ⟨_, (true), (by first | rfl | (simp; done) | (simp [*]; done)), H', ⟨by first | omega | exact Nat.le_refl _⟩, ⟨Zk⟩, ⟨Zk⟩, ⟨Zs⟩⟩
  rw [if_neg c6] at H
  have c6b0 : (a0_0 == a1_0) = false := beq_eq_false_iff_ne.mpr c6
  have c6b1 : (a0_0 != a1_0) = true := bne_iff_ne.mpr c6
  (first | rw [c6b0] | (simp only [i64_w, i32_w]; rw [c6b0]) | skip)
  have H' := Zh H
  clear H
  have hnb14 := NB791_792.out
  have hnc14 := NB792_791.out
  have hcz15_0 : w5.cell? ⟨gb791, 0, none⟩ = some (.int .i64 a0_0) := (blk_cell BK791.out 0).trans rfl
  have hcz15_1 : w5.cell? ⟨gb791, 1, none⟩ = some (.slice A0_1 l0_1.length c0_1) := (blk_cell BK791.out 1).trans rfl
  have hcz15_2 : w5.cell? ⟨gb791, 2, none⟩ = some (.slice A0_2 l0_2.length c0_2) := (blk_cell BK791.out 2).trans rfl
  have hfz15_0 := Zn BK791.out 0
  have hfz15_1 := Zn BK791.out 1
  have hfz15_2 := Zn BK791.out 2
  have hcz16_0 : w5.cell? ⟨gb792, 0, none⟩ = some (.int .i64 a1_0) := (blk_cell BK792.out 0).trans rfl
  have hcz16_1 : w5.cell? ⟨gb792, 1, none⟩ = some (.slice A1_1 l1_1.length c1_1) := (blk_cell BK792.out 1).trans rfl
  have hcz16_2 : w5.cell? ⟨gb792, 2, none⟩ = some (.slice A1_2 l1_2.length c1_2) := (blk_cell BK792.out 2).trans rfl
  have hfz16_0 := Zn BK792.out 0
  have hfz16_1 := Zn BK792.out 1
  have hfz16_2 := Zn BK792.out 2
  go_wp2
  repeat (go_quiet (fail); try go_wp2)
  go_meet
  case rel => exact ⟨_, (true), (by first | rfl | (simp; done) | (simp [*]; done)), H', ⟨by first | omega | exact Nat.le_refl _⟩, ⟨Zk⟩, ⟨Zk⟩, ⟨Zs⟩⟩
 case rest =>
  clear HC3
  try clear c1
  try clear p2
  try clear c4
  try clear c6
  try clear c6b0
  try clear c6b1
  try clear c7
  try clear c7b0
  try clear c7b1
  try clear c7b2
  try clear c8
  try clear c11
  try clear c14
  try clear hcz10_0
  try clear hcz10_1
  try clear hcz10_2
  try clear hcz12_0
  try clear hcz12_1
  try clear hcz12_2
  try clear hcz13_0
  try clear hcz13_1
  try clear hcz13_2
  try clear hcz15_0
  try clear hcz15_1
  try clear hcz15_2
  try clear hcz16_0
  try clear hcz16_1
  try clear hcz16_2
  try clear hcz9_0
  try clear hcz9_1
  try clear hcz9_2
  try clear hfz10_0
  try clear hfz10_1
  try clear hfz10_2
  try clear hfz12_0
  try clear hfz12_1
  try clear hfz12_2
  try clear hfz13_0
  try clear hfz13_1
  try clear hfz13_2
  try clear hfz15_0
  try clear hfz15_1
  try clear hfz15_2
  try clear hfz16_0
  try clear hfz16_1
  try clear hfz16_2
  try clear hfz9_0
  try clear hfz9_1
  try clear hfz9_2
  obtain ⟨kq, x29_2, rfl, HA, HJ2, BK791, BK792, HB⟩ := hcut
  cases kq with
  | zero => exact absurd HA.out (by simp [laws_sameRecord.j0])
  | succ kj2 =>
   have H := HA.out
   clear HA
   simp only [laws_sameRecord.j0] at H
   by_cases c17 : x29_2 = true
   ·
    subst c17
    have H1 : (some false) = some r := by rw [if_pos rfl] at H; exact H
    clear H
    have H := H1
    clear H1
    obtain rfl := Option.some.inj H
    go_wp2
    repeat (go_quiet (fail); try go_wp2)
    go_ret
    exact ⟨ZE, Zs⟩
   replace c17 := Bool.eq_false_iff.mpr c17
   subst c17
   have H1 : (laws_sameRecord.l0 kj2 0 a0_0 l0_1 l0_2 a1_0 l1_1 l1_2) = some r := by rw [if_neg (show ¬ (false = true) by decide)] at H; exact H
   clear H
   have H := H1
   clear H1
   have H' := Zh H
   clear H
   go_wp2
   repeat (go_quiet (fail); try go_wp2)
   go_loopg [5] kj2 (fun kq v5 w' => ∃ (x5_2 : Int), v5 = .int .i64 x5_2 ∧ Aside0 (laws_sameRecord.l0 kq x5_2 a0_0 l0_1 l0_2 a1_0 l1_1 l1_2 = some r) ∧ Aside0 (kq ≤ kj2) ∧ Aside0 (w'.heap[gb791]? = some (.cells #[.int .i64 a0_0, (.slice A0_1 l0_1.length c0_1), (.slice A0_2 l0_2.length c0_2)] 42 (0, 0))) ∧ Aside0 (w'.heap[gb792]? = some (.cells #[.int .i64 a1_0, (.slice A1_1 l1_1.length c1_1), (.slice A1_2 l1_2.length c1_2)] 42 (0, 0))) ∧ Aside0 (Below w.heap.size w w'))
   case atStart => exact ⟨(0), (by first | rfl | (simp; done) | (simp [*]; done)), H', ⟨Nat.le_refl _⟩, ⟨Zk⟩, ⟨Zk⟩, ⟨Zs⟩⟩
   case round =>
    clear H'
    try clear c1
    try clear p2
    try clear c4
    try clear c6
    try clear c6b0
    try clear c6b1
    try clear c7
    try clear c7b0
    try clear c7b1
    try clear c7b2
    try clear c8
    try clear c11
    try clear c14
    try clear c17
    try clear hcz10_0
    try clear hcz10_1
    try clear hcz10_2
    try clear hcz12_0
    try clear hcz12_1
    try clear hcz12_2
    try clear hcz13_0
    try clear hcz13_1
    try clear hcz13_2
    try clear hcz15_0
    try clear hcz15_1
    try clear hcz15_2
    try clear hcz16_0
    try clear hcz16_1
    try clear hcz16_2
    try clear hcz9_0
    try clear hcz9_1
    try clear hcz9_2
    try clear hfz10_0
    try clear hfz10_1
    try clear hfz10_2
    try clear hfz12_0
    try clear hfz12_1
    try clear hfz12_2
    try clear hfz13_0
    try clear hfz13_1
    try clear hfz13_2
    try clear hfz15_0
    try clear hfz15_1
    try clear hfz15_2
    try clear hfz16_0
    try clear hfz16_1
    try clear hfz16_2
    try clear hfz9_0
    try clear hfz9_1
    try clear hfz9_2
    try clear p2
    obtain ⟨x5_2, rfl, HA, HK2, BK791, BK792, HB⟩ := hrel
    cases gk with
    | zero => exact absurd HA.out (by simp [laws_sameRecord.l0])
    | succ k2 =>
     have H := HA.out
     clear HA
     simp only [laws_sameRecord.l0] at H
     by_cases c18 : x5_2 < (l0_1.length : Int)
     ·
      rw [if_pos c18] at H
      have c18b0 : decide (x5_2 < (l0_1.length : Int)) = true := decide_eq_true c18
      clear c18
      by_cases c19 : 0 ≤ x5_2
      ·
       rw [if_pos c19] at H
       have c19b0 : decide (0 ≤ x5_2) = true := decide_eq_true c19
       clear c19
       by_cases c20 : x5_2 < (l1_1.length : Int)
       ·
        rw [if_pos c20] at H
        have c20b0 : decide (x5_2 < (l1_1.length : Int)) = true := decide_eq_true c20
        clear c20
        by_cases c21 : (rd l0_1 x5_2) = (rd l1_1 x5_2)
        ·
         rw [if_pos c21] at H
         have c21b0 : ((rd l0_1 x5_2) == (rd l1_1 x5_2)) = true := beq_iff_eq.mpr c21
         have c21b1 : ((rd l0_1 x5_2) != (rd l1_1 x5_2)) = false := bne_eq_false_iff_eq.mpr c21
         clear c21
         have H' := Zh H
         clear H
         have hnb22 := NB791_792.out
         have hnc22 := NB792_791.out
         have hcz23_0 : wr.cell? ⟨gb791, 0, none⟩ = some (.int .i64 a0_0) := (blk_cell BK791.out 0).trans rfl
         have hcz23_1 : wr.cell? ⟨gb791, 1, none⟩ = some (.slice A0_1 l0_1.length c0_1) := (blk_cell BK791.out 1).trans rfl
         have hcz23_2 : wr.cell? ⟨gb791, 2, none⟩ = some (.slice A0_2 l0_2.length c0_2) := (blk_cell BK791.out 2).trans rfl
         have hfz23_0 := Zn BK791.out 0
         have hfz23_1 := Zn BK791.out 1
         have hfz23_2 := Zn BK791.out 2
         have p793 : 0 ≤ (x5_2 : Int) := Zo
         have q793 : x5_2 < (l0_1.length : Int) := Zo
         obtain ⟨ad793, e793, hx793_0⟩ := Kd.at_int HR0_1.out x5_2 p793 q793
         cases e793
         replace hx793_0 := Zc HB.out hx793_0
         replace p793 := eq_true p793
         replace q793 := eq_true q793
         have hcz24_0 : wr.cell? ⟨gb792, 0, none⟩ = some (.int .i64 a1_0) := (blk_cell BK792.out 0).trans rfl
         have hcz24_1 : wr.cell? ⟨gb792, 1, none⟩ = some (.slice A1_1 l1_1.length c1_1) := (blk_cell BK792.out 1).trans rfl
         have hcz24_2 : wr.cell? ⟨gb792, 2, none⟩ = some (.slice A1_2 l1_2.length c1_2) := (blk_cell BK792.out 2).trans rfl
         have hfz24_0 := Zn BK792.out 0
         have hfz24_1 := Zn BK792.out 1
         have hfz24_2 := Zn BK792.out 2
         have p794 : 0 ≤ (x5_2 : Int) := Zo
         have q794 : x5_2 < (l1_1.length : Int) := Zo
         obtain ⟨ad794, e794, hx794_0⟩ := Kd.at_int HR1_1.out x5_2 p794 q794
         cases e794
         replace hx794_0 := Zc HB.out hx794_0
         replace p794 := eq_true p794
         replace q794 := eq_true q794
         go_wp2
         repeat (go_quiet (fail); try go_wp2)
         go_roundg k2
         case measure => have := HJ2.out; have := HK2.out; omega
         case rel => exact ⟨(wrap64 (x5_2 + 1)), (by first | rfl | (simp; done) | (simp [*]; done)), H', ⟨by have := HJ2.out; have := HK2.out; omega⟩, ⟨Zk⟩, ⟨Zk⟩, ⟨Zs⟩⟩
        rw [if_neg c21] at H
        have c21b0 : ((rd l0_1 x5_2) == (rd l1_1 x5_2)) = false := beq_eq_false_iff_ne.mpr c21
        have c21b1 : ((rd l0_1 x5_2) != (rd l1_1 x5_2)) = true := bne_iff_ne.mpr c21
        obtain rfl := Option.some.inj H
        have hnb25 := NB791_792.out
        have hnc25 := NB792_791.out
        have hcz26_0 : wr.cell? ⟨gb791, 0, none⟩ = some (.int .i64 a0_0) := (blk_cell BK791.out 0).trans rfl
        have hcz26_1 : wr.cell? ⟨gb791, 1, none⟩ = some (.slice A0_1 l0_1.length c0_1) := (blk_cell BK791.out 1).trans rfl
        have hcz26_2 : wr.cell? ⟨gb791, 2, none⟩ = some (.slice A0_2 l0_2.length c0_2) := (blk_cell BK791.out 2).trans rfl
        have hfz26_0 := Zn BK791.out 0
        have hfz26_1 := Zn BK791.out 1
        have hfz26_2 := Zn BK791.out 2
        have p793 : 0 ≤ (x5_2 : Int) := Zo
        have q793 : x5_2 < (l0_1.length : Int) := Zo
        obtain ⟨ad793, e793, hx793_0⟩ := Kd.at_int HR0_1.out x5_2 p793 q793
        cases e793
        replace hx793_0 := Zc HB.out hx793_0
        replace p793 := eq_true p793
        replace q793 := eq_true q793
        have hcz27_0 : wr.cell? ⟨gb792, 0, none⟩ = some (.int .i64 a1_0) := (blk_cell BK792.out 0).trans rfl
        have hcz27_1 : wr.cell? ⟨gb792, 1, none⟩ = some (.slice A1_1 l1_1.length c1_1) := (blk_cell BK792.out 1).trans rfl
        have hcz27_2 : wr.cell? ⟨gb792, 2, none⟩ = some (.slice A1_2 l1_2.length c1_2) := (blk_cell BK792.out 2).trans rfl
        have hfz27_0 := Zn BK792.out 0
        have hfz27_1 := Zn BK792.out 1
        have hfz27_2 := Zn BK792.out 2
        have p794 : 0 ≤ (x5_2 : Int) := Zo
        have q794 : x5_2 < (l1_1.length : Int) := Zo
        obtain ⟨ad794, e794, hx794_0⟩ := Kd.at_int HR1_1.out x5_2 p794 q794
        cases e794
        replace hx794_0 := Zc HB.out hx794_0
        replace p794 := eq_true p794
        replace q794 := eq_true q794
        go_wp2
        repeat (go_quiet (fail); try go_wp2)
        go_ret
        exact ⟨ZE, Zs⟩
       rw [if_neg c20] at H
       exact absurd H (by simp)
      rw [if_neg c19] at H
      exact absurd H (by simp)
     rw [if_neg c18] at H
     have c18b0 : decide (x5_2 < (l0_1.length : Int)) = false := decide_eq_false c18
     clear c18
     have H' := Zh H
     clear H
     have hnb28 := NB791_792.out
     have hnc28 := NB792_791.out
     have hcz29_0 : wr.cell? ⟨gb791, 0, none⟩ = some (.int .i64 a0_0) := (blk_cell BK791.out 0).trans rfl
     have hcz29_1 : wr.cell? ⟨gb791, 1, none⟩ = some (.slice A0_1 l0_1.length c0_1) := (blk_cell BK791.out 1).trans rfl
     have hcz29_2 : wr.cell? ⟨gb791, 2, none⟩ = some (.slice A0_2 l0_2.length c0_2) := (blk_cell BK791.out 2).trans rfl
     have hfz29_0 := Zn BK791.out 0
     have hfz29_1 := Zn BK791.out 1
     have hfz29_2 := Zn BK791.out 2
     go_wp2
     repeat (go_quiet (fail); try go_wp2)
     go_loopg [6] k2 (fun kq v6 w' => ∃ (x6_3 : Int), v6 = .int .i64 x6_3 ∧ Aside0 (laws_sameRecord.l1 kq x6_3 a0_0 l0_1 l0_2 a1_0 l1_1 l1_2 = some r) ∧ Aside0 (kq ≤ k2) ∧ Aside0 (w'.heap[gb791]? = some (.cells #[.int .i64 a0_0, (.slice A0_1 l0_1.length c0_1), (.slice A0_2 l0_2.length c0_2)] 42 (0, 0))) ∧ Aside0 (w'.heap[gb792]? = some (.cells #[.int .i64 a1_0, (.slice A1_1 l1_1.length c1_1), (.slice A1_2 l1_2.length c1_2)] 42 (0, 0))) ∧ Aside0 (Below w.heap.size w w'))
     case atStart => exact ⟨(0), (by first | rfl | (simp; done) | (simp [*]; done)), H', ⟨Nat.le_refl _⟩, ⟨Zk⟩, ⟨Zk⟩, ⟨Zs⟩⟩
     case round =>
      clear H'
      try clear c1
      try clear c2
      try clear p2
      try clear c4
      try clear c6
      try clear c6b0
      try clear c6b1
      try clear p6
      try clear c7
      try clear c7b0
      try clear c7b1
      try clear c7b2
      try clear p7
      try clear q7
      try clear hx7
      try clear c8
      try clear c11
      try clear c14
      try clear c17
      try clear c18
      try clear c18b0
      try clear c19
      try clear c19b0
      try clear c20
      try clear c20b0
      try clear c21
      try clear c21b0
      try clear c21b1
      try clear c22
      try clear c25
      try clear c28
      try clear hcz10_0
      try clear hcz10_1
      try clear hcz10_2
      try clear hcz12_0
      try clear hcz12_1
      try clear hcz12_2
      try clear hcz13_0
      try clear hcz13_1
      try clear hcz13_2
      try clear hcz15_0
      try clear hcz15_1
      try clear hcz15_2
      try clear hcz16_0
      try clear hcz16_1
      try clear hcz16_2
      try clear hcz23_0
      try clear hcz23_1
      try clear hcz23_2
      try clear hcz24_0
      try clear hcz24_1
      try clear hcz24_2
      try clear hcz26_0
      try clear hcz26_1
      try clear hcz26_2
      try clear hcz27_0
      try clear hcz27_1
      try clear hcz27_2
      try clear hcz29_0
      try clear hcz29_1
      try clear hcz29_2
      try clear hcz9_0
      try clear hcz9_1
      try clear hcz9_2
      try clear hfz10_0
      try clear hfz10_1
      try clear hfz10_2
      try clear hfz12_0
      try clear hfz12_1
      try clear hfz12_2
      try clear hfz13_0
      try clear hfz13_1
      try clear hfz13_2
      try clear hfz15_0
      try clear hfz15_1
      try clear hfz15_2
      try clear hfz16_0
      try clear hfz16_1
      try clear hfz16_2
      try clear hfz23_0
      try clear hfz23_1
      try clear hfz23_2
      try clear hfz24_0
      try clear hfz24_1
      try clear hfz24_2
      try clear hfz26_0
      try clear hfz26_1
      try clear hfz26_2
      try clear hfz27_0
      try clear hfz27_1
      try clear hfz27_2
      try clear hfz29_0
      try clear hfz29_1
      try clear hfz29_2
      try clear hfz9_0
      try clear hfz9_1
      try clear hfz9_2
      try clear hx793_0
      try clear hx794_0
      try clear p2
      try clear p793
      try clear p794
      try clear q793
      try clear q794
      obtain ⟨x6_3, rfl, HA, HK3, BK791, BK792, HB⟩ := hrel
      cases gk with
      | zero => exact absurd HA.out (by simp [laws_sameRecord.l1])
      | succ k3 =>
       have H := HA.out
       clear HA
       simp only [laws_sameRecord.l1] at H
       by_cases c30 : x6_3 < (l0_2.length : Int)
       ·
        rw [if_pos c30] at H
        have c30b0 : decide (x6_3 < (l0_2.length : Int)) = true := decide_eq_true c30
        clear c30
        by_cases c31 : 0 ≤ x6_3
        ·
         rw [if_pos c31] at H
         have c31b0 : decide (0 ≤ x6_3) = true := decide_eq_true c31
         clear c31
         by_cases c32 : x6_3 < (l1_2.length : Int)
         ·
          rw [if_pos c32] at H
          have c32b0 : decide (x6_3 < (l1_2.length : Int)) = true := decide_eq_true c32
          clear c32
          by_cases c33 : (rdOf ByteArray.empty l0_2 x6_3).toList = (rdOf ByteArray.empty l1_2 x6_3).toList
          ·
           rw [if_pos c33] at H
           have c33b0 : ((rdOf ByteArray.empty l0_2 x6_3).toList == (rdOf ByteArray.empty l1_2 x6_3).toList) = true := beq_iff_eq.mpr c33
           have c33b1 : ((rdOf ByteArray.empty l0_2 x6_3).toList != (rdOf ByteArray.empty l1_2 x6_3).toList) = false := bne_eq_false_iff_eq.mpr c33
           clear c33
           have H' := Zh H
           clear H
           have hnb34 := NB791_792.out
           have hnc34 := NB792_791.out
           have hcz35_0 : wr.cell? ⟨gb791, 0, none⟩ = some (.int .i64 a0_0) := (blk_cell BK791.out 0).trans rfl
           have hcz35_1 : wr.cell? ⟨gb791, 1, none⟩ = some (.slice A0_1 l0_1.length c0_1) := (blk_cell BK791.out 1).trans rfl
           have hcz35_2 : wr.cell? ⟨gb791, 2, none⟩ = some (.slice A0_2 l0_2.length c0_2) := (blk_cell BK791.out 2).trans rfl
           have hfz35_0 := Zn BK791.out 0
           have hfz35_1 := Zn BK791.out 1
           have hfz35_2 := Zn BK791.out 2
           have p795 : 0 ≤ (x6_3 : Int) := Zo
           have q795 : x6_3 < (l0_2.length : Int) := Zo
           obtain ⟨ad795, e795, hx795_0⟩ := Kd.at_string HR0_2.out x6_3 p795 q795
           cases e795
           replace hx795_0 := Zc HB.out hx795_0
           replace p795 := eq_true p795
           replace q795 := eq_true q795
           have hcz36_0 : wr.cell? ⟨gb792, 0, none⟩ = some (.int .i64 a1_0) := (blk_cell BK792.out 0).trans rfl
           have hcz36_1 : wr.cell? ⟨gb792, 1, none⟩ = some (.slice A1_1 l1_1.length c1_1) := (blk_cell BK792.out 1).trans rfl
           have hcz36_2 : wr.cell? ⟨gb792, 2, none⟩ = some (.slice A1_2 l1_2.length c1_2) := (blk_cell BK792.out 2).trans rfl
           have hfz36_0 := Zn BK792.out 0
           have hfz36_1 := Zn BK792.out 1
           have hfz36_2 := Zn BK792.out 2
           have p796 : 0 ≤ (x6_3 : Int) := Zo
           have q796 : x6_3 < (l1_2.length : Int) := Zo
           obtain ⟨ad796, e796, hx796_0⟩ := Kd.at_string HR1_2.out x6_3 p796 q796
           cases e796
           replace hx796_0 := Zc HB.out hx796_0
           replace p796 := eq_true p796
           replace q796 := eq_true q796
           go_wp2
           repeat (go_quiet (fail); try go_wp2)
           go_roundg k3
           case measure => have := HJ2.out; have := HK2.out; have := HK3.out; omega
           case rel => exact ⟨(wrap64 (x6_3 + 1)), (by first | rfl | (simp; done) | (simp [*]; done)), H', ⟨by have := HJ2.out; have := HK2.out; have := HK3.out; omega⟩, ⟨Zk⟩, ⟨Zk⟩, ⟨Zs⟩⟩
          rw [if_neg c33] at H
          have c33b0 : ((rdOf ByteArray.empty l0_2 x6_3).toList == (rdOf ByteArray.empty l1_2 x6_3).toList) = false := beq_eq_false_iff_ne.mpr c33
          have c33b1 : ((rdOf ByteArray.empty l0_2 x6_3).toList != (rdOf ByteArray.empty l1_2 x6_3).toList) = true := bne_iff_ne.mpr c33
          obtain rfl := Option.some.inj H
          have hnb37 := NB791_792.out
          have hnc37 := NB792_791.out
          have hcz38_0 : wr.cell? ⟨gb791, 0, none⟩ = some (.int .i64 a0_0) := (blk_cell BK791.out 0).trans rfl
          have hcz38_1 : wr.cell? ⟨gb791, 1, none⟩ = some (.slice A0_1 l0_1.length c0_1) := (blk_cell BK791.out 1).trans rfl
          have hcz38_2 : wr.cell? ⟨gb791, 2, none⟩ = some (.slice A0_2 l0_2.length c0_2) := (blk_cell BK791.out 2).trans rfl
          have hfz38_0 := Zn BK791.out 0
          have hfz38_1 := Zn BK791.out 1
          have hfz38_2 := Zn BK791.out 2
          have p795 : 0 ≤ (x6_3 : Int) := Zo
          have q795 : x6_3 < (l0_2.length : Int) := Zo
          obtain ⟨ad795, e795, hx795_0⟩ := Kd.at_string HR0_2.out x6_3 p795 q795
          cases e795
          replace hx795_0 := Zc HB.out hx795_0
          replace p795 := eq_true p795
          replace q795 := eq_true q795
          have hcz39_0 : wr.cell? ⟨gb792, 0, none⟩ = some (.int .i64 a1_0) := (blk_cell BK792.out 0).trans rfl
          have hcz39_1 : wr.cell? ⟨gb792, 1, none⟩ = some (.slice A1_1 l1_1.length c1_1) := (blk_cell BK792.out 1).trans rfl
          have hcz39_2 : wr.cell? ⟨gb792, 2, none⟩ = some (.slice A1_2 l1_2.length c1_2) := (blk_cell BK792.out 2).trans rfl
          have hfz39_0 := Zn BK792.out 0
          have hfz39_1 := Zn BK792.out 1
          have hfz39_2 := Zn BK792.out 2
          have p796 : 0 ≤ (x6_3 : Int) := Zo
          have q796 : x6_3 < (l1_2.length : Int) := Zo
          obtain ⟨ad796, e796, hx796_0⟩ := Kd.at_string HR1_2.out x6_3 p796 q796
          cases e796
          replace hx796_0 := Zc HB.out hx796_0
          replace p796 := eq_true p796
          replace q796 := eq_true q796
          go_wp2
          repeat (go_quiet (fail); try go_wp2)
          go_ret
          exact ⟨ZE, Zs⟩
         rw [if_neg c32] at H
         exact absurd H (by simp)
        rw [if_neg c31] at H
        exact absurd H (by simp)
       rw [if_neg c30] at H
       have c30b0 : decide (x6_3 < (l0_2.length : Int)) = false := decide_eq_false c30
       clear c30
       obtain rfl := Option.some.inj H
       have hnb40 := NB791_792.out
       have hnc40 := NB792_791.out
       have hcz41_0 : wr.cell? ⟨gb791, 0, none⟩ = some (.int .i64 a0_0) := (blk_cell BK791.out 0).trans rfl
       have hcz41_1 : wr.cell? ⟨gb791, 1, none⟩ = some (.slice A0_1 l0_1.length c0_1) := (blk_cell BK791.out 1).trans rfl
       have hcz41_2 : wr.cell? ⟨gb791, 2, none⟩ = some (.slice A0_2 l0_2.length c0_2) := (blk_cell BK791.out 2).trans rfl
       have hfz41_0 := Zn BK791.out 0
       have hfz41_1 := Zn BK791.out 1
       have hfz41_2 := Zn BK791.out 2
       go_wp2
       repeat (go_quiet (fail); try go_wp2)
       go_ret
       exact ⟨ZE, Zs⟩
def laws_sameRecords.l0 : Nat → List (S42) → List (S42) → Int → Option (Bool)
 | 0, _, _, _ => none
 | k + 1, x0, x1, x5 => if x5 < (x0.length : Int) then (if 0 ≤ x5 then (if x5 < (x1.length : Int) then ((laws_sameRecord.f k ((rd_T42 x0 x5).f0) ((rd_T42 x0 x5).f1) ((rd_T42 x0 x5).f2) ((rd_T42 x1 x5).f0) ((rd_T42 x1 x5).f1) ((rd_T42 x1 x5).f2)).bind fun t799 => (if t799 = true then (laws_sameRecords.l0 k x0 x1 (wrap64 (x5 + 1))) else (some false))) else (none)) else (none)) else (some true)
def laws_sameRecords.f (k : Nat) (l0 : List (S42)) (l1 : List (S42)) : Option (Bool) := if (l0.length : Int) = (l1.length : Int) then (laws_sameRecords.l0 k l0 l1 0) else (some false)
def laws_sameRecords.T6 : Bool × List (List Nat × List Nat) := (true, [([], []), ([], []), ([0, 1], [0, 1]), ([2], [2]), ([], []), ([], []), ([4, 5], [4, 5]), ([6], [6]), ([3, 7], [3, 7]), ([8], [8])])
def laws_sameRecords.B6 : List Nat := [0, 0, 3, 7, 0, 0, 48, 112, 255, 511]
theorem laws_sameRecords.tab6 : rtab .any (opsOf Try.f45 6) = laws_sameRecords.T6 := by kernel_rfl
theorem laws_sameRecords.bits6 : waitsOk laws_sameRecords.T6.2 laws_sameRecords.B6 = true := by kernel_rfl
set_option maxHeartbeats 8000000 in
set_option maxRecDepth 100000 in
theorem laws_sameRecords.calls (k : Nat) (A0 : Option Addr) (c0 : Nat) (l0 : List (S42)) (A1 : Option Addr) (c1 : Nat) (l1 : List (S42)) (r : Bool) (w : World) (hr0 : Kd.C k42 w A0 l0.length l0) (hc0 : l0.length ≤ c0) (hr1 : Kd.C k42 w A1 l1.length l1) (hc1 : l1.length ≤ c1) (h : laws_sameRecords.f k l0 l1 = some r) :
  Calls Try.prog 45 #[.slice A0 l0.length c0, .slice A1 l1.length c1] w fun e w' => e = .returned (.bool r) ∧ Below w.heap.size w w' := by
 have hu42 := Try.underlying42
 have HR0 := Zh hr0
 have HC0 := Zh hc0
 clear hr0 hc0
 have HR1 := Zh hr1
 have HC1 := Zh hc1
 clear hr1 hc1
 have HB := Zh (Below.refl w.heap.size w)
 have H : (if (l0.length : Int) = (l1.length : Int) then (laws_sameRecords.l0 k l0 l1 0) else (some false)) = some r := h
 clear h
 by_cases c3 : (l0.length : Int) = (l1.length : Int)
 ·
  rw [if_pos c3] at H
  have c3b0 : ((l0.length : Int) == (l1.length : Int)) = true := beq_iff_eq.mpr c3
  have c3b1 : ((l0.length : Int) != (l1.length : Int)) = false := bne_eq_false_iff_eq.mpr c3
  have c3b2 : (l0.length == l1.length) = true := by first | simpa using c3 | (simp at c3 ⊢; omega)
  clear c3
  have H' := Zh H
  clear H
  go_enter Try.func45, Try.ntmps45
  go_wp2
  go_loopg [5] k (fun kq v5 w' => ∃ (x5_1 : Int), v5 = .int .i64 x5_1 ∧ Aside0 (laws_sameRecords.l0 kq l0 l1 x5_1 = some r) ∧ Aside0 (kq ≤ k) ∧ Aside0 (Below w.heap.size w w'))
  case atStart => exact ⟨(0), (by first | rfl | (simp; done) | (simp [*]; done)), H', ⟨Nat.le_refl _⟩, ⟨Zs⟩⟩
  case round =>
   clear H'
   try clear c1
   try clear p2
   try clear c3
   try clear c3b0
   try clear c3b1
   try clear c3b2
   obtain ⟨x5_1, rfl, HA, HK1, HB⟩ := hrel
   cases gk with
   | zero => exact absurd HA.out (by simp [laws_sameRecords.l0])
   | succ k1 =>
    have H := HA.out
    clear HA
    simp only [laws_sameRecords.l0] at H
    by_cases c4 : x5_1 < (l0.length : Int)
    ·
     rw [if_pos c4] at H
     have c4b0 : decide (x5_1 < (l0.length : Int)) = true := decide_eq_true c4
     clear c4
     by_cases c5 : 0 ≤ x5_1
     ·
      rw [if_pos c5] at H
      have c5b0 : decide (0 ≤ x5_1) = true := decide_eq_true c5
      clear c5
      by_cases c6 : x5_1 < (l1.length : Int)
      ·
       rw [if_pos c6] at H
       have c6b0 : decide (x5_1 < (l1.length : Int)) = true := decide_eq_true c6
       clear c6
       replace H := Option.bind_eq_some_iff.mp H
       obtain ⟨t799, A70, H⟩ := H
       replace H : (if t799 = true then (laws_sameRecords.l0 k1 l0 l1 (wrap64 (x5_1 + 1))) else (some false)) = some r := H
       have A7 := Zh A70
       clear A70
       by_cases c8 : t799 = true
       ·
        subst c8
        have H1 : (laws_sameRecords.l0 k1 l0 l1 (wrap64 (x5_1 + 1))) = some r := by rw [if_pos rfl] at H; exact H
        clear H
        have H := H1
        clear H1
        have H' := Zh H
        clear H
        try go_wp2
        replace HB := Zh (Ze HB.out)
        have p797 : 0 ≤ (x5_1 : Int) := Zo
        have q797 : x5_1 < (l0.length : Int) := Zo
        obtain ⟨ad797, A797_1, c797_1, A797_2, c797_2, e797, hx797_0, hx797_1, hx797_2, hl797_1, hi797_1, hl797_2, hi797_2⟩ := at_T42 HR0.out x5_1 p797 q797
        have hw797_2 := hx797_2
        have hw797_1 := hx797_1
        have hw797_0 := hx797_0
        cases e797
        replace hx797_0 := Zc HB.out hx797_0
        replace hx797_1 := Zc HB.out hx797_1
        replace hx797_2 := Zc HB.out hx797_2
        have HR797_1 := Zh hi797_1
        have HC797_1 := Zh hl797_1
        clear hi797_1 hl797_1
        have HR797_2 := Zh hi797_2
        have HC797_2 := Zh hl797_2
        clear hi797_2 hl797_2
        replace p797 := eq_true p797
        replace q797 := eq_true q797
        have p798 : 0 ≤ (x5_1 : Int) := Zo
        have q798 : x5_1 < (l1.length : Int) := Zo
        obtain ⟨ad798, A798_1, c798_1, A798_2, c798_2, e798, hx798_0, hx798_1, hx798_2, hl798_1, hi798_1, hl798_2, hi798_2⟩ := at_T42 HR1.out x5_1 p798 q798
        have hw798_2 := hx798_2
        have hw798_1 := hx798_1
        have hw798_0 := hx798_0
        cases e798
        replace hx798_0 := Zc HB.out hx798_0
        replace hx798_1 := Zc HB.out hx798_1
        replace hx798_2 := Zc HB.out hx798_2
        have HR798_1 := Zh hi798_1
        have HC798_1 := Zh hl798_1
        clear hi798_1 hl798_1
        have HR798_2 := Zh hi798_2
        have HC798_2 := Zh hl798_2
        clear hi798_2 hl798_2
        replace p798 := eq_true p798
        replace q798 := eq_true q798
        refine start_ (n := 10) (S := fun w' => w'.cell? (ad797.add ((x5_1).toNat * 3)) = some (.int .i64 ((rd_T42 l0 x5_1).f0)) ∧ w'.cell? ⟨(ad797.add ((x5_1).toNat * 3)).block, (ad797.add ((x5_1).toNat * 3)).off + 1, none⟩ = some (.slice A797_1 ((rd_T42 l0 x5_1).f1).length c797_1) ∧ w'.cell? ⟨(ad797.add ((x5_1).toNat * 3)).block, (ad797.add ((x5_1).toNat * 3)).off + 2, none⟩ = some (.slice A797_2 ((rd_T42 l0 x5_1).f2).length c797_2) ∧ w'.cell? (ad798.add ((x5_1).toNat * 3)) = some (.int .i64 ((rd_T42 l1 x5_1).f0)) ∧ w'.cell? ⟨(ad798.add ((x5_1).toNat * 3)).block, (ad798.add ((x5_1).toNat * 3)).off + 1, none⟩ = some (.slice A798_1 ((rd_T42 l1 x5_1).f1).length c798_1) ∧ w'.cell? ⟨(ad798.add ((x5_1).toNat * 3)).block, (ad798.add ((x5_1).toNat * 3)).off + 2, none⟩ = some (.slice A798_2 ((rd_T42 l1 x5_1).f2).length c798_2)) (ds := []) #[false, false, false, false, false, false, false, false, false, false] (by kernel_rfl) rfl rfl ⟨((HB.out.cell (Zi w _ hw797_0)).trans hw797_0), ((HB.out.cell (Zi w _ hw797_1)).trans hw797_1), ((HB.out.cell (Zi w _ hw797_2)).trans hw797_2), ((HB.out.cell (Zi w _ hw798_0)).trans hw798_0), ((HB.out.cell (Zi w _ hw798_1)).trans hw798_1), ((HB.out.cell (Zi w _ hw798_2)).trans hw798_2)⟩ (fun hHeld => ?_); refine with_tabW laws_sameRecords.tab6 laws_sameRecords.bits6 (fun HT_ HW_ => ?_)
        generalize wr.drew = w9 at HB HR797_1 HR797_2 HR798_1 HR798_2 hx797_0 hx797_1 hx797_2 hx798_0 hx798_1 hx798_2 hHeld ⊢
        refine pure_ (i := 0) (N := some 17) (v := ?_) (a' := ?_) #[true, false, false, false, false, false, false, false, false, false] rfl rfl (any_of HT_.out (by kernel_rfl)) (fun _ _ _ h => h) (Or.inl ⟨by rfl, ?_⟩) ?_ ?_
        rotate_left
        ·
         intro w'
         go_simp
         with_reducible rfl
        rotate_left
        ·
         simp only [Act.put, List.setIfInBounds_toArray, List.set_cons_zero, List.set_cons_succ, i64_w, i32_w]
         rfl
        refine pure_ (i := 1) (N := some 18) (v := ?_) (a' := ?_) #[true, true, false, false, false, false, false, false, false, false] rfl rfl (any_of HT_.out (by kernel_rfl)) (fun _ _ _ h => h) (Or.inl ⟨by rfl, ?_⟩) ?_ ?_
        rotate_left
        ·
         intro w'
         go_simp
         with_reducible rfl
        rotate_left
        ·
         simp only [Act.put, List.setIfInBounds_toArray, List.set_cons_zero, List.set_cons_succ, i64_w, i32_w]
         rfl
        refine pure_ (i := 2) (N := some 19) (v := ?_) (a' := ?_) #[true, true, true, false, false, false, false, false, false, false] rfl rfl (any_of HT_.out (by kernel_rfl)) (fun _ _ _ h => h) (Or.inl ⟨by rfl, ?_⟩) ?_ ?_
        rotate_left
        ·
         intro w'
         go_simp
         with_reducible rfl
        rotate_left
        ·
         simp only [Act.put, List.setIfInBounds_toArray, List.set_cons_zero, List.set_cons_succ, i64_w, i32_w]
         rfl
        refine pure_ (i := 4) (N := some 21) (v := ?_) (a' := ?_) #[true, true, true, false, true, false, false, false, false, false] rfl rfl (any_of HT_.out (by kernel_rfl)) (fun _ _ _ h => h) (Or.inl ⟨by rfl, ?_⟩) ?_ ?_
        rotate_left
        ·
         intro w'
         go_simp
         with_reducible rfl
        rotate_left
        ·
         simp only [Act.put, List.setIfInBounds_toArray, List.set_cons_zero, List.set_cons_succ, i64_w, i32_w]
         rfl
        refine pure_ (i := 5) (N := some 22) (v := ?_) (a' := ?_) #[true, true, true, false, true, true, false, false, false, false] rfl rfl (any_of HT_.out (by kernel_rfl)) (fun _ _ _ h => h) (Or.inl ⟨by rfl, ?_⟩) ?_ ?_
        rotate_left
        ·
         intro w'
         go_simp
         with_reducible rfl
        rotate_left
        ·
         simp only [Act.put, List.setIfInBounds_toArray, List.set_cons_zero, List.set_cons_succ, i64_w, i32_w]
         rfl
        refine pure_ (i := 6) (N := some 23) (v := ?_) (a' := ?_) #[true, true, true, false, true, true, true, false, false, false] rfl rfl (any_of HT_.out (by kernel_rfl)) (fun _ _ _ h => h) (Or.inl ⟨by rfl, ?_⟩) ?_ ?_
        rotate_left
        ·
         intro w'
         go_simp
         with_reducible rfl
        rotate_left
        ·
         simp only [Act.put, List.setIfInBounds_toArray, List.set_cons_zero, List.set_cons_succ, i64_w, i32_w]
         rfl
        refine take_ (i := 3) (N := some 20) (v := ?_) (a' := ?_) #[true, true, true, true, true, true, true, false, false, false] rfl rfl (take_ofW HT_.out HW_.out (by kernel_rfl)) (fun _ _ _ h => h) (Or.inl ⟨by rfl, ?_⟩) hHeld ?_ ?_
        rotate_left
        ·
         rintro w' ⟨s0, s1, s2, s3, s4, s5⟩
         go_simp
         with_reducible rfl
        rotate_left
        ·
         simp only [Act.put, List.setIfInBounds_toArray, List.set_cons_zero, List.set_cons_succ, i64_w, i32_w]
         rfl
        refine take_ (i := 7) (N := some 24) (v := ?_) (a' := ?_) #[true, true, true, true, true, true, true, true, false, false] rfl rfl (take_ofW HT_.out HW_.out (by kernel_rfl)) (fun _ _ _ h => h) (Or.inl ⟨by rfl, ?_⟩) hHeld ?_ ?_
        rotate_left
        ·
         rintro w' ⟨s0, s1, s2, s3, s4, s5⟩
         go_simp
         with_reducible rfl
        rotate_left
        ·
         simp only [Act.put, List.setIfInBounds_toArray, List.set_cons_zero, List.set_cons_succ, i64_w, i32_w]
         rfl
        refine one_ (i := 8) (N := some 25) #[true, true, true, true, true, true, true, true, true, false] rfl rfl (one_of HT_.out (by kernel_rfl)) (by decide) (fun K hK => ?_)
        refine goes_ Try.func46 (by kernel_rfl) rfl #[.agg #[.int .i64 ((rd_T42 l0 x5_1).f0), .slice A797_1 ((rd_T42 l0 x5_1).f1).length c797_1, .slice A797_2 ((rd_T42 l0 x5_1).f2).length c797_2], .agg #[.int .i64 ((rd_T42 l1 x5_1).f0), .slice A798_1 ((rd_T42 l1 x5_1).f1).length c798_1, .slice A798_2 ((rd_T42 l1 x5_1).f2).length c798_2]] (by rfl) rfl rfl (by (try simp only [List.map_toArray, List.map_cons, List.map_nil]); first | done | rfl | (simp only [List.length_drop, List.length_take]; rfl)) ?_
        with_reducible refine (laws_sameRecord.calls k1 ((rd_T42 l0 x5_1).f0) _ _ ((rd_T42 l0 x5_1).f1) _ _ ((rd_T42 l0 x5_1).f2) ((rd_T42 l1 x5_1).f0) _ _ ((rd_T42 l1 x5_1).f1) _ _ ((rd_T42 l1 x5_1).f2) true _ ?side1 ?side2 ?side3 ?side4 ?side5 ?side6 ?side7 ?side8 A7.out).mono ?_
        (case side1 => repeat (first | exact (C_below HR797_1.out HB.out) | (with_reducible refine C_alloc ?_ _) | (with_reducible refine C_drewN ?_ _) | (with_reducible refine C_drew ?_)))
        (case side2 => exact HC797_1.out)
        (case side3 => repeat (first | exact (C_below HR797_2.out HB.out) | (with_reducible refine C_alloc ?_ _) | (with_reducible refine C_drewN ?_ _) | (with_reducible refine C_drew ?_)))
        (case side4 => exact HC797_2.out)
        (case side5 => repeat (first | exact (C_below HR798_1.out HB.out) | (with_reducible refine C_alloc ?_ _) | (with_reducible refine C_drewN ?_ _) | (with_reducible refine C_drew ?_)))
        (case side6 => exact HC798_1.out)
        (case side7 => repeat (first | exact (C_below HR798_2.out HB.out) | (with_reducible refine C_alloc ?_ _) | (with_reducible refine C_drewN ?_ _) | (with_reducible refine C_drew ?_)))
        (case side8 => exact HC798_2.out)
        rintro e w10 ⟨rfl, hb⟩
        refine ⟨_, rfl, ?_⟩
        replace HB := Zh (Zl Zs hb)
        (try clear hb)
        (try clear hb2)
        (try clear hk)
        (try clear hi)
        refine hK.out _ _ ⟨((HB.out.cell (Zi w _ hw797_0)).trans hw797_0), ((HB.out.cell (Zi w _ hw797_1)).trans hw797_1), ((HB.out.cell (Zi w _ hw797_2)).trans hw797_2), ((HB.out.cell (Zi w _ hw798_0)).trans hw798_0), ((HB.out.cell (Zi w _ hw798_1)).trans hw798_1), ((HB.out.cell (Zi w _ hw798_2)).trans hw798_2)⟩ (fun hHeld => ?_)
        clear hK K
        refine norm_ (a' := ?_) ?_ ?_
        rotate_left
        ·
         show Act.put _ (some 25) _ = _
         simp only [Act.put, List.setIfInBounds_toArray, List.set_cons_zero, List.set_cons_succ, i64_w, i32_w]
         rfl
        refine pure_ (i := 9) (N := some 26) (v := ?_) (a' := ?_) #[true, true, true, true, true, true, true, true, true, true] rfl rfl (any_of HT_.out (by kernel_rfl)) (fun _ _ _ h => h) (Or.inl ⟨by rfl, ?_⟩) ?_ ?_
        rotate_left
        ·
         intro w'
         go_simp
         with_reducible rfl
        rotate_left
        ·
         simp only [Act.put, List.setIfInBounds_toArray, List.set_cons_zero, List.set_cons_succ, i64_w, i32_w]
         rfl
        refine done_ (done_of HT_.out (by kernel_rfl)) ?_
        try go_wp2
        go_roundg k1
        case measure => have := HK1.out; omega
        case rel => exact ⟨(wrap64 (x5_1 + 1)), (by first | rfl | (simp; done) | (simp [*]; done)), H', ⟨by have := HK1.out; omega⟩, ⟨Zs⟩⟩
       replace c8 := Bool.eq_false_iff.mpr c8
       subst c8
       have H1 : (some false) = some r := by rw [if_neg (show ¬ (false = true) by decide)] at H; exact H
       clear H
       have H := H1
       clear H1
       obtain rfl := Option.some.inj H
       try go_wp2
       replace HB := Zh (Ze HB.out)
       have p797 : 0 ≤ (x5_1 : Int) := Zo
       have q797 : x5_1 < (l0.length : Int) := Zo
       obtain ⟨ad797, A797_1, c797_1, A797_2, c797_2, e797, hx797_0, hx797_1, hx797_2, hl797_1, hi797_1, hl797_2, hi797_2⟩ := at_T42 HR0.out x5_1 p797 q797
       have hw797_2 := hx797_2
       have hw797_1 := hx797_1
       have hw797_0 := hx797_0
       cases e797
       replace hx797_0 := Zc HB.out hx797_0
       replace hx797_1 := Zc HB.out hx797_1
       replace hx797_2 := Zc HB.out hx797_2
       have HR797_1 := Zh hi797_1
       have HC797_1 := Zh hl797_1
       clear hi797_1 hl797_1
       have HR797_2 := Zh hi797_2
       have HC797_2 := Zh hl797_2
       clear hi797_2 hl797_2
       replace p797 := eq_true p797
       replace q797 := eq_true q797
       have p798 : 0 ≤ (x5_1 : Int) := Zo
       have q798 : x5_1 < (l1.length : Int) := Zo
       obtain ⟨ad798, A798_1, c798_1, A798_2, c798_2, e798, hx798_0, hx798_1, hx798_2, hl798_1, hi798_1, hl798_2, hi798_2⟩ := at_T42 HR1.out x5_1 p798 q798
       have hw798_2 := hx798_2
       have hw798_1 := hx798_1
       have hw798_0 := hx798_0
       cases e798
       replace hx798_0 := Zc HB.out hx798_0
       replace hx798_1 := Zc HB.out hx798_1
       replace hx798_2 := Zc HB.out hx798_2
       have HR798_1 := Zh hi798_1
       have HC798_1 := Zh hl798_1
       clear hi798_1 hl798_1
       have HR798_2 := Zh hi798_2
       have HC798_2 := Zh hl798_2
       clear hi798_2 hl798_2
       replace p798 := eq_true p798
       replace q798 := eq_true q798
       refine start_ (n := 10) (S := fun w' => w'.cell? (ad797.add ((x5_1).toNat * 3)) = some (.int .i64 ((rd_T42 l0 x5_1).f0)) ∧ w'.cell? ⟨(ad797.add ((x5_1).toNat * 3)).block, (ad797.add ((x5_1).toNat * 3)).off + 1, none⟩ = some (.slice A797_1 ((rd_T42 l0 x5_1).f1).length c797_1) ∧ w'.cell? ⟨(ad797.add ((x5_1).toNat * 3)).block, (ad797.add ((x5_1).toNat * 3)).off + 2, none⟩ = some (.slice A797_2 ((rd_T42 l0 x5_1).f2).length c797_2) ∧ w'.cell? (ad798.add ((x5_1).toNat * 3)) = some (.int .i64 ((rd_T42 l1 x5_1).f0)) ∧ w'.cell? ⟨(ad798.add ((x5_1).toNat * 3)).block, (ad798.add ((x5_1).toNat * 3)).off + 1, none⟩ = some (.slice A798_1 ((rd_T42 l1 x5_1).f1).length c798_1) ∧ w'.cell? ⟨(ad798.add ((x5_1).toNat * 3)).block, (ad798.add ((x5_1).toNat * 3)).off + 2, none⟩ = some (.slice A798_2 ((rd_T42 l1 x5_1).f2).length c798_2)) (ds := []) #[false, false, false, false, false, false, false, false, false, false] (by kernel_rfl) rfl rfl ⟨((HB.out.cell (Zi w _ hw797_0)).trans hw797_0), ((HB.out.cell (Zi w _ hw797_1)).trans hw797_1), ((HB.out.cell (Zi w _ hw797_2)).trans hw797_2), ((HB.out.cell (Zi w _ hw798_0)).trans hw798_0), ((HB.out.cell (Zi w _ hw798_1)).trans hw798_1), ((HB.out.cell (Zi w _ hw798_2)).trans hw798_2)⟩ (fun hHeld => ?_); refine with_tabW laws_sameRecords.tab6 laws_sameRecords.bits6 (fun HT_ HW_ => ?_)
       generalize wr.drew = w11 at HB HR797_1 HR797_2 HR798_1 HR798_2 hx797_0 hx797_1 hx797_2 hx798_0 hx798_1 hx798_2 hHeld ⊢
       refine pure_ (i := 0) (N := some 17) (v := ?_) (a' := ?_) #[true, false, false, false, false, false, false, false, false, false] rfl rfl (any_of HT_.out (by kernel_rfl)) (fun _ _ _ h => h) (Or.inl ⟨by rfl, ?_⟩) ?_ ?_
       rotate_left
       ·
        intro w'
        go_simp
        with_reducible rfl
       rotate_left
       ·
        simp only [Act.put, List.setIfInBounds_toArray, List.set_cons_zero, List.set_cons_succ, i64_w, i32_w]
        rfl
       refine pure_ (i := 1) (N := some 18) (v := ?_) (a' := ?_) #[true, true, false, false, false, false, false, false, false, false] rfl rfl (any_of HT_.out (by kernel_rfl)) (fun _ _ _ h => h) (Or.inl ⟨by rfl, ?_⟩) ?_ ?_
       rotate_left
       ·
        intro w'
        go_simp
        with_reducible rfl
       rotate_left
       ·
        simp only [Act.put, List.setIfInBounds_toArray, List.set_cons_zero, List.set_cons_succ, i64_w, i32_w]
        rfl
       refine pure_ (i := 2) (N := some 19) (v := ?_) (a' := ?_) #[true, true, true, false, false, false, false, false, false, false] rfl rfl (any_of HT_.out (by kernel_rfl)) (fun _ _ _ h => h) (Or.inl ⟨by rfl, ?_⟩) ?_ ?_
       rotate_left
       ·
        intro w'
        go_simp
        with_reducible rfl
       rotate_left
       ·
        simp only [Act.put, List.setIfInBounds_toArray, List.set_cons_zero, List.set_cons_succ, i64_w, i32_w]
        rfl
       refine pure_ (i := 4) (N := some 21) (v := ?_) (a' := ?_) #[true, true, true, false, true, false, false, false, false, false] rfl rfl (any_of HT_.out (by kernel_rfl)) (fun _ _ _ h => h) (Or.inl ⟨by rfl, ?_⟩) ?_ ?_
       rotate_left
       ·
        intro w'
        go_simp
        with_reducible rfl
       rotate_left
       ·
        simp only [Act.put, List.setIfInBounds_toArray, List.set_cons_zero, List.set_cons_succ, i64_w, i32_w]
        rfl
       refine pure_ (i := 5) (N := some 22) (v := ?_) (a' := ?_) #[true, true, true, false, true, true, false, false, false, false] rfl rfl (any_of HT_.out (by kernel_rfl)) (fun _ _ _ h => h) (Or.inl ⟨by rfl, ?_⟩) ?_ ?_
       rotate_left
       ·
        intro w'
        go_simp
        with_reducible rfl
       rotate_left
       ·
        simp only [Act.put, List.setIfInBounds_toArray, List.set_cons_zero, List.set_cons_succ, i64_w, i32_w]
        rfl
       refine pure_ (i := 6) (N := some 23) (v := ?_) (a' := ?_) #[true, true, true, false, true, true, true, false, false, false] rfl rfl (any_of HT_.out (by kernel_rfl)) (fun _ _ _ h => h) (Or.inl ⟨by rfl, ?_⟩) ?_ ?_
       rotate_left
       ·
        intro w'
        go_simp
        with_reducible rfl
       rotate_left
       ·
        simp only [Act.put, List.setIfInBounds_toArray, List.set_cons_zero, List.set_cons_succ, i64_w, i32_w]
        rfl
       refine take_ (i := 3) (N := some 20) (v := ?_) (a' := ?_) #[true, true, true, true, true, true, true, false, false, false] rfl rfl (take_ofW HT_.out HW_.out (by kernel_rfl)) (fun _ _ _ h => h) (Or.inl ⟨by rfl, ?_⟩) hHeld ?_ ?_
       rotate_left
       ·
        rintro w' ⟨s0, s1, s2, s3, s4, s5⟩
        go_simp
        with_reducible rfl
       rotate_left
       ·
        simp only [Act.put, List.setIfInBounds_toArray, List.set_cons_zero, List.set_cons_succ, i64_w, i32_w]
        rfl
       refine take_ (i := 7) (N := some 24) (v := ?_) (a' := ?_) #[true, true, true, true, true, true, true, true, false, false] rfl rfl (take_ofW HT_.out HW_.out (by kernel_rfl)) (fun _ _ _ h => h) (Or.inl ⟨by rfl, ?_⟩) hHeld ?_ ?_
       rotate_left
       ·
        rintro w' ⟨s0, s1, s2, s3, s4, s5⟩
        go_simp
        with_reducible rfl
       rotate_left
       ·
        simp only [Act.put, List.setIfInBounds_toArray, List.set_cons_zero, List.set_cons_succ, i64_w, i32_w]
        rfl
       refine one_ (i := 8) (N := some 25) #[true, true, true, true, true, true, true, true, true, false] rfl rfl (one_of HT_.out (by kernel_rfl)) (by decide) (fun K hK => ?_)
       refine goes_ Try.func46 (by kernel_rfl) rfl #[.agg #[.int .i64 ((rd_T42 l0 x5_1).f0), .slice A797_1 ((rd_T42 l0 x5_1).f1).length c797_1, .slice A797_2 ((rd_T42 l0 x5_1).f2).length c797_2], .agg #[.int .i64 ((rd_T42 l1 x5_1).f0), .slice A798_1 ((rd_T42 l1 x5_1).f1).length c798_1, .slice A798_2 ((rd_T42 l1 x5_1).f2).length c798_2]] (by rfl) rfl rfl (by (try simp only [List.map_toArray, List.map_cons, List.map_nil]); first | done | rfl | (simp only [List.length_drop, List.length_take]; rfl)) ?_
       with_reducible refine (laws_sameRecord.calls k1 ((rd_T42 l0 x5_1).f0) _ _ ((rd_T42 l0 x5_1).f1) _ _ ((rd_T42 l0 x5_1).f2) ((rd_T42 l1 x5_1).f0) _ _ ((rd_T42 l1 x5_1).f1) _ _ ((rd_T42 l1 x5_1).f2) false _ ?side1 ?side2 ?side3 ?side4 ?side5 ?side6 ?side7 ?side8 A7.out).mono ?_
       (case side1 => repeat (first | exact (C_below HR797_1.out HB.out) | (with_reducible refine C_alloc ?_ _) | (with_reducible refine C_drewN ?_ _) | (with_reducible refine C_drew ?_)))
       (case side2 => exact HC797_1.out)
       (case side3 => repeat (first | exact (C_below HR797_2.out HB.out) | (with_reducible refine C_alloc ?_ _) | (with_reducible refine C_drewN ?_ _) | (with_reducible refine C_drew ?_)))
       (case side4 => exact HC797_2.out)
       (case side5 => repeat (first | exact (C_below HR798_1.out HB.out) | (with_reducible refine C_alloc ?_ _) | (with_reducible refine C_drewN ?_ _) | (with_reducible refine C_drew ?_)))
       (case side6 => exact HC798_1.out)
       (case side7 => repeat (first | exact (C_below HR798_2.out HB.out) | (with_reducible refine C_alloc ?_ _) | (with_reducible refine C_drewN ?_ _) | (with_reducible refine C_drew ?_)))
       (case side8 => exact HC798_2.out)
       rintro e w12 ⟨rfl, hb⟩
       refine ⟨_, rfl, ?_⟩
       replace HB := Zh (Zl Zs hb)
       (try clear hb)
       (try clear hb2)
       (try clear hk)
       (try clear hi)
       refine hK.out _ _ ⟨((HB.out.cell (Zi w _ hw797_0)).trans hw797_0), ((HB.out.cell (Zi w _ hw797_1)).trans hw797_1), ((HB.out.cell (Zi w _ hw797_2)).trans hw797_2), ((HB.out.cell (Zi w _ hw798_0)).trans hw798_0), ((HB.out.cell (Zi w _ hw798_1)).trans hw798_1), ((HB.out.cell (Zi w _ hw798_2)).trans hw798_2)⟩ (fun hHeld => ?_)
       clear hK K
       refine norm_ (a' := ?_) ?_ ?_
       rotate_left
       ·
        show Act.put _ (some 25) _ = _
        simp only [Act.put, List.setIfInBounds_toArray, List.set_cons_zero, List.set_cons_succ, i64_w, i32_w]
        rfl
       refine pure_ (i := 9) (N := some 26) (v := ?_) (a' := ?_) #[true, true, true, true, true, true, true, true, true, true] rfl rfl (any_of HT_.out (by kernel_rfl)) (fun _ _ _ h => h) (Or.inl ⟨by rfl, ?_⟩) ?_ ?_
       rotate_left
       ·
        intro w'
        go_simp
        with_reducible rfl
       rotate_left
       ·
        simp only [Act.put, List.setIfInBounds_toArray, List.set_cons_zero, List.set_cons_succ, i64_w, i32_w]
        rfl
       refine done_ (done_of HT_.out (by kernel_rfl)) ?_
       try go_wp2
       go_ret
       exact ⟨ZE, Zs⟩
      rw [if_neg c6] at H
      exact absurd H (by simp)
     rw [if_neg c5] at H
     exact absurd H (by simp)
    rw [if_neg c4] at H
    have c4b0 : decide (x5_1 < (l0.length : Int)) = false := decide_eq_false c4
    clear c4
    obtain rfl := Option.some.inj H
    go_wp2
    go_ret
    exact ⟨ZE, Zs⟩
 rw [if_neg c3] at H
 have c3b0 : ((l0.length : Int) == (l1.length : Int)) = false := beq_eq_false_iff_ne.mpr c3
 have c3b1 : ((l0.length : Int) != (l1.length : Int)) = true := bne_iff_ne.mpr c3
 have c3b2 : (l0.length == l1.length) = false := by first | simpa using c3 | (simp at c3 ⊢; omega)
 obtain rfl := Option.some.inj H
 go_enter Try.func45, Try.ntmps45
 go_wp2
 go_ret
 exact ⟨ZE, Zs⟩
end Go.Proofs.Ytgdebfaoohjikaa.F

namespace Go.Proofs.Ytgdebfaoohjikaa.F
open Go.RowKit Go.Proofs.YtgdebfaoohjikaaW.PrintWords Go.Proofs.YtgdebfaoohjikaaW.PrintLast Go.Proofs.YtgdebfaoohjikaaW.PrintMore
open Go.Proofs.Ytgdebfaoohjikaa
set_option linter.unusedVariables false
set_option linter.unusedSimpArgs false
def laws_FnRecords.one3 (k : Nat) (f0 : Int) (f1 : List Int) (f2 : List ByteArray) (b : List Int) : Option Bool := (impl_Decode.f k b).bind fun o => if o.2.2.2 = true then ((laws_sameRecord.f k o.1 o.2.1 o.2.2.1 f0 f1 f2).bind fun s => if s = false then ((impl_Encode.f k o.1 o.2.1 o.2.2.1).bind fun e2 => if e2 = b then some true else none) else none) else some true
def laws_FnRecords.one2 (k : Nat) (l0 : List Int) (f0 : Int) (f1 : List Int) (f2 : List ByteArray) (b : List Int) : Option Bool := (laws_at.f l0 4).bind fun t4 => if 0 < b.length then (if 0 ≤ Int.tmod t4 (b.length : Int) then (if Int.tmod t4 (b.length : Int) < (b.length : Int) then ((laws_at.f l0 5).bind fun t5 => laws_FnRecords.one3 k f0 f1 f2 (b.set (Int.tmod t4 (b.length : Int)).toNat (Go.bits .xor .u8 (rd b (Int.tmod t4 (b.length : Int))) (IntKind.u8.wrap (wrap64 (1 + Int.tmod t5 255)))))) else none) else none) else none
def laws_FnRecords.one1 (k : Nat) (l0 : List Int) (f0 : Int) (f1 : List Int) (f2 : List ByteArray) : Option Bool := (impl_Encode.f k f0 f1 f2).bind fun e => (impl_Decode.f k e).bind fun r => (laws_at.f l0 3).bind fun t3 => (laws_join.f k e [t3 % 256]).bind fun j => (impl_Decode.f k j).bind fun m => (impl_RecordOk.f f0 f1 f2).bind fun ok => if ok = true then (if r.2.2.2 = true then ((laws_sameRecord.f k r.1 r.2.1 r.2.2.1 f0 f1 f2).bind fun s => if s = true then (if m.2.2.2 = false then (if 3 ≤ e.length ∧ e.length ≤ 1000000 then ((impl_Decode.f k (e.take (e.length - 1))).bind fun q => if q.2.2.2 = false then ((laws_copyBytes.f k e).bind fun b => laws_FnRecords.one2 k l0 f0 f1 f2 b) else none) else none) else none) else none) else none) else none
def laws_FnRecords.l0 : Nat → List Int → List S42 → Int → Option Bool
  | 0, _, _, _ => none
  | k + 1, l0, L, i => if i < (L.length : Int) then (if 0 ≤ i then ((laws_FnRecords.one1 k l0 (rd_T42 L i).f0 (rd_T42 L i).f1 (rd_T42 L i).f2).bind fun _ => laws_FnRecords.l0 k l0 L (wrap64 (i + 1))) else none) else some true
def laws_FnRecords.f (k : Nat) (l0 : List Int) : Option Bool := (laws_big.f l0).bind fun b => if b = true then some true else ((spec_DrawRightRecords.f k l0).bind fun L => (impl_EncodeAll.f k L).bind fun all => (impl_DecodeAll.f k all).bind fun g => if g.2 = true then ((laws_sameRecords.f k g.1 L).bind fun s => if s = true then laws_FnRecords.l0 k l0 L 0 else none) else none)
structure FR (w0 w : World) (A0 : Option Addr) (l0 : List Int) (Al : Option Addr) (L : List S42) : Prop where
  b : Below w0.heap.size w0 w
  r0 : Kd.C (Kd.int .u8) w A0 l0.length l0
  rl : Kd.C k42 w Al L.length L
theorem FR.step {w0 w w1 : World} {A0 : Option Addr} {l0 : List Int} {Al : Option Addr} {L : List S42} (h : FR w0 w A0 l0 Al L) (hb : Below w.heap.size w w1) : FR w0 w1 A0 l0 Al L := ⟨Zl h.b hb, Kd.C_below h.r0 hb, Kd.C_below h.rl hb⟩
theorem wrapSub (n m : Nat) (h : m + 1 = n) (hn : n ≤ 1000000) : IntKind.i64.wrap ((n : Int) - 1) = (m : Int) := by
  refine (i64_w _).trans ?_
  unfold wrap64
  omega
set_option maxHeartbeats 8000000 in
set_option maxRecDepth 100000 in
theorem laws_FnRecords.calls (k : Nat) (A0 : Option Addr) (c0 : Nat) (l0 : List Int) (r : Bool) (w : World) (hr0 : Kd.C (Kd.int .u8) w A0 l0.length l0) (hc0 : l0.length ≤ c0) (h : laws_FnRecords.f k l0 = some r) :
    Calls Try.prog 12 #[.slice A0 l0.length c0] w fun e w' => e = .returned (.bool r) ∧ Below w.heap.size w w' := by
  have HR0 := Zh hr0
  have HC0 := Zh hc0
  clear hr0 hc0
  have hu42 := Try.underlying42
  unfold laws_FnRecords.f at h
  obtain ⟨tb, HA1, h⟩ := Option.bind_eq_some_iff.mp h
  replace HA1 := Zh HA1
  have H := Zh h
  clear h
  go_enter Try.func12, Try.ntmps12
  go_wp2_with fail
  with_reducible refine (laws_big.calls _ _ l0 tb _ HR0.out HC0.out HA1.out).mono ?_
  rintro e w1 ⟨rfl, hb⟩
  replace hb := Drawn0.below hb
  have HB := Zh hb
  clear hb
  have h := H.out
  clear H
  by_cases ct : tb = true
  · subst ct
    rw [if_pos rfl] at h
    obtain rfl := Option.some.inj h
    clear h
    go_wp2
    go_ret
    exact ⟨rfl, HB.out⟩
  rw [if_neg ct] at h
  obtain rfl : tb = false := by simpa using ct
  obtain ⟨L, HA2, h⟩ := Option.bind_eq_some_iff.mp h
  obtain ⟨all, HA3, h⟩ := Option.bind_eq_some_iff.mp h
  obtain ⟨⟨got, okg⟩, HA4, h⟩ := Option.bind_eq_some_iff.mp h
  dsimp only at h
  by_cases cg : okg = true
  rotate_left
  · rw [if_neg cg] at h; exact absurd h (by simp)
  subst cg
  rw [if_pos rfl] at h
  obtain ⟨ts, HA5, h⟩ := Option.bind_eq_some_iff.mp h
  by_cases cs : ts = true
  rotate_left
  · rw [if_neg cs] at h; exact absurd h (by simp)
  subst cs
  rw [if_pos rfl] at h
  replace HA2 := Zh HA2
  replace HA3 := Zh HA3
  replace HA4 := Zh HA4
  replace HA5 := Zh HA5
  have HL := Zh h
  clear h ct
  go_wp2_with fail
  with_reducible refine (spec_DrawRightRecords.calls k _ _ l0 L _ (Kd.C_below HR0.out HB.out) HC0.out HA2.out).mono ?_
  rintro e w2 ⟨v0, rfl, q0, hb⟩
  obtain ⟨Al, cl, rfl⟩ := Kd.S_slice q0
  have FRH : Aside0 (FR w w2 A0 l0 Al L) := ⟨⟨Zl HB.out hb, Kd.C_below HR0.out (Zl HB.out hb), (Kd.S_reads' q0).2.2⟩⟩
  have HCL := Zh (Kd.S_reads' q0).2.1
  clear hb q0 HB HR0 HA1 HA2
  go_wp2_with fail
  with_reducible refine (impl_EncodeAll.calls k _ _ L all _ FRH.out.rl HCL.out HA3.out).mono ?_
  rintro e w3 ⟨v0, rfl, q0, hb⟩
  obtain ⟨Aa, ca, rfl⟩ := Kd.R_slice q0
  replace FRH := Zh (FRH.out.step hb)
  have HQ := Zh (Kd.R_reads' q0)
  clear hb q0 HA3
  go_wp2_with fail
  with_reducible refine (impl_DecodeAll.calls k _ _ all got true _ HQ.out.2.2 HQ.out.2.1 HA4.out).mono ?_
  rintro e w4 ⟨v0, rfl, q0, hb⟩
  obtain ⟨Ag, cg, rfl⟩ := Kd.S_slice q0
  replace FRH := Zh (FRH.out.step hb)
  replace HQ := Zh (Kd.S_reads' q0)
  clear hb q0 HA4
  go_wp2_with fail
  with_reducible refine (laws_sameRecords.calls k _ _ got _ _ L true _ HQ.out.2.2 HQ.out.2.1 FRH.out.rl HCL.out HA5.out).mono ?_
  rintro e w5 ⟨rfl, hb⟩
  replace FRH := Zh (FRH.out.step hb)
  clear hb HA5 HQ
  go_wp2_with fail
  go_loopg [7] k (fun gg v7 w' => ∃ i : Int, v7 = .int .i64 i ∧ Aside0 (laws_FnRecords.l0 gg l0 L i = some r) ∧ Aside0 (FR w w' A0 l0 Al L))
  case atStart => exact ⟨0, rfl, HL, FRH⟩
  case round =>
    clear FRH HL
    obtain ⟨i, rfl, HL, FRH⟩ := hrel
    cases gk with
    | zero => exact absurd HL.out (by simp [laws_FnRecords.l0])
    | succ k1 =>
      have h := HL.out
      clear HL
      simp only [laws_FnRecords.l0] at h
      by_cases c3 : i < (L.length : Int)
      rotate_left
      · rw [if_neg c3] at h
        obtain rfl := Option.some.inj h
        have q3 := decide_eq_false c3
        clear h c3
        go_wp2
        go_ret
        exact ⟨rfl, FRH.out.b⟩
      rw [if_pos c3] at h
      by_cases c4 : 0 ≤ i
      rotate_left
      · rw [if_neg c4] at h; exact absurd h (by simp)
      rw [if_pos c4] at h
      obtain ⟨zo, HS, HL⟩ := Option.bind_eq_some_iff.mp h
      clear h
      replace HL := Zh HL
      unfold laws_FnRecords.one1 at HS
      obtain ⟨e, HA1, HS⟩ := Option.bind_eq_some_iff.mp HS
      obtain ⟨⟨ra, rn, rw', rf⟩, HA2, HS⟩ := Option.bind_eq_some_iff.mp HS
      obtain ⟨t3, HA3, HS⟩ := Option.bind_eq_some_iff.mp HS
      obtain ⟨j, HA4, HS⟩ := Option.bind_eq_some_iff.mp HS
      obtain ⟨⟨ma, mn, mw, mf⟩, HA5, HS⟩ := Option.bind_eq_some_iff.mp HS
      obtain ⟨okr, HA6, HS⟩ := Option.bind_eq_some_iff.mp HS
      dsimp only at HS
      by_cases cok : okr = true
      rotate_left
      · rw [if_neg cok] at HS; exact absurd HS (by simp)
      subst cok
      rw [if_pos rfl] at HS
      by_cases crf : rf = true
      rotate_left
      · rw [if_neg crf] at HS; exact absurd HS (by simp)
      subst crf
      rw [if_pos rfl] at HS
      obtain ⟨sr, HA7, HS⟩ := Option.bind_eq_some_iff.mp HS
      by_cases csr : sr = true
      rotate_left
      · rw [if_neg csr] at HS; exact absurd HS (by simp)
      subst csr
      rw [if_pos rfl] at HS
      by_cases cmf : mf = false
      rotate_left
      · rw [if_neg cmf] at HS; exact absurd HS (by simp)
      subst cmf
      rw [if_pos rfl] at HS
      by_cases cel : 3 ≤ e.length ∧ e.length ≤ 1000000
      rotate_left
      · rw [if_neg cel] at HS; exact absurd HS (by simp)
      rw [if_pos cel] at HS
      obtain ⟨⟨qa, qn, qw, qf⟩, HA8, HS⟩ := Option.bind_eq_some_iff.mp HS
      dsimp only at HS
      by_cases cqf : qf = false
      rotate_left
      · rw [if_neg cqf] at HS; exact absurd HS (by simp)
      subst cqf
      rw [if_pos rfl] at HS
      obtain ⟨b, HA9, HS⟩ := Option.bind_eq_some_iff.mp HS
      unfold laws_FnRecords.one2 at HS
      obtain ⟨t4, HA10, HS⟩ := Option.bind_eq_some_iff.mp HS
      by_cases cb0 : 0 < b.length
      rotate_left
      · rw [if_neg cb0] at HS; exact absurd HS (by simp)
      rw [if_pos cb0] at HS
      generalize hkk : Int.tmod t4 (b.length : Int) = kk at HS
      by_cases ck0 : 0 ≤ kk
      rotate_left
      · rw [if_neg ck0] at HS; exact absurd HS (by simp)
      rw [if_pos ck0] at HS
      by_cases ck1 : kk < (b.length : Int)
      rotate_left
      · rw [if_neg ck1] at HS; exact absurd HS (by simp)
      rw [if_pos ck1] at HS
      obtain ⟨t5, HA11, HS⟩ := Option.bind_eq_some_iff.mp HS
      unfold laws_FnRecords.one3 at HS
      generalize hb' : b.set kk.toNat (Go.bits .xor .u8 (rd b kk) (IntKind.u8.wrap (wrap64 (1 + Int.tmod t5 255)))) = b' at HS
      have hbl : b'.length = b.length := by rw [← hb', List.length_set]
      obtain ⟨⟨on0, on, ow, oy⟩, HA12, HS⟩ := Option.bind_eq_some_iff.mp HS
      dsimp only at HS
      replace HA1 := Zh HA1
      replace HA2 := Zh HA2
      replace HA3 := Zh HA3
      replace HA4 := Zh HA4
      replace HA5 := Zh HA5
      replace HA6 := Zh HA6
      replace HA7 := Zh HA7
      replace HA8 := Zh HA8
      replace HA9 := Zh HA9
      replace HA10 := Zh HA10
      replace HA11 := Zh HA11
      replace HA12 := Zh HA12
      have HHS := Zh HS
      have HKK := Zh hkk
      have HB' := Zh hb'
      have HBL := Zh hbl
      have HB0 := Zh cb0
      have HK0 := Zh ck0
      have HK1 := Zh ck1
      have HEL := Zh cel
      obtain ⟨y, hy⟩ : ∃ y, y = e.take (e.length - 1) := ⟨_, rfl⟩
      have HY := Zh hy
      have HYL := Zh (show y.length + 1 = e.length by rw [hy, List.length_take]; omega)
      have HI0 := Zh c4
      have HIL := Zh c3
      clear HS hkk hb' hbl cb0 ck0 ck1 cel hy
      have q3 := decide_eq_true c3
      obtain ⟨ad, B1, m1, B2, m2, e_, x0, x1, x2, g1l, g1, g2l, g2⟩ := at_T42 FRH.out.rl i c4 c3
      cases e_
      have X0 := Zh x0
      have X1 := Zh x1
      have X2 := Zh x2
      have G1 := Zh g1
      have G1L := Zh g1l
      have G2 := Zh g2
      have G2L := Zh g2l
      have pI0 := eq_true c4
      have pIL := eq_true c3
      have ST := Zh (LW.St.start wr)
      clear c3 c4 g1 g1l g2 g2l
      go_wp2_with fail
      with_reducible refine (impl_Encode.calls k1 (rd_T42 L i).f0 _ _ (rd_T42 L i).f1 _ _ (rd_T42 L i).f2 e _ G1.out G1L.out G2.out G2L.out HA1.out).mono ?_
      rintro e_ w1 ⟨v, rfl, ho, hb⟩
      obtain ⟨Ae, ce, rfl⟩ := Kd.R_slice ho
      replace ST := Zh (ST.out.rowR rfl hb ho)
      clear hb ho x0 x1 x2 q3 HA1
      go_wp2_with fail
      with_reducible refine (impl_Decode.calls k1 _ _ e ra rn rw' true _ (ST.out.reads 0 rfl).2.2 (ST.out.reads 0 rfl).2.1 HA2.out).mono ?_
      rintro e_ w2 ⟨va, vb, rfl, p1, p2, hb⟩
      obtain ⟨Arn, crn, rfl⟩ := Kd.R_slice p1
      obtain ⟨Arw_, crw_, rfl⟩ := Kd.R_slice p2
      replace ST := Zh (ST.out.rows2 rfl rfl (by decide) hb p1 p2)
      clear hb p1 p2 HA2
      go_wp2_with ((with_reducible refine gate_dst (N := 9) rfl ?_); refine box_event ?hg (N := 9) ?hd (cs := #[.int .i64 0, .slice none 0 0, .slice none 0 0]) (t := 42) ?hr ?_; (case hd => rfl); (case hg => rfl); (case hr => first | (go_simp; done) | (go_simp; rfl)); intro g9 hg w3 hbox hb; replace ST := Zh (ST.out.box hg hbox hb); have hd0 := ST.out.cell 0 rfl 0 (u := .int .i64 0) rfl; have hd1 := ST.out.cell 0 rfl 1 (u := .slice none 0 0) rfl; have hd2 := ST.out.cell 0 rfl 2 (u := .slice none 0 0) rfl; have hg0 := ST.out.frozen 0 rfl 0; have hg1 := ST.out.frozen 0 rfl 1; have hg2 := ST.out.frozen 0 rfl 2; have hgl := ST.out.lt 0 rfl; clear hg hbox hb)
      replace ST := Zh (((ST.out.set 0 rfl 0 (.int .i64 ra)).set 0 rfl 1 (.slice Arn rn.length crn)).set 0 rfl 2 (.slice Arw_ rw'.length crw_))
      clear hd0 hd1 hd2 hg0 hg1 hg2 hgl
      generalize (((w3.setCell ⟨g9, 0, none⟩ (.int .i64 ra)).setCell ⟨g9, 1, none⟩ (.slice Arn rn.length crn)).setCell ⟨g9, 2, none⟩ (.slice Arw_ rw'.length crw_)) = w3z at ST ⊢
      with_reducible refine (laws_at.calls _ _ l0 3 t3 _ (FRH.out.step ST.out.b).r0 HC0.out HA3.out).mono ?_
      rintro e_ w4 ⟨rfl, hb⟩
      replace ST := Zh (ST.out.step (Drawn0.below hb))
      clear hb HA3
      go_wp2_with ((with_reducible refine gate_dst (N := 59) rfl ?_); refine Kd.R_lit (Kd.int .u8) _ 5 ?hg (N := 59) ?hd (xs := ([t3 % 256] : List Int)) (inner := [.int .u8 (t3 % 256)]) (ok := fun _ => True) (okp := fun _ => True) ?hr ?hp (fun _ hk => hk) trivial (Below.refl _ _) (Nat.le_refl _) (by simp) ?_; (case hd => rfl); (case hg => rfl); (case hr => first | (go_simp; done) | (go_simp; rfl)); (case hp => exact (Reps.one (show Kd.M (Kd.int .u8) _ _ _ (t3 % 256) [.int .u8 (t3 % 256)] from rfl) (Reps.none _ _))); intro v59 w5 hoA hbA hgA hnA; obtain ⟨Al9, cl9, rfl⟩ := Kd.R_slice hoA; replace ST := Zh (ST.out.rowR rfl hbA hoA); clear hoA hbA hgA hnA)
      refine (laws_join.calls k1 _ _ e _ _ [t3 % 256] j _ (ST.out.reads 4 rfl).2.2 (ST.out.reads 4 rfl).2.1 (ST.out.reads 0 rfl).2.2 (ST.out.reads 0 rfl).2.1 HA4.out).mono ?_
      rintro e_ w6 ⟨v, rfl, ho, hb⟩
      obtain ⟨Aj, cj, rfl⟩ := Kd.R_slice ho
      replace ST := Zh (ST.out.rowR rfl hb ho)
      clear hb ho HA4
      go_wp2_with fail
      with_reducible refine (impl_Decode.calls k1 _ _ j ma mn mw false _ (ST.out.reads 0 rfl).2.2 (ST.out.reads 0 rfl).2.1 HA5.out).mono ?_
      rintro e_ w7 ⟨va, vb, rfl, p1, p2, hb⟩
      obtain ⟨Amn, cmn, rfl⟩ := Kd.R_slice p1
      obtain ⟨Amw, cmw, rfl⟩ := Kd.R_slice p2
      replace ST := Zh (ST.out.rows2 rfl rfl (by decide) hb p1 p2)
      clear hb p1 p2 HA5
      go_wp2_with ((with_reducible refine gate_dst (N := 11) rfl ?_); refine box_event ?hg (N := 11) ?hd (cs := #[.int .i64 0, .slice none 0 0, .slice none 0 0]) (t := 42) ?hr ?_; (case hd => rfl); (case hg => rfl); (case hr => first | (go_simp; done) | (go_simp; rfl)); intro g11 hg w8 hbox hb; replace ST := Zh (ST.out.box hg hbox hb); have hd0 := ST.out.cell 0 rfl 0 (u := .int .i64 0) rfl; have hd1 := ST.out.cell 0 rfl 1 (u := .slice none 0 0) rfl; have hd2 := ST.out.cell 0 rfl 2 (u := .slice none 0 0) rfl; have hg0 := ST.out.frozen 0 rfl 0; have hg1 := ST.out.frozen 0 rfl 1; have hg2 := ST.out.frozen 0 rfl 2; have hgl := ST.out.lt 0 rfl; clear hg hbox hb)
      replace ST := Zh (((ST.out.set 0 rfl 0 (.int .i64 ma)).set 0 rfl 1 (.slice Amn mn.length cmn)).set 0 rfl 2 (.slice Amw mw.length cmw))
      clear hd0 hd1 hd2 hg0 hg1 hg2 hgl
      generalize (((w8.setCell ⟨g11, 0, none⟩ (.int .i64 ma)).setCell ⟨g11, 1, none⟩ (.slice Amn mn.length cmn)).setCell ⟨g11, 2, none⟩ (.slice Amw mw.length cmw)) = w8z at ST ⊢
      replace ST := Zh (ST.out.sel [5, 6, 7, 8] (by decide))
      replace ST := Zh ST.out.drew
      refine start_ (n := 27) (S := fun w' => w'.cell? (ad.add (i.toNat * 3)) = some (.int .i64 (rd_T42 L i).f0) ∧ w'.cell? ⟨(ad.add (i.toNat * 3)).block, (ad.add (i.toNat * 3)).off + 1, none⟩ = some (.slice B1 (rd_T42 L i).f1.length m1) ∧ w'.cell? ⟨(ad.add (i.toNat * 3)).block, (ad.add (i.toNat * 3)).off + 2, none⟩ = some (.slice B2 (rd_T42 L i).f2.length m2) ∧ w'.cell? ⟨g9, 0, none⟩ = some (.int .i64 ra) ∧ w'.cell? ⟨g9, 1, none⟩ = some (.slice Arn rn.length crn) ∧ w'.cell? ⟨g9, 2, none⟩ = some (.slice Arw_ rw'.length crw_)) (ds := []) #[false, false, false, false, false, false, false, false, false, false, false, false, false, false, false, false, false, false, false, false, false, false, false, false, false, false, false] (by kernel_rfl) rfl rfl ⟨(ST.out.b.cell (Zi wr _ X0.out)).trans X0.out, (ST.out.b.cell (Zi wr _ X1.out)).trans X1.out, (ST.out.b.cell (Zi wr _ X2.out)).trans X2.out, ST.out.cell 0 rfl 0 rfl, ST.out.cell 0 rfl 1 rfl, ST.out.cell 0 rfl 2 rfl⟩ (fun hHeld => ?_)
      generalize w8z.drew = w9 at ST hHeld ⊢
      refine SQ.p0 0 64 ?_
      refine SQ.p0 1 65 ?_
      refine SQ.p0 2 66 ?_
      refine SQ.t0 3 67 hHeld ?_
      refine one_ (i := 4) (N := some 68) #[true, true, true, true, true, false, false, false, false, false, false, false, false, false, false, false, false, false, false, false, false, false, false, false, false, false, false] rfl rfl (by kernel_rfl) (by decide) (fun K hK => ?_)
      refine goes_ Try.func27 (by kernel_rfl) rfl #[.agg #[.int .i64 (rd_T42 L i).f0, .slice B1 (rd_T42 L i).f1.length m1, .slice B2 (rd_T42 L i).f2.length m2]] (by rfl) rfl rfl (by (try simp only [List.map_toArray, List.map_cons, List.map_nil]); first | done | rfl) ?_
      with_reducible refine (impl_RecordOk.calls (rd_T42 L i).f0 _ _ (rd_T42 L i).f1 _ _ (rd_T42 L i).f2 true _ (Kd.C_below G1.out ST.out.b) G1L.out (Kd.C_below G2.out ST.out.b) G2L.out HA6.out).mono ?_
      rintro e_ w10 ⟨rfl, hb⟩
      refine ⟨_, rfl, ?_⟩
      replace ST := Zh (ST.out.step hb)
      clear hb HA6 hHeld
      refine hK.out _ _ ⟨(ST.out.b.cell (Zi wr _ X0.out)).trans X0.out, (ST.out.b.cell (Zi wr _ X1.out)).trans X1.out, (ST.out.b.cell (Zi wr _ X2.out)).trans X2.out, ST.out.cell 0 rfl 0 rfl, ST.out.cell 0 rfl 1 rfl, ST.out.cell 0 rfl 2 rfl⟩ (fun hHeld => ?_)
      clear hK K
      refine norm_ (a' := ?_) ?_ ?_
      rotate_left
      · show Act.put _ (some 68) _ = _
        simp only [Act.put, List.setIfInBounds_toArray, List.set_cons_zero, List.set_cons_succ, i64_w, i32_w]
        rfl
      refine SQ.p0 5 69 ?_
      refine SQ.p0 6 70 ?_
      refine SQ.p0 7 71 ?_
      refine SQ.p0 8 72 ?_
      refine SQ.p0 9 73 ?_
      refine SQ.p0 10 74 ?_
      refine SQ.t0 11 75 hHeld ?_
      refine SQ.p0 12 76 ?_
      refine SQ.p0 13 77 ?_
      refine SQ.p0 14 78 ?_
      refine SQ.t0 15 79 hHeld ?_
      refine one_ (i := 16) (N := some 80) #[true, true, true, true, true, true, true, true, true, true, true, true, true, true, true, true, true, false, false, false, false, false, false, false, false, false, false] rfl rfl (by kernel_rfl) (by decide) (fun K hK => ?_)
      refine goes_ Try.func46 (by kernel_rfl) rfl #[.agg #[.int .i64 ra, .slice Arn rn.length crn, .slice Arw_ rw'.length crw_], .agg #[.int .i64 (rd_T42 L i).f0, .slice B1 (rd_T42 L i).f1.length m1, .slice B2 (rd_T42 L i).f2.length m2]] (by rfl) rfl rfl (by (try simp only [List.map_toArray, List.map_cons, List.map_nil]); first | done | rfl) ?_
      with_reducible refine (laws_sameRecord.calls k1 ra _ _ rn _ _ rw' (rd_T42 L i).f0 _ _ (rd_T42 L i).f1 _ _ (rd_T42 L i).f2 true _ (ST.out.reads 1 rfl).2.2 (ST.out.reads 1 rfl).2.1 (ST.out.reads 2 rfl).2.2 (ST.out.reads 2 rfl).2.1 (Kd.C_below G1.out ST.out.b) G1L.out (Kd.C_below G2.out ST.out.b) G2L.out HA7.out).mono ?_
      rintro e_ w11 ⟨rfl, hb⟩
      refine ⟨_, rfl, ?_⟩
      replace ST := Zh (ST.out.step hb)
      clear hb HA7 hHeld
      refine hK.out _ _ ⟨(ST.out.b.cell (Zi wr _ X0.out)).trans X0.out, (ST.out.b.cell (Zi wr _ X1.out)).trans X1.out, (ST.out.b.cell (Zi wr _ X2.out)).trans X2.out, ST.out.cell 0 rfl 0 rfl, ST.out.cell 0 rfl 1 rfl, ST.out.cell 0 rfl 2 rfl⟩ (fun hHeld => ?_)
      clear hK K
      refine norm_ (a' := ?_) ?_ ?_
      rotate_left
      · show Act.put _ (some 80) _ = _
        simp only [Act.put, List.setIfInBounds_toArray, List.set_cons_zero, List.set_cons_succ, i64_w, i32_w]
        rfl
      have n3a : decide ((e.length : Int) < 3) = false := decide_eq_false (by have := HEL.out; omega)
      refine SQ.p0 17 81 ?_
      refine SQ.p0 18 82 ?_
      refine SQ.p0 19 83 ?_
      refine SQ.p0 20 84 ?_
      refine SQ.p0 21 85 ?_
      refine SQ.p0 22 86 ?_
      refine SQ.p0 23 87 ?_
      refine SQ.p0 24 88 ?_
      refine SQ.p0 25 89 ?_
      refine SQ.p0 26 90 ?_
      refine done_ (by kernel_rfl) ?_
      clear hHeld n3a
      replace ST := Zh (ST.out.sel [3] (by decide))
      obtain ⟨i0z, hi0z, _, hszz, _⟩ := info_parts info5
      have hcut := cut_to (P := Try.prog) 24 5 .i64 Try.underlying24 hi0z Ae e.length ce (y.length : Int) (Int.natCast_nonneg _) (by have := HYL.out; omega) (ST.out.reads 0 rfl).2.1
      rw [Int.toNat_natCast] at hcut
      have hwr := wrapSub e.length y.length HYL.out HEL.out.2
      clear hi0z hszz
      have p3 : ((y.length : Int) ≤ (e.length : Int)) = True := eq_true (by have := HYL.out; omega)
      have p4 : ((0 : Int) ≤ (y.length : Int)) = True := eq_true (Int.natCast_nonneg _)
      go_wp2_with fail
      clear hcut hwr p3 p4
      have hct := Kd.C_take (m := e.length - 1) (ST.out.reads 0 rfl).2.2 (Nat.sub_le _ _)
      rw [← HY.out] at hct
      have HA8' := HA8.out
      rw [← HY.out] at HA8'
      with_reducible refine (impl_Decode.calls k1 _ _ y qa qn qw false _ hct (by have := HYL.out; have := (ST.out.reads 0 rfl).2.1; omega) HA8').mono ?_
      rintro e_ w12 ⟨va, vb, rfl, p1, p2, hb⟩
      obtain ⟨Aqn, cqn, rfl⟩ := Kd.R_slice p1
      obtain ⟨Aqw, cqw, rfl⟩ := Kd.R_slice p2
      replace ST := Zh (ST.out.rows2 rfl rfl (by decide) hb p1 p2)
      clear hb p1 p2 HA8 HA8' hct
      go_wp2_with ((with_reducible refine gate_dst (N := 13) rfl ?_); refine box_event ?hg (N := 13) ?hd (cs := #[.int .i64 0, .slice none 0 0, .slice none 0 0]) (t := 42) ?hr ?_; (case hd => rfl); (case hg => rfl); (case hr => first | (go_simp; done) | (go_simp; rfl)); intro g13 hg w13 hbox hb; replace ST := Zh (ST.out.box hg hbox hb); have hd0 := ST.out.cell 0 rfl 0 (u := .int .i64 0) rfl; have hd1 := ST.out.cell 0 rfl 1 (u := .slice none 0 0) rfl; have hd2 := ST.out.cell 0 rfl 2 (u := .slice none 0 0) rfl; have hg0 := ST.out.frozen 0 rfl 0; have hg1 := ST.out.frozen 0 rfl 1; have hg2 := ST.out.frozen 0 rfl 2; have hgl := ST.out.lt 0 rfl; clear hg hbox hb)
      replace ST := Zh (((ST.out.set 0 rfl 0 (.int .i64 qa)).set 0 rfl 1 (.slice Aqn qn.length cqn)).set 0 rfl 2 (.slice Aqw qw.length cqw))
      clear hd0 hd1 hd2 hg0 hg1 hg2 hgl
      generalize (((w13.setCell ⟨g13, 0, none⟩ (.int .i64 qa)).setCell ⟨g13, 1, none⟩ (.slice Aqn qn.length cqn)).setCell ⟨g13, 2, none⟩ (.slice Aqw qw.length cqw)) = w13z at ST ⊢
      replace ST := Zh (ST.out.sel [3] (by decide))
      with_reducible refine (laws_copyBytes.calls k1 _ _ e b _ (ST.out.reads 0 rfl).2.2 (ST.out.reads 0 rfl).2.1 HA9.out).mono ?_
      rintro e_ w14 ⟨v, rfl, ho, hb⟩
      obtain ⟨g, cb, rfl, _, _, _⟩ := Kd.R_form ho HB0.out
      replace ST := Zh (ST.out.rowR rfl hb ho)
      clear hb ho HA9
      go_wp2_with fail
      with_reducible refine (laws_at.calls _ _ l0 4 t4 _ (FRH.out.step ST.out.b).r0 HC0.out HA10.out).mono ?_
      rintro e_ w15 ⟨rfl, hb⟩
      replace ST := Zh (ST.out.step (Drawn0.below hb))
      clear hb HA10
      have nz : ((b.length : Int) == 0) = false := beq_eq_false_iff_ne.mpr (by have := HB0.out; omega)
      have nz2 : ¬ ((b.length : Int) = 0) := by have := HB0.out; omega
      have hkk := HKK.out
      go_wp2_with fail
      clear nz nz2 hkk
      replace ST := Zh ST.out.drew
      have pK0 := eq_true HK0.out
      have pK1 := eq_true HK1.out
      refine start_ (n := 14) (S := fun w' => w'.cell? ⟨g, kk.toNat, none⟩ = some (.int .u8 (rd b kk))) (ds := [13]) #[false, false, false, false, false, false, false, false, false, false, false, false, false, false] (by kernel_rfl) rfl rfl ((Kd.R_celln 0 (Kd.S_R (ST.out.own 0 rfl)) kk HK0.out HK1.out).1) (fun hHeld => ?_)
      generalize w15.drew = w16 at ST hHeld ⊢
      refine SQ.p0 0 108 ?_
      refine SQ.p0 1 109 ?_
      refine SQ.p0 2 110 ?_
      refine SQ.p0 3 111 ?_
      refine SQ.p0 4 112 ?_
      refine SQ.t0 5 113 hHeld ?_
      refine SQ.p0 6 114 ?_
      refine one_ (i := 7) (N := some 115) #[true, true, true, true, true, true, true, true, false, false, false, false, false, false] rfl rfl (by kernel_rfl) (by decide) (fun K hK => ?_)
      refine goes_ Try.func22 (by kernel_rfl) rfl #[.slice A0 l0.length c0, .int .i64 5] (by rfl) rfl rfl (by (try simp only [List.map_toArray, List.map_cons, List.map_nil]); first | done | rfl) ?_
      with_reducible refine (laws_at.calls _ _ l0 5 t5 _ (FRH.out.step ST.out.b).r0 HC0.out HA11.out).mono ?_
      rintro e_ w17 ⟨rfl, hb⟩
      replace ST := Zh (ST.out.step (Drawn0.below hb))
      clear hb HA11
      refine ⟨_, rfl, ?_⟩
      clear hHeld
      refine hK.out _ _ ((Kd.R_celln 0 (Kd.S_R (ST.out.own 0 rfl)) kk HK0.out HK1.out).1) (fun hHeld => ?_)
      clear hK K
      refine norm_ (a' := ?_) ?_ ?_
      rotate_left
      · show Act.put _ (some 115) _ = _
        simp only [Act.put, List.setIfInBounds_toArray, List.set_cons_zero, List.set_cons_succ, i64_w, i32_w]
        rfl
      refine SQ.p0 8 116 ?_
      refine SQ.p0 9 117 ?_
      refine SQ.p0 10 118 ?_
      refine SQ.p0 11 119 ?_
      refine SQ.p0 12 120 ?_
      obtain ⟨hy0, hf0⟩ := Kd.R_celln 0 (Kd.S_R (ST.out.own 0 rfl)) kk HK0.out HK1.out
      refine last_ (i := 13) (N := none) #[true, true, true, true, true, true, true, true, true, true, true, true, true, true] rfl rfl (by kernel_rfl) (by decide) (fun K hK => ?_)
      refine skip_ (w1 := ?_) (by rfl) rfl ?_ ?_
      rotate_left
      · go_simp
        rfl
      refine hK.out _ _ ?_
      clear hK K
      refine done_ (by kernel_rfl) ?_
      clear hy0 hf0 hHeld
      have hR2 := Kd.R_putn (Kd.S_R (ST.out.own 0 rfl)) kk (Go.bits .xor .u8 (rd b kk) (IntKind.u8.wrap (wrap64 (1 + Int.tmod t5 255))))
      rw [HB'.out] at hR2
      replace ST := Zh (ST.out.write 0 rfl (LW.S_flat rfl hR2) (Zg ST.out.b (Kd.R_base (Kd.S_R (ST.out.own 0 rfl)) g (by simp [Value.ownBlock]))) (Kept.setCell (Kept.refl _ _) (.inl ((Kd.S_R (ST.out.own 0 rfl)).1 g (by simp [Value.ownBlock]))) _))
      clear hR2 pK0 pK1
      generalize (w17.setCell ⟨g, kk.toNat, none⟩ (.int .u8 (Go.bits .xor .u8 (rd b kk) (IntKind.u8.wrap (wrap64 (1 + Int.tmod t5 255)))))) = w18 at ST ⊢
      simp only [← HBL.out] at ST ⊢
      go_wp2_with fail
      with_reducible refine (impl_Decode.calls k1 _ _ b' on0 on ow oy _ (ST.out.reads 0 rfl).2.2 (ST.out.reads 0 rfl).2.1 HA12.out).mono ?_
      rintro e_ w19 ⟨va, vb, rfl, p1, p2, hb⟩
      obtain ⟨Aon, con, rfl⟩ := Kd.R_slice p1
      obtain ⟨Aow, cow, rfl⟩ := Kd.R_slice p2
      replace ST := Zh (ST.out.rows2 rfl rfl (by decide) hb p1 p2)
      clear hb p1 p2 HA12
      go_wp2_with ((with_reducible refine gate_dst (N := 17) rfl ?_); refine box_event ?hg (N := 17) ?hd (cs := #[.int .i64 0, .slice none 0 0, .slice none 0 0]) (t := 42) ?hr ?_; (case hd => rfl); (case hg => rfl); (case hr => first | (go_simp; done) | (go_simp; rfl)); intro g17 hg w20 hbox hb; replace ST := Zh (ST.out.box hg hbox hb); have hd0 := ST.out.cell 0 rfl 0 (u := .int .i64 0) rfl; have hd1 := ST.out.cell 0 rfl 1 (u := .slice none 0 0) rfl; have hd2 := ST.out.cell 0 rfl 2 (u := .slice none 0 0) rfl; have hg0 := ST.out.frozen 0 rfl 0; have hg1 := ST.out.frozen 0 rfl 1; have hg2 := ST.out.frozen 0 rfl 2; have hgl := ST.out.lt 0 rfl; clear hg hbox hb)
      replace ST := Zh (((ST.out.set 0 rfl 0 (.int .i64 on0)).set 0 rfl 1 (.slice Aon on.length con)).set 0 rfl 2 (.slice Aow ow.length cow))
      clear hd0 hd1 hd2 hg0 hg1 hg2 hgl
      generalize (((w20.setCell ⟨g17, 0, none⟩ (.int .i64 on0)).setCell ⟨g17, 1, none⟩ (.slice Aon on.length con)).setCell ⟨g17, 2, none⟩ (.slice Aow ow.length cow)) = w20z at ST ⊢
      have h := HHS.out
      clear HHS
      by_cases coy : oy = true
      rotate_left
      · obtain rfl : oy = false := by simpa using coy
        clear h coy
        replace ST := Zh ST.out.drew
        refine start_ (n := 17) (S := fun w' => True) (ds := []) #[false, false, false, false, false, false, false, false, false, false, false, false, false, false, false, false, false] (by kernel_rfl) rfl rfl trivial (fun hHeld => ?_)
        generalize w20z.drew = w21 at ST hHeld ⊢
        refine SQ.p0 0 126 ?_
        refine SQ.p0 1 127 ?_
        refine SQ.o0 2 128 ?_
        refine SQ.o0 3 129 ?_
        refine SQ.o0 4 130 ?_
        refine SQ.o0 5 131 ?_
        refine SQ.o0 6 132 ?_
        refine SQ.o0 7 133 ?_
        refine SQ.o0 8 134 ?_
        refine SQ.o0 9 135 ?_
        refine SQ.o0 10 136 ?_
        refine SQ.o0 11 137 ?_
        refine SQ.o0 12 138 ?_
        refine SQ.o0 13 139 ?_
        refine SQ.o0 14 140 ?_
        refine SQ.o0 15 141 ?_
        refine SQ.p0 16 142 ?_
        refine done_ (by kernel_rfl) ?_
        go_wp2_with fail
        go_roundg k1
        case measure => omega
        case rel => exact ⟨_, rfl, HL, ⟨FRH.out.step ST.out.b⟩⟩
      subst coy
      rw [if_pos rfl] at h
      obtain ⟨s2, HA13, h⟩ := Option.bind_eq_some_iff.mp h
      by_cases cs2 : s2 = false
      rotate_left
      · rw [if_neg cs2] at h; exact absurd h (by simp)
      subst cs2
      rw [if_pos rfl] at h
      obtain ⟨e2, HA14, h⟩ := Option.bind_eq_some_iff.mp h
      by_cases ce2 : b' = e2
      rotate_left
      · rw [if_neg (Ne.symm ce2)] at h; exact absurd h (by simp)
      subst ce2
      clear h
      replace HA13 := Zh HA13
      replace HA14 := Zh HA14
      replace ST := Zh ST.out.drew
      refine start_ (n := 17) (S := fun w' => w'.cell? ⟨g17, 0, none⟩ = some (.int .i64 on0) ∧ w'.cell? ⟨g17, 1, none⟩ = some (.slice Aon on.length con) ∧ w'.cell? ⟨g17, 2, none⟩ = some (.slice Aow ow.length cow) ∧ w'.cell? (ad.add (i.toNat * 3)) = some (.int .i64 (rd_T42 L i).f0) ∧ w'.cell? ⟨(ad.add (i.toNat * 3)).block, (ad.add (i.toNat * 3)).off + 1, none⟩ = some (.slice B1 (rd_T42 L i).f1.length m1) ∧ w'.cell? ⟨(ad.add (i.toNat * 3)).block, (ad.add (i.toNat * 3)).off + 2, none⟩ = some (.slice B2 (rd_T42 L i).f2.length m2) ∧ (convert 24 9 (.slice (some ⟨g, 0, none⟩) b'.length cb)).run Try.prog w' = .ok (.string (strOfNums b')) w') (ds := []) #[false, false, false, false, false, false, false, false, false, false, false, false, false, false, false, false, false] (by kernel_rfl) rfl rfl ⟨ST.out.cell 0 rfl 0 rfl, ST.out.cell 0 rfl 1 rfl, ST.out.cell 0 rfl 2 rfl, (ST.out.b.cell (Zi wr _ X0.out)).trans X0.out, (ST.out.b.cell (Zi wr _ X1.out)).trans X1.out, (ST.out.b.cell (Zi wr _ X2.out)).trans X2.out, Kd.C_string (P := Try.prog) (A := some ⟨g, 0, none⟩) (c := cb) Try.underlying24 Try.underlying5 Try.underlying9 (ST.out.reads 3 rfl).2.2⟩ (fun hHeld => ?_)
      generalize w20z.drew = w21 at ST hHeld ⊢
      refine SQ.p0 0 126 ?_
      refine SQ.p0 1 127 ?_
      refine SQ.t0 2 128 hHeld ?_
      refine SQ.p0 3 129 ?_
      refine SQ.p0 4 130 ?_
      refine SQ.p0 5 131 ?_
      refine SQ.t0 6 132 hHeld ?_
      refine one_ (i := 7) (N := some 133) #[true, true, true, true, true, true, true, true, false, false, false, false, false, false, false, false, false] rfl rfl (by kernel_rfl) (by decide) (fun K hK => ?_)
      refine goes_ Try.func46 (by kernel_rfl) rfl #[.agg #[.int .i64 on0, .slice Aon on.length con, .slice Aow ow.length cow], .agg #[.int .i64 (rd_T42 L i).f0, .slice B1 (rd_T42 L i).f1.length m1, .slice B2 (rd_T42 L i).f2.length m2]] (by rfl) rfl rfl (by (try simp only [List.map_toArray, List.map_cons, List.map_nil]); first | done | rfl) ?_
      with_reducible refine (laws_sameRecord.calls k1 on0 _ _ on _ _ ow (rd_T42 L i).f0 _ _ (rd_T42 L i).f1 _ _ (rd_T42 L i).f2 false _ (ST.out.reads 1 rfl).2.2 (ST.out.reads 1 rfl).2.1 (ST.out.reads 2 rfl).2.2 (ST.out.reads 2 rfl).2.1 (Kd.C_below G1.out ST.out.b) G1L.out (Kd.C_below G2.out ST.out.b) G2L.out HA13.out).mono ?_
      rintro e_ w22 ⟨rfl, hb⟩
      refine ⟨_, rfl, ?_⟩
      replace ST := Zh (ST.out.step hb)
      clear hb HA13 hHeld
      refine hK.out _ _ ⟨ST.out.cell 0 rfl 0 rfl, ST.out.cell 0 rfl 1 rfl, ST.out.cell 0 rfl 2 rfl, (ST.out.b.cell (Zi wr _ X0.out)).trans X0.out, (ST.out.b.cell (Zi wr _ X1.out)).trans X1.out, (ST.out.b.cell (Zi wr _ X2.out)).trans X2.out, Kd.C_string (P := Try.prog) (A := some ⟨g, 0, none⟩) (c := cb) Try.underlying24 Try.underlying5 Try.underlying9 (ST.out.reads 3 rfl).2.2⟩ (fun hHeld => ?_)
      clear hK K
      refine norm_ (a' := ?_) ?_ ?_
      rotate_left
      · show Act.put _ (some 133) _ = _
        simp only [Act.put, List.setIfInBounds_toArray, List.set_cons_zero, List.set_cons_succ, i64_w, i32_w]
        rfl
      refine SQ.p0 8 134 ?_
      refine SQ.t0 9 135 hHeld ?_
      refine SQ.p0 12 138 ?_
      refine SQ.t0 13 139 hHeld ?_
      refine one_ (i := 10) (N := some 136) #[true, true, true, true, true, true, true, true, true, true, true, false, true, true, false, false, false] rfl rfl (by kernel_rfl) (by decide) (fun K hK => ?_)
      refine goes_ Try.func30 (by kernel_rfl) rfl #[.agg #[.int .i64 on0, .slice Aon on.length con, .slice Aow ow.length cow]] (by rfl) rfl rfl (by (try simp only [List.map_toArray, List.map_cons, List.map_nil]); first | done | rfl) ?_
      with_reducible refine (impl_Encode.calls k1 on0 _ _ on _ _ ow b' _ (ST.out.reads 1 rfl).2.2 (ST.out.reads 1 rfl).2.1 (ST.out.reads 2 rfl).2.2 (ST.out.reads 2 rfl).2.1 HA14.out).mono ?_
      rintro e_ w23 ⟨v, rfl, ho, hb⟩
      refine ⟨_, rfl, ?_⟩
      obtain ⟨A23, c23, rfl⟩ := Kd.R_slice ho
      replace ST := Zh (ST.out.rowR rfl hb ho)
      clear hb ho HA14 hHeld
      refine hK.out _ _ ⟨ST.out.cell 1 rfl 0 rfl, ST.out.cell 1 rfl 1 rfl, ST.out.cell 1 rfl 2 rfl, (ST.out.b.cell (Zi wr _ X0.out)).trans X0.out, (ST.out.b.cell (Zi wr _ X1.out)).trans X1.out, (ST.out.b.cell (Zi wr _ X2.out)).trans X2.out, Kd.C_string (P := Try.prog) (A := some ⟨g, 0, none⟩) (c := cb) Try.underlying24 Try.underlying5 Try.underlying9 (ST.out.reads 4 rfl).2.2⟩ (fun hHeld => ?_)
      clear hK K
      refine norm_ (a' := ?_) ?_ ?_
      rotate_left
      · show Act.put _ (some 136) _ = _
        simp only [Act.put, List.setIfInBounds_toArray, List.set_cons_zero, List.set_cons_succ, i64_w, i32_w]
        rfl
      refine one_ (i := 11) (N := some 137) #[true, true, true, true, true, true, true, true, true, true, true, true, true, true, false, false, false] rfl rfl (by kernel_rfl) (by decide) (fun K hK => ?_)
      have hcv := Kd.C_string (P := Try.prog) (A := A23) (c := c23) Try.underlying24 Try.underlying5 Try.underlying9 (ST.out.reads 0 rfl).2.2
      refine value_ (w1 := ?_) (v := ?_) (by rfl) rfl ?_ ?_
      rotate_left 2
      · go_simp
        constructor
        · rfl
        rfl
      clear hcv hHeld
      refine hK.out _ _ ⟨ST.out.cell 1 rfl 0 rfl, ST.out.cell 1 rfl 1 rfl, ST.out.cell 1 rfl 2 rfl, (ST.out.b.cell (Zi wr _ X0.out)).trans X0.out, (ST.out.b.cell (Zi wr _ X1.out)).trans X1.out, (ST.out.b.cell (Zi wr _ X2.out)).trans X2.out, Kd.C_string (P := Try.prog) (A := some ⟨g, 0, none⟩) (c := cb) Try.underlying24 Try.underlying5 Try.underlying9 (ST.out.reads 4 rfl).2.2⟩ (fun hHeld => ?_)
      clear hK K
      refine norm_ (a' := ?_) ?_ ?_
      rotate_left
      · show Act.put _ (some 137) _ = _
        simp only [Act.put, List.setIfInBounds_toArray, List.set_cons_zero, List.set_cons_succ, i64_w, i32_w]
        rfl
      have n6 : ((strOfNums b').toList != (strOfNums b').toList) = false := bne_self_eq_false _
      refine SQ.p0 14 140 ?_
      refine SQ.p0 15 141 ?_
      refine SQ.p0 16 142 ?_
      refine done_ (by kernel_rfl) ?_
      clear n6 hHeld
      go_wp2_with fail
      go_roundg k1
      case measure => omega
      case rel => exact ⟨_, rfl, HL, ⟨FRH.out.step ST.out.b⟩⟩
end Go.Proofs.Ytgdebfaoohjikaa.F

namespace Go.Proofs.Ytgdebfaoohjikaa.PK
set_option linter.unusedVariables false
set_option linter.unusedSimpArgs false
open Go.RowKit Go.Proofs.YtgdebfaoohjikaaW.PrintWords
theorem EvS {α : Type} {g : Nat → Option α} {r : α} (h : Ev (fun k => g (k + 1)) r) : Ev g r := by
  obtain ⟨K, h⟩ := h
  refine ⟨K + 1, fun k hk => ?_⟩
  obtain ⟨m, rfl⟩ : ∃ m, k = m + 1 := ⟨k - 1, by omega⟩
  exact h m (by omega)
theorem EvB {α β : Type} {g : Nat → Option α} {f : Nat → α → Option β} {a : α} {r : β} (h : Ev g a) : Ev (fun k => (g k).bind (f k)) r ↔ Ev (fun k => f k a) r := by
  obtain ⟨K, h⟩ := h
  constructor
  · rintro ⟨K', h'⟩
    refine ⟨max K K', fun k hk => ?_⟩
    have h2 : (g k).bind (f k) = some r := h' k (by omega)
    rw [h k (by omega)] at h2
    exact h2
  rintro ⟨K', h'⟩
  refine ⟨max K K', fun k hk => ?_⟩
  show (g k).bind (f k) = some r
  rw [h k (by omega)]
  exact h' k (by omega)
theorem EvN {α : Type} {r : α} : Ev (fun _ => some r) r := ⟨0, fun _ _ => rfl⟩
theorem EvE {α : Type} {g : Nat → Option α} {r : α} (h : Ev g r) : ∃ k, g k = some r := h.rounds
theorem w64 {x : Int} (h : -9223372036854775808 ≤ x) (h' : x ≤ 9223372036854775807) : wrap64 x = x := by
  unfold wrap64
  omega
theorem up {P : Int → Prop} (n : Nat) (base : P n) (step : ∀ i : Nat, i < n → P ((i + 1 : Nat) : Int) → P (i : Int)) : ∀ i : Nat, i ≤ n → P (i : Int) := by
  intro i hi
  obtain ⟨d, hd⟩ : ∃ d, d + i = n := ⟨n - i, by omega⟩
  induction d generalizing i with
  | zero => have : i = n := by omega
            subst this
            exact base
  | succ d ih => exact step i (by omega) (ih (i + 1) (by omega) (by omega))
theorem up0 {P : Int → Prop} (n : Nat) (base : P n) (step : ∀ i : Nat, i < n → P ((i + 1 : Nat) : Int) → P (i : Int)) : P 0 := up n base step 0 (Nat.zero_le _)
theorem getD_nat {α : Type} (l : List α) (z : α) (i : Nat) (h : i < l.length) : l.getD ((i : Int).toNat) z = l[i] := by
  simp [List.getD_eq_getElem?_getD, List.getElem?_eq_getElem h]
theorem drop_at {α : Type} (l : List α) (i : Nat) (h : i < l.length) : l.drop i = l[i] :: l.drop (i + 1) := List.drop_eq_getElem_cons h
end Go.Proofs.Ytgdebfaoohjikaa.PK

namespace Go.Proofs.Ytgdebfaoohjikaa.F
open Go.RowKit Go.Proofs.YtgdebfaoohjikaaW.PrintWords Go.Proofs.YtgdebfaoohjikaaW.PrintWords.Kd Go.Proofs.YtgdebfaoohjikaaW.PrintMore.Kd Go.Proofs.YtgdebfaoohjikaaW.PrintLast Go.Proofs.YtgdebfaoohjikaaW.PrintMore
attribute [local go_sem] max2_int min2_int max_two min_two max_three min_three max_four min_four   -- for this text's walks alone
set_option linter.unusedVariables false
set_option linter.unusedSimpArgs false
end Go.Proofs.Ytgdebfaoohjikaa.F

namespace Go.Proofs.Ytgdebfaoohjikaa.BY
set_option linter.unusedVariables false
set_option linter.unusedSimpArgs false
open Go.RowKit Go.Proofs.Ytgdebfaoohjikaa.F Go.Proofs.Ytgdebfaoohjikaa.PK Go.Proofs.YtgdebfaoohjikaaW.PrintWords Go.Proofs.YtgdebfaoohjikaaW.PrintLast
theorem rd_at (l : List Int) (i : Nat) (h : i < l.length) : rd l (i : Int) = l[i] := getD_nat l _ i h
theorem nxt (i n : Nat) (h : i < n) (hn : n ≤ 9223372036854775807) : wrap64 ((i : Int) + 1) = ((i + 1 : Nat) : Int) := by rw [w64 (by omega) (by omega)]; omega
end Go.Proofs.Ytgdebfaoohjikaa.BY

namespace Go.Proofs.Ytgdebfaoohjikaa.VI
set_option linter.unusedVariables false
set_option linter.unusedSimpArgs false
open Go.RowKit Go.Proofs.Ytgdebfaoohjikaa.F Go.Proofs.Ytgdebfaoohjikaa.PK Go.Proofs.YtgdebfaoohjikaaW.PrintWords Go.Proofs.YtgdebfaoohjikaaW.PrintLast Go.Proofs.YtgdebfaoohjikaaW.PrintMore
def pv : Nat → Int → List Int
  | 0, x => [x]
  | n + 1, x => if x < 128 then [x] else (x % 128 + 128) :: pv n (x / 128)
def dec : List Int → Int
  | [] => 0
  | b :: r => b % 128 + 128 * dec r
theorem dec_nonneg (l : List Int) : 0 ≤ dec l := by
  induction l with
  | nil => exact Int.le_refl _
  | cons b r ih => unfold dec; omega
theorem pow7 (n : Nat) : (128 : Int) ^ (n + 1) = 128 * 128 ^ n := by rw [Int.pow_succ, Int.mul_comm]
theorem pow7_pos (n : Nat) : 0 < (128 : Int) ^ n := Int.pow_pos (by omega)
theorem dec_lt (l : List Int) : dec l < 128 ^ l.length := by
  induction l with
  | nil => show (0 : Int) < 1; omega
  | cons b r ih =>
    rw [List.length_cons, pow7]
    unfold dec
    omega
theorem dec_append (l : List Int) (c : Int) : dec (l ++ [c]) = dec l + 128 ^ l.length * (c % 128) := by
  induction l with
  | nil => show c % 128 + 128 * 0 = 0 + 1 * (c % 128); omega
  | cons b r ih =>
    have e : dec (b :: r ++ [c]) = b % 128 + 128 * dec (r ++ [c]) := rfl
    have e2 : dec (b :: r) = b % 128 + 128 * dec r := rfl
    have e3 : (128 : Int) * (128 ^ r.length * (c % 128)) = 128 ^ (r.length + 1) * (c % 128) := by rw [pow7, Int.mul_assoc]
    rw [e, e2, ih, List.length_cons, Int.mul_add, e3]
    omega
theorem dec_pv (n : Nat) : ∀ x : Int, 0 ≤ x → x < 128 ^ (n + 1) → dec (pv n x) = x := by
  induction n with
  | zero =>
    intro x h0 h1
    rw [pow7] at h1
    show x % 128 + 128 * 0 = x
    have : (128 : Int) ^ 0 = 1 := rfl
    omega
  | succ n ih =>
    intro x h0 h1
    unfold pv
    by_cases h : x < 128
    · rw [if_pos h]
      show x % 128 + 128 * 0 = x
      omega
    rw [if_neg h]
    show (x % 128 + 128) % 128 + 128 * dec (pv n (x / 128)) = x
    rw [pow7] at h1
    rw [ih (x / 128) (by omega) (by omega)]
    omega
theorem pv_pos (n : Nat) (x : Int) : 1 ≤ (pv n x).length := by
  cases n with
  | zero => exact Nat.le_refl _
  | succ n => unfold pv; split <;> simp
theorem pv_le (n : Nat) : ∀ x : Int, (pv n x).length ≤ n + 1 := by
  induction n with
  | zero => intro x; exact Nat.le_refl _
  | succ n ih =>
    intro x
    unfold pv
    split
    · simp
    have := ih (x / 128)
    simp only [List.length_cons]
    omega
theorem pv_form (n : Nat) : ∀ x : Int, 0 ≤ x → x < 128 ^ (n + 1) → ∃ hs c, pv n x = hs ++ [c] ∧ (∀ b ∈ hs, 128 ≤ b ∧ b ≤ 255) ∧ 0 ≤ c ∧ c ≤ 127 ∧ (c = 0 → hs = []) := by
  induction n with
  | zero =>
    intro x h0 h1
    rw [pow7] at h1
    have : (128 : Int) ^ 0 = 1 := rfl
    exact ⟨[], x, rfl, by simp, h0, by omega, fun _ => rfl⟩
  | succ n ih =>
    intro x h0 h1
    unfold pv
    by_cases h : x < 128
    · rw [if_pos h]
      exact ⟨[], x, rfl, by simp, h0, by omega, fun _ => rfl⟩
    rw [if_neg h]
    rw [pow7] at h1
    obtain ⟨hs, c, e, h2, h3, h4, h5⟩ := ih (x / 128) (by omega) (by omega)
    refine ⟨(x % 128 + 128) :: hs, c, by rw [e]; rfl, fun b hb => ?_, h3, h4, fun hc => ?_⟩
    · rcases List.mem_cons.1 hb with rfl | hb
      · omega
      exact h2 b hb
    exfalso
    have hd := dec_pv n (x / 128) (by omega) (by omega)
    rw [e, h5 hc, hc] at hd
    have hz : dec ([] ++ [0]) = 0 := rfl
    omega
theorem pv_dec (n : Nat) : ∀ (hs : List Int) (c : Int), hs.length ≤ n → (∀ b ∈ hs, 128 ≤ b ∧ b ≤ 255) → 0 ≤ c → c ≤ 127 → (c = 0 → hs = []) → pv n (dec (hs ++ [c])) = hs ++ [c] := by
  induction n with
  | zero =>
    intro hs c hl hb h0 h1 _
    have : hs = [] := List.eq_nil_of_length_eq_zero (by omega)
    subst this
    show [c % 128 + 128 * 0] = [c]
    congr 1
    omega
  | succ n ih =>
    intro hs c hl hb h0 h1 hz
    cases hs with
    | nil =>
      have e : dec ([] ++ [c]) = c := by show c % 128 + 128 * 0 = c; omega
      rw [e]
      unfold pv
      rw [if_pos (by omega)]
      rfl
    | cons b r =>
      have hbb := hb b (List.mem_cons_self ..)
      have e : dec (b :: r ++ [c]) = b % 128 + 128 * dec (r ++ [c]) := rfl
      have hc : c ≠ 0 := fun h => by have := hz h; cases this
      have hp : 1 ≤ dec (r ++ [c]) := by
        rw [dec_append]
        have h2 := dec_nonneg r
        have h3 := pow7_pos r.length
        have h4 : c % 128 = c := by omega
        rw [h4]
        have : 1 * 1 ≤ (128 : Int) ^ r.length * c := Int.mul_le_mul (by omega) (by omega) (by omega) (by omega)
        omega
      have hi := ih r c (by simp only [List.length_cons] at hl; omega) (fun b' hb' => hb b' (List.mem_cons_of_mem _ hb')) h0 h1 (fun h => absurd h hc)
      rw [e]
      unfold pv
      rw [if_neg (by omega), show (b % 128 + 128 * dec (r ++ [c])) % 128 + 128 = b by omega, show (b % 128 + 128 * dec (r ++ [c])) / 128 = dec (r ++ [c]) by omega, hi]
      rfl
theorem wu64 {x : Int} (h0 : 0 ≤ x) (h1 : x < 18446744073709551616) : IntKind.u64.wrap x = x := by rw [IntKind.wrap_u64]; omega
theorem p70 : (128 : Int) ^ 10 = 1180591620717411303424 := by decide
theorem p63 : (128 : Int) ^ 9 = 9223372036854775808 := by decide
def gv : Nat → List Int → Option (Int × Nat)
  | _, [] => none
  | k, b :: r => if 10 ≤ k then none else if k = 9 ∧ b > 1 then none else if b ≥ 128 then (gv (k + 1) r).map (fun p => (b % 128 + 128 * p.1, p.2 + 1)) else if b = 0 ∧ 0 < k then none else some (b, 1)
theorem gv_lead (hs : List Int) : ∀ (k : Nat) (c : Int) (tl : List Int), (∀ b ∈ hs, 128 ≤ b ∧ b ≤ 255) → 0 ≤ c → c ≤ 127 → k + hs.length ≤ 9 →
    gv k (hs ++ c :: tl) = if (k + hs.length = 9 ∧ c > 1) ∨ (c = 0 ∧ 0 < k + hs.length) then none else some (dec (hs ++ [c]), hs.length + 1) := by
  induction hs with
  | nil =>
    intro k c tl _ h0 h1 hk
    have e : dec ([] ++ [c]) = c := by show c % 128 + 128 * 0 = c; omega
    simp only [List.length_nil, Nat.add_zero] at hk ⊢
    show gv k (c :: tl) = _
    unfold gv
    rw [if_neg (by omega), e]
    by_cases h2 : k = 9 ∧ c > 1
    · rw [if_pos h2, if_pos (.inl h2)]
    rw [if_neg h2, if_neg (by omega)]
    by_cases h3 : c = 0 ∧ 0 < k
    · rw [if_pos h3, if_pos (.inr h3)]
    rw [if_neg h3, if_neg (by rintro (h | h); exact h2 h; exact h3 h)]
  | cons b r ih =>
    intro k c tl hb h0 h1 hk
    have hbb := hb b (List.mem_cons_self ..)
    simp only [List.length_cons] at hk ⊢
    show gv k (b :: (r ++ c :: tl)) = _
    unfold gv
    rw [if_neg (by omega), if_neg (by omega), if_pos (by omega), ih (k + 1) c tl (fun b' hb' => hb b' (List.mem_cons_of_mem _ hb')) h0 h1 (by omega)]
    rw [show k + 1 + r.length = k + (r.length + 1) by omega]
    split
    · rfl
    rfl
theorem gv_all (hs : List Int) : ∀ k : Nat, (∀ b ∈ hs, 128 ≤ b) → gv k hs = none := by
  induction hs with
  | nil => intro k _; rfl
  | cons b r ih =>
    intro k hb
    have hbb := hb b (List.mem_cons_self ..)
    unfold gv
    by_cases h1 : 10 ≤ k
    · rw [if_pos h1]
    rw [if_neg h1]
    by_cases h2 : k = 9 ∧ b > 1
    · rw [if_pos h2]
    rw [if_neg h2, if_pos (by omega), ih (k + 1) (fun b' hb' => hb b' (List.mem_cons_of_mem _ hb'))]
    rfl
theorem gv_long (hs : List Int) : ∀ (k : Nat) (tl : List Int), (∀ b ∈ hs, 128 ≤ b) → 10 ≤ k + hs.length → gv k (hs ++ tl) = none := by
  induction hs with
  | nil =>
    intro k tl _ hk
    simp only [List.length_nil, Nat.add_zero] at hk
    cases tl with
    | nil => rfl
    | cons c tl => show gv k (c :: tl) = none; unfold gv; rw [if_pos hk]
  | cons b r ih =>
    intro k tl hb hk
    have hbb := hb b (List.mem_cons_self ..)
    simp only [List.length_cons] at hk
    show gv k (b :: (r ++ tl)) = none
    unfold gv
    by_cases h1 : 10 ≤ k
    · rw [if_pos h1]
    rw [if_neg h1]
    by_cases h2 : k = 9 ∧ b > 1
    · rw [if_pos h2]
    rw [if_neg h2, if_pos (by omega), ih (k + 1) tl (fun b' hb' => hb b' (List.mem_cons_of_mem _ hb')) (by omega)]
    rfl
theorem split_lead (l : List Int) : ∃ hs tl, l = hs ++ tl ∧ (∀ b ∈ hs, 128 ≤ b) ∧ (∀ c r, tl = c :: r → c ≤ 127) := by
  induction l with
  | nil => exact ⟨[], [], rfl, by simp, by simp⟩
  | cons b r ih =>
    by_cases h : 128 ≤ b
    · obtain ⟨hs, tl, e, h1, h2⟩ := ih
      exact ⟨b :: hs, tl, by rw [e]; rfl, fun b' hb' => by rcases List.mem_cons.1 hb' with rfl | hb'; exact h; exact h1 b' hb', h2⟩
    exact ⟨[], b :: r, rfl, by simp, fun c r' e => by cases e; omega⟩
theorem pv_iff (hs : List Int) (c : Int) (hb : ∀ b ∈ hs, 128 ≤ b ∧ b ≤ 255) (h0 : 0 ≤ c) (h1 : c ≤ 127) (hl : hs.length ≤ 9) :
    pv 9 (dec (hs ++ [c]) % 18446744073709551616) = hs ++ [c] ↔ ¬ ((hs.length = 9 ∧ c > 1) ∨ (c = 0 ∧ 0 < hs.length)) := by
  have hlt := dec_lt hs
  have hap := dec_append hs c
  have hcm : c % 128 = c := by omega
  rw [hcm] at hap
  have hnn := dec_nonneg (hs ++ [c])
  have hd0 := dec_nonneg hs
  constructor
  · intro h
    have hd : dec (pv 9 (dec (hs ++ [c]) % 18446744073709551616)) = dec (hs ++ [c]) % 18446744073709551616 := dec_pv 9 _ (Int.emod_nonneg _ (by omega)) (by rw [p70]; omega)
    rw [h] at hd
    rintro (⟨h9, hc⟩ | ⟨hc, hp⟩)
    · rw [h9, p63] at hap
      omega
    obtain ⟨hs', c', e, _, _, _, hz⟩ := pv_form 9 (dec (hs ++ [c]) % 18446744073709551616) (Int.emod_nonneg _ (by omega)) (by rw [p70]; omega)
    rw [h] at e
    have e2 := List.append_inj' e rfl
    have ec : c = c' := by have := e2.2; injection this
    have := hz (by omega)
    rw [← e2.1] at this
    rw [this] at hp
    simp at hp
  intro h
  have hV : dec (hs ++ [c]) < 18446744073709551616 := by
    by_cases h9 : hs.length = 9
    · have : c ≤ 1 := by omega
      rw [h9, p63] at hap hlt
      omega
    have h8 : (128 : Int) ^ hs.length ≤ 128 ^ 8 := by
      have : hs.length ≤ 8 := by omega
      exact_mod_cast Nat.pow_le_pow_right (by omega) this
    have p8 : (128 : Int) ^ 8 = 72057594037927936 := by decide
    have h3 : (128 : Int) ^ hs.length * c ≤ 72057594037927936 * 127 := Int.mul_le_mul (by omega) h1 h0 (by omega)
    omega
  rw [Int.emod_eq_of_lt hnn hV]
  refine pv_dec 9 hs c hl hb h0 h1 fun hc => ?_
  by_cases hp : 0 < hs.length
  · exact absurd (.inr ⟨hc, hp⟩) h
  exact List.eq_nil_of_length_eq_zero (by omega)
end Go.Proofs.Ytgdebfaoohjikaa.VI

namespace Go.Proofs.Ytgdebfaoohjikaa.F
open Go.RowKit Go.Proofs.YtgdebfaoohjikaaW.PrintWords Go.Proofs.YtgdebfaoohjikaaW.PrintWords.Kd Go.Proofs.YtgdebfaoohjikaaW.PrintMore.Kd Go.Proofs.YtgdebfaoohjikaaW.PrintLast Go.Proofs.YtgdebfaoohjikaaW.PrintMore
attribute [local go_sem] max2_int min2_int max_two min_two max_three min_three max_four min_four   -- for this text's walks alone
set_option linter.unusedVariables false
set_option linter.unusedSimpArgs false
def impl_PutVar.f (k : Nat) (a0 : Int) : Option (List Int) := (impl_putVar.f k a0).bind fun t119 => (some t119)
end Go.Proofs.Ytgdebfaoohjikaa.F

namespace Go.Proofs.Ytgdebfaoohjikaa.VI
set_option linter.unusedVariables false
set_option linter.unusedSimpArgs false
open Go.RowKit Go.Proofs.Ytgdebfaoohjikaa.F Go.Proofs.Ytgdebfaoohjikaa.PK Go.Proofs.YtgdebfaoohjikaaW.PrintWords Go.Proofs.YtgdebfaoohjikaaW.PrintLast Go.Proofs.YtgdebfaoohjikaaW.PrintMore
theorem or128 (x : Int) (h0 : 0 ≤ x) : Go.bits .or .u8 (x % 256) 128 = x % 128 + 128 := by
  have hm : 0 ≤ x % 256 := by omega
  have hlt : x % 256 < 256 := by omega
  have e : x % 128 = (x % 256) % 128 := by omega
  rw [e]
  generalize x % 256 = y at hm hlt
  obtain ⟨n, rfl⟩ := Int.eq_ofNat_of_zero_le hm
  rw [u8_or _ _ hm hlt (by omega) (by omega), Int.toNat_natCast]
  have h2 : ∀ m : Fin 256, ((m.val ||| (128 : Int).toNat : Nat) : Int) = (m.val : Int) % 128 + 128 := by decide +kernel
  exact h2 ⟨n, by omega⟩
theorem impl_put (n : Nat) : ∀ (x : Int) (acc : List Int), 0 ≤ x → x < 128 ^ (n + 1) → acc.length + n < 140737488355328 → Ev (fun k => impl_putVar.l0 k x acc) (acc ++ pv n x) := by
  induction n with
  | zero =>
    intro x acc h0 h1 hl
    rw [pow7] at h1
    have : (128 : Int) ^ 0 = 1 := rfl
    refine EvS ?_
    simp only [impl_putVar.l0, if_neg (show ¬ x ≥ 128 by omega), if_pos (show acc.length < 140737488355328 by omega), show x % 256 = x by omega]
    exact EvN
  | succ n ih =>
    intro x acc h0 h1 hl
    rw [pow7] at h1
    refine EvS ?_
    unfold pv
    by_cases h : x < 128
    · simp only [impl_putVar.l0, if_neg (show ¬ x ≥ 128 by omega), if_pos (show acc.length < 140737488355328 by omega), show x % 256 = x by omega, if_pos h]
      exact EvN
    simp only [impl_putVar.l0, if_pos (show x ≥ 128 by omega), if_pos (show acc.length < 140737488355328 by omega), or128 x h0, if_neg h]
    have := ih (x / 128) (acc ++ [x % 128 + 128]) (by omega) (by omega) (by rw [List.length_append, List.length_singleton]; omega)
    rw [List.append_assoc] at this
    exact this
theorem impl_putV (x : Int) (h0 : 0 ≤ x) (h1 : x < 18446744073709551616) : Ev (fun k => impl_putVar.f k x) (pv 9 x) := by
  have h := impl_put 9 x [] h0 (by rw [p70]; omega) (by show 0 + 9 < _; omega)
  rw [List.nil_append] at h
  unfold impl_putVar.f
  exact h
theorem impl_putVar (x : Int) (h0 : 0 ≤ x) (h1 : x < 18446744073709551616) : Ev (fun k => impl_PutVar.f k x) (pv 9 x) := by
  unfold impl_PutVar.f
  simp only [EvB (impl_putV x h0 h1)]
  exact EvN
end Go.Proofs.Ytgdebfaoohjikaa.VI

namespace Go.Proofs.Ytgdebfaoohjikaa.F
open Go.RowKit Go.Proofs.YtgdebfaoohjikaaW.PrintWords Go.Proofs.YtgdebfaoohjikaaW.PrintWords.Kd Go.Proofs.YtgdebfaoohjikaaW.PrintMore.Kd Go.Proofs.YtgdebfaoohjikaaW.PrintLast Go.Proofs.YtgdebfaoohjikaaW.PrintMore
attribute [local go_sem] max2_int min2_int max_two min_two max_three min_three max_four min_four   -- for this text's walks alone
set_option linter.unusedVariables false
set_option linter.unusedSimpArgs false
end Go.Proofs.Ytgdebfaoohjikaa.F

namespace Go.Proofs.Ytgdebfaoohjikaa.BY
set_option linter.unusedVariables false
set_option linter.unusedSimpArgs false
open Go.RowKit Go.Proofs.Ytgdebfaoohjikaa.F Go.Proofs.Ytgdebfaoohjikaa.PK Go.Proofs.YtgdebfaoohjikaaW.PrintWords Go.Proofs.YtgdebfaoohjikaaW.PrintLast Go.Proofs.YtgdebfaoohjikaaW.PrintMore
end Go.Proofs.Ytgdebfaoohjikaa.BY

namespace Go.Proofs.Ytgdebfaoohjikaa.F
open Go.RowKit Go.Proofs.YtgdebfaoohjikaaW.PrintWords Go.Proofs.YtgdebfaoohjikaaW.PrintWords.Kd Go.Proofs.YtgdebfaoohjikaaW.PrintMore.Kd Go.Proofs.YtgdebfaoohjikaaW.PrintLast Go.Proofs.YtgdebfaoohjikaaW.PrintMore
attribute [local go_sem] max2_int min2_int max_two min_two max_three min_three max_four min_four   -- for this text's walks alone
set_option linter.unusedVariables false
set_option linter.unusedSimpArgs false
def impl_GetVar.f (k : Nat) (l0 : List Int) (a1 : Int) : Option (Int × Int × Bool) := if (l0.length : Int) > 4000 then (some (0, 0, false)) else (if a1 < 0 then (some (0, 0, false)) else (if a1 ≥ (l0.length : Int) then (some (0, 0, false)) else ((impl_getVar.f k l0 a1).bind fun bt157 => (some (bt157.1, bt157.2.1, bt157.2.2)))))
end Go.Proofs.Ytgdebfaoohjikaa.F

namespace Go.Proofs.Ytgdebfaoohjikaa.VI
set_option linter.unusedVariables false
set_option linter.unusedSimpArgs false
open Go.RowKit Go.Proofs.Ytgdebfaoohjikaa.F Go.Proofs.Ytgdebfaoohjikaa.PK Go.Proofs.YtgdebfaoohjikaaW.PrintWords Go.Proofs.YtgdebfaoohjikaaW.PrintLast Go.Proofs.YtgdebfaoohjikaaW.PrintMore
open Go.Proofs.Ytgdebfaoohjikaa.BY
def tell (at_ : Int) : Option (Int × Nat) → Int × Int × Bool
  | none => (0, 0, false)
  | some (v, n) => (v, at_ + n, true)
def U8s (l : List Int) : Prop := ∀ b ∈ l, 0 ≤ b ∧ b ≤ 255
theorem wf8s {l : List Int} (h : ∀ x ∈ l, (Lit.int .u8 x).wf = true) : U8s l := fun b hb => by
  have := h b hb
  simp only [Lit.wf, Bool.and_eq_true, decide_eq_true_eq] at this
  have h1 : IntKind.u8.min = 0 := by decide
  have h2 : IntKind.u8.max = 255 := by decide
  omega
theorem and127 (b : Int) (h0 : 0 ≤ b) (h1 : b ≤ 255) : Go.bits .and .u8 b 127 = b % 128 := by
  obtain ⟨n, rfl⟩ := Int.eq_ofNat_of_zero_le h0
  rw [u8_and _ _ h0 (by omega) (by omega) (by omega), Int.toNat_natCast]
  have h2 : ∀ m : Fin 256, ((m.val &&& (127 : Int).toNat : Nat) : Int) = (m.val : Int) % 128 := by decide +kernel
  exact h2 ⟨n, by omega⟩
theorem pow2_7 (k : Nat) : (2 : Int) ^ (7 * k) = 128 ^ k := by
  rw [Int.pow_mul]
  rfl
theorem or_shl (x b : Int) (k : Nat) (hx0 : 0 ≤ x) (hx : x < 128 ^ k) (hb0 : 0 ≤ b) (hb : b ≤ 127) (hk : k ≤ 9) (h9 : k = 9 → b ≤ 1) :
    Go.bits .or .u64 x (shl .u64 (IntKind.u64.wrap b) (7 * k)) = x + 128 ^ k * b := by
  have hp := pow7_pos k
  have hle : (128 : Int) ^ k ≤ 128 ^ 9 := by exact_mod_cast Nat.pow_le_pow_right (by omega) hk
  have hbig : 128 ^ k * b + 128 ^ k ≤ 18446744073709551616 := by
    by_cases h : k = 9
    · subst h
      have := h9 rfl
      rw [p63]
      omega
    have h8 : (128 : Int) ^ k ≤ 128 ^ 8 := by exact_mod_cast Nat.pow_le_pow_right (by omega) (by omega)
    have p8 : (128 : Int) ^ 8 = 72057594037927936 := by decide
    have h3 : (128 : Int) ^ k * b ≤ 72057594037927936 * 127 := Int.mul_le_mul (by omega) hb hb0 (by omega)
    omega
  have hm0 : 0 ≤ 128 ^ k * b := Int.mul_nonneg (by omega) hb0
  have e : shl .u64 (IntKind.u64.wrap b) (7 * k) = 128 ^ k * b := by
    unfold shl
    rw [wu64 hb0 (by omega), show min (7 * (k : Int)).toNat IntKind.u64.bits = 7 * k by show min _ 64 = _; omega, pow2_7, Int.mul_comm, wu64 hm0 (by omega)]
  rw [e]
  obtain ⟨m, rfl⟩ := Int.eq_ofNat_of_zero_le hx0
  obtain ⟨c, rfl⟩ := Int.eq_ofNat_of_zero_le hb0
  have ec : (128 : Int) ^ k * (c : Int) = ((2 ^ (7 * k) * c : Nat) : Int) := by
    rw [show (2 : Nat) ^ (7 * k) = 128 ^ k by rw [Nat.pow_mul]]
    push_cast
    rfl
  have hm : m < 2 ^ (7 * k) := by
    rw [show (2 : Nat) ^ (7 * k) = 128 ^ k by rw [Nat.pow_mul]]
    exact_mod_cast hx
  rw [ec] at hbig ⊢
  rw [u64_or_nat m (2 ^ (7 * k) * c) (by omega) (by omega), Nat.or_comm, ← Nat.two_pow_add_eq_or_of_lt hm]
  push_cast
  omega
theorem impl_get (l : List Int) (a : Nat) (hu : U8s l) (hl : l.length ≤ 4000) (ha : a ≤ l.length) : ∀ (d k : Nat), d + k = 10 → ∀ x, 0 ≤ x → x < 128 ^ k →
    Ev (fun n => impl_getVar.l0 n l a x k) (tell a ((gv k (l.drop (a + k))).map fun p => (x + 128 ^ k * p.1, k + p.2))) := by
  intro d
  induction d with
  | zero =>
    intro k hk x h0 h1
    have hg : gv k (l.drop (a + k)) = none := by
      cases l.drop (a + k) with
      | nil => rfl
      | cons b r => unfold gv; rw [if_pos (by omega)]
    rw [hg]
    refine EvS ?_
    simp only [impl_getVar.l0, if_neg (show ¬ (k : Int) < 10 by omega)]
    refine EvS ?_
    simp only [impl_getVar.j1, Bool.false_eq_true, if_false]
    exact EvN
  | succ d ih =>
    intro k hk x h0 h1
    have hw : wrap64 ((a : Int) + k) = ((a + k : Nat) : Int) := by rw [w64 (by omega) (by omega)]; omega
    refine EvS ?_
    simp only [impl_getVar.l0, if_pos (show (k : Int) < 10 by omega), hw]
    by_cases hin : a + k < l.length
    · have hb := hu _ (List.getElem_mem hin)
      have hk9 : (k : Int) = 9 ↔ k = 9 := by omega
      have hw7 : wrap64 (7 * (k : Int)) = 7 * (k : Int) := w64 (by omega) (by omega)
      rw [drop_at l (a + k) hin, decide_eq_true (show ((a + k : Nat) : Int) < (l.length : Int) by omega)]
      have hih := fun x' (e0 : 0 ≤ x') (e1 : x' < 128 ^ (k + 1)) => ih (k + 1) (by omega) x' e0 e1
      have hb0 : 0 ≤ l[a + k] % 128 := by omega
      have hlt : l[a + k] % 128 ≤ 127 := by omega
      have hx' : x + 128 ^ k * (l[a + k] % 128) < 128 ^ (k + 1) := by
        rw [pow7]
        have : (128 : Int) ^ k * (l[a + k] % 128) ≤ 128 ^ k * 127 := Int.mul_le_mul_of_nonneg_left hlt (by omega)
        omega
      have hx0' : 0 ≤ x + 128 ^ k * (l[a + k] % 128) := by
        have : 0 ≤ (128 : Int) ^ k * (l[a + k] % 128) := Int.mul_nonneg (by have := pow7_pos k; omega) hb0
        omega
      refine EvS ?_
      simp only [impl_getVar.j1, if_true, if_pos (show 0 ≤ ((a + k : Nat) : Int) by omega), hw, if_pos (show ((a + k : Nat) : Int) < (l.length : Int) by omega), rd_at l (a + k) hin]
      have J2 : ∀ q : Bool, (q = decide (k = 9 ∧ l[a + k] > 1)) → Ev (fun n => impl_getVar.j2 n l a x k l[a + k] q) (tell a ((gv k (l[a + k] :: l.drop (a + k + 1))).map fun p => (x + 128 ^ k * p.1, k + p.2))) := by
        intro q hq
        refine EvS ?_
        unfold gv
        rw [if_neg (show ¬ 10 ≤ k by omega)]
        by_cases h9 : k = 9 ∧ l[a + k] > 1
        · rw [decide_eq_true h9] at hq
          subst hq
          simp only [impl_getVar.j2, if_true, if_pos h9]
          exact EvN
        rw [decide_eq_false h9] at hq
        subst hq
        have hor := or_shl x (l[a + k] % 128) k h0 h1 hb0 hlt (by omega) (fun h => by
          have : l[a + k] ≤ 1 := by
            by_cases h2 : l[a + k] > 1
            · exact absurd ⟨h, h2⟩ h9
            omega
          omega)
        simp only [impl_getVar.j2, Bool.false_eq_true, if_false, if_neg h9, hw7, if_pos (show 0 ≤ 7 * (k : Int) by omega), and127 _ hb.1 hb.2, hor, hw]
        by_cases h128 : l[a + k] ≥ 128
        · simp only [if_pos h128, w64 (show -9223372036854775808 ≤ (k : Int) + 1 by omega) (show (k : Int) + 1 ≤ 9223372036854775807 by omega)]
          have h3 := hih _ hx0' hx'
          rw [show a + (k + 1) = a + k + 1 by omega] at h3
          have ecast : ((k + 1 : Nat) : Int) = (k : Int) + 1 := by omega
          rw [ecast] at h3
          cases hg : gv (k + 1) (l.drop (a + k + 1)) with
          | none => rw [hg] at h3; exact h3
          | some p =>
            rw [hg] at h3
            simp only [Option.map_some] at h3 ⊢
            have e1 : x + 128 ^ k * (l[a + k] % 128) + 128 ^ (k + 1) * p.1 = x + 128 ^ k * (l[a + k] % 128 + 128 * p.1) := by
              rw [pow7, Int.mul_add, show (128 : Int) * 128 ^ k * p.1 = 128 ^ k * (128 * p.1) by rw [Int.mul_comm 128, Int.mul_assoc]]
              omega
            rw [e1, show k + 1 + p.2 = k + (p.2 + 1) by omega] at h3
            exact h3
        simp only [if_neg h128]
        have e7 : wrap64 (((a + k : Nat) : Int) + 1) = (a : Int) + ((k + 1 : Nat) : Int) := by rw [w64 (by omega) (by omega)]; omega
        have em : l[a + k] % 128 = l[a + k] := by omega
        by_cases hz : l[a + k] = 0
        · by_cases hkp : 0 < k
          · simp only [if_pos hz, if_pos (show (k : Int) > 0 by omega), if_pos (show l[a + k] = 0 ∧ 0 < k from ⟨hz, hkp⟩)]
            exact EvN
          simp only [if_pos hz, if_neg (show ¬ (k : Int) > 0 by omega), if_neg (show ¬ (l[a + k] = 0 ∧ 0 < k) from fun h => hkp h.2), e7, em]
          exact EvN
        simp only [if_neg hz, if_neg (show ¬ (l[a + k] = 0 ∧ 0 < k) from fun h => hz h.1), e7, em]
        exact EvN
      by_cases h9 : (k : Int) = 9
      · simp only [if_pos h9]
        refine J2 _ ?_
        simp [hk9.1 h9]
      simp only [if_neg h9]
      refine J2 _ ?_
      rw [decide_eq_false (fun h => h9 (hk9.2 h.1))]
    rw [List.drop_eq_nil_of_le (by omega), decide_eq_false (show ¬ ((a + k : Nat) : Int) < (l.length : Int) by omega)]
    refine EvS ?_
    simp only [impl_getVar.j1, Bool.false_eq_true, if_false]
    exact EvN
theorem impl_getV (l : List Int) (a : Nat) (hu : U8s l) (hl : l.length ≤ 4000) (ha : a ≤ l.length) : Ev (fun n => impl_getVar.f n l a) (tell a (gv 0 (l.drop a))) := by
  have h := impl_get l a hu hl ha 10 0 rfl 0 (Int.le_refl _) (by show (0 : Int) < 1; omega)
  have e : ((gv 0 (l.drop (a + 0))).map fun p => ((0 : Int) + 128 ^ 0 * p.1, 0 + p.2)) = gv 0 (l.drop a) := by
    rw [Nat.add_zero]
    cases gv 0 (l.drop a) with
    | none => rfl
    | some p =>
      have : (128 : Int) ^ 0 = 1 := rfl
      simp only [Option.map_some, this, Int.one_mul, Int.zero_add, Nat.zero_add]
  rw [e] at h
  unfold impl_getVar.f
  exact h
def getM (l : List Int) (a : Int) : Int × Int × Bool := if (l.length : Int) > 4000 ∨ a < 0 ∨ a ≥ (l.length : Int) then (0, 0, false) else tell a (gv 0 (l.drop a.toNat))
theorem impl_getVar (l : List Int) (a : Int) (hu : U8s l) : Ev (fun n => impl_GetVar.f n l a) (getM l a) := by
  unfold impl_GetVar.f getM
  by_cases h1 : (l.length : Int) > 4000
  · simp only [if_pos h1, h1, true_or, if_true]; exact EvN
  by_cases h2 : a < 0
  · simp only [if_neg h1, if_pos h2, h2, true_or, or_true, if_true]; exact EvN
  by_cases h3 : a ≥ (l.length : Int)
  · simp only [if_neg h1, if_neg h2, if_pos h3, h3, or_true, if_true]; exact EvN
  obtain ⟨n, rfl⟩ := Int.eq_ofNat_of_zero_le (show 0 ≤ a by omega)
  simp only [if_neg h1, if_neg h2, if_neg h3, h1, h2, h3, or_false, if_false, EvB (impl_getV l n hu (by omega) (by omega)), Int.toNat_natCast]
  exact EvN
end Go.Proofs.Ytgdebfaoohjikaa.VI

namespace Go.Proofs.Ytgdebfaoohjikaa.F
open Go.RowKit Go.Proofs.YtgdebfaoohjikaaW.PrintWords Go.Proofs.YtgdebfaoohjikaaW.PrintWords.Kd Go.Proofs.YtgdebfaoohjikaaW.PrintMore.Kd Go.Proofs.YtgdebfaoohjikaaW.PrintLast Go.Proofs.YtgdebfaoohjikaaW.PrintMore
attribute [local go_sem] max2_int min2_int max_two min_two max_three min_three max_four min_four   -- for this text's walks alone
set_option linter.unusedVariables false
set_option linter.unusedSimpArgs false
end Go.Proofs.Ytgdebfaoohjikaa.F

namespace Go.Proofs.Ytgdebfaoohjikaa.KR
set_option linter.unusedVariables false
set_option linter.unusedSimpArgs false
open Go.RowKit Go.Proofs.Ytgdebfaoohjikaa.F Go.Proofs.Ytgdebfaoohjikaa.PK Go.Proofs.YtgdebfaoohjikaaW.PrintWords Go.Proofs.YtgdebfaoohjikaaW.PrintLast Go.Proofs.YtgdebfaoohjikaaW.PrintMore
theorem rd_at (l : List Int) (i : Nat) (h : i < l.length) : rd l (i : Int) = l[i] := getD_nat l _ i h
theorem nxt (i n : Nat) (h : i < n) (hn : n ≤ 9223372036854775807) : wrap64 ((i : Int) + 1) = ((i + 1 : Nat) : Int) := by rw [w64 (by omega) (by omega)]; omega
theorem rs_at (l : List ByteArray) (i : Nat) (h : i < l.length) : rdOf ByteArray.empty l (i : Int) = l[i] := getD_nat l _ i h
def longM (s : List ByteArray) : Bool := s.any fun x => decide ((x.size : Int) > 40)
def okRec (a : Int) (n : List Int) (s : List ByteArray) : Bool := decide (0 ≤ a ∧ a ≤ 250 ∧ n.length ≤ 24 ∧ s.length ≤ 6) && !longM s
theorem okRec_bd {a : Int} {n : List Int} {s : List ByteArray} (h : okRec a n s = true) : 0 ≤ a ∧ a ≤ 250 ∧ n.length ≤ 24 ∧ s.length ≤ 6 := by
  simp only [okRec, Bool.and_eq_true, decide_eq_true_eq] at h
  exact h.1
theorem impl_rec (a : Int) (n : List Int) (s : List ByteArray) (hs : s.length ≤ 9223372036854775807) : impl_isRecord.f a n s = some (okRec a n s) := by
  unfold impl_isRecord.f okRec
  by_cases h1 : a ≥ 0
  · by_cases h2 : a ≤ 250
    · by_cases h3 : (n.length : Int) ≤ 24
      · by_cases h4 : (s.length : Int) ≤ 6
        · simp only [if_pos h1, if_pos h2, if_pos h3, if_pos h4, impl_isRecord_long.f, if_pos hs, Option.bind_some, decide_eq_true (show (0 ≤ a ∧ a ≤ 250 ∧ n.length ≤ 24 ∧ s.length ≤ 6) by omega), Bool.true_and]
          rfl
        simp only [if_pos h1, if_pos h2, if_pos h3, if_neg h4, decide_eq_false (show ¬ (0 ≤ a ∧ a ≤ 250 ∧ n.length ≤ 24 ∧ s.length ≤ 6) by omega), Bool.false_and]
      simp only [if_pos h1, if_pos h2, if_neg h3, decide_eq_false (show ¬ (0 ≤ a ∧ a ≤ 250 ∧ n.length ≤ 24 ∧ s.length ≤ 6) by omega), Bool.false_and]
    simp only [if_pos h1, if_neg h2, decide_eq_false (show ¬ (0 ≤ a ∧ a ≤ 250 ∧ n.length ≤ 24 ∧ s.length ≤ 6) by omega), Bool.false_and]
  simp only [if_neg h1, decide_eq_false (show ¬ (0 ≤ a ∧ a ≤ 250 ∧ n.length ≤ 24 ∧ s.length ≤ 6) by omega), Bool.false_and]
end Go.Proofs.Ytgdebfaoohjikaa.KR

namespace Go.Proofs.Ytgdebfaoohjikaa.F
open Go.RowKit Go.Proofs.YtgdebfaoohjikaaW.PrintWords Go.Proofs.YtgdebfaoohjikaaW.PrintWords.Kd Go.Proofs.YtgdebfaoohjikaaW.PrintMore.Kd Go.Proofs.YtgdebfaoohjikaaW.PrintLast Go.Proofs.YtgdebfaoohjikaaW.PrintMore
attribute [local go_sem] max2_int min2_int max_two min_two max_three min_three max_four min_four   -- for this text's walks alone
set_option linter.unusedVariables false
set_option linter.unusedSimpArgs false
end Go.Proofs.Ytgdebfaoohjikaa.F

namespace Go.Proofs.Ytgdebfaoohjikaa.DE
set_option linter.unusedVariables false
set_option linter.unusedSimpArgs false
open Go.RowKit Go.Proofs.Ytgdebfaoohjikaa.F Go.Proofs.Ytgdebfaoohjikaa.PK Go.Proofs.Ytgdebfaoohjikaa.VI Go.Proofs.YtgdebfaoohjikaaW.PrintWords Go.Proofs.YtgdebfaoohjikaaW.PrintLast Go.Proofs.YtgdebfaoohjikaaW.PrintMore
open Go.Proofs.Ytgdebfaoohjikaa.KR (okRec longM okRec_bd impl_rec)
theorem gv_len : ∀ (l : List Int) (k : Nat) (p : Int × Nat), gv k l = some p → 1 ≤ p.2 ∧ p.2 ≤ l.length := by
  intro l
  induction l with
  | nil => intro k p h; cases h
  | cons b r ih =>
    intro k p h
    unfold gv at h
    split at h
    · cases h
    split at h
    · cases h
    split at h
    · cases hg : gv (k + 1) r with
      | none => rw [hg] at h; cases h
      | some q =>
        rw [hg] at h
        have e := Option.some.inj h
        have := ih _ _ hg
        rw [← e]
        simp only [List.length_cons]
        omega
    split at h
    · cases h
    have e := Option.some.inj h
    rw [← e]
    simp only [List.length_cons]
    omega
theorem lt8 (n : Nat) (h : n ≤ 255) : n < 8796093022208 := by omega
theorem lt9 (n : Nat) (h : n ≤ 255) : n < 17592186044416 := by omega
abbrev Rec := Int × List Int × List ByteArray × Bool
def noRec : Rec := (0, [], [], false)
def numsM (l : List Int) : Nat → Nat → List Int → Option (Nat × List Int)
  | 0, a, acc => some (a, acc)
  | n + 1, a, acc => match gv 0 (l.drop a) with
    | none => none
    | some p => numsM l n (a + p.2) (acc ++ [p.1])
def wordsM (l : List Int) : Nat → Nat → List ByteArray → Option (Nat × List ByteArray)
  | 0, a, acc => some (a, acc)
  | n + 1, a, acc => if l.length ≤ a then none else if l.length < a + 1 + (rd l a).toNat then none else wordsM l n (a + 1 + (rd l a).toNat) (acc ++ [strOfNums ((l.take (a + 1 + (rd l a).toNat)).drop (a + 1))])
def finW (l : List Int) (kd : Int) (ns : List Int) : Option (Nat × List ByteArray) → Rec
  | none => noRec
  | some (a, ws) => if a = l.length ∧ okRec kd ns ws = true then (kd, ns, ws, true) else noRec
def finN (l : List Int) (kd : Int) : Option (Nat × List Int) → Rec
  | none => noRec
  | some (a, ns) => if l.length ≤ a then noRec else finW l kd ns (wordsM l (rd l a).toNat (a + 1) [])
def decM (l : List Int) : Rec := if l.length < 3 ∨ 4000 < l.length ∨ rd l 1 > 24 then noRec else finN l (rd l 0) (numsM l (rd l 1).toNat 2 [])
theorem rdb {l : List Int} (hu : U8s l) (i : Nat) (hi : i < l.length) : 0 ≤ rd l (i : Int) ∧ rd l (i : Int) ≤ 255 := by
  have e : rd l (i : Int) = l[i] := getD_nat l _ i hi
  rw [e]
  exact hu _ (List.getElem_mem hi)
theorem implWords (l : List Int) (hu : U8s l) (hl : l.length ≤ 4000) (kd : Int) (ns : List Int) (W : Nat) (hW : W ≤ 255) : ∀ (n i : Nat), i + n = W → ∀ (a : Nat) (acc : List ByteArray), a ≤ l.length → acc.length ≤ i →
    Ev (fun k => impl_decode.l1 k l a W i kd ns acc) (finW l kd ns (wordsM l n a acc)) := by
  intro n
  induction n with
  | zero =>
    intro i hi a acc ha hacc
    refine EvS ?_
    have : i = W := by omega
    subst this
    simp only [impl_decode.l1, Int.lt_irrefl, if_false, wordsM, finW]
    by_cases h : (a : Int) = (l.length : Int)
    · simp only [if_pos h, impl_rec kd ns acc (by omega), Option.bind_some, show a = l.length by omega, true_and]
      by_cases h2 : okRec kd ns acc = true
      · simp only [if_pos h2]; exact EvN
      simp only [if_neg h2]; exact EvN
    simp only [if_neg h, show ¬ a = l.length by omega, false_and, if_false]; exact EvN
  | succ n ih =>
    intro i hi a acc ha hacc
    have hS : (acc.length < 8796093022208) = True := eq_true (lt8 _ (Nat.le_trans hacc (by omega)))
    refine EvS ?_
    simp only [impl_decode.l1, if_pos (show (i : Int) < (W : Int) by omega), wordsM]
    by_cases h1 : l.length ≤ a
    · simp only [if_pos (show (a : Int) ≥ (l.length : Int) by omega), if_pos h1, finW]; exact EvN
    have hb := rdb hu a (by omega)
    have e1 : wrap64 (rd l (a : Int)) = rd l (a : Int) := w64 (by omega) (by omega)
    have e3 : wrap64 ((a : Int) + 1) = ((a + 1 : Nat) : Int) := by rw [w64 (by omega) (by omega)]; omega
    have e4 : wrap64 (((a + 1 : Nat) : Int) + rd l (a : Int)) = ((a + 1 + (rd l (a : Int)).toNat : Nat) : Int) := by rw [w64 (by omega) (by omega)]; omega
    have e5 : wrap64 ((i : Int) + 1) = ((i + 1 : Nat) : Int) := by rw [w64 (by omega) (by omega)]; omega
    simp only [if_neg (show ¬ (a : Int) ≥ (l.length : Int) by omega), if_neg h1, if_pos (show 0 ≤ (a : Int) by omega), if_pos (show (a : Int) < (l.length : Int) by omega), e1, e3, e4, e5, hS, if_true]
    by_cases h2 : l.length < a + 1 + (rd l (a : Int)).toNat
    · simp only [if_pos (show ((a + 1 + (rd l (a : Int)).toNat : Nat) : Int) > (l.length : Int) by omega), if_pos h2, finW]; exact EvN
    simp only [if_neg (show ¬ ((a + 1 + (rd l (a : Int)).toNat : Nat) : Int) > (l.length : Int) by omega), if_neg h2, if_pos (show 0 ≤ ((a + 1 : Nat) : Int) by omega), if_pos (show ((a + 1 : Nat) : Int) ≤ ((a + 1 + (rd l (a : Int)).toNat : Nat) : Int) by omega), if_pos (show ((a + 1 + (rd l (a : Int)).toNat : Nat) : Int) ≤ (l.length : Int) by omega), Int.toNat_natCast]
    exact ih (i + 1) (by omega) _ _ (by omega) (by simp; omega)
theorem implNums (l : List Int) (hu : U8s l) (hl : l.length ≤ 4000) (kd : Int) (C : Nat) (hC : C ≤ 24) : ∀ (n i : Nat), i + n = C → ∀ (a : Nat) (acc : List Int), a ≤ l.length → acc.length ≤ i →
    Ev (fun k => impl_decode.l0 k l a C i kd acc) (finN l kd (numsM l n a acc)) := by
  intro n
  induction n with
  | zero =>
    intro i hi a acc ha hacc
    refine EvS ?_
    have : i = C := by omega
    subst this
    simp only [impl_decode.l0, Int.lt_irrefl, if_false, numsM, finN]
    by_cases h1 : l.length ≤ a
    · simp only [if_pos (show (a : Int) ≥ (l.length : Int) by omega), if_pos h1]; exact EvN
    have hb := rdb hu a (by omega)
    have e1 : wrap64 (rd l (a : Int)) = ((rd l (a : Int)).toNat : Int) := by rw [w64 (by omega) (by omega)]; omega
    have e3 : wrap64 ((a : Int) + 1) = ((a + 1 : Nat) : Int) := by rw [w64 (by omega) (by omega)]; omega
    simp only [if_neg (show ¬ (a : Int) ≥ (l.length : Int) by omega), if_neg h1, if_pos (show 0 ≤ (a : Int) by omega), if_pos (show (a : Int) < (l.length : Int) by omega), e1, e3]
    exact implWords l hu hl kd acc _ (by omega) _ 0 (by omega) _ [] (by omega) (by simp)
  | succ n ih =>
    intro i hi a acc ha hacc
    refine EvS ?_
    have e5 : ((i : Int) + 1) % 256 = ((i + 1 : Nat) : Int) := by omega
    have hS : (acc.length < 17592186044416) = True := eq_true (lt9 _ (show acc.length ≤ 255 by omega))
    simp only [impl_decode.l0, if_pos (show (i : Int) < (C : Int) by omega), EvB (impl_getV l a hu hl ha), numsM]
    cases hq : gv 0 (l.drop a) with
    | none => simp only [tell, Bool.false_eq_true, if_false, finN]; exact EvN
    | some p =>
      have hp := gv_len _ _ _ hq
      rw [List.length_drop] at hp
      obtain ⟨v, m⟩ := p
      simp only [tell, if_true, hS, e5]
      have := ih (i + 1) (by omega) (a + m) (acc ++ [v]) (by simp only at hp; omega) (by simp; omega)
      rw [show ((a + m : Nat) : Int) = (a : Int) + (m : Int) by omega] at this
      exact this
theorem impl_dec (l : List Int) (hu : U8s l) : Ev (fun k => impl_decode.f k l) (decM l) := by
  have J1 : Ev (fun k => impl_decode.j0 k l true) noRec := EvS (by simp only [impl_decode.j0, if_true]; exact EvN)
  unfold impl_decode.f decM
  by_cases h1 : (l.length : Int) < 3
  · simp only [if_pos h1, if_pos (show l.length < 3 ∨ 4000 < l.length ∨ rd l 1 > 24 by omega)]; exact J1
  by_cases h2 : (l.length : Int) > 4000
  · simp only [if_neg h1, if_pos h2, if_pos (show l.length < 3 ∨ 4000 < l.length ∨ rd l 1 > 24 by omega)]; exact J1
  have hb := rdb hu 1 (by omega)
  have hb0 := rdb hu 0 (by omega)
  have c1 : ((1 : Nat) : Int) = 1 := rfl
  have c0 : ((0 : Nat) : Int) = 0 := rfl
  rw [c1] at hb
  rw [c0] at hb0
  have e0 : wrap64 (rd l 0) = rd l 0 := w64 (by omega) (by omega)
  simp only [if_neg h1, if_neg h2, if_pos (show (1 : Int) < (l.length : Int) by omega)]
  by_cases h3 : rd l 1 > 24
  · simp only [decide_eq_true h3, if_pos (show l.length < 3 ∨ 4000 < l.length ∨ rd l 1 > 24 by omega)]; exact J1
  simp only [decide_eq_false h3, if_neg (show ¬ (l.length < 3 ∨ 4000 < l.length ∨ rd l 1 > 24) by omega)]
  refine EvS ?_
  simp only [impl_decode.j0, Bool.false_eq_true, if_false, if_pos (show (0 : Int) < (l.length : Int) by omega), if_pos (show (1 : Int) < (l.length : Int) by omega), e0]
  have := implNums l hu (by omega) (rd l 0) (rd l 1).toNat (by omega) (rd l 1).toNat 0 (by omega) 2 [] (by omega) (by simp)
  rw [Int.toNat_of_nonneg hb.1] at this
  exact this
theorem finW_bd (l : List Int) (kd : Int) (ns : List Int) (o : Option (Nat × List ByteArray)) : (finW l kd ns o).2.1.length ≤ 24 ∧ (finW l kd ns o).2.2.1.length ≤ 6 := by
  have h0 : (noRec.2.1.length ≤ 24 ∧ noRec.2.2.1.length ≤ 6) := ⟨by simp [noRec], by simp [noRec]⟩
  cases o with
  | none => exact h0
  | some q =>
    obtain ⟨a, ws⟩ := q
    simp only [finW]
    by_cases h : a = l.length ∧ okRec kd ns ws = true
    · rw [if_pos h]
      have := okRec_bd h.2
      exact ⟨this.2.2.1, this.2.2.2⟩
    rw [if_neg h]; exact h0
theorem dec_bd (l : List Int) : (decM l).2.1.length ≤ 24 ∧ (decM l).2.2.1.length ≤ 6 := by
  have h0 : (noRec.2.1.length ≤ 24 ∧ noRec.2.2.1.length ≤ 6) := ⟨by simp [noRec], by simp [noRec]⟩
  unfold decM
  by_cases h : l.length < 3 ∨ 4000 < l.length ∨ rd l 1 > 24
  · rw [if_pos h]; exact h0
  rw [if_neg h]
  cases numsM l (rd l 1).toNat 2 [] with
  | none => exact h0
  | some p =>
    obtain ⟨a, ns⟩ := p
    simp only [finN]
    by_cases h2 : l.length ≤ a
    · rw [if_pos h2]; exact h0
    rw [if_neg h2]; exact finW_bd _ _ _ _
end Go.Proofs.Ytgdebfaoohjikaa.DE

namespace Go.Proofs.Ytgdebfaoohjikaa.F
open Go.RowKit Go.Proofs.YtgdebfaoohjikaaW.PrintWords Go.Proofs.YtgdebfaoohjikaaW.PrintWords.Kd Go.Proofs.YtgdebfaoohjikaaW.PrintMore.Kd Go.Proofs.YtgdebfaoohjikaaW.PrintLast Go.Proofs.YtgdebfaoohjikaaW.PrintMore
attribute [local go_sem] max2_int min2_int max_two min_two max_three min_three max_four min_four   -- for this text's walks alone
set_option linter.unusedVariables false
set_option linter.unusedSimpArgs false
end Go.Proofs.Ytgdebfaoohjikaa.F

namespace Go.Proofs.Ytgdebfaoohjikaa.DE
set_option linter.unusedVariables false
set_option linter.unusedSimpArgs false
open Go.RowKit Go.Proofs.Ytgdebfaoohjikaa.F Go.Proofs.Ytgdebfaoohjikaa.PK Go.Proofs.Ytgdebfaoohjikaa.VI Go.Proofs.YtgdebfaoohjikaaW.PrintWords Go.Proofs.YtgdebfaoohjikaaW.PrintLast Go.Proofs.YtgdebfaoohjikaaW.PrintMore
theorem gv_bd : ∀ (l : List Int) (k : Nat) (p : Int × Nat), U8s l → gv k l = some p → 0 ≤ p.1 ∧ 128 ^ k * (p.1 + 1) ≤ 18446744073709551616 := by
  intro l
  induction l with
  | nil => intro k p _ h; cases h
  | cons b r ih =>
    intro k p hu h
    have hb := hu b (by simp)
    unfold gv at h
    split at h
    · cases h
    rename_i h10
    split at h
    · cases h
    rename_i h9
    have hp := pow7_pos k
    split at h
    · rename_i h128
      cases hg : gv (k + 1) r with
      | none => rw [hg] at h; cases h
      | some q =>
        rw [hg] at h
        have e := Option.some.inj h
        have := ih _ _ (fun b hb => hu b (List.mem_cons_of_mem _ hb)) hg
        rw [← e]
        dsimp only
        refine ⟨by omega, ?_⟩
        refine Int.le_trans ?_ this.2
        rw [pow7, show (128 : Int) * 128 ^ k * (q.1 + 1) = 128 ^ k * (128 * (q.1 + 1)) by rw [Int.mul_comm 128, Int.mul_assoc]]
        exact Int.mul_le_mul_of_nonneg_left (by omega) (by omega)
    split at h
    · cases h
    have e := Option.some.inj h
    rw [← e]
    dsimp only
    refine ⟨hb.1, ?_⟩
    by_cases hk : k = 9
    · subst hk
      rw [p63]
      omega
    have h8 : (128 : Int) ^ k ≤ 128 ^ 8 := by exact_mod_cast Nat.pow_le_pow_right (by omega) (by omega)
    have p8 : (128 : Int) ^ 8 = 72057594037927936 := by decide
    have h3 : (128 : Int) ^ k * (b + 1) ≤ 72057594037927936 * 128 := Int.mul_le_mul (by omega) (by omega) (by omega) (by omega)
    omega
theorem gv_lt {l : List Int} {p : Int × Nat} (hu : U8s l) (h : gv 0 l = some p) : 0 ≤ p.1 ∧ p.1 < 18446744073709551616 := by
  have := gv_bd l 0 p hu h
  rw [Int.pow_zero, Int.one_mul] at this
  omega
theorem u8_drop {l : List Int} (hu : U8s l) (i : Nat) : U8s (l.drop i) := fun b hb => hu b (List.mem_of_mem_drop hb)
theorem u8_cut {l : List Int} (hu : U8s l) (i j : Nat) : U8s ((l.take i).drop j) := fun b hb => hu b (List.mem_of_mem_take (List.mem_of_mem_drop hb))
def noAll : List S42 × Bool := ([], false)
def allM (l : List Int) : Nat → Nat → List S42 → List S42 × Bool
  | 0, _, _ => noAll
  | f + 1, a, acc => if a < l.length then (match gv 0 (l.drop a) with
    | none => noAll
    | some p => if p.1 > (l.length : Int) - (a + p.2 : Nat) ∨ acc.length = 100 then noAll else
      if (decM ((l.take (a + p.2 + p.1.toNat)).drop (a + p.2))).2.2.2 = true then allM l f (a + p.2 + p.1.toNat) (acc ++ [(⟨(decM ((l.take (a + p.2 + p.1.toNat)).drop (a + p.2))).1, (decM ((l.take (a + p.2 + p.1.toNat)).drop (a + p.2))).2.1, (decM ((l.take (a + p.2 + p.1.toNat)).drop (a + p.2))).2.2.1⟩ : S42)]) else noAll) else (acc, true)
theorem lt100 (n : Nat) (h : n ≤ 100) : n < 2513169434916 := by omega
theorem implAll (l : List Int) (hu : U8s l) (hl : l.length ≤ 4000) : ∀ (f a : Nat) (acc : List S42), a ≤ l.length → l.length - a < f → acc.length ≤ 100 → Ev (fun k => impl_DecodeAll.l0 k l acc a) (allM l f a acc) := by
  intro f
  induction f with
  | zero => intro a acc _ h; omega
  | succ f ih =>
    intro a acc ha hf hacc
    refine EvS ?_
    unfold allM
    by_cases h : a < l.length
    · rw [if_pos h]
      simp only [impl_DecodeAll.l0, if_pos (show (a : Int) < (l.length : Int) by omega)]
      have hg := impl_getV l a hu hl ha
      simp only [EvB hg]
      cases hq : gv 0 (l.drop a) with
      | none =>
        simp only [tell, Bool.false_eq_true, if_false]
        refine EvS ?_
        simp only [impl_DecodeAll.j1, if_true]
        exact EvN
      | some p =>
        have hp := gv_len _ _ _ hq
        have hv := gv_lt (u8_drop hu a) hq
        rw [List.length_drop] at hp
        obtain ⟨v, m⟩ := p
        simp only at hp hv
        have e1 : IntKind.u64.wrap (wrap64 ((l.length : Int) - ((a : Int) + (m : Int)))) = (l.length : Int) - (a + m : Nat) := by rw [w64 (by omega) (by omega), wu64 (by omega) (by omega)]; omega
        simp only [tell, if_true, e1]
        by_cases h1 : v > (l.length : Int) - (a + m : Nat)
        · simp only [if_pos h1, h1, true_or, if_true]
          refine EvS ?_
          simp only [impl_DecodeAll.j1, if_true]
          exact EvN
        simp only [if_neg h1, h1, false_or]
        by_cases h2 : acc.length = 100
        · simp only [h2, if_true]
          refine EvS ?_
          simp only [impl_DecodeAll.j1, show (((100 : Nat) : Int) == 100) = true from rfl, if_true]
          exact EvN
        have h2b : ((acc.length : Int) == 100) = false := by rw [beq_eq_false_iff_ne]; omega
        simp only [h2, if_false, h2b]
        refine EvS ?_
        have e2 : wrap64 v = v := w64 (by omega) (by omega)
        have e3 : wrap64 (((a : Int) + (m : Int)) + v) = ((a + m + v.toNat : Nat) : Int) := by rw [w64 (by omega) (by omega)]; omega
        have e4 : (a : Int) + (m : Int) = ((a + m : Nat) : Int) := by omega
        simp only [impl_DecodeAll.j1, Bool.false_eq_true, if_false, e2, e3, if_pos (show 0 ≤ (a : Int) + (m : Int) by omega), if_pos (show (a : Int) + (m : Int) ≤ ((a + m + v.toNat : Nat) : Int) by omega), if_pos (show ((a + m + v.toNat : Nat) : Int) ≤ (l.length : Int) by omega)]
        simp only [e4, Int.toNat_natCast]
        simp only [EvB (impl_dec _ (u8_cut hu (a + m + v.toNat) (a + m)))]
        generalize decM ((l.take (a + m + v.toNat)).drop (a + m)) = r
        by_cases h3 : r.2.2.2 = true
        · have hS : (acc.length < 2513169434916) = True := eq_true (lt100 _ hacc)
          simp only [if_pos h3, hS, if_true]
          exact ih _ _ (by omega) (by omega) (by simp; omega)
        simp only [if_neg h3]
        exact EvN
    rw [if_neg h]
    simp only [impl_DecodeAll.l0, if_neg (show ¬ (a : Int) < (l.length : Int) by omega)]
    exact EvN
def decAllM (l : List Int) : List S42 × Bool := if l.length > 4000 then noAll else allM l (l.length + 1) 0 []
theorem impl_decAll (l : List Int) (hu : U8s l) : Ev (fun k => impl_DecodeAll.f k l) (decAllM l) := by
  unfold impl_DecodeAll.f decAllM
  by_cases h : l.length > 4000
  · simp only [if_pos (show (l.length : Int) > 4000 by omega), if_pos h]
    exact EvN
  simp only [if_neg (show ¬ (l.length : Int) > 4000 by omega), if_neg h]
  exact implAll l hu (by omega) _ 0 [] (by omega) (by omega) (by simp)
end Go.Proofs.Ytgdebfaoohjikaa.DE

namespace Go.Proofs.Ytgdebfaoohjikaa.F
open Go.RowKit Go.Proofs.YtgdebfaoohjikaaW.PrintWords Go.Proofs.YtgdebfaoohjikaaW.PrintWords.Kd Go.Proofs.YtgdebfaoohjikaaW.PrintMore.Kd Go.Proofs.YtgdebfaoohjikaaW.PrintLast Go.Proofs.YtgdebfaoohjikaaW.PrintMore
attribute [local go_sem] max2_int min2_int max_two min_two max_three min_three max_four min_four   -- for this text's walks alone
set_option linter.unusedVariables false
set_option linter.unusedSimpArgs false
end Go.Proofs.Ytgdebfaoohjikaa.F

namespace Go.Proofs.Ytgdebfaoohjikaa.F
open Go.RowKit Go.Proofs.YtgdebfaoohjikaaW.PrintWords Go.Proofs.YtgdebfaoohjikaaW.PrintLast Go.Proofs.YtgdebfaoohjikaaW.PrintMore
set_option linter.unusedVariables false
set_option linter.unusedSimpArgs false
def convB.f (s : ByteArray) : Option (List Int) := if s.size ≤ 9223372036854775807 then some (bytesOf s) else none
section
variable {P : Program} {ops : Array Oper} {rest : List Oper} {o : Oper} {a : Act} {Q : Exit → Act → World → Prop}
end
end Go.Proofs.Ytgdebfaoohjikaa.F

namespace Go.Proofs.Ytgdebfaoohjikaa.F
open Go.RowKit Go.Proofs.YtgdebfaoohjikaaW.PrintWords Go.Proofs.YtgdebfaoohjikaaW.PrintWords.Kd Go.Proofs.YtgdebfaoohjikaaW.PrintMore.Kd Go.Proofs.YtgdebfaoohjikaaW.PrintLast Go.Proofs.YtgdebfaoohjikaaW.PrintMore
attribute [local go_sem] max2_int min2_int max_two min_two max_three min_three max_four min_four   -- for this text's walks alone
set_option linter.unusedVariables false
set_option linter.unusedSimpArgs false
end Go.Proofs.Ytgdebfaoohjikaa.F

namespace Go.Proofs.Ytgdebfaoohjikaa.EN
set_option linter.unusedVariables false
set_option linter.unusedSimpArgs false
open Go.RowKit Go.Proofs.Ytgdebfaoohjikaa.F Go.Proofs.Ytgdebfaoohjikaa.PK Go.Proofs.Ytgdebfaoohjikaa.VI Go.Proofs.YtgdebfaoohjikaaW.PrintWords Go.Proofs.YtgdebfaoohjikaaW.PrintLast Go.Proofs.YtgdebfaoohjikaaW.PrintMore
open Go.Proofs.Ytgdebfaoohjikaa.KR (okRec longM okRec_bd impl_rec rs_at)
open Go.Proofs.Ytgdebfaoohjikaa.BY (rd_at nxt)
theorem lt47 (n : Nat) (h : n ≤ 2000000000) : n < 140737488355328 := by omega
theorem lt47b (n m : Nat) (h : n ≤ 1000000000) (h' : m ≤ 1000000000) : n + m < 140737488355328 := by omega
def numsB (n : List Int) : List Int := n.flatMap (pv 9)
def wordsB (w : List ByteArray) : List Int := w.flatMap fun s => ((s.size : Int) % 256) :: bytesOf s
def bodyB (a : Int) (n : List Int) (w : List ByteArray) : List Int := [a % 256, (n.length : Int) % 256] ++ (numsB n ++ (((w.length : Int) % 256) :: wordsB w))
def encM (a : Int) (n : List Int) (w : List ByteArray) : List Int := if okRec a n w = true then bodyB a n w else []
theorem short_of {w : List ByteArray} (h : longM w = false) : ∀ s ∈ w, s.size ≤ 40 := fun s hs => by
  unfold longM at h
  rw [List.any_eq_false] at h
  have := h s hs
  simp only [decide_eq_true_eq] at this
  omega
theorem ok_short {a : Int} {n : List Int} {w : List ByteArray} (h : okRec a n w = true) : ∀ s ∈ w, s.size ≤ 40 := by
  simp only [okRec, Bool.and_eq_true, Bool.not_eq_true'] at h
  exact short_of h.2
theorem numsB_le (n : List Int) : (numsB n).length ≤ 10 * n.length := by
  induction n with
  | nil => simp [numsB]
  | cons x n ih =>
    have := pv_le 9 x
    unfold numsB at *
    rw [List.flatMap_cons, List.length_append, List.length_cons]
    omega
theorem wordsB_le (w : List ByteArray) (hw : ∀ s ∈ w, s.size ≤ 40) : (wordsB w).length ≤ 41 * w.length := by
  induction w with
  | nil => simp [wordsB]
  | cons x n ih =>
    have := hw x (by simp)
    have := ih (fun s hs => hw s (List.mem_cons_of_mem _ hs))
    unfold wordsB at *
    rw [List.flatMap_cons, List.length_append, List.length_cons, List.length_cons, bytesOf_length]
    omega
theorem enc_le (a : Int) (n : List Int) (w : List ByteArray) : (encM a n w).length ≤ 489 := by
  unfold encM
  by_cases h : okRec a n w = true
  · rw [if_pos h]
    have h1 := okRec_bd h
    have h2 := numsB_le n
    have h3 := wordsB_le w (ok_short h)
    simp only [bodyB, List.length_append, List.length_cons, List.length_nil]
    omega
  rw [if_neg h]; simp
theorem implW (w : List ByteArray) (hl : w.length ≤ 6) (hw : ∀ s ∈ w, s.size ≤ 40) : ∀ i : Nat, i ≤ w.length → ∀ acc : List Int, acc.length ≤ 1000 + 41 * i → Ev (fun k => impl_encode.l1 k acc w (w.length : Int) i) (acc ++ wordsB (w.drop i)) := by
  intro i hi
  obtain ⟨d, hd⟩ : ∃ d, d + i = w.length := ⟨w.length - i, by omega⟩
  induction d generalizing i with
  | zero =>
    intro acc _
    have : i = w.length := by omega
    subst this
    refine EvS ?_
    simp only [impl_encode.l1, Int.lt_irrefl, if_false, List.drop_length, wordsB, List.flatMap_nil, List.append_nil]
    exact EvN
  | succ d ih =>
    intro acc hacc
    have hil : i < w.length := by omega
    have hs := hw _ (List.getElem_mem hil)
    refine EvS ?_
    have hb := bytesOf_length w[i]
    have h2 : (acc ++ [((w[i].size : Int)) % 256]).length ≤ 1000000000 := by rw [List.length_append, List.length_singleton]; omega
    simp only [impl_encode.l1, if_pos (show (i : Int) < (w.length : Int) by omega), if_pos (show 0 ≤ (i : Int) by omega), if_pos (lt47 acc.length (by omega)), rs_at w i hil, Option.bind_some, if_pos (lt47b _ w[i].size h2 (by omega)), nxt i _ hil (by omega)]
    have := ih (i + 1) (by omega) (by omega) (acc ++ [((w[i].size : Int)) % 256] ++ bytesOf w[i]) (by simp only [List.length_append, List.length_singleton]; omega)
    rw [drop_at w i hil]
    unfold wordsB at this ⊢
    rw [List.flatMap_cons]
    simpa using this
theorem implN (a : Int) (n : List Int) (w : List ByteArray) (hn : n.length ≤ 24) (hu : ∀ y ∈ n, 0 ≤ y ∧ y < 18446744073709551616) (hl : w.length ≤ 6) (hw : ∀ s ∈ w, s.size ≤ 40) : ∀ i : Nat, i ≤ n.length → ∀ acc : List Int, acc.length ≤ 2 + 10 * i → Ev (fun k => impl_encode.l0 k acc n (n.length : Int) i a n w) (acc ++ (numsB (n.drop i) ++ (((w.length : Int) % 256) :: wordsB w))) := by
  intro i hi
  obtain ⟨d, hd⟩ : ∃ d, d + i = n.length := ⟨n.length - i, by omega⟩
  induction d generalizing i with
  | zero =>
    intro acc hacc
    have : i = n.length := by omega
    subst this
    refine EvS ?_
    simp only [impl_encode.l0, Int.lt_irrefl, if_false, List.drop_length, numsB, List.flatMap_nil, List.nil_append, if_pos (lt47 acc.length (by omega))]
    have := implW w hl hw 0 (by omega) (acc ++ [((w.length : Int)) % 256]) (by simp only [List.length_append, List.length_singleton]; omega)
    simpa using this
  | succ d ih =>
    intro acc hacc
    have hil : i < n.length := by omega
    have hs := hu _ (List.getElem_mem hil)
    have hp := pv_le 9 n[i]
    refine EvS ?_
    simp only [impl_encode.l0, if_pos (show (i : Int) < (n.length : Int) by omega), if_pos (show 0 ≤ (i : Int) by omega), rd_at n i hil, EvB (impl_putV n[i] hs.1 hs.2), if_pos (lt47b acc.length (pv 9 n[i]).length (by omega) (by omega)), nxt i _ hil (by omega)]
    have := ih (i + 1) (by omega) (by omega) (acc ++ pv 9 n[i]) (by simp only [List.length_append]; omega)
    rw [drop_at n i hil]
    unfold numsB at this ⊢
    rw [List.flatMap_cons]
    simpa using this
theorem impl_encB (a : Int) (n : List Int) (w : List ByteArray) (hu : ∀ y ∈ n, 0 ≤ y ∧ y < 18446744073709551616) (h : okRec a n w = true) : Ev (fun k => impl_encode.f k a n w) (bodyB a n w) := by
  unfold impl_encode.f
  have hb := okRec_bd h
  exact implN a n w hb.2.2.1 hu hb.2.2.2 (ok_short h) 0 (by omega) [a % 256, (n.length : Int) % 256] (by simp)
theorem impl_enc (a : Int) (n : List Int) (w : List ByteArray) (hu : ∀ y ∈ n, 0 ≤ y ∧ y < 18446744073709551616) (hl : w.length ≤ 9223372036854775807) : Ev (fun k => impl_Encode.f k a n w) (encM a n w) := by
  unfold impl_Encode.f encM
  simp only [impl_rec a n w hl, Option.bind_some]
  by_cases h : okRec a n w = true
  · simp only [if_pos h, EvB (impl_encB a n w hu h)]
    exact EvN
  simp only [if_neg h]; exact EvN
end Go.Proofs.Ytgdebfaoohjikaa.EN

namespace Go.Proofs.Ytgdebfaoohjikaa.F
open Go.RowKit Go.Proofs.YtgdebfaoohjikaaW.PrintWords Go.Proofs.YtgdebfaoohjikaaW.PrintWords.Kd Go.Proofs.YtgdebfaoohjikaaW.PrintMore.Kd Go.Proofs.YtgdebfaoohjikaaW.PrintLast Go.Proofs.YtgdebfaoohjikaaW.PrintMore
attribute [local go_sem] max2_int min2_int max_two min_two max_three min_three max_four min_four   -- for this text's walks alone
set_option linter.unusedVariables false
set_option linter.unusedSimpArgs false
end Go.Proofs.Ytgdebfaoohjikaa.F

namespace Go.Proofs.Ytgdebfaoohjikaa.MT
set_option linter.unusedVariables false
set_option linter.unusedSimpArgs false
open Go.RowKit Go.Proofs.Ytgdebfaoohjikaa.F Go.Proofs.Ytgdebfaoohjikaa.PK Go.Proofs.YtgdebfaoohjikaaW.PrintWords Go.Proofs.YtgdebfaoohjikaaW.PrintLast
end Go.Proofs.Ytgdebfaoohjikaa.MT

namespace Go.Proofs.Ytgdebfaoohjikaa.F
open Go.RowKit Go.Proofs.YtgdebfaoohjikaaW.PrintWords Go.Proofs.YtgdebfaoohjikaaW.PrintWords.Kd Go.Proofs.YtgdebfaoohjikaaW.PrintMore.Kd Go.Proofs.YtgdebfaoohjikaaW.PrintLast Go.Proofs.YtgdebfaoohjikaaW.PrintMore
attribute [local go_sem] max2_int min2_int max_two min_two max_three min_three max_four min_four   -- for this text's walks alone
set_option linter.unusedVariables false
set_option linter.unusedSimpArgs false
end Go.Proofs.Ytgdebfaoohjikaa.F
