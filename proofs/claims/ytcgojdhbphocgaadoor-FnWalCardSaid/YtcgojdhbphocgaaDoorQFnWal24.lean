/- Merged texts below the law FnWal: Go functions as Lean functions, their contracts, and plain lemmas. -/
import Derived.Test.YtcgojdhbphocgaaDoorQFnWal14
import Derived.Test.YtcgojdhbphocgaaDoorQFnWal23
import Derived.BigQuiet
namespace Go.Proofs.YtcgojdhbphocgaaDoor.F
open Go.Proofs.YtcgojdhbphocgaaDoor
open Go.RowKit Go.Proofs.YtcgojdhbphocgaaDoorW.PrintWords Go.Proofs.YtcgojdhbphocgaaDoorW.PrintWords.Kd Go.Proofs.YtcgojdhbphocgaaDoorW.PrintMore.Kd Go.Proofs.YtcgojdhbphocgaaDoorW.PrintLast Go.Proofs.YtcgojdhbphocgaaDoorW.PrintMore
attribute [local go_sem] max2_int min2_int max_two min_two max_three min_three max_four min_four   -- for this text's walks alone
set_option linter.unusedVariables false
set_option linter.unusedSimpArgs false
def impl_beginsFrame.j0 : Nat → List Int → Int → Bool → Option (Bool)
 | 0, _, _, _ => none
 | k + 1, x0, x3, x41 => if x41 = true then (some false) else (if 8 ≤ (wrap64 (8 + x3)) then (if (wrap64 (8 + x3)) ≤ (x0.length : Int) then ((impl_frame.f k ((x0.take ((wrap64 (8 + x3)) : Int).toNat).drop 8)).bind fun t400 => (if 0 ≤ (wrap64 (8 + x3)) then ((bytes_Equal.f t400 (x0.take ((wrap64 (8 + x3)) : Int).toNat)).bind fun t404 => (some t404)) else (none))) else (none)) else (none))
def impl_beginsFrame.f (k : Nat) (l0 : List Int) : Option (Bool) := if (l0.length : Int) < 8 then (some false) else (if 0 < (l0.length : Int) then (if 1 < (l0.length : Int) then (if 2 < (l0.length : Int) then (if (rd l0 2) = 0 then (if 3 < (l0.length : Int) then (if (rd l0 3) = 0 then (if (Go.bits .or .i64 (wrap64 (rd l0 0)) (wrap64 ((wrap64 (rd l0 1)) * 256))) < 1 then (impl_beginsFrame.j0 k l0 (Go.bits .or .i64 (wrap64 (rd l0 0)) (wrap64 ((wrap64 (rd l0 1)) * 256))) true) else (if (Go.bits .or .i64 (wrap64 (rd l0 0)) (wrap64 ((wrap64 (rd l0 1)) * 256))) > 600 then (impl_beginsFrame.j0 k l0 (Go.bits .or .i64 (wrap64 (rd l0 0)) (wrap64 ((wrap64 (rd l0 1)) * 256))) true) else (impl_beginsFrame.j0 k l0 (Go.bits .or .i64 (wrap64 (rd l0 0)) (wrap64 ((wrap64 (rd l0 1)) * 256))) (decide ((l0.length : Int) < (wrap64 (8 + (Go.bits .or .i64 (wrap64 (rd l0 0)) (wrap64 ((wrap64 (rd l0 1)) * 256)))))))))) else (impl_beginsFrame.j0 k l0 (Go.bits .or .i64 (wrap64 (rd l0 0)) (wrap64 ((wrap64 (rd l0 1)) * 256))) true)) else (none)) else (impl_beginsFrame.j0 k l0 (Go.bits .or .i64 (wrap64 (rd l0 0)) (wrap64 ((wrap64 (rd l0 1)) * 256))) true)) else (none)) else (none)) else (none))
def impl_beginsFrame.T3 : Bool × List (List Nat × List Nat) := (true, [([], []), ([0], [0]), ([1], [1]), ([2], [2]), ([], []), ([4], [4]), ([5], [5]), ([6], [6]), ([7], [7]), ([3, 8], [3, 8]), ([9, 0, 1, 2, 3, 4, 5, 6, 7, 8, 9], [9])])
def impl_beginsFrame.B3 : List Nat := [0, 1, 3, 7, 0, 16, 48, 112, 240, 511, 1023]
theorem impl_beginsFrame.tab3 : rtab .any (opsOf Tryd.f82 3) = impl_beginsFrame.T3 := by kernel_rfl
theorem impl_beginsFrame.bits3 : waitsOk impl_beginsFrame.T3.2 impl_beginsFrame.B3 = true := by kernel_rfl
def impl_beginsFrame.T6 : Bool × List (List Nat × List Nat) := (true, [([], []), ([], []), ([1], [1]), ([0, 2], [0, 2]), ([3], [3]), ([], []), ([], []), ([6], [6]), ([5, 7], [5, 7]), ([4, 8, 4], [4, 8]), ([9, 9, 0, 1, 2, 3, 4, 5, 6, 7, 8, 9], [9])])
def impl_beginsFrame.B6 : List Nat := [0, 0, 2, 7, 15, 0, 0, 64, 224, 511, 1023]
theorem impl_beginsFrame.tab6 : rtab .any (opsOf Tryd.f82 6) = impl_beginsFrame.T6 := by kernel_rfl
theorem impl_beginsFrame.bits6 : waitsOk impl_beginsFrame.T6.2 impl_beginsFrame.B6 = true := by kernel_rfl
set_option maxHeartbeats 8000000 in
set_option maxRecDepth 100000 in
theorem impl_beginsFrame.calls (k : Nat) (A0 : Option Addr) (c0 : Nat) (l0 : List Int) (r : Bool) (w : World) (hr0 : Kd.C (Kd.int .u8) w A0 l0.length l0) (hc0 : l0.length ≤ c0) (h : impl_beginsFrame.f k l0 = some r) :
  Calls Tryd.prog 82 #[.slice A0 l0.length c0] w fun e w' => e = .returned (.bool r) ∧ Below w.heap.size w w' := by
 have HR0 := Zh hr0
 have HC0 := Zh hc0
 clear hr0 hc0
 have HB := Zh (Below.refl w.heap.size w)
 have H : (if (l0.length : Int) < 8 then (some false) else (if 0 < (l0.length : Int) then (if 1 < (l0.length : Int) then (if 2 < (l0.length : Int) then (if (rd l0 2) = 0 then (if 3 < (l0.length : Int) then (if (rd l0 3) = 0 then (if (Go.bits .or .i64 (wrap64 (rd l0 0)) (wrap64 ((wrap64 (rd l0 1)) * 256))) < 1 then (impl_beginsFrame.j0 k l0 (Go.bits .or .i64 (wrap64 (rd l0 0)) (wrap64 ((wrap64 (rd l0 1)) * 256))) true) else (if (Go.bits .or .i64 (wrap64 (rd l0 0)) (wrap64 ((wrap64 (rd l0 1)) * 256))) > 600 then (impl_beginsFrame.j0 k l0 (Go.bits .or .i64 (wrap64 (rd l0 0)) (wrap64 ((wrap64 (rd l0 1)) * 256))) true) else (impl_beginsFrame.j0 k l0 (Go.bits .or .i64 (wrap64 (rd l0 0)) (wrap64 ((wrap64 (rd l0 1)) * 256))) (decide ((l0.length : Int) < (wrap64 (8 + (Go.bits .or .i64 (wrap64 (rd l0 0)) (wrap64 ((wrap64 (rd l0 1)) * 256)))))))))) else (impl_beginsFrame.j0 k l0 (Go.bits .or .i64 (wrap64 (rd l0 0)) (wrap64 ((wrap64 (rd l0 1)) * 256))) true)) else (none)) else (impl_beginsFrame.j0 k l0 (Go.bits .or .i64 (wrap64 (rd l0 0)) (wrap64 ((wrap64 (rd l0 1)) * 256))) true)) else (none)) else (none)) else (none))) = some r := h
 clear h
 by_cases c2 : (l0.length : Int) < 8
 ·
  rw [if_pos c2] at H
  have c2b0 : decide ((l0.length : Int) < 8) = true := decide_eq_true c2
  have c2b1 : decide (l0.length < 8) = true := decide_eq_true (by omega)
  clear c2
  obtain rfl := Option.some.inj H
  go_enter Tryd.func82, Tryd.ntmps82
  go_wp2
  go_ret
  exact ⟨ZE, Zs⟩
 rw [if_neg c2] at H
 have c2b0 : decide ((l0.length : Int) < 8) = false := decide_eq_false c2
 have c2b1 : decide (l0.length < 8) = false := decide_eq_false (by omega)
 clear c2
 by_cases c3 : 0 < (l0.length : Int)
 ·
  rw [if_pos c3] at H
  have c3b0 : decide (0 < (l0.length : Int)) = true := decide_eq_true c3
  have c3b1 : decide (0 < l0.length) = true := decide_eq_true (by omega)
  clear c3
  by_cases c4 : 1 < (l0.length : Int)
  ·
   rw [if_pos c4] at H
   have c4b0 : decide (1 < (l0.length : Int)) = true := decide_eq_true c4
   have c4b1 : decide (1 < l0.length) = true := decide_eq_true (by omega)
   clear c4
   have HC5 := Zh H
   clear H
   go_enter Tryd.func82, Tryd.ntmps82
   try go_wp2
   replace HB := Zh (Ze HB.out)
   have p395 : 0 ≤ (0 : Int) := (by omega)
   have q395 : 0 < (l0.length : Int) := Zo
   obtain ⟨ad395, e395, hx395_0⟩ := Kd.at_int HR0.out 0 p395 q395
   have hw395_0 := hx395_0
   (try rw [show ((0 : Int)).toNat = 0 from rfl] at hw395_0)
   (try rw [show 0 * 1 = 0 from rfl] at hw395_0)
   (try rw [Addr.add_zero'] at hw395_0)
   cases e395
   have qi395 : (0 < l0.length) = True := eq_true (by omega)
   (try rw [show ((0 : Int)).toNat = 0 from rfl] at hx395_0)
   (try rw [Addr.add_zero'] at hx395_0)
   replace hx395_0 := Zc HB.out hx395_0
   replace p395 := eq_true p395
   replace q395 := eq_true q395
   have p396 : 0 ≤ (1 : Int) := (by omega)
   have q396 : 1 < (l0.length : Int) := Zo
   obtain ⟨ad396, e396, hx396_0⟩ := Kd.at_int HR0.out 1 p396 q396
   have hw396_0 := hx396_0
   (try rw [show ((1 : Int)).toNat = 1 from rfl] at hw396_0)
   (try rw [show 1 * 1 = 1 from rfl] at hw396_0)
   (try simp only [Nat.reduceMul, Nat.reduceEqDiff, Go.Addr.add, ↓reduceIte] at hw396_0)
   obtain rfl : ad395 = ad396 := (by injection e396)
   (try simp only [show (1 : Int).toNat = 1 from rfl, Nat.reduceMul, Nat.reduceEqDiff, Go.Addr.add, ↓reduceIte] at hx396_0)
   have qi396 : (1 < l0.length) = True := eq_true (by omega)
   (try rw [show ((1 : Int)).toNat = 1 from rfl] at hx396_0)
   replace hx396_0 := Zc HB.out hx396_0
   replace p396 := eq_true p396
   replace q396 := eq_true q396
   refine start_ (n := 11) (S := fun w' => w'.cell? ad395 = some (.int .u8 (rd l0 0)) ∧ w'.cell? ⟨ad395.block, ad395.off + 1, none⟩ = some (.int .u8 (rd l0 1))) (ds := []) #[false, false, false, false, false, false, false, false, false, false, false] (by kernel_rfl) rfl rfl ⟨((HB.out.cell (Zi w _ hw395_0)).trans hw395_0), ((HB.out.cell (Zi w _ hw396_0)).trans hw396_0)⟩ (fun hHeld => ?_); refine with_tabW impl_beginsFrame.tab3 impl_beginsFrame.bits3 (fun HT_ HW_ => ?_)
   generalize w.drew = w6 at HB hx395_0 hx396_0 hHeld ⊢
   refine SQ.pu 0 7 HT_ ?_
   refine SQ.pu 1 8 HT_ ?_
   refine SQ.pu 4 11 HT_ ?_
   refine SQ.pu 5 12 HT_ ?_
   refine SQ.tk 2 9 HT_ HW_ hHeld ?_
   refine SQ.pu 3 10 HT_ ?_
   refine SQ.tk 6 13 HT_ HW_ hHeld ?_
   refine SQ.pu 7 14 HT_ ?_
   refine SQ.pu 8 15 HT_ ?_
   refine SQ.pu 9 16 HT_ ?_
   refine SQ.pu 10 3 HT_ ?_
   refine done_ (done_of HT_.out (by kernel_rfl)) ?_
   go_upto_region 4 with (fail)
   go_cut [41] (fun v41 wc => ∃ (kq : Nat) (x41_4 : Bool), v41 = .bool x41_4 ∧ Aside0 (impl_beginsFrame.j0 kq l0 (Go.bits .or .i64 (wrap64 (rd l0 0)) (wrap64 ((wrap64 (rd l0 1)) * 256))) x41_4 = some r) ∧ Aside0 (kq ≤ k) ∧ Aside0 (Below w.heap.size w wc))
   case first =>
    have H := HC5.out
    clear HC5
    by_cases c7 : 2 < (l0.length : Int)
    ·
     rw [if_pos c7] at H
     have c7b0 : decide (2 < (l0.length : Int)) = true := decide_eq_true c7
     have c7b1 : decide (2 < l0.length) = true := decide_eq_true (by omega)
     clear c7
     (first | rw [c7b0] | (simp only [i64_w, i32_w]; rw [c7b0]) | skip)
     by_cases c8 : (rd l0 2) = 0
     ·
      rw [if_pos c8] at H
      have c8b0 : ((rd l0 2) == 0) = true := beq_iff_eq.mpr c8
      have c8b1 : ((rd l0 2) != 0) = false := bne_eq_false_iff_eq.mpr c8
      clear c8
      by_cases c9 : 3 < (l0.length : Int)
      ·
       rw [if_pos c9] at H
       have c9b0 : decide (3 < (l0.length : Int)) = true := decide_eq_true c9
       have c9b1 : decide (3 < l0.length) = true := decide_eq_true (by omega)
       clear c9
       by_cases c10 : (rd l0 3) = 0
       ·
        rw [if_pos c10] at H
        have c10b0 : ((rd l0 3) == 0) = true := beq_iff_eq.mpr c10
        have c10b1 : ((rd l0 3) != 0) = false := bne_eq_false_iff_eq.mpr c10
        clear c10
        by_cases c11 : (Go.bits .or .i64 (wrap64 (rd l0 0)) (wrap64 ((wrap64 (rd l0 1)) * 256))) < 1
        ·
         rw [if_pos c11] at H
         have c11b0 : decide ((Go.bits .or .i64 (wrap64 (rd l0 0)) (wrap64 ((wrap64 (rd l0 1)) * 256))) < 1) = true := decide_eq_true c11
         clear c11
         have H' := Zh H
         clear H
         have p397 : 0 ≤ (2 : Int) := (by omega)
         have q397 : 2 < (l0.length : Int) := Zo
         obtain ⟨ad397, e397, hx397_0⟩ := Kd.at_int HR0.out 2 p397 q397
         obtain rfl : ad395 = ad397 := (by injection e397)
         (try simp only [show (2 : Int).toNat = 2 from rfl, Nat.reduceMul, Nat.reduceEqDiff, Go.Addr.add, ↓reduceIte] at hx397_0)
         have qi397 : (2 < l0.length) = True := eq_true (by omega)
         (try rw [show ((2 : Int)).toNat = 2 from rfl] at hx397_0)
         replace hx397_0 := Zc HB.out hx397_0
         replace p397 := eq_true p397
         replace q397 := eq_true q397
         have p398 : 0 ≤ (3 : Int) := (by omega)
         have q398 : 3 < (l0.length : Int) := Zo
         obtain ⟨ad398, e398, hx398_0⟩ := Kd.at_int HR0.out 3 p398 q398
         obtain rfl : ad395 = ad398 := (by injection e398)
         (try simp only [show (3 : Int).toNat = 3 from rfl, Nat.reduceMul, Nat.reduceEqDiff, Go.Addr.add, ↓reduceIte] at hx398_0)
         have qi398 : (3 < l0.length) = True := eq_true (by omega)
         (try rw [show ((3 : Int)).toNat = 3 from rfl] at hx398_0)
         replace hx398_0 := Zc HB.out hx398_0
         replace p398 := eq_true p398
         replace q398 := eq_true q398
         go_wp2
         go_meet
         case rel => exact ⟨_, (true), (by first | rfl | (simp; done) | (simp [*]; done)), H', ⟨by first | omega | exact Nat.le_refl _⟩, ⟨Zs⟩⟩
        rw [if_neg c11] at H
        have c11b0 : decide ((Go.bits .or .i64 (wrap64 (rd l0 0)) (wrap64 ((wrap64 (rd l0 1)) * 256))) < 1) = false := decide_eq_false c11
        clear c11
        by_cases c12 : (Go.bits .or .i64 (wrap64 (rd l0 0)) (wrap64 ((wrap64 (rd l0 1)) * 256))) > 600
        ·
         rw [if_pos c12] at H
         have c12b0 : decide (600 < (Go.bits .or .i64 (wrap64 (rd l0 0)) (wrap64 ((wrap64 (rd l0 1)) * 256)))) = true := decide_eq_true c12
         clear c12
         have H' := Zh H
         clear H
         have p397 : 0 ≤ (2 : Int) := (by omega)
         have q397 : 2 < (l0.length : Int) := Zo
         obtain ⟨ad397, e397, hx397_0⟩ := Kd.at_int HR0.out 2 p397 q397
         obtain rfl : ad395 = ad397 := (by injection e397)
         (try simp only [show (2 : Int).toNat = 2 from rfl, Nat.reduceMul, Nat.reduceEqDiff, Go.Addr.add, ↓reduceIte] at hx397_0)
         have qi397 : (2 < l0.length) = True := eq_true (by omega)
         (try rw [show ((2 : Int)).toNat = 2 from rfl] at hx397_0)
         replace hx397_0 := Zc HB.out hx397_0
         replace p397 := eq_true p397
         replace q397 := eq_true q397
         have p398 : 0 ≤ (3 : Int) := (by omega)
         have q398 : 3 < (l0.length : Int) := Zo
         obtain ⟨ad398, e398, hx398_0⟩ := Kd.at_int HR0.out 3 p398 q398
         obtain rfl : ad395 = ad398 := (by injection e398)
         (try simp only [show (3 : Int).toNat = 3 from rfl, Nat.reduceMul, Nat.reduceEqDiff, Go.Addr.add, ↓reduceIte] at hx398_0)
         have qi398 : (3 < l0.length) = True := eq_true (by omega)
         (try rw [show ((3 : Int)).toNat = 3 from rfl] at hx398_0)
         replace hx398_0 := Zc HB.out hx398_0
         replace p398 := eq_true p398
         replace q398 := eq_true q398
         go_wp2
         go_meet
         case rel => exact ⟨_, (true), (by first | rfl | (simp; done) | (simp [*]; done)), H', ⟨by first | omega | exact Nat.le_refl _⟩, ⟨Zs⟩⟩
        rw [if_neg c12] at H
        have c12b0 : decide (600 < (Go.bits .or .i64 (wrap64 (rd l0 0)) (wrap64 ((wrap64 (rd l0 1)) * 256)))) = false := decide_eq_false c12
        clear c12
        have H' := Zh H
        clear H
        have p397 : 0 ≤ (2 : Int) := (by omega)
        have q397 : 2 < (l0.length : Int) := Zo
        obtain ⟨ad397, e397, hx397_0⟩ := Kd.at_int HR0.out 2 p397 q397
        obtain rfl : ad395 = ad397 := (by injection e397)
        (try simp only [show (2 : Int).toNat = 2 from rfl, Nat.reduceMul, Nat.reduceEqDiff, Go.Addr.add, ↓reduceIte] at hx397_0)
        have qi397 : (2 < l0.length) = True := eq_true (by omega)
        (try rw [show ((2 : Int)).toNat = 2 from rfl] at hx397_0)
        replace hx397_0 := Zc HB.out hx397_0
        replace p397 := eq_true p397
        replace q397 := eq_true q397
        have p398 : 0 ≤ (3 : Int) := (by omega)
        have q398 : 3 < (l0.length : Int) := Zo
        obtain ⟨ad398, e398, hx398_0⟩ := Kd.at_int HR0.out 3 p398 q398
        obtain rfl : ad395 = ad398 := (by injection e398)
        (try simp only [show (3 : Int).toNat = 3 from rfl, Nat.reduceMul, Nat.reduceEqDiff, Go.Addr.add, ↓reduceIte] at hx398_0)
        have qi398 : (3 < l0.length) = True := eq_true (by omega)
        (try rw [show ((3 : Int)).toNat = 3 from rfl] at hx398_0)
        replace hx398_0 := Zc HB.out hx398_0
        replace p398 := eq_true p398
        replace q398 := eq_true q398
        go_wp2
        go_meet
        case rel => exact ⟨_, (decide ((l0.length : Int) < (wrap64 (8 + (Go.bits .or .i64 (wrap64 (rd l0 0)) (wrap64 ((wrap64 (rd l0 1)) * 256))))))), (by first | rfl | (simp; done) | (simp [*]; done)), H', ⟨by first | omega | exact Nat.le_refl _⟩, ⟨Zs⟩⟩
       rw [if_neg c10] at H
       have c10b0 : ((rd l0 3) == 0) = false := beq_eq_false_iff_ne.mpr c10
       have c10b1 : ((rd l0 3) != 0) = true := bne_iff_ne.mpr c10
       have H' := Zh H
       clear H
       have p397 : 0 ≤ (2 : Int) := (by omega)
       have q397 : 2 < (l0.length : Int) := Zo
       obtain ⟨ad397, e397, hx397_0⟩ := Kd.at_int HR0.out 2 p397 q397
       obtain rfl : ad395 = ad397 := (by injection e397)
       (try simp only [show (2 : Int).toNat = 2 from rfl, Nat.reduceMul, Nat.reduceEqDiff, Go.Addr.add, ↓reduceIte] at hx397_0)
       have qi397 : (2 < l0.length) = True := eq_true (by omega)
       (try rw [show ((2 : Int)).toNat = 2 from rfl] at hx397_0)
       replace hx397_0 := Zc HB.out hx397_0
       replace p397 := eq_true p397
       replace q397 := eq_true q397
       have p398 : 0 ≤ (3 : Int) := (by omega)
       have q398 : 3 < (l0.length : Int) := Zo
       obtain ⟨ad398, e398, hx398_0⟩ := Kd.at_int HR0.out 3 p398 q398
       obtain rfl : ad395 = ad398 := (by injection e398)
       (try simp only [show (3 : Int).toNat = 3 from rfl, Nat.reduceMul, Nat.reduceEqDiff, Go.Addr.add, ↓reduceIte] at hx398_0)
       have qi398 : (3 < l0.length) = True := eq_true (by omega)
       (try rw [show ((3 : Int)).toNat = 3 from rfl] at hx398_0)
       replace hx398_0 := Zc HB.out hx398_0
       replace p398 := eq_true p398
       replace q398 := eq_true q398
       go_wp2
       go_meet
       case rel => exact ⟨_, (true), (by first | rfl | (simp; done) | (simp [*]; done)), H', ⟨by first | omega | exact Nat.le_refl _⟩, ⟨Zs⟩⟩
      rw [if_neg c9] at H
      exact absurd H (by simp)
     rw [if_neg c8] at H
     have c8b0 : ((rd l0 2) == 0) = false := beq_eq_false_iff_ne.mpr c8
     have c8b1 : ((rd l0 2) != 0) = true := bne_iff_ne.mpr c8
     have H' := Zh H
     clear H
     have p397 : 0 ≤ (2 : Int) := (by omega)
     have q397 : 2 < (l0.length : Int) := Zo
     obtain ⟨ad397, e397, hx397_0⟩ := Kd.at_int HR0.out 2 p397 q397
     obtain rfl : ad395 = ad397 := (by injection e397)
     (try simp only [show (2 : Int).toNat = 2 from rfl, Nat.reduceMul, Nat.reduceEqDiff, Go.Addr.add, ↓reduceIte] at hx397_0)
     have qi397 : (2 < l0.length) = True := eq_true (by omega)
     (try rw [show ((2 : Int)).toNat = 2 from rfl] at hx397_0)
     replace hx397_0 := Zc HB.out hx397_0
     replace p397 := eq_true p397
     replace q397 := eq_true q397
     go_wp2
     go_meet
     case rel => exact ⟨_, (true), (by first | rfl | (simp; done) | (simp [*]; done)), H', ⟨by first | omega | exact Nat.le_refl _⟩, ⟨Zs⟩⟩
    rw [if_neg c7] at H
    exact absurd H (by simp)
   case rest =>
    clear HC5
    try clear c1
    try clear c2
    try clear c2b0
    try clear c2b1
    try clear p2
    try clear c3
    try clear c3b0
    try clear c3b1
    try clear p3
    try clear q3
    try clear hx3
    try clear qi3
    try clear c4
    try clear c4b0
    try clear c4b1
    try clear p6
    try clear c7
    try clear c7b0
    try clear c7b1
    try clear c8
    try clear c8b0
    try clear c8b1
    try clear c9
    try clear c9b0
    try clear c9b1
    try clear c10
    try clear c10b0
    try clear c10b1
    try clear c11
    try clear c11b0
    try clear c12
    try clear c12b0
    try clear hx395_0
    try clear hx396_0
    try clear hx397_0
    try clear hx398_0
    try clear p395
    try clear p396
    try clear p397
    try clear p398
    try clear q395
    try clear q396
    try clear q397
    try clear q398
    obtain ⟨kq, x41_4, rfl, HA, HJ4, HB⟩ := hcut
    cases kq with
    | zero => exact absurd HA.out (by simp [impl_beginsFrame.j0])
    | succ kj4 =>
     have H := HA.out
     clear HA
     simp only [impl_beginsFrame.j0] at H
     by_cases c13 : x41_4 = true
     ·
      subst c13
      have H1 : (some false) = some r := by rw [if_pos rfl] at H; exact H
      clear H
      have H := H1
      clear H1
      obtain rfl := Option.some.inj H
      go_wp2
      go_ret
      exact ⟨ZE, Zs⟩
     replace c13 := Bool.eq_false_iff.mpr c13
     subst c13
     have H1 : (if 8 ≤ (wrap64 (8 + (Go.bits .or .i64 (wrap64 (rd l0 0)) (wrap64 ((wrap64 (rd l0 1)) * 256))))) then (if (wrap64 (8 + (Go.bits .or .i64 (wrap64 (rd l0 0)) (wrap64 ((wrap64 (rd l0 1)) * 256))))) ≤ (l0.length : Int) then ((impl_frame.f kj4 ((l0.take ((wrap64 (8 + (Go.bits .or .i64 (wrap64 (rd l0 0)) (wrap64 ((wrap64 (rd l0 1)) * 256))))) : Int).toNat).drop 8)).bind fun t400 => (if 0 ≤ (wrap64 (8 + (Go.bits .or .i64 (wrap64 (rd l0 0)) (wrap64 ((wrap64 (rd l0 1)) * 256))))) then ((bytes_Equal.f t400 (l0.take ((wrap64 (8 + (Go.bits .or .i64 (wrap64 (rd l0 0)) (wrap64 ((wrap64 (rd l0 1)) * 256))))) : Int).toNat)).bind fun t404 => (some t404)) else (none))) else (none)) else (none)) = some r := by rw [if_neg (show ¬ (false = true) by decide)] at H; exact H
     clear H
     have H := H1
     clear H1
     by_cases c14 : 8 ≤ (wrap64 (8 + (Go.bits .or .i64 (wrap64 (rd l0 0)) (wrap64 ((wrap64 (rd l0 1)) * 256)))))
     ·
      rw [if_pos c14] at H
      have c14b0 := eq_true c14
      have c14b1 : decide (8 ≤ (wrap64 (8 + (Go.bits .or .i64 (wrap64 (rd l0 0)) (wrap64 ((wrap64 (rd l0 1)) * 256)))))) = true := decide_eq_true c14
      by_cases c15 : (wrap64 (8 + (Go.bits .or .i64 (wrap64 (rd l0 0)) (wrap64 ((wrap64 (rd l0 1)) * 256))))) ≤ (l0.length : Int)
      ·
       rw [if_pos c15] at H
       have c15b0 := eq_true c15
       have c15b1 : decide ((wrap64 (8 + (Go.bits .or .i64 (wrap64 (rd l0 0)) (wrap64 ((wrap64 (rd l0 1)) * 256))))) ≤ (l0.length : Int)) = true := decide_eq_true c15
       replace H := Option.bind_eq_some_iff.mp H
       obtain ⟨t400, A160, H⟩ := H
       replace H : (if 0 ≤ (wrap64 (8 + (Go.bits .or .i64 (wrap64 (rd l0 0)) (wrap64 ((wrap64 (rd l0 1)) * 256))))) then ((bytes_Equal.f t400 (l0.take ((wrap64 (8 + (Go.bits .or .i64 (wrap64 (rd l0 0)) (wrap64 ((wrap64 (rd l0 1)) * 256))))) : Int).toNat)).bind fun t404 => (some t404)) else (none)) = some r := H
       have A16 := Zh A160
       clear A160
       obtain ⟨ji17, hji17⟩ : ∃ j_ : Int, (wrap64 (8 + (Go.bits .or .i64 (wrap64 (rd l0 0)) (wrap64 ((wrap64 (rd l0 1)) * 256))))) = j_ := ⟨_, rfl⟩
       replace H : (if 0 ≤ (ji17) then ((bytes_Equal.f t400 (l0.take ((ji17) : Int).toNat)).bind fun t404 => (some t404)) else (none)) = some r := by first | (rw [hji17] at H; exact H) | (simp only [hji17] at H ⊢; exact H)
       (try rw [hji17] at c14b0)
       (try rw [hji17] at c14b1)
       (try rw [hji17] at c14)
       (try rw [hji17] at c15b0)
       (try rw [hji17] at c15b1)
       (try rw [hji17] at c15)
       (try rw [hji17] at A16)
       have hji17w : (IntKind.i64.wrap (8 + (Go.bits .or .i64 (wrap64 (rd l0 0)) (wrap64 ((wrap64 (rd l0 1)) * 256))))) = ji17 := (i64_w _).trans hji17
       by_cases c18 : 0 ≤ (ji17)
       ·
        rw [if_pos c18] at H
        have c18b0 := eq_true c18
        have c18b1 : decide (0 ≤ (ji17)) = true := decide_eq_true c18
        clear c18
        have c19b0 := eq_true (Zo : (ji17) ≤ (l0.length : Int))
        replace H := Option.bind_eq_some_iff.mp H
        obtain ⟨t404, A200, H⟩ := H
        replace H : (some t404) = some r := H
        have A20 := Zh A200
        clear A200
        obtain rfl := Option.some.inj H
        try go_wp2
        replace HB := Zh (Ze HB.out)
        obtain ⟨i022, hi022, _, hsz22, _⟩ := info_parts info5
        obtain ⟨A22, hcut22, hA22, hC22⟩ := print_mid_of (P := Tryd.prog) (Value.int .u8) 0 41 5 .i64 .i64 Tryd.underlying41 hi022 hsz22 (some ad395) c0 l0 8 (ji17) (by omega) (by first | omega | exact Zo) (Zo) HC0.out
        have HR399 := Zh (C_of_reads (h1 := fun _ => rfl) (hA22 _ (Kd.reads_of_C HR0.out)))
        have HC399 := Zh hC22
        clear hA22 hC22 hi022 hsz22
        obtain ⟨i023, hi023, _, hsz23, _⟩ := info_parts info5
        obtain ⟨hcut23, hA23, hC23⟩ := print_take_of (P := Tryd.prog) (Value.int .u8) 0 41 5 .i64 Tryd.underlying41 hi023 hsz23 (some ad395) c0 l0 (ji17) (Zo) (Zo) HC0.out
        have HR403 := Zh (C_of_reads (h1 := fun _ => rfl) (hA23 _ (Kd.reads_of_C HR0.out)))
        have HC403 := Zh hC23
        clear hA23 hC23 hi023 hsz23
        refine start_ (n := 11) (S := fun w' => True) (ds := []) #[false, false, false, false, false, false, false, false, false, false, false] (by kernel_rfl) rfl rfl trivial (fun hHeld => ?_); refine with_tabW impl_beginsFrame.tab6 impl_beginsFrame.bits6 (fun HT_ HW_ => ?_)
        generalize wc.drew = w21 at HB HR399 HR403 hHeld ⊢
        refine SQ.pu 0 42 HT_ ?_
        refine SQ.pu 1 43 HT_ ?_
        refine SQ.pu 2 44 HT_ ?_
        refine SQ.pu 3 45 HT_ ?_
        refine SQ.pu 5 47 HT_ ?_
        refine SQ.pu 6 48 HT_ ?_
        refine SQ.pu 7 49 HT_ ?_
        refine SQ.pu 8 50 HT_ ?_
        refine one_ (i := 4) (N := some 46) #[true, true, true, true, true, true, true, true, true, false, false] rfl rfl (one_of HT_.out (by kernel_rfl)) (by decide) (fun K hK => ?_)
        refine goes_ Tryd.func60 (by kernel_rfl) rfl #[.slice A22 ((l0.take ((ji17) : Int).toNat).drop 8).length (c0 - 8)] (by rfl) rfl rfl (by (try simp only [List.map_toArray, List.map_cons, List.map_nil]); first | done | (rw [show ((l0.take ((ji17) : Int).toNat).drop 8).length = ((ji17).toNat - 8) from (by rw [List.length_drop, List.length_take]; have h_ : ((ji17) : Int) ≤ (l0.length : Int) := Zo; omega)] <;> rfl) | (simp only [hji17]; rfl) | rfl | (simp only [List.length_drop, List.length_take]; rfl)) ?_
        with_reducible refine (impl_frame.calls kj4 _ _ ((l0.take ((ji17) : Int).toNat).drop 8) t400 _ ?side1 ?side2 A16.out).mono ?_
        (case side1 => repeat (first | exact (C_below HR399.out HB.out) | (with_reducible refine C_alloc ?_ _) | (with_reducible refine C_drewN ?_ _) | (with_reducible refine C_drew ?_)))
        (case side2 => exact HC399.out)
        rintro e w24 ⟨v401, rfl, ho0, hb⟩
        refine ⟨_, rfl, ?_⟩
        have HO402 := Zh (R_lower ho0 (below_size Zs))
        replace HB := Zh (Zl Zs hb)
        (try clear hb)
        (try clear hb2)
        (try clear hk)
        (try clear hi)
        (try clear ho0)
        obtain ⟨Ao25, co25, eo25⟩ := R_slice HO402.out
        (first | subst eo25 | (injection eo25 with f1_ f2_ f3_; have f4_ := f1_.symm; have f5_ := f3_.symm; clear f1_ f2_ f3_; subst f4_; subst f5_))
        refine hK.out _ _ trivial (fun hHeld => ?_)
        clear hK K
        refine norm_ (a' := ?_) ?_ ?_
        rotate_left
        ·
         show Act.put _ (some 46) _ = _
         simp only [Act.put, List.setIfInBounds_toArray, List.set_cons_zero, List.set_cons_succ, i64_w, i32_w]
         rfl
        refine one_ (i := 9) (N := some 51) #[true, true, true, true, true, true, true, true, true, true, false] rfl rfl (one_of HT_.out (by kernel_rfl)) (by decide) (fun K hK => ?_)
        refine goes_ Tryd.func106 (by kernel_rfl) rfl #[.slice Ao25 t400.length co25, .slice (some ad395) (l0.take ((ji17) : Int).toNat).length c0] (by rfl) rfl rfl (by (try simp only [List.map_toArray, List.map_cons, List.map_nil]); first | done | (rw [show (l0.take ((ji17) : Int).toNat).length = (ji17).toNat from (by rw [List.length_take]; have h_ : ((ji17) : Int) ≤ (l0.length : Int) := Zo; omega)] <;> rfl) | (simp only [hji17]; rfl) | rfl | (simp only [List.length_drop, List.length_take]; rfl)) ?_
        with_reducible refine (bytes_Equal.calls _ _ t400 _ _ (l0.take ((ji17) : Int).toNat) t404 _ ?side1 ?side2 ?side3 ?side4 A20.out).mono ?_
        (case side1 => repeat (first | exact (R_reads' HO402.out).2.2 | (with_reducible refine C_alloc ?_ _) | (with_reducible refine C_drewN ?_ _) | (with_reducible refine C_drew ?_)))
        (case side2 => exact (R_reads' HO402.out).2.1)
        (case side3 => repeat (first | exact (C_below HR403.out HB.out) | (with_reducible refine C_alloc ?_ _) | (with_reducible refine C_drewN ?_ _) | (with_reducible refine C_drew ?_)))
        (case side4 => exact HC403.out)
        rintro e w' ⟨rfl, ⟨nd, rfl⟩⟩
        refine ⟨_, rfl, ?_⟩
        refine hK.out _ _ trivial (fun hHeld => ?_)
        clear hK K
        refine norm_ (a' := ?_) ?_ ?_
        rotate_left
        ·
         show Act.put _ (some 51) _ = _
         simp only [Act.put, List.setIfInBounds_toArray, List.set_cons_zero, List.set_cons_succ, i64_w, i32_w]
         rfl
        refine SQ.pu 10 2 HT_ ?_
        refine done_ (done_of HT_.out (by kernel_rfl)) ?_
        try go_wp2
        go_ret
        exact ⟨by first | rfl | (simp [errW_none, errW_some] <;> rfl) | (simp only [← hji17]; first | rfl | (simp [errW_none, errW_some] <;> rfl)) | (simp [*, errW_none, errW_some] <;> rfl), Zs⟩
       rw [if_neg c18] at H
       exact absurd H (by simp)
      rw [if_neg c15] at H
      exact absurd H (by simp)
     rw [if_neg c14] at H
     exact absurd H (by simp)
  rw [if_neg c4] at H
  exact absurd H (by simp)
 rw [if_neg c3] at H
 exact absurd H (by simp)
end Go.Proofs.YtcgojdhbphocgaaDoor.F

namespace Go.Proofs.YtcgojdhbphocgaaDoor.F
open Go.RowKit Go.Proofs.YtcgojdhbphocgaaDoorW.PrintWords Go.Proofs.YtcgojdhbphocgaaDoorW.PrintWords.Kd Go.Proofs.YtcgojdhbphocgaaDoorW.PrintMore.Kd Go.Proofs.YtcgojdhbphocgaaDoorW.PrintLast Go.Proofs.YtcgojdhbphocgaaDoorW.PrintMore
attribute [local go_sem] max2_int min2_int max_two min_two max_three min_three max_four min_four   -- for this text's walks alone
set_option linter.unusedVariables false
set_option linter.unusedSimpArgs false
mutual
def impl_walRead.j0 : Nat → Int → Bool → List (S55) → Option ((List (List Int)) × Int × Int)
 | 0, _, _, _ => none
 | k + 1, x5, x18, x406000 => if x18 = true then (some (([] : List (List Int)), 0, 3)) else (if 0 ≤ x5 then (if x5 < (x406000.length : Int) then ((impl_File_content.f ((rd_T55 x406000 x5).f0) ((rd_T55 x406000 x5).f1) ((rd_T55 x406000 x5).f2)).bind fun t409 => ((impl_scanFrames.f k t409).bind fun bt412 => (if bt412.2 = (t409.length : Int) then (some (bt412.1, bt412.2, 0)) else (impl_walRead.l0 k t409 bt412.1 bt412.2 (wrap64 (bt412.2 + 1)))))) else (none)) else (none))
def impl_walRead.l0 : Nat → List Int → List (List Int) → Int → Int → Option ((List (List Int)) × Int × Int)
 | 0, _, _, _, _ => none
 | k + 1, x6, x7, x8, x9 => if x9 < (x6.length : Int) then (if 0 ≤ x9 then (if x9 ≤ (x6.length : Int) then ((impl_beginsFrame.f k (x6.drop (x9 : Int).toNat)).bind fun t420 => (if t420 = true then (some (x7, x8, 2)) else (impl_walRead.l0 k x6 x7 x8 (wrap64 (x9 + 1))))) else (none)) else (none)) else (some (x7, x8, 1))
end
def impl_walRead.f (k : Nat) (l0_0 : List (S55)) : Option ((List (List Int)) × Int × Int) := (impl_fileOf.f l0_0 (⟨#[108, 111, 103]⟩ : ByteArray)).bind fun t406 => ((impl_isDisk.f k l0_0).bind fun t407 => (if t407 = true then (impl_walRead.j0 k t406 (decide (t406 < 0)) l0_0) else (impl_walRead.j0 k t406 true l0_0)))
set_option maxHeartbeats 8000000 in
set_option maxRecDepth 100000 in
theorem impl_walRead.calls (k : Nat) (A0_0 : Option Addr) (c0_0 : Nat) (l0_0 : List (S55)) (r1 : List (List Int)) (r2 : Int) (r3 : Int) (w : World) (hr0_0 : Kd.C k55 w A0_0 l0_0.length l0_0) (hc0_0 : l0_0.length ≤ c0_0) (h : impl_walRead.f k l0_0 = some (r1, r2, r3)) :
  Calls Tryd.prog 49 #[.agg #[.slice A0_0 l0_0.length c0_0]] w fun e w' => ∃ v0_ : Value, e = .returned (.tuple #[v0_, .int .i64 r2, .int .i64 r3]) ∧ Kd.S (Kd.slice 5 (Kd.int .u8)) 41 w' w.heap.size (fun _ => True) v0_ r1 ∧ Below w.heap.size w w' := by
 have hu28 := Tryd.underlying28
 have hu55 := Tryd.underlying55
 have HR0_0 := Zh hr0_0
 have HC0_0 := Zh hc0_0
 clear hr0_0 hc0_0
 have HB := Zh (Below.refl w.heap.size w)
 have H : ((impl_fileOf.f l0_0 (⟨#[108, 111, 103]⟩ : ByteArray)).bind fun t406 => ((impl_isDisk.f k l0_0).bind fun t407 => (if t407 = true then (impl_walRead.j0 k t406 (decide (t406 < 0)) l0_0) else (impl_walRead.j0 k t406 true l0_0)))) = some (r1, r2, r3) := h
 clear h
 replace H := Option.bind_eq_some_iff.mp H
 obtain ⟨t406, A20, H⟩ := H
 replace H : ((impl_isDisk.f k l0_0).bind fun t407 => (if t407 = true then (impl_walRead.j0 k t406 (decide (t406 < 0)) l0_0) else (impl_walRead.j0 k t406 true l0_0))) = some (r1, r2, r3) := H
 have A2 := Zh A20
 clear A20
 have HC3 := Zh H
 clear H
 go_enter Tryd.func49, Tryd.ntmps49
 go_upto_region 2 with (first | ((with_reducible refine gate_dst (N := 1) rfl ?_); refine box_event ?hg (N := 1) ?hd (cs := #[.slice A0_0 l0_0.length c0_0]) (t := 28) ?hr ?_; (case hd => rfl); (case hg => rfl); (case hr => first | (go_simp; done) | (go_simp; rfl)); intro gb405 hg w4 hbox hb; have BK405 := Zh (hbox); have GW405 := Zh ((by rw [hg]; exact (below_size Zs) : w.heap.size ≤ gb405)); have GE405 := Zh ((by rw [hg]; exact (below_size Zs) : w.heap.size ≤ gb405)); replace HB := Zh (Zl Zs hb); clear hb hbox hg; have hcz5_0 : w4.cell? ⟨gb405, 0, none⟩ = some (.slice A0_0 l0_0.length c0_0) := (blk_cell BK405.out 0).trans rfl; have hfz5_0 := Zn BK405.out 0) | ((with_reducible refine gate_callee (f := 74) rfl ?_); refine ZG (some 11) Tryd.func74 #[.agg #[.slice A0_0 l0_0.length c0_0], .string (⟨#[108, 111, 103]⟩ : ByteArray)] rfl ?_; (with_reducible refine (impl_fileOf.calls _ _ l0_0 (⟨#[108, 111, 103]⟩ : ByteArray) t406 _ ?side1 ?side2 A2.out).mono ?_); (case side1 => repeat (first | exact (C_below HR0_0.out HB.out) | (with_reducible refine C_alloc ?_ _) | (with_reducible refine C_drewN ?_ _) | (with_reducible refine C_drew ?_))); (case side2 => exact HC0_0.out); rintro e w6 ⟨rfl, hb⟩; refine ⟨_, rfl, ?_⟩; replace BK405 := Zh (Zm (g := gb405) (o := .cells #[.slice A0_0 l0_0.length c0_0] 28 (0, 0)) Zk hb); replace HB := Zh (Zl Zs hb); (try clear hb); (try clear hb2); (try clear hk); (try clear hi)))
 (try simp only [Act.put, List.setIfInBounds_toArray, List.set_cons_zero, List.set_cons_succ])
 go_cut [18] (fun v18 wc => ∃ (kq : Nat) (x18_2 : Bool), v18 = .bool x18_2 ∧ Aside0 (impl_walRead.j0 kq t406 x18_2 l0_0 = some (r1, r2, r3)) ∧ Aside0 (kq ≤ k) ∧ Aside0 (wc.heap[gb405]? = some (.cells #[(.slice A0_0 l0_0.length c0_0)] 28 (0, 0))) ∧ Aside0 (Below w.heap.size w wc))
 case first =>
  have H := HC3.out
  clear HC3
  replace H := Option.bind_eq_some_iff.mp H
  obtain ⟨t407, A70, H⟩ := H
  replace H : (if t407 = true then (impl_walRead.j0 k t406 (decide (t406 < 0)) l0_0) else (impl_walRead.j0 k t406 true l0_0)) = some (r1, r2, r3) := H
  have A7 := Zh A70
  clear A70
  by_cases c8 : t407 = true
  ·
   subst c8
   have H1 : (impl_walRead.j0 k t406 (decide (t406 < 0)) l0_0) = some (r1, r2, r3) := by rw [if_pos rfl] at H; exact H
   clear H
   have H := H1
   clear H1
   have H' := Zh H
   clear H
   have hcz9_0 : w6.cell? ⟨gb405, 0, none⟩ = some (.slice A0_0 l0_0.length c0_0) := (blk_cell BK405.out 0).trans rfl
   have hfz9_0 := Zn BK405.out 0
   go_wp2_with (first | ((with_reducible refine gate_callee (f := 72) rfl ?_); refine ZG (some 13) Tryd.func72 #[.agg #[.slice A0_0 l0_0.length c0_0]] rfl ?_; (with_reducible refine (impl_isDisk.calls k _ _ l0_0 true _ ?side1 ?side2 A7.out).mono ?_); (case side1 => repeat (first | exact (C_below HR0_0.out HB.out) | (with_reducible refine C_alloc ?_ _) | (with_reducible refine C_drewN ?_ _) | (with_reducible refine C_drew ?_))); (case side2 => exact HC0_0.out); rintro e w10 ⟨rfl, hb⟩; refine ⟨_, rfl, ?_⟩; replace BK405 := Zh (Zm (g := gb405) (o := .cells #[.slice A0_0 l0_0.length c0_0] 28 (0, 0)) Zk hb); replace HB := Zh (Zl Zs hb); (try clear hb); (try clear hb2); (try clear hk); (try clear hi)))
   go_meet
   case rel => exact ⟨_, (decide (t406 < 0)), (by first | rfl | (simp; done) | (simp [*]; done)), H', ⟨by first | omega | exact Nat.le_refl _⟩, ⟨Zk⟩, ⟨Zs⟩⟩
  replace c8 := Bool.eq_false_iff.mpr c8
  subst c8
  have H1 : (impl_walRead.j0 k t406 true l0_0) = some (r1, r2, r3) := by rw [if_neg (show ¬ (false = true) by decide)] at H; exact H
  clear H
  have H := H1
  clear H1
  have H' := Zh H
  clear H
  have hcz11_0 : w6.cell? ⟨gb405, 0, none⟩ = some (.slice A0_0 l0_0.length c0_0) := (blk_cell BK405.out 0).trans rfl
  have hfz11_0 := Zn BK405.out 0
  go_wp2_with (first | ((with_reducible refine gate_callee (f := 72) rfl ?_); refine ZG (some 13) Tryd.func72 #[.agg #[.slice A0_0 l0_0.length c0_0]] rfl ?_; (with_reducible refine (impl_isDisk.calls k _ _ l0_0 false _ ?side1 ?side2 A7.out).mono ?_); (case side1 => repeat (first | exact (C_below HR0_0.out HB.out) | (with_reducible refine C_alloc ?_ _) | (with_reducible refine C_drewN ?_ _) | (with_reducible refine C_drew ?_))); (case side2 => exact HC0_0.out); rintro e w12 ⟨rfl, hb⟩; refine ⟨_, rfl, ?_⟩; replace BK405 := Zh (Zm (g := gb405) (o := .cells #[.slice A0_0 l0_0.length c0_0] 28 (0, 0)) Zk hb); replace HB := Zh (Zl Zs hb); (try clear hb); (try clear hb2); (try clear hk); (try clear hi)))
  go_meet
  case rel => exact ⟨_, (true), (by first | rfl | (simp; done) | (simp [*]; done)), H', ⟨by first | omega | exact Nat.le_refl _⟩, ⟨Zk⟩, ⟨Zs⟩⟩
 case rest =>
  clear HC3
  try clear p2
  try clear c4
  try clear c7
  try clear c8
  try clear hcz11_0
  try clear hcz5_0
  try clear hcz9_0
  try clear hfz11_0
  try clear hfz5_0
  try clear hfz9_0
  obtain ⟨kq, x18_2, rfl, HA, HJ2, BK405, HB⟩ := hcut
  cases kq with
  | zero => exact absurd HA.out (by simp [impl_walRead.j0])
  | succ kj2 =>
   have H := HA.out
   clear HA
   simp only [impl_walRead.j0] at H
   by_cases c13 : x18_2 = true
   ·
    subst c13
    have H1 : (some (([] : List (List Int)), 0, 3)) = some (r1, r2, r3) := by rw [if_pos rfl] at H; exact H
    clear H
    have H := H1
    clear H1
    simp only [Option.some.injEq, Prod.mk.injEq] at H
    obtain ⟨rfl, rfl, rfl⟩ := H
    go_wp2
    go_ret3
    exact ⟨_, ZE, by first | exact S_nil _ _ _ _ _ | exact N_nil _ _ _ _ _ | exact V_nil _ _ _ _ _ | exact Q_nil _ _ _ _ _ | exact R_nil _ _ _ _ _, Zs⟩
   replace c13 := Bool.eq_false_iff.mpr c13
   subst c13
   have H1 : (if 0 ≤ t406 then (if t406 < (l0_0.length : Int) then ((impl_File_content.f ((rd_T55 l0_0 t406).f0) ((rd_T55 l0_0 t406).f1) ((rd_T55 l0_0 t406).f2)).bind fun t409 => ((impl_scanFrames.f kj2 t409).bind fun bt412 => (if bt412.2 = (t409.length : Int) then (some (bt412.1, bt412.2, 0)) else (impl_walRead.l0 kj2 t409 bt412.1 bt412.2 (wrap64 (bt412.2 + 1)))))) else (none)) else (none)) = some (r1, r2, r3) := by rw [if_neg (show ¬ (false = true) by decide)] at H; exact H
   clear H
   have H := H1
   clear H1
   by_cases c14 : 0 ≤ t406
   ·
    rw [if_pos c14] at H
    have c14b0 : decide (0 ≤ t406) = true := decide_eq_true c14
    clear c14
    by_cases c15 : t406 < (l0_0.length : Int)
    ·
     rw [if_pos c15] at H
     have c15b0 : decide (t406 < (l0_0.length : Int)) = true := decide_eq_true c15
     clear c15
     replace H := Option.bind_eq_some_iff.mp H
     obtain ⟨t409, A160, H⟩ := H
     replace H : ((impl_scanFrames.f kj2 t409).bind fun bt412 => (if bt412.2 = (t409.length : Int) then (some (bt412.1, bt412.2, 0)) else (impl_walRead.l0 kj2 t409 bt412.1 bt412.2 (wrap64 (bt412.2 + 1))))) = some (r1, r2, r3) := H
     have A16 := Zh A160
     clear A160
     replace H := Option.bind_eq_some_iff.mp H
     obtain ⟨⟨t412, t413⟩, A170, H⟩ := H
     replace H : (if t413 = (t409.length : Int) then (some (t412, t413, 0)) else (impl_walRead.l0 kj2 t409 t412 t413 (wrap64 (t413 + 1)))) = some (r1, r2, r3) := H
     have A17 := Zh A170
     clear A170
     by_cases c18 : t413 = (t409.length : Int)
     ·
      rw [if_pos c18] at H
      have c18b0 : (t413 == (t409.length : Int)) = true := beq_iff_eq.mpr c18
      have c18b1 : (t413 != (t409.length : Int)) = false := bne_eq_false_iff_eq.mpr c18
      clear c18
      simp only [Option.some.injEq, Prod.mk.injEq] at H
      obtain ⟨rfl, rfl, rfl⟩ := H
      have hcz19_0 : wc.cell? ⟨gb405, 0, none⟩ = some (.slice A0_0 l0_0.length c0_0) := (blk_cell BK405.out 0).trans rfl
      have hfz19_0 := Zn BK405.out 0
      have p408 : 0 ≤ (t406 : Int) := Zo
      have q408 : t406 < (l0_0.length : Int) := Zo
      obtain ⟨ad408, A408_1, c408_1, A408_2, c408_2, e408, hx408_0, hx408_1, hx408_2, hl408_1, hi408_1, hl408_2, hi408_2⟩ := at_T55 HR0_0.out t406 p408 q408
      cases e408
      replace hx408_0 := Zc HB.out hx408_0
      replace hx408_1 := Zc HB.out hx408_1
      replace hx408_2 := Zc HB.out hx408_2
      have HR408_1 := Zh hi408_1
      have HC408_1 := Zh hl408_1
      clear hi408_1 hl408_1
      have HR408_2 := Zh hi408_2
      have HC408_2 := Zh hl408_2
      clear hi408_2 hl408_2
      replace p408 := eq_true p408
      replace q408 := eq_true q408
      go_wp2_with (first | ((with_reducible refine gate_callee (f := 75) rfl ?_); refine ZG (some 24) Tryd.func75 #[.agg #[.string ((rd_T55 l0_0 t406).f0), .slice A408_1 ((rd_T55 l0_0 t406).f1).length c408_1, .slice A408_2 ((rd_T55 l0_0 t406).f2).length c408_2]] rfl ?_; (with_reducible refine (impl_File_content.calls ((rd_T55 l0_0 t406).f0) _ _ ((rd_T55 l0_0 t406).f1) _ _ ((rd_T55 l0_0 t406).f2) t409 _ ?side1 ?side2 ?side3 ?side4 A16.out).mono ?_); (case side1 => repeat (first | exact (C_below HR408_1.out HB.out) | (with_reducible refine C_alloc ?_ _) | (with_reducible refine C_drewN ?_ _) | (with_reducible refine C_drew ?_))); (case side2 => exact HC408_1.out); (case side3 => repeat (first | exact (C_below HR408_2.out HB.out) | (with_reducible refine C_alloc ?_ _) | (with_reducible refine C_drewN ?_ _) | (with_reducible refine C_drew ?_))); (case side4 => exact HC408_2.out); rintro e w20 ⟨v410, rfl, ho0, hb⟩; refine ⟨_, rfl, ?_⟩; have HO411 := Zh (R_lower ho0 (below_size Zs)); replace BK405 := Zh (Zm (g := gb405) (o := .cells #[.slice (some ad408) l0_0.length c0_0] 28 (0, 0)) Zk hb); replace HB := Zh (Zl Zs hb); (try clear hb); (try clear hb2); (try clear hk); (try clear hi); (try clear ho0); obtain ⟨Ao21, co21, eo21⟩ := R_slice HO411.out; subst eo21) | ((with_reducible refine gate_callee (f := 81) rfl ?_); refine ZG (some 27) Tryd.func81 #[.slice Ao21 t409.length co21] rfl ?_; (with_reducible refine (impl_scanFrames.calls kj2 _ _ t409 t412 t413 _ ?side1 ?side2 A17.out).mono ?_); (case side1 => repeat (first | exact (R_reads' HO411.out).2.2 | (with_reducible refine C_alloc ?_ _) | (with_reducible refine C_drewN ?_ _) | (with_reducible refine C_drew ?_))); (case side2 => exact (R_reads' HO411.out).2.1); rintro e w22 ⟨v414, rfl, ho0, hb⟩; refine ⟨_, rfl, ?_⟩; have HO415 := Zh (S_lower (S_new' ho0 (R_lt (ZR HO411.out))) (below_size Zs)); replace HO411 := Zh (R_below (ZR HO411.out) hb); replace BK405 := Zh (Zm (g := gb405) (o := .cells #[.slice (some ad408) l0_0.length c0_0] 28 (0, 0)) Zk hb); replace HB := Zh (Zl Zs hb); (try clear hb); (try clear hb2); (try clear hk); (try clear hi); (try clear ho0)))
      go_ret3
      exact ⟨_, ZE, ZS (S_mono HO415.out (fun _ hk => trivial)), Zs⟩
     rw [if_neg c18] at H
     have c18b0 : (t413 == (t409.length : Int)) = false := beq_eq_false_iff_ne.mpr c18
     have c18b1 : (t413 != (t409.length : Int)) = true := bne_iff_ne.mpr c18
     have H' := Zh H
     clear H
     have hcz23_0 : wc.cell? ⟨gb405, 0, none⟩ = some (.slice A0_0 l0_0.length c0_0) := (blk_cell BK405.out 0).trans rfl
     have hfz23_0 := Zn BK405.out 0
     have p408 : 0 ≤ (t406 : Int) := Zo
     have q408 : t406 < (l0_0.length : Int) := Zo
     obtain ⟨ad408, A408_1, c408_1, A408_2, c408_2, e408, hx408_0, hx408_1, hx408_2, hl408_1, hi408_1, hl408_2, hi408_2⟩ := at_T55 HR0_0.out t406 p408 q408
     cases e408
     replace hx408_0 := Zc HB.out hx408_0
     replace hx408_1 := Zc HB.out hx408_1
     replace hx408_2 := Zc HB.out hx408_2
     have HR408_1 := Zh hi408_1
     have HC408_1 := Zh hl408_1
     clear hi408_1 hl408_1
     have HR408_2 := Zh hi408_2
     have HC408_2 := Zh hl408_2
     clear hi408_2 hl408_2
     replace p408 := eq_true p408
     replace q408 := eq_true q408
     go_wp2_with (first | ((with_reducible refine gate_callee (f := 75) rfl ?_); refine ZG (some 24) Tryd.func75 #[.agg #[.string ((rd_T55 l0_0 t406).f0), .slice A408_1 ((rd_T55 l0_0 t406).f1).length c408_1, .slice A408_2 ((rd_T55 l0_0 t406).f2).length c408_2]] rfl ?_; (with_reducible refine (impl_File_content.calls ((rd_T55 l0_0 t406).f0) _ _ ((rd_T55 l0_0 t406).f1) _ _ ((rd_T55 l0_0 t406).f2) t409 _ ?side1 ?side2 ?side3 ?side4 A16.out).mono ?_); (case side1 => repeat (first | exact (C_below HR408_1.out HB.out) | (with_reducible refine C_alloc ?_ _) | (with_reducible refine C_drewN ?_ _) | (with_reducible refine C_drew ?_))); (case side2 => exact HC408_1.out); (case side3 => repeat (first | exact (C_below HR408_2.out HB.out) | (with_reducible refine C_alloc ?_ _) | (with_reducible refine C_drewN ?_ _) | (with_reducible refine C_drew ?_))); (case side4 => exact HC408_2.out); rintro e w24 ⟨v410, rfl, ho0, hb⟩; refine ⟨_, rfl, ?_⟩; have HO411 := Zh (R_lower ho0 (below_size Zs)); replace BK405 := Zh (Zm (g := gb405) (o := .cells #[.slice (some ad408) l0_0.length c0_0] 28 (0, 0)) Zk hb); replace HB := Zh (Zl Zs hb); (try clear hb); (try clear hb2); (try clear hk); (try clear hi); (try clear ho0); obtain ⟨Ao25, co25, eo25⟩ := R_slice HO411.out; subst eo25) | ((with_reducible refine gate_callee (f := 81) rfl ?_); refine ZG (some 27) Tryd.func81 #[.slice Ao25 t409.length co25] rfl ?_; (with_reducible refine (impl_scanFrames.calls kj2 _ _ t409 t412 t413 _ ?side1 ?side2 A17.out).mono ?_); (case side1 => repeat (first | exact (R_reads' HO411.out).2.2 | (with_reducible refine C_alloc ?_ _) | (with_reducible refine C_drewN ?_ _) | (with_reducible refine C_drew ?_))); (case side2 => exact (R_reads' HO411.out).2.1); rintro e w26 ⟨v414, rfl, ho0, hb⟩; refine ⟨_, rfl, ?_⟩; have HO415 := Zh (S_lower (S_new' ho0 (R_lt (ZR HO411.out))) (below_size Zs)); replace HO411 := Zh (R_below (ZR HO411.out) hb); replace BK405 := Zh (Zm (g := gb405) (o := .cells #[.slice (some ad408) l0_0.length c0_0] 28 (0, 0)) Zk hb); replace HB := Zh (Zl Zs hb); (try clear hb); (try clear hb2); (try clear hk); (try clear hi); (try clear ho0)))
     go_loopg [9] kj2 (fun kq v9 w' => ∃ (x9_2 : Int), v9 = .int .i64 x9_2 ∧ Aside0 (impl_walRead.l0 kq t409 t412 t413 x9_2 = some (r1, r2, r3)) ∧ Aside0 (kq ≤ kj2) ∧ Aside0 (Kd.R (Kd.int .u8) 5 w' w.heap.size (fun _ => True) (.slice Ao25 t409.length co25) t409) ∧ Aside0 (Kd.S (Kd.slice 5 (Kd.int .u8)) 41 w' w.heap.size (fun k_ => some k_ ≠ ((.slice Ao25 t409.length co25) : Value).ownBlock) v414 t412) ∧ Aside0 (w'.heap[gb405]? = some (.cells #[(.slice (some ad408) l0_0.length c0_0)] 28 (0, 0))) ∧ Aside0 (Below w.heap.size w w'))
     case atStart => exact ⟨(wrap64 (t413 + 1)), (by first | rfl | (simp; done) | (simp [*]; done)), H', ⟨Nat.le_refl _⟩, ⟨ZR HO411.out⟩, ⟨ZS (S_mono HO415.out (fun _ hk => hk.2))⟩, ⟨Zk⟩, ⟨Zs⟩⟩
     case round =>
      clear H'
      try clear c1
      try clear p2
      try clear c4
      try clear p4
      try clear q4
      try clear hx4
      try clear p6
      try clear c7
      try clear c8
      try clear c13
      try clear c14
      try clear c14b0
      try clear c15
      try clear c15b0
      try clear c18
      try clear c18b0
      try clear c18b1
      try clear hcz11_0
      try clear hcz19_0
      try clear hcz23_0
      try clear hcz5_0
      try clear hcz9_0
      try clear hfz11_0
      try clear hfz19_0
      try clear hfz23_0
      try clear hfz5_0
      try clear hfz9_0
      try clear hx408_0
      try clear hx408_1
      try clear hx408_2
      try clear p2
      try clear p408
      try clear q408
      obtain ⟨x9_2, rfl, HA, HK2, HO_6, HO_7, BK405, HB⟩ := hrel
      cases gk with
      | zero => exact absurd HA.out (by simp [impl_walRead.l0])
      | succ k2 =>
       have H := HA.out
       clear HA
       simp only [impl_walRead.l0] at H
       by_cases c27 : x9_2 < (t409.length : Int)
       ·
        rw [if_pos c27] at H
        have c27b0 : decide (x9_2 < (t409.length : Int)) = true := decide_eq_true c27
        clear c27
        by_cases c28 : 0 ≤ x9_2
        ·
         rw [if_pos c28] at H
         have c28b0 := eq_true c28
         have c28b1 : decide (0 ≤ x9_2) = true := decide_eq_true c28
         clear c28
         by_cases c29 : x9_2 ≤ (t409.length : Int)
         ·
          rw [if_pos c29] at H
          have c29b0 := eq_true c29
          have c29b1 : decide (x9_2 ≤ (t409.length : Int)) = true := decide_eq_true c29
          clear c29
          obtain ⟨y416, hy416⟩ : ∃ y_ : List Int, y_ = (t409.drop (x9_2 : Int).toNat) := ⟨_, rfl⟩
          replace H : ((impl_beginsFrame.f k2 y416).bind fun t420 => (if t420 = true then (some (t412, t413, 2)) else (impl_walRead.l0 k2 t409 t412 t413 (wrap64 (x9_2 + 1))))) = some (r1, r2, r3) := by first | (rw [hy416]; with_reducible exact H) | (have H2_ := (Option.bind_some _ _).symm.trans H; rw [hy416]; with_reducible exact H2_) | (have H2_ := (Option.bind_some _ _).symm.trans H; with_reducible exact H2_) | with_reducible exact H | (rw [hy416]; exact H) | exact H
          have Ny416 := Zh hy416
          clear hy416
          replace H := Option.bind_eq_some_iff.mp H
          obtain ⟨t420, A300, H⟩ := H
          replace H : (if t420 = true then (some (t412, t413, 2)) else (impl_walRead.l0 k2 t409 t412 t413 (wrap64 (x9_2 + 1)))) = some (r1, r2, r3) := H
          have A30 := Zh A300
          clear A300
          by_cases c31 : t420 = true
          ·
           subst c31
           have H1 : (some (t412, t413, 2)) = some (r1, r2, r3) := by rw [if_pos rfl] at H; exact H
           clear H
           have H := H1
           clear H1
           simp only [Option.some.injEq, Prod.mk.injEq] at H
           obtain ⟨rfl, rfl, rfl⟩ := H
           have q32 : (x9_2 : Int) ≤ ((t409.length : Int) : Int) := Zo
           obtain ⟨i032, hi032, _, hsz32, _⟩ := info_parts info5
           have hroom32 : t409.length ≤ co25 := (R_reads' HO_6.out).2.1
           have hC32 : Kd.C (Kd.int .u8) _ Ao25 t409.length t409 := (R_reads' HO_6.out).2.2
           have q032 : (0 : Int) ≤ (x9_2 : Int) := Zo
           have hcut32 := cut_from (P := Tryd.prog) 41 5 .i64 Tryd.underlying41 hi032 1 hsz32 Ao25 t409.length co25 x9_2 q032 q32
           have hr32 := C_drop (m := (x9_2 : Int).toNat) (c := co25) hC32 (by omega) hroom32
           obtain ⟨A32, hA32⟩ : ∃ A1, A1 = (if co25 = (x9_2 : Int).toNat then Ao25 else (Ao25 : Option Addr).map (·.add ((x9_2 : Int).toNat * 1))) := ⟨_, rfl⟩
           obtain ⟨c32, hc32⟩ : ∃ c1, c1 = co25 - (x9_2 : Int).toNat := ⟨_, rfl⟩
           have hy32 : y416.length = t409.length - (x9_2 : Int).toNat := (by rw [Ny416.out, List.length_drop] <;> omega)
           rw [show (t409).drop (x9_2 : Int).toNat = y416 from Ny416.out.symm] at hr32
           replace hr32 : Kd.C (Kd.int .u8) _ A32 y416.length y416 := (by rw [hA32]; exact hr32)
           rw [← hy32, ← hA32, ← hc32] at hcut32
           have HR419 := Zh hr32
           have HC419 := Zh (show y416.length ≤ c32 from by rw [hy32, hc32]; exact Nat.sub_le_sub_right hroom32 _)
           clear hr32 hC32 hroom32 hi032 hsz32 hc32
           have KY32 := Zh hy32
           have KA32 := Zh hA32
           clear hy32 hA32
           have KL32 := Zh (show (x9_2 : Int).toNat ≤ t409.length from by omega)
           replace q32 := eq_true q32
           go_wp2_with (first | ((with_reducible refine gate_callee (f := 82) rfl ?_); refine ZG (some 47) Tryd.func82 #[.slice A32 y416.length c32] rfl ?_; (with_reducible refine (impl_beginsFrame.calls k2 _ _ y416 true _ ?side1 ?side2 A30.out).mono ?_); (case side1 => repeat (first | exact (by repeat (first | (with_reducible exact HR419.out) | (with_reducible refine C_alloc ?_ _) | (with_reducible refine C_drewN ?_ _) | (with_reducible refine C_drew ?_) | exact HR419.out)) | (with_reducible refine C_alloc ?_ _) | (with_reducible refine C_drewN ?_ _) | (with_reducible refine C_drew ?_))); (case side2 => exact HC419.out); rintro e w33 ⟨rfl, hb⟩; refine ⟨_, rfl, ?_⟩; replace HO_6 := Zh (R_below (ZR HO_6.out) hb); replace HO_7 := Zh (S_below (ZS HO_7.out) hb); replace BK405 := Zh (Zm (g := gb405) (o := .cells #[.slice (some ad408) l0_0.length c0_0] 28 (0, 0)) Zk hb); replace HR419 := Zh (C_below (by repeat (first | (with_reducible exact HR419.out) | (with_reducible refine C_alloc ?_ _) | (with_reducible refine C_drewN ?_ _) | (with_reducible refine C_drew ?_) | exact HR419.out)) hb); replace HB := Zh (Zl Zs hb); (try clear hb); (try clear hb2); (try clear hk); (try clear hi)))
           go_ret3
           exact ⟨_, ZE, ZS (S_mono HO_7.out (fun _ hk => trivial)), Zs⟩
          replace c31 := Bool.eq_false_iff.mpr c31
          subst c31
          have H1 : (impl_walRead.l0 k2 t409 t412 t413 (wrap64 (x9_2 + 1))) = some (r1, r2, r3) := by rw [if_neg (show ¬ (false = true) by decide)] at H; exact H
          clear H
          have H := H1
          clear H1
          have H' := Zh H
          clear H
          have q34 : (x9_2 : Int) ≤ ((t409.length : Int) : Int) := Zo
          obtain ⟨i034, hi034, _, hsz34, _⟩ := info_parts info5
          have hroom34 : t409.length ≤ co25 := (R_reads' HO_6.out).2.1
          have hC34 : Kd.C (Kd.int .u8) _ Ao25 t409.length t409 := (R_reads' HO_6.out).2.2
          have q034 : (0 : Int) ≤ (x9_2 : Int) := Zo
          have hcut34 := cut_from (P := Tryd.prog) 41 5 .i64 Tryd.underlying41 hi034 1 hsz34 Ao25 t409.length co25 x9_2 q034 q34
          have hr34 := C_drop (m := (x9_2 : Int).toNat) (c := co25) hC34 (by omega) hroom34
          obtain ⟨A34, hA34⟩ : ∃ A1, A1 = (if co25 = (x9_2 : Int).toNat then Ao25 else (Ao25 : Option Addr).map (·.add ((x9_2 : Int).toNat * 1))) := ⟨_, rfl⟩
          obtain ⟨c34, hc34⟩ : ∃ c1, c1 = co25 - (x9_2 : Int).toNat := ⟨_, rfl⟩
          have hy34 : y416.length = t409.length - (x9_2 : Int).toNat := (by rw [Ny416.out, List.length_drop] <;> omega)
          rw [show (t409).drop (x9_2 : Int).toNat = y416 from Ny416.out.symm] at hr34
          replace hr34 : Kd.C (Kd.int .u8) _ A34 y416.length y416 := (by rw [hA34]; exact hr34)
          rw [← hy34, ← hA34, ← hc34] at hcut34
          have HR419 := Zh hr34
          have HC419 := Zh (show y416.length ≤ c34 from by rw [hy34, hc34]; exact Nat.sub_le_sub_right hroom34 _)
          clear hr34 hC34 hroom34 hi034 hsz34 hc34
          have KY34 := Zh hy34
          have KA34 := Zh hA34
          clear hy34 hA34
          have KL34 := Zh (show (x9_2 : Int).toNat ≤ t409.length from by omega)
          replace q34 := eq_true q34
          go_wp2_with (first | ((with_reducible refine gate_callee (f := 82) rfl ?_); refine ZG (some 47) Tryd.func82 #[.slice A34 y416.length c34] rfl ?_; (with_reducible refine (impl_beginsFrame.calls k2 _ _ y416 false _ ?side1 ?side2 A30.out).mono ?_); (case side1 => repeat (first | exact (by repeat (first | (with_reducible exact HR419.out) | (with_reducible refine C_alloc ?_ _) | (with_reducible refine C_drewN ?_ _) | (with_reducible refine C_drew ?_) | exact HR419.out)) | (with_reducible refine C_alloc ?_ _) | (with_reducible refine C_drewN ?_ _) | (with_reducible refine C_drew ?_))); (case side2 => exact HC419.out); rintro e w35 ⟨rfl, hb⟩; refine ⟨_, rfl, ?_⟩; replace HO_6 := Zh (R_below (ZR HO_6.out) hb); replace HO_7 := Zh (S_below (ZS HO_7.out) hb); replace BK405 := Zh (Zm (g := gb405) (o := .cells #[.slice (some ad408) l0_0.length c0_0] 28 (0, 0)) Zk hb); replace HR419 := Zh (C_below (by repeat (first | (with_reducible exact HR419.out) | (with_reducible refine C_alloc ?_ _) | (with_reducible refine C_drewN ?_ _) | (with_reducible refine C_drew ?_) | exact HR419.out)) hb); replace HB := Zh (Zl Zs hb); (try clear hb); (try clear hb2); (try clear hk); (try clear hi)))
          go_roundg k2
          case measure => have := HJ2.out; have := HK2.out; omega
          case rel => exact ⟨(wrap64 (x9_2 + 1)), (by first | rfl | (simp; done) | (simp [*]; done)), H', ⟨by have := HJ2.out; have := HK2.out; omega⟩, ⟨ZR HO_6.out⟩, ⟨ZS HO_7.out⟩, ⟨Zk⟩, ⟨Zs⟩⟩
         rw [if_neg c29] at H
         exact absurd H (by simp)
        rw [if_neg c28] at H
        exact absurd H (by simp)
       rw [if_neg c27] at H
       have c27b0 : decide (x9_2 < (t409.length : Int)) = false := decide_eq_false c27
       clear c27
       simp only [Option.some.injEq, Prod.mk.injEq] at H
       obtain ⟨rfl, rfl, rfl⟩ := H
       go_wp2
       go_ret3
       exact ⟨_, ZE, ZS (S_mono HO_7.out (fun _ hk => trivial)), Zs⟩
    rw [if_neg c15] at H
    exact absurd H (by simp)
   rw [if_neg c14] at H
   exact absurd H (by simp)
def impl_WalCount.f (k : Nat) (l0_0 : List (S55)) : Option (Int) := (impl_walRead.f k l0_0).bind fun bt422 => (if bt422.2.2 = 0 then (some (bt422.1.length : Int)) else (some (-1)))
set_option maxHeartbeats 8000000 in
set_option maxRecDepth 100000 in
theorem impl_WalCount.calls (k : Nat) (A0_0 : Option Addr) (c0_0 : Nat) (l0_0 : List (S55)) (r : Int) (w : World) (hr0_0 : Kd.C k55 w A0_0 l0_0.length l0_0) (hc0_0 : l0_0.length ≤ c0_0) (h : impl_WalCount.f k l0_0 = some r) :
  Calls Tryd.prog 19 #[.agg #[.slice A0_0 l0_0.length c0_0]] w fun e w' => e = .returned (.int .i64 r) ∧ Below w.heap.size w w' := by
 have hu28 := Tryd.underlying28
 have HR0_0 := Zh hr0_0
 have HC0_0 := Zh hc0_0
 clear hr0_0 hc0_0
 have HB := Zh (Below.refl w.heap.size w)
 have H : ((impl_walRead.f k l0_0).bind fun bt422 => (if bt422.2.2 = 0 then (some (bt422.1.length : Int)) else (some (-1)))) = some r := h
 clear h
 replace H := Option.bind_eq_some_iff.mp H
 obtain ⟨⟨t422, t425, t426⟩, A20, H⟩ := H
 replace H : (if t426 = 0 then (some (t422.length : Int)) else (some (-1))) = some r := H
 have A2 := Zh A20
 clear A20
 by_cases c3 : t426 = 0
 ·
  rw [if_pos c3] at H
  have c3b0 : (t426 == 0) = true := beq_iff_eq.mpr c3
  have c3b1 : (t426 != 0) = false := bne_eq_false_iff_eq.mpr c3
  clear c3
  obtain rfl := Option.some.inj H
  go_enter Tryd.func19, Tryd.ntmps19
  go_wp2_with (first | ((with_reducible refine gate_dst (N := 1) rfl ?_); refine box_event ?hg (N := 1) ?hd (cs := #[.slice A0_0 l0_0.length c0_0]) (t := 28) ?hr ?_; (case hd => rfl); (case hg => rfl); (case hr => first | (go_simp; done) | (go_simp; rfl)); intro gb421 hg w4 hbox hb; have BK421 := Zh (hbox); have GW421 := Zh ((by rw [hg]; exact (below_size Zs) : w.heap.size ≤ gb421)); have GE421 := Zh ((by rw [hg]; exact (below_size Zs) : w.heap.size ≤ gb421)); replace HB := Zh (Zl Zs hb); clear hb hbox hg; have hcz5_0 : w4.cell? ⟨gb421, 0, none⟩ = some (.slice A0_0 l0_0.length c0_0) := (blk_cell BK421.out 0).trans rfl; have hfz5_0 := Zn BK421.out 0) | ((with_reducible refine gate_callee (f := 49) rfl ?_); refine ZG (some 8) Tryd.func49 #[.agg #[.slice A0_0 l0_0.length c0_0]] rfl ?_; (with_reducible refine (impl_walRead.calls k _ _ l0_0 t422 t425 t426 _ ?side1 ?side2 A2.out).mono ?_); (case side1 => repeat (first | exact (C_below HR0_0.out HB.out) | (with_reducible refine C_alloc ?_ _) | (with_reducible refine C_drewN ?_ _) | (with_reducible refine C_drew ?_))); (case side2 => exact HC0_0.out); rintro e w6 ⟨v423, rfl, ho0, hb⟩; refine ⟨_, rfl, ?_⟩; have HO424 := Zh (S_lower ho0 (below_size Zs)); replace BK421 := Zh (Zm (g := gb421) (o := .cells #[.slice A0_0 l0_0.length c0_0] 28 (0, 0)) Zk hb); replace HB := Zh (Zl Zs hb); (try clear hb); (try clear hb2); (try clear hk); (try clear hi); (try clear ho0); obtain ⟨Ao7, co7, eo7⟩ := S_slice HO424.out; subst eo7))
  go_ret
  exact ⟨ZE, Zs⟩
 rw [if_neg c3] at H
 have c3b0 : (t426 == 0) = false := beq_eq_false_iff_ne.mpr c3
 have c3b1 : (t426 != 0) = true := bne_iff_ne.mpr c3
 obtain rfl := Option.some.inj H
 go_enter Tryd.func19, Tryd.ntmps19
 go_wp2_with (first | ((with_reducible refine gate_dst (N := 1) rfl ?_); refine box_event ?hg (N := 1) ?hd (cs := #[.slice A0_0 l0_0.length c0_0]) (t := 28) ?hr ?_; (case hd => rfl); (case hg => rfl); (case hr => first | (go_simp; done) | (go_simp; rfl)); intro gb421 hg w8 hbox hb; have BK421 := Zh (hbox); have GW421 := Zh ((by rw [hg]; exact (below_size Zs) : w.heap.size ≤ gb421)); have GE421 := Zh ((by rw [hg]; exact (below_size Zs) : w.heap.size ≤ gb421)); replace HB := Zh (Zl Zs hb); clear hb hbox hg; have hcz9_0 : w8.cell? ⟨gb421, 0, none⟩ = some (.slice A0_0 l0_0.length c0_0) := (blk_cell BK421.out 0).trans rfl; have hfz9_0 := Zn BK421.out 0) | ((with_reducible refine gate_callee (f := 49) rfl ?_); refine ZG (some 8) Tryd.func49 #[.agg #[.slice A0_0 l0_0.length c0_0]] rfl ?_; (with_reducible refine (impl_walRead.calls k _ _ l0_0 t422 t425 t426 _ ?side1 ?side2 A2.out).mono ?_); (case side1 => repeat (first | exact (C_below HR0_0.out HB.out) | (with_reducible refine C_alloc ?_ _) | (with_reducible refine C_drewN ?_ _) | (with_reducible refine C_drew ?_))); (case side2 => exact HC0_0.out); rintro e w10 ⟨v423, rfl, ho0, hb⟩; refine ⟨_, rfl, ?_⟩; have HO424 := Zh (S_lower ho0 (below_size Zs)); replace BK421 := Zh (Zm (g := gb421) (o := .cells #[.slice A0_0 l0_0.length c0_0] 28 (0, 0)) Zk hb); replace HB := Zh (Zl Zs hb); (try clear hb); (try clear hb2); (try clear hk); (try clear hi); (try clear ho0)))
 go_ret
 exact ⟨ZE, Zs⟩
def spec_l01In.f (a0 : Int) (a1 : Int) (a2 : Int) : Option (Bool) := if a1 ≤ a0 then (some (decide (a0 ≤ a2))) else (some false)
set_option maxHeartbeats 8000000 in
set_option maxRecDepth 100000 in
theorem spec_l01In.calls (a0 : Int) (a1 : Int) (a2 : Int) (r : Bool) (w : World) (h : spec_l01In.f a0 a1 a2 = some r) :
  Calls Tryd.prog 62 #[.int .i64 a0, .int .i64 a1, .int .i64 a2] w fun e w' => e = .returned (.bool r) ∧ Drawn0 w w' := by
 have H : (if a1 ≤ a0 then (some (decide (a0 ≤ a2))) else (some false)) = some r := h
 clear h
 by_cases c4 : a1 ≤ a0
 ·
  rw [if_pos c4] at H
  have c4b0 : decide (a1 ≤ a0) = true := decide_eq_true c4
  clear c4
  obtain rfl := Option.some.inj H
  go_enter Tryd.func62, Tryd.ntmps62
  go_wp2
  go_ret
  exact ⟨by first | rfl | (simp; done) | (simp [*]; done), by repeat (first | exact Drawn0.refl _ | apply Drawn0.step)⟩
 rw [if_neg c4] at H
 have c4b0 : decide (a1 ≤ a0) = false := decide_eq_false c4
 clear c4
 obtain rfl := Option.some.inj H
 go_enter Tryd.func62, Tryd.ntmps62
 go_wp2
 go_ret
 exact ⟨by first | rfl | (simp; done) | (simp [*]; done), by repeat (first | exact Drawn0.refl _ | apply Drawn0.step)⟩
def spec_l01Name.l0 : Nat → ByteArray → Int → Option (Bool)
 | 0, _, _ => none
 | k + 1, x0, x3 => if x3 < (x0.size : Int) then (if 0 ≤ x3 then (if (bt x0 x3) ≥ 97 then (if ((bt x0 x3) ≤ 122) then (spec_l01Name.l0 k x0 (wrap64 (x3 + 1))) else (if (bt x0 x3) ≥ 48 then (if ((bt x0 x3) ≤ 57) then (spec_l01Name.l0 k x0 (wrap64 (x3 + 1))) else (some false)) else (some false))) else (if (bt x0 x3) ≥ 48 then (if ((bt x0 x3) ≤ 57) then (spec_l01Name.l0 k x0 (wrap64 (x3 + 1))) else (some false)) else (some false))) else (none)) else ((spec_l01In.f (x0.size : Int) 1 12).bind fun t110 => (some t110))
def spec_l01Name.f (k : Nat) (a0 : ByteArray) : Option (Bool) := spec_l01Name.l0 k a0 0
set_option maxHeartbeats 8000000 in
set_option maxRecDepth 100000 in
theorem spec_l01Name.calls (k : Nat) (a0 : ByteArray) (r : Bool) (w : World) (h : spec_l01Name.f k a0 = some r) :
  Calls Tryd.prog 90 #[.string a0] w fun e w' => e = .returned (.bool r) ∧ Drawn0 w w' := by
 have H : (spec_l01Name.l0 k a0 0) = some r := h
 clear h
 have H' := Zh H
 clear H
 go_enter Tryd.func90, Tryd.ntmps90
 go_wp2
 go_loopg [3] k (fun kq v3 w' => ∃ (x3_1 : Int), v3 = .int .i64 x3_1 ∧ Aside0 (spec_l01Name.l0 kq a0 x3_1 = some r) ∧ Aside0 (kq ≤ k) ∧ Drawn0 w w')
 case atStart => exact ⟨(0), (by first | rfl | (simp; done) | (simp [*]; done)), H', ⟨Nat.le_refl _⟩, by repeat (first | exact Drawn0.refl _ | apply Drawn0.step)⟩
 case round =>
  clear H'
  obtain ⟨x3_1, rfl, HA, HK1, ⟨m1, rfl⟩⟩ := hrel
  cases gk with
  | zero => exact absurd HA.out (by simp [spec_l01Name.l0])
  | succ k1 =>
   have H := HA.out
   clear HA
   simp only [spec_l01Name.l0] at H
   by_cases c2 : x3_1 < (a0.size : Int)
   ·
    rw [if_pos c2] at H
    have c2b0 : decide (x3_1 < (a0.size : Int)) = true := decide_eq_true c2
    clear c2
    by_cases c3 : 0 ≤ x3_1
    ·
     rw [if_pos c3] at H
     have c3b0 : decide (0 ≤ x3_1) = true := decide_eq_true c3
     clear c3
     by_cases c5 : (bt a0 x3_1) ≥ 97
     ·
      rw [if_pos c5] at H
      have c5b0 : decide (97 ≤ (bt a0 x3_1)) = true := decide_eq_true c5
      clear c5
      by_cases c6 : ((bt a0 x3_1) ≤ 122)
      ·
       rw [if_pos c6] at H
       have c6b0 : decide ((bt a0 x3_1) ≤ 122) = true := decide_eq_true c6
       clear c6
       have H' := Zh H
       clear H
       have p4 : 0 ≤ (x3_1 : Int) := Zo
       have q4 : x3_1 < (a0.size : Int) := Zo
       have hx4 := bt_at a0 x3_1
       replace p4 := eq_true p4
       replace q4 := eq_true q4
       go_wp2
       go_roundg k1
       case measure => have := HK1.out; omega
       case rel => exact ⟨(wrap64 (x3_1 + 1)), (by first | rfl | (simp; done) | (simp [*]; done)), H', ⟨by have := HK1.out; omega⟩, by repeat (first | exact Drawn0.refl _ | apply Drawn0.step)⟩
      rw [if_neg c6] at H
      have c6b0 : decide ((bt a0 x3_1) ≤ 122) = false := decide_eq_false c6
      clear c6
      by_cases c7 : (bt a0 x3_1) ≥ 48
      ·
       rw [if_pos c7] at H
       have c7b0 : decide (48 ≤ (bt a0 x3_1)) = true := decide_eq_true c7
       clear c7
       by_cases c8 : ((bt a0 x3_1) ≤ 57)
       ·
        rw [if_pos c8] at H
        have c8b0 : decide ((bt a0 x3_1) ≤ 57) = true := decide_eq_true c8
        clear c8
        have H' := Zh H
        clear H
        have p4 : 0 ≤ (x3_1 : Int) := Zo
        have q4 : x3_1 < (a0.size : Int) := Zo
        have hx4 := bt_at a0 x3_1
        replace p4 := eq_true p4
        replace q4 := eq_true q4
        go_wp2
        go_roundg k1
        case measure => have := HK1.out; omega
        case rel => exact ⟨(wrap64 (x3_1 + 1)), (by first | rfl | (simp; done) | (simp [*]; done)), H', ⟨by have := HK1.out; omega⟩, by repeat (first | exact Drawn0.refl _ | apply Drawn0.step)⟩
       rw [if_neg c8] at H
       have c8b0 : decide ((bt a0 x3_1) ≤ 57) = false := decide_eq_false c8
       clear c8
       obtain rfl := Option.some.inj H
       have p4 : 0 ≤ (x3_1 : Int) := Zo
       have q4 : x3_1 < (a0.size : Int) := Zo
       have hx4 := bt_at a0 x3_1
       replace p4 := eq_true p4
       replace q4 := eq_true q4
       go_wp2
       go_ret
       exact ⟨by first | rfl | (simp; done) | (simp [*]; done), by repeat (first | exact Drawn0.refl _ | apply Drawn0.step)⟩
      rw [if_neg c7] at H
      have c7b0 : decide (48 ≤ (bt a0 x3_1)) = false := decide_eq_false c7
      clear c7
      obtain rfl := Option.some.inj H
      have p4 : 0 ≤ (x3_1 : Int) := Zo
      have q4 : x3_1 < (a0.size : Int) := Zo
      have hx4 := bt_at a0 x3_1
      replace p4 := eq_true p4
      replace q4 := eq_true q4
      go_wp2
      go_ret
      exact ⟨by first | rfl | (simp; done) | (simp [*]; done), by repeat (first | exact Drawn0.refl _ | apply Drawn0.step)⟩
     rw [if_neg c5] at H
     have c5b0 : decide (97 ≤ (bt a0 x3_1)) = false := decide_eq_false c5
     clear c5
     by_cases c9 : (bt a0 x3_1) ≥ 48
     ·
      rw [if_pos c9] at H
      have c9b0 : decide (48 ≤ (bt a0 x3_1)) = true := decide_eq_true c9
      clear c9
      by_cases c10 : ((bt a0 x3_1) ≤ 57)
      ·
       rw [if_pos c10] at H
       have c10b0 : decide ((bt a0 x3_1) ≤ 57) = true := decide_eq_true c10
       clear c10
       have H' := Zh H
       clear H
       have p4 : 0 ≤ (x3_1 : Int) := Zo
       have q4 : x3_1 < (a0.size : Int) := Zo
       have hx4 := bt_at a0 x3_1
       replace p4 := eq_true p4
       replace q4 := eq_true q4
       go_wp2
       go_roundg k1
       case measure => have := HK1.out; omega
       case rel => exact ⟨(wrap64 (x3_1 + 1)), (by first | rfl | (simp; done) | (simp [*]; done)), H', ⟨by have := HK1.out; omega⟩, by repeat (first | exact Drawn0.refl _ | apply Drawn0.step)⟩
      rw [if_neg c10] at H
      have c10b0 : decide ((bt a0 x3_1) ≤ 57) = false := decide_eq_false c10
      clear c10
      obtain rfl := Option.some.inj H
      have p4 : 0 ≤ (x3_1 : Int) := Zo
      have q4 : x3_1 < (a0.size : Int) := Zo
      have hx4 := bt_at a0 x3_1
      replace p4 := eq_true p4
      replace q4 := eq_true q4
      go_wp2
      go_ret
      exact ⟨by first | rfl | (simp; done) | (simp [*]; done), by repeat (first | exact Drawn0.refl _ | apply Drawn0.step)⟩
     rw [if_neg c9] at H
     have c9b0 : decide (48 ≤ (bt a0 x3_1)) = false := decide_eq_false c9
     clear c9
     obtain rfl := Option.some.inj H
     have p4 : 0 ≤ (x3_1 : Int) := Zo
     have q4 : x3_1 < (a0.size : Int) := Zo
     have hx4 := bt_at a0 x3_1
     replace p4 := eq_true p4
     replace q4 := eq_true q4
     go_wp2
     go_ret
     exact ⟨by first | rfl | (simp; done) | (simp [*]; done), by repeat (first | exact Drawn0.refl _ | apply Drawn0.step)⟩
    rw [if_neg c3] at H
    exact absurd H (by simp)
   rw [if_neg c2] at H
   have c2b0 : decide (x3_1 < (a0.size : Int)) = false := decide_eq_false c2
   clear c2
   replace H := Option.bind_eq_some_iff.mp H
   obtain ⟨t110, A110, H⟩ := H
   replace H : (some t110) = some r := H
   have A11 := Zh A110
   clear A110
   obtain rfl := Option.some.inj H
   go_wp2_with (first | ((with_reducible refine gate_callee (f := 62) rfl ?_); refine ZG (some 32) Tryd.func62 #[.int .i64 (a0.size : Int), .int .i64 1, .int .i64 12] rfl ?_; (with_reducible refine (spec_l01In.calls (a0.size : Int) 1 12 t110 _ A11.out).mono ?_); rintro e w' ⟨rfl, ⟨nd, rfl⟩⟩; refine ⟨_, rfl, ?_⟩))
   go_ret
   exact ⟨by first | rfl | (simp; done) | (simp [*]; done), by repeat (first | exact Drawn0.refl _ | apply Drawn0.step)⟩
end Go.Proofs.YtcgojdhbphocgaaDoor.F

namespace Go.Proofs.YtcgojdhbphocgaaDoor.F
open Go.RowKit Go.Proofs.YtcgojdhbphocgaaDoorW.PrintWords Go.Proofs.YtcgojdhbphocgaaDoorW.PrintLast Go.Proofs.YtcgojdhbphocgaaDoorW.PrintMore
open Go.Proofs.YtcgojdhbphocgaaDoor
set_option linter.unusedVariables false
set_option linter.unusedSimpArgs false
def spec_DiskOk.l0 : Nat → Int → List (S55) → Option (Bool)
  | 0, _, _ => none
  | k + 1, x3, x => if x3 < (x.length : Int) then (if 0 ≤ x3 then ((spec_l01Name.f k ((rd_T55 x x3).f0)).bind fun t112 => (if t112 = true then (if (((rd_T55 x x3).f1).length : Int) > 20000 then (some false) else (if (((rd_T55 x x3).f2).length : Int) > (wrap64 (20000 - (((rd_T55 x x3).f1).length : Int))) then (some false) else (if x3 > 0 then (if 0 ≤ (wrap64 (x3 - 1)) then (if (wrap64 (x3 - 1)) < (x.length : Int) then (if ((Op.bytesLess (((rd_T55 x (wrap64 (x3 - 1))).f0).toList) (((rd_T55 x x3).f0).toList)) = true) then (spec_DiskOk.l0 k (wrap64 (x3 + 1)) x) else (some false)) else (none)) else (none)) else (spec_DiskOk.l0 k (wrap64 (x3 + 1)) x)))) else (some false))) else (none)) else (some true)
def spec_DiskOk.f (k : Nat) (l0_0 : List (S55)) : Option (Bool) := if (l0_0.length : Int) > 8 then (some false) else (spec_DiskOk.l0 k 0 l0_0)
set_option maxHeartbeats 8000000 in
set_option maxRecDepth 100000 in
theorem spec_DiskOk.calls (k : Nat) (A0_0 : Option Addr) (c0_0 : Nat) (l0_0 : List (S55)) (r : Bool) (w : World) (hr0_0 : Kd.C k55 w A0_0 l0_0.length l0_0) (hc0_0 : l0_0.length ≤ c0_0) (h : spec_DiskOk.f k l0_0 = some r) :
    Calls Tryd.prog 84 #[.agg #[.slice A0_0 l0_0.length c0_0]] w fun e w' => e = .returned (.bool r) ∧ Below w.heap.size w w' := by
  have HR := Zh hr0_0
  clear hr0_0 hc0_0
  have ST := Zh (LW.St.start w)
  have hu28 := Tryd.underlying28
  have hu55 := Tryd.underlying55
  unfold spec_DiskOk.f at h
  by_cases c1 : (l0_0.length : Int) > 8
  · rw [if_pos c1] at h
    obtain rfl := Option.some.inj h
    have q1 : decide (8 < (l0_0.length : Int)) = true := decide_eq_true c1
    have q2 : decide (8 < l0_0.length) = true := decide_eq_true (by omega)
    clear h c1
    go_enter Tryd.func84, Tryd.ntmps84
    go_wp2
    go_ret
    exact ⟨rfl, (ST.out.alloc _ _ rfl).b⟩
  rw [if_neg c1] at h
  have q1 : decide (8 < (l0_0.length : Int)) = false := decide_eq_false c1
  have q2 : decide (8 < l0_0.length) = false := decide_eq_false (by omega)
  have H := Zh h
  clear h c1
  go_enter Tryd.func84, Tryd.ntmps84
  go_wp2_with fail
  replace ST := Zh (ST.out.alloc #[.slice A0_0 l0_0.length c0_0] 28 (g := w.heap.size) rfl)
  generalize hW : (w.alloc (.cells #[.slice A0_0 l0_0.length c0_0] 28)) = W at ST ⊢
  clear hW q1 q2
  go_loopg [3] k (fun kq v3 w' => ∃ (x3 : Int), v3 = .int .i64 x3 ∧ Aside0 (spec_DiskOk.l0 kq x3 l0_0 = some r) ∧ Aside0 (LW.St w w' [LW.box w.heap.size #[.slice A0_0 l0_0.length c0_0] 28]))
  case atStart => exact ⟨0, rfl, H, ST⟩
  case round =>
    clear H ST
    obtain ⟨x3, rfl, HA, ST⟩ := hrel
    cases gk with
    | zero => exact absurd HA.out (by simp [spec_DiskOk.l0])
    | succ k1 =>
      have H := HA.out
      clear HA
      simp only [spec_DiskOk.l0] at H
      have hc0 := ST.out.cell 0 rfl 0 (u := .slice A0_0 l0_0.length c0_0) rfl
      have hl0 := ST.out.lt 0 rfl
      by_cases c8 : x3 < (l0_0.length : Int)
      · rw [if_pos c8] at H
        have q8 := decide_eq_true c8
        by_cases p0 : 0 ≤ x3
        · rw [if_pos p0] at H
          obtain ⟨t, A7, H⟩ := Option.bind_eq_some_iff.mp H
          obtain ⟨ad, B1, d1, B2, d2, e, E0, E1, E2, _, _, _, _⟩ := at_T55 HR.out x3 p0 c8
          cases e
          have hx0 := (ST.out.b.cell (Zi w _ E0)).trans E0
          have hx1 := (ST.out.b.cell (Zi w _ E1)).trans E1
          have hx2 := (ST.out.b.cell (Zi w _ E2)).trans E2
          have hcall : ∀ w' : World, Calls Tryd.prog 90 #[.string (rd_T55 l0_0 x3).f0] w' fun e w'' => e = .returned (.bool t) ∧ ∃ m, w'' = w'.drewN m := fun w' => (spec_l01Name.calls k1 (rd_T55 l0_0 x3).f0 t w' A7).mono (fun _ _ h => ⟨h.1, h.2.out⟩)
          have p1 := eq_true p0
          have p2 := eq_true c8
          clear E0 E1 E2 p0 c8 A7
          go_wp2_with fail
          replace ST := Zh (ST.out.alloc #[.string (rd_T55 l0_0 x3).f0, .slice B1 (rd_T55 l0_0 x3).f1.length d1, .slice B2 (rd_T55 l0_0 x3).f2.length d2] 55 (g := wr.heap.size) rfl)
          generalize (wr.alloc (.cells #[.string (rd_T55 l0_0 x3).f0, .slice B1 (rd_T55 l0_0 x3).f1.length d1, .slice B2 (rd_T55 l0_0 x3).f2.length d2] 55)) = w4 at ST ⊢
          clear hx0 hx1 hx2 hc0 hl0
          have hc0 := ST.out.cell 1 rfl 0 (u := .slice (some ad) l0_0.length c0_0) rfl
          have hc1 := ST.out.cell 0 rfl 0 (u := .string (rd_T55 l0_0 x3).f0) rfl
          have hc2 := ST.out.cell 0 rfl 1 (u := .slice B1 (rd_T55 l0_0 x3).f1.length d1) rfl
          have hc3 := ST.out.cell 0 rfl 2 (u := .slice B2 (rd_T55 l0_0 x3).f2.length d2) rfl
          cases t with
          | false =>
            rw [if_neg (by decide)] at H
            obtain rfl := Option.some.inj H
            clear H
            go_quiet (first | (go_at_call 90; exact Calls.quiet_of (hcall _)))
            go_wp2
            go_ret
            exact ⟨rfl, (ST.out.drewN _).b⟩
          | true =>
            rw [if_pos rfl] at H
            by_cases c9 : (((rd_T55 l0_0 x3).f1).length : Int) > 20000
            · rw [if_pos c9] at H
              obtain rfl := Option.some.inj H
              have q9 : decide (20000 < ((rd_T55 l0_0 x3).f1.length : Int)) = true := decide_eq_true c9
              have q9n : decide (20000 < (rd_T55 l0_0 x3).f1.length) = true := decide_eq_true (by omega)
              clear H c9
              go_quiet (first | (go_at_call 90; exact Calls.quiet_of (hcall _)))
              go_wp2
              go_ret
              exact ⟨rfl, (ST.out.drewN _).b⟩
            rw [if_neg c9] at H
            have q9 : decide (20000 < ((rd_T55 l0_0 x3).f1.length : Int)) = false := decide_eq_false c9
            have q9n : decide (20000 < (rd_T55 l0_0 x3).f1.length) = false := decide_eq_false (by omega)
            clear c9
            by_cases c10 : (((rd_T55 l0_0 x3).f2).length : Int) > (wrap64 (20000 - (((rd_T55 l0_0 x3).f1).length : Int)))
            · rw [if_pos c10] at H
              obtain rfl := Option.some.inj H
              have q10 : decide (wrap64 (20000 - ((rd_T55 l0_0 x3).f1.length : Int)) < ((rd_T55 l0_0 x3).f2.length : Int)) = true := decide_eq_true c10
              clear H c10
              go_quiet (first | (go_at_call 90; exact Calls.quiet_of (hcall _)))
              go_wp2
              go_ret
              exact ⟨rfl, (ST.out.drewN _).b⟩
            rw [if_neg c10] at H
            have q10 : decide (wrap64 (20000 - ((rd_T55 l0_0 x3).f1.length : Int)) < ((rd_T55 l0_0 x3).f2.length : Int)) = false := decide_eq_false c10
            clear c10
            by_cases c11 : x3 > 0
            · rw [if_pos c11] at H
              have q11 : decide (0 < x3) = true := decide_eq_true c11
              clear c11
              by_cases c12 : 0 ≤ wrap64 (x3 - 1)
              · rw [if_pos c12] at H
                by_cases c13 : wrap64 (x3 - 1) < (l0_0.length : Int)
                · rw [if_pos c13] at H
                  obtain ⟨ad2, B3, d3, B4, d4, e, E0, _, _, _, _, _, _⟩ := at_T55 HR.out (wrap64 (x3 - 1)) c12 c13
                  cases e
                  have hx0 := (ST.out.b.cell (Zi w _ E0)).trans E0
                  have p3 := eq_true c12
                  have p4 := eq_true c13
                  clear E0 c12 c13
                  go_quiet (first | (go_at_call 90; exact Calls.quiet_of (hcall _)))
                  cases hl : Op.bytesLess (rd_T55 l0_0 (wrap64 (x3 - 1))).f0.toList (rd_T55 l0_0 x3).f0.toList with
                  | true =>
                    rw [if_pos hl] at H
                    have H' := Zh H
                    clear H
                    go_wp2
                    go_roundg k1
                    case measure => omega
                    case rel => exact ⟨_, rfl, H', ⟨(ST.out.drewN _).tail⟩⟩
                  | false =>
                    rw [if_neg (by rw [hl]; decide)] at H
                    obtain rfl := Option.some.inj H
                    clear H
                    go_wp2
                    go_ret
                    exact ⟨rfl, (ST.out.drewN _).b⟩
                rw [if_neg c13] at H; exact absurd H (by simp)
              rw [if_neg c12] at H; exact absurd H (by simp)
            rw [if_neg c11] at H
            have q11 : decide (0 < x3) = false := decide_eq_false c11
            have H' := Zh H
            clear H c11
            go_quiet (first | (go_at_call 90; exact Calls.quiet_of (hcall _)))
            go_wp2
            go_roundg k1
            case measure => omega
            case rel => exact ⟨_, rfl, H', ⟨(ST.out.drewN _).tail⟩⟩
        rw [if_neg p0] at H; exact absurd H (by simp)
      rw [if_neg c8] at H
      have q8 := decide_eq_false c8
      obtain rfl := Option.some.inj H
      clear H c8
      go_wp2
      go_ret
      exact ⟨rfl, ST.out.b⟩
end Go.Proofs.YtcgojdhbphocgaaDoor.F

namespace Go.Proofs.YtcgojdhbphocgaaDoor.F
open Go.RowKit Go.Proofs.YtcgojdhbphocgaaDoorW.PrintWords Go.Proofs.YtcgojdhbphocgaaDoorW.PrintWords.Kd Go.Proofs.YtcgojdhbphocgaaDoorW.PrintMore.Kd Go.Proofs.YtcgojdhbphocgaaDoorW.PrintLast Go.Proofs.YtcgojdhbphocgaaDoorW.PrintMore
attribute [local go_sem] max2_int min2_int max_two min_two max_three min_three max_four min_four   -- for this text's walks alone
set_option linter.unusedVariables false
set_option linter.unusedSimpArgs false
def spec_l03Find.l0 : Nat → ByteArray → Int → List (S55) → Option (Int)
 | 0, _, _, _ => none
 | k + 1, x1, x5, x109000 => if x5 < (x109000.length : Int) then (if 0 ≤ x5 then (if ((rd_T55 x109000 x5).f0).toList = x1.toList then (some x5) else (spec_l03Find.l0 k x1 (wrap64 (x5 + 1)) x109000)) else (none)) else (some (-1))
def spec_l03Find.f (k : Nat) (l0_0 : List (S55)) (a1 : ByteArray) : Option (Int) := spec_l03Find.l0 k a1 0 l0_0
set_option maxHeartbeats 8000000 in
set_option maxRecDepth 100000 in
theorem spec_l03Find.calls (k : Nat) (A0_0 : Option Addr) (c0_0 : Nat) (l0_0 : List (S55)) (a1 : ByteArray) (r : Int) (w : World) (hr0_0 : Kd.C k55 w A0_0 l0_0.length l0_0) (hc0_0 : l0_0.length ≤ c0_0) (h : spec_l03Find.f k l0_0 a1 = some r) :
  Calls Tryd.prog 83 #[.agg #[.slice A0_0 l0_0.length c0_0], .string a1] w fun e w' => e = .returned (.int .i64 r) ∧ Below w.heap.size w w' := by
 have hu28 := Tryd.underlying28
 have HR0_0 := Zh hr0_0
 have HC0_0 := Zh hc0_0
 clear hr0_0 hc0_0
 have HB := Zh (Below.refl w.heap.size w)
 have H : (spec_l03Find.l0 k a1 0 l0_0) = some r := h
 clear h
 have H' := Zh H
 clear H
 go_enter Tryd.func83, Tryd.ntmps83
 go_wp2_with (first | ((with_reducible refine gate_dst (N := 2) rfl ?_); refine box_event ?hg (N := 2) ?hd (cs := #[.slice A0_0 l0_0.length c0_0]) (t := 28) ?hr ?_; (case hd => rfl); (case hg => rfl); (case hr => first | (go_simp; done) | (go_simp; rfl)); intro gb108 hg w3 hbox hb; have BK108 := Zh (hbox); have GW108 := Zh ((by rw [hg]; exact (below_size Zs) : w.heap.size ≤ gb108)); have GE108 := Zh ((by rw [hg]; exact (below_size Zs) : w.heap.size ≤ gb108)); replace HB := Zh (Zl Zs hb); clear hb hbox hg))
 go_loopg [5] k (fun kq v5 w' => ∃ (x5_1 : Int), v5 = .int .i64 x5_1 ∧ Aside0 (spec_l03Find.l0 kq a1 x5_1 l0_0 = some r) ∧ Aside0 (kq ≤ k) ∧ Aside0 (w'.heap[gb108]? = some (.cells #[(.slice A0_0 l0_0.length c0_0)] 28 (0, 0))) ∧ Aside0 (Below w.heap.size w w'))
 case atStart => exact ⟨(0), (by first | rfl | (simp; done) | (simp [*]; done)), H', ⟨Nat.le_refl _⟩, ⟨Zk⟩, ⟨Zs⟩⟩
 case round =>
  clear H'
  try clear p2
  obtain ⟨x5_1, rfl, HA, HK1, BK108, HB⟩ := hrel
  cases gk with
  | zero => exact absurd HA.out (by simp [spec_l03Find.l0])
  | succ k1 =>
   have H := HA.out
   clear HA
   simp only [spec_l03Find.l0] at H
   by_cases c4 : x5_1 < (l0_0.length : Int)
   ·
    rw [if_pos c4] at H
    have c4b0 : decide (x5_1 < (l0_0.length : Int)) = true := decide_eq_true c4
    clear c4
    by_cases c5 : 0 ≤ x5_1
    ·
     rw [if_pos c5] at H
     have c5b0 : decide (0 ≤ x5_1) = true := decide_eq_true c5
     clear c5
     by_cases c6 : ((rd_T55 l0_0 x5_1).f0).toList = a1.toList
     ·
      rw [if_pos c6] at H
      have c6b0 : (((rd_T55 l0_0 x5_1).f0).toList == a1.toList) = true := beq_iff_eq.mpr c6
      have c6b1 : (((rd_T55 l0_0 x5_1).f0).toList != a1.toList) = false := bne_eq_false_iff_eq.mpr c6
      clear c6
      obtain rfl := Option.some.inj H
      have hcz7_0 : wr.cell? ⟨gb108, 0, none⟩ = some (.slice A0_0 l0_0.length c0_0) := (blk_cell BK108.out 0).trans rfl
      have hfz7_0 := Zn BK108.out 0
      have p109 : 0 ≤ (x5_1 : Int) := Zo
      have q109 : x5_1 < (l0_0.length : Int) := Zo
      obtain ⟨ad109, A109_1, c109_1, A109_2, c109_2, e109, hx109_0, hx109_1, hx109_2, hl109_1, hi109_1, hl109_2, hi109_2⟩ := at_T55 HR0_0.out x5_1 p109 q109
      cases e109
      replace hx109_0 := Zc HB.out hx109_0
      replace hx109_1 := Zc HB.out hx109_1
      replace hx109_2 := Zc HB.out hx109_2
      have HR109_1 := Zh hi109_1
      have HC109_1 := Zh hl109_1
      clear hi109_1 hl109_1
      have HR109_2 := Zh hi109_2
      have HC109_2 := Zh hl109_2
      clear hi109_2 hl109_2
      replace p109 := eq_true p109
      replace q109 := eq_true q109
      go_wp2
      go_ret
      exact ⟨ZE, Zs⟩
     rw [if_neg c6] at H
     have c6b0 : (((rd_T55 l0_0 x5_1).f0).toList == a1.toList) = false := beq_eq_false_iff_ne.mpr c6
     have c6b1 : (((rd_T55 l0_0 x5_1).f0).toList != a1.toList) = true := bne_iff_ne.mpr c6
     have H' := Zh H
     clear H
     have hcz8_0 : wr.cell? ⟨gb108, 0, none⟩ = some (.slice A0_0 l0_0.length c0_0) := (blk_cell BK108.out 0).trans rfl
     have hfz8_0 := Zn BK108.out 0
     have p109 : 0 ≤ (x5_1 : Int) := Zo
     have q109 : x5_1 < (l0_0.length : Int) := Zo
     obtain ⟨ad109, A109_1, c109_1, A109_2, c109_2, e109, hx109_0, hx109_1, hx109_2, hl109_1, hi109_1, hl109_2, hi109_2⟩ := at_T55 HR0_0.out x5_1 p109 q109
     cases e109
     replace hx109_0 := Zc HB.out hx109_0
     replace hx109_1 := Zc HB.out hx109_1
     replace hx109_2 := Zc HB.out hx109_2
     have HR109_1 := Zh hi109_1
     have HC109_1 := Zh hl109_1
     clear hi109_1 hl109_1
     have HR109_2 := Zh hi109_2
     have HC109_2 := Zh hl109_2
     clear hi109_2 hl109_2
     replace p109 := eq_true p109
     replace q109 := eq_true q109
     go_wp2
     go_roundg k1
     case measure => have := HK1.out; omega
     case rel => exact ⟨(wrap64 (x5_1 + 1)), (by first | rfl | (simp; done) | (simp [*]; done)), H', ⟨by have := HK1.out; omega⟩, ⟨Zk⟩, ⟨Zs⟩⟩
    rw [if_neg c5] at H
    exact absurd H (by simp)
   rw [if_neg c4] at H
   have c4b0 : decide (x5_1 < (l0_0.length : Int)) = false := decide_eq_false c4
   clear c4
   obtain rfl := Option.some.inj H
   have hcz9_0 : wr.cell? ⟨gb108, 0, none⟩ = some (.slice A0_0 l0_0.length c0_0) := (blk_cell BK108.out 0).trans rfl
   have hfz9_0 := Zn BK108.out 0
   go_wp2
   go_ret
   exact ⟨ZE, Zs⟩
def spec_l01Bytes.l0 : Nat → List Int → List Int → Int → Option (List Int)
 | 0, _, _, _ => none
 | k + 1, x0, x3, x4 => if x4 < (x0.length : Int) then (if 0 ≤ x4 then (if x3.length < 140737488355328 then (spec_l01Bytes.l0 k x0 (x3 ++ [rd x0 x4]) (wrap64 (x4 + 1))) else (none)) else (none)) else (some x3)
def spec_l01Bytes.f (k : Nat) (l0 : List Int) : Option (List Int) := spec_l01Bytes.l0 k l0 (([] : List Int)) 0
set_option maxHeartbeats 8000000 in
set_option maxRecDepth 100000 in
theorem spec_l01Bytes.calls (k : Nat) (A0 : Option Addr) (c0 : Nat) (l0 : List Int) (r : List Int) (w : World) (hr0 : Kd.C (Kd.int .u8) w A0 l0.length l0) (hc0 : l0.length ≤ c0) (h : spec_l01Bytes.f k l0 = some r) :
  Calls Tryd.prog 87 #[.slice A0 l0.length c0] w fun e w' => ∃ v0_ : Value, e = .returned (v0_) ∧ Kd.R (Kd.int .u8) 5 w' w.heap.size (fun _ => True) v0_ r ∧ Below w.heap.size w w' := by
 have HR0 := Zh hr0
 have HC0 := Zh hc0
 clear hr0 hc0
 have HB := Zh (Below.refl w.heap.size w)
 have H : (spec_l01Bytes.l0 k l0 (([] : List Int)) 0) = some r := h
 clear h
 obtain ⟨y111, hy111⟩ : ∃ y_ : List Int, y_ = (([] : List Int)) := ⟨_, rfl⟩
 replace H : (spec_l01Bytes.l0 k l0 y111 0) = some r := by first | (rw [hy111]; with_reducible exact H) | (have H2_ := (Option.bind_some _ _).symm.trans H; rw [hy111]; with_reducible exact H2_) | (have H2_ := (Option.bind_some _ _).symm.trans H; with_reducible exact H2_) | with_reducible exact H | (rw [hy111]; exact H) | exact H
 have Ny111 := Zh hy111
 clear hy111
 have H' := Zh H
 clear H
 go_enter Tryd.func87, Tryd.ntmps87
 go_wp2_with (first | ((with_reducible refine gate_dst (N := 5) rfl ?_); refine R_lit (Kd.int .u8) _ 5 ?hg (N := 5) ?hd (xs := ([] : List Int)) (inner := []) (ok := fun _ => True) (okp := fun _ => True) ?hr ?hp (fun _ hk => hk) trivial (Below.refl _ _) (Nat.le_refl _) (by simp) ?_; (case hd => rfl); (case hg => rfl); (case hr => first | (go_simp; done) | (go_simp; rfl)); (case hp => exact (Reps.none _ _)); intro v112 w2 ho3 hb hg_ hnew_; clear hg_ hnew_; (first | rw [← Ny111.out] at ho3 | (simp only [Int.reduceToNat] at ho3; rw [← Ny111.out] at ho3)); have HO113 := Zh (R_lower ho3 (below_size Zs)); replace HB := Zh (Zl Zs hb); clear hb ho3))
 go_loopg [3, 4] k (fun kq v3 v4 w' => ∃ (x3_1 : List Int) (x4_1 : Int), v4 = .int .i64 x4_1 ∧ Aside0 (spec_l01Bytes.l0 kq l0 x3_1 x4_1 = some r) ∧ Aside0 (kq ≤ k) ∧ Aside0 (Kd.R (Kd.int .u8) 5 w' w.heap.size (fun _ => True) v3 x3_1) ∧ Aside0 (Below w.heap.size w w'))
 case atStart => exact ⟨(y111), (0), (by first | rfl | (simp; done) | (simp [*]; done)), H', ⟨Nat.le_refl _⟩, ⟨ZR HO113.out⟩, ⟨Zs⟩⟩
 case round =>
  clear H'
  try clear p2
  obtain ⟨x3_1, x4_1, rfl, HA, HK1, HO_3, HB⟩ := hrel
  cases gk with
  | zero => exact absurd HA.out (by simp [spec_l01Bytes.l0])
  | succ k1 =>
   have H := HA.out
   clear HA
   simp only [spec_l01Bytes.l0] at H
   by_cases c4 : x4_1 < (l0.length : Int)
   ·
    rw [if_pos c4] at H
    have c4b0 : decide (x4_1 < (l0.length : Int)) = true := decide_eq_true c4
    clear c4
    by_cases c5 : 0 ≤ x4_1
    ·
     rw [if_pos c5] at H
     have c5b0 : decide (0 ≤ x4_1) = true := decide_eq_true c5
     clear c5
     by_cases c6 : x3_1.length < 140737488355328
     ·
      rw [if_pos c6] at H
      have LMc6 := Zh c6
      clear c6
      obtain ⟨y115, hy115⟩ : ∃ y_ : List Int, y_ = (x3_1 ++ [rd l0 x4_1]) := ⟨_, rfl⟩
      replace H : (spec_l01Bytes.l0 k1 l0 y115 (wrap64 (x4_1 + 1))) = some r := by first | (rw [hy115]; with_reducible exact H) | (have H2_ := (Option.bind_some _ _).symm.trans H; rw [hy115]; with_reducible exact H2_) | (have H2_ := (Option.bind_some _ _).symm.trans H; with_reducible exact H2_) | with_reducible exact H | (rw [hy115]; exact H) | exact H
      have Ny115 := Zh hy115
      clear hy115
      have H' := Zh H
      clear H
      have p114 : 0 ≤ (x4_1 : Int) := Zo
      have q114 : x4_1 < (l0.length : Int) := Zo
      obtain ⟨ad114, e114, hx114_0⟩ := Kd.at_int HR0.out x4_1 p114 q114
      cases e114
      replace hx114_0 := Zc HB.out hx114_0
      replace p114 := eq_true p114
      replace q114 := eq_true q114
      go_wp2_with (first | ((with_reducible refine gate_builtin (b := .append) (xs := #[.tmp 12, .tmp 17]) rfl ?_); at_builtin; refine R_append (Kd.int .u8) (w0 := w) w.heap.size rfl (.tmp 12) (.tmp 17) 41 5 (.int .u8 0) 1 rfl Tryd.underlying41 info5 rfl (by decide) (by omega) u3 x3_1 (rd l0 x4_1) [.int .u8 (rd l0 x4_1)] (fun _ => True) (fun _ => False) rfl rfl ?aP (fun _ hk => hk.elim) ?aF ?aO ?aB ?aS ?aL ?_; (case aP => exact rfl); (case aB => exact Zs); (case aF => exact (fun _ _ => trivial)); (case aO => exact (ZR HO_3.out)); (case aS => exact (below_size Zs)); (case aL => have := LMc6.out; omega); intro v116 w7 ho hb hg hat; rw [← Ny115.out] at ho; have n0_ := Zh (hb); have n1_ := Zh (ho); clear HB; clear HO_3; have HB := n0_; have HO117 := n1_; clear n0_ n1_; clear ho hb hg hat))
      go_roundg k1
      case measure => have := HK1.out; omega
      case rel => exact ⟨(y115), (wrap64 (x4_1 + 1)), (by first | rfl | (simp; done) | (simp [*]; done)), H', ⟨by have := HK1.out; omega⟩, ⟨ZR HO117.out⟩, ⟨Zs⟩⟩
     rw [if_neg c6] at H
     exact absurd H (by simp)
    rw [if_neg c5] at H
    exact absurd H (by simp)
   rw [if_neg c4] at H
   have c4b0 : decide (x4_1 < (l0.length : Int)) = false := decide_eq_false c4
   clear c4
   obtain rfl := Option.some.inj H
   go_wp2
   go_ret
   exact ⟨_, ZE, ZR HO_3.out, Zs⟩
def spec_l01Join.l0 : Nat → List Int → List Int → Int → Option (List Int)
 | 0, _, _, _ => none
 | k + 1, x1, x5, x6 => if x6 < (x1.length : Int) then (if 0 ≤ x6 then (if x5.length < 140737488355328 then (spec_l01Join.l0 k x1 (x5 ++ [rd x1 x6]) (wrap64 (x6 + 1))) else (none)) else (none)) else (some x5)
def spec_l01Join.f (k : Nat) (l0 : List Int) (l1 : List Int) : Option (List Int) := (spec_l01Bytes.f k l0).bind fun t118 => (spec_l01Join.l0 k l1 t118 0)
set_option maxHeartbeats 8000000 in
set_option maxRecDepth 100000 in
theorem spec_l01Join.calls (k : Nat) (A0 : Option Addr) (c0 : Nat) (l0 : List Int) (A1 : Option Addr) (c1 : Nat) (l1 : List Int) (r : List Int) (w : World) (hr0 : Kd.C (Kd.int .u8) w A0 l0.length l0) (hc0 : l0.length ≤ c0) (hr1 : Kd.C (Kd.int .u8) w A1 l1.length l1) (hc1 : l1.length ≤ c1) (h : spec_l01Join.f k l0 l1 = some r) :
  Calls Tryd.prog 85 #[.slice A0 l0.length c0, .slice A1 l1.length c1] w fun e w' => ∃ v0_ : Value, e = .returned (v0_) ∧ Kd.R (Kd.int .u8) 5 w' w.heap.size (fun _ => True) v0_ r ∧ Below w.heap.size w w' := by
 have HR0 := Zh hr0
 have HC0 := Zh hc0
 clear hr0 hc0
 have HR1 := Zh hr1
 have HC1 := Zh hc1
 clear hr1 hc1
 have HB := Zh (Below.refl w.heap.size w)
 have H : ((spec_l01Bytes.f k l0).bind fun t118 => (spec_l01Join.l0 k l1 t118 0)) = some r := h
 clear h
 replace H := Option.bind_eq_some_iff.mp H
 obtain ⟨t118, A30, H⟩ := H
 replace H : (spec_l01Join.l0 k l1 t118 0) = some r := H
 have A3 := Zh A30
 clear A30
 have H' := Zh H
 clear H
 go_enter Tryd.func85, Tryd.ntmps85
 go_wp2_with (first | ((with_reducible refine gate_callee (f := 87) rfl ?_); refine ZG (some 8) Tryd.func87 #[.slice A0 l0.length c0] rfl ?_; (with_reducible refine (spec_l01Bytes.calls k _ _ l0 t118 _ ?side1 ?side2 A3.out).mono ?_); (case side1 => repeat (first | exact HR0.out | (with_reducible refine C_alloc ?_ _) | (with_reducible refine C_drewN ?_ _) | (with_reducible refine C_drew ?_))); (case side2 => exact HC0.out); rintro e w4 ⟨v119, rfl, ho0, hb⟩; refine ⟨_, rfl, ?_⟩; have HO120 := Zh (R_lower ho0 (below_size Zs)); replace HB := Zh (Zl Zs hb); (try clear hb); (try clear hb2); (try clear hk); (try clear hi); (try clear ho0)))
 go_loopg [5, 6] k (fun kq v5 v6 w' => ∃ (x5_1 : List Int) (x6_1 : Int), v6 = .int .i64 x6_1 ∧ Aside0 (spec_l01Join.l0 kq l1 x5_1 x6_1 = some r) ∧ Aside0 (kq ≤ k) ∧ Aside0 (Kd.R (Kd.int .u8) 5 w' w.heap.size (fun _ => True) v5 x5_1) ∧ Aside0 (Below w.heap.size w w'))
 case atStart => exact ⟨(t118), (0), (by first | rfl | (simp; done) | (simp [*]; done)), H', ⟨Nat.le_refl _⟩, ⟨ZR HO120.out⟩, ⟨Zs⟩⟩
 case round =>
  clear H'
  try clear c1
  try clear p2
  obtain ⟨x5_1, x6_1, rfl, HA, HK1, HO_5, HB⟩ := hrel
  cases gk with
  | zero => exact absurd HA.out (by simp [spec_l01Join.l0])
  | succ k1 =>
   have H := HA.out
   clear HA
   simp only [spec_l01Join.l0] at H
   by_cases c5 : x6_1 < (l1.length : Int)
   ·
    rw [if_pos c5] at H
    have c5b0 : decide (x6_1 < (l1.length : Int)) = true := decide_eq_true c5
    clear c5
    by_cases c6 : 0 ≤ x6_1
    ·
     rw [if_pos c6] at H
     have c6b0 : decide (0 ≤ x6_1) = true := decide_eq_true c6
     clear c6
     by_cases c7 : x5_1.length < 140737488355328
     ·
      rw [if_pos c7] at H
      have LMc7 := Zh c7
      clear c7
      obtain ⟨y122, hy122⟩ : ∃ y_ : List Int, y_ = (x5_1 ++ [rd l1 x6_1]) := ⟨_, rfl⟩
      replace H : (spec_l01Join.l0 k1 l1 y122 (wrap64 (x6_1 + 1))) = some r := by first | (rw [hy122]; with_reducible exact H) | (have H2_ := (Option.bind_some _ _).symm.trans H; rw [hy122]; with_reducible exact H2_) | (have H2_ := (Option.bind_some _ _).symm.trans H; with_reducible exact H2_) | with_reducible exact H | (rw [hy122]; exact H) | exact H
      have Ny122 := Zh hy122
      clear hy122
      have H' := Zh H
      clear H
      have p121 : 0 ≤ (x6_1 : Int) := Zo
      have q121 : x6_1 < (l1.length : Int) := Zo
      obtain ⟨ad121, e121, hx121_0⟩ := Kd.at_int HR1.out x6_1 p121 q121
      cases e121
      replace hx121_0 := Zc HB.out hx121_0
      replace p121 := eq_true p121
      replace q121 := eq_true q121
      go_wp2_with (first | ((with_reducible refine gate_builtin (b := .append) (xs := #[.tmp 15, .tmp 20]) rfl ?_); at_builtin; refine R_append (Kd.int .u8) (w0 := w) w.heap.size rfl (.tmp 15) (.tmp 20) 41 5 (.int .u8 0) 1 rfl Tryd.underlying41 info5 rfl (by decide) (by omega) u5 x5_1 (rd l1 x6_1) [.int .u8 (rd l1 x6_1)] (fun _ => True) (fun _ => False) rfl rfl ?aP (fun _ hk => hk.elim) ?aF ?aO ?aB ?aS ?aL ?_; (case aP => exact rfl); (case aB => exact Zs); (case aF => exact (fun _ _ => trivial)); (case aO => exact (ZR HO_5.out)); (case aS => exact (below_size Zs)); (case aL => have := LMc7.out; omega); intro v123 w8 ho hb hg hat; rw [← Ny122.out] at ho; have n0_ := Zh (hb); have n1_ := Zh (ho); clear HB; clear HO_5; have HB := n0_; have HO124 := n1_; clear n0_ n1_; clear ho hb hg hat))
      go_roundg k1
      case measure => have := HK1.out; omega
      case rel => exact ⟨(y122), (wrap64 (x6_1 + 1)), (by first | rfl | (simp; done) | (simp [*]; done)), H', ⟨by have := HK1.out; omega⟩, ⟨ZR HO124.out⟩, ⟨Zs⟩⟩
     rw [if_neg c7] at H
     exact absurd H (by simp)
    rw [if_neg c6] at H
    exact absurd H (by simp)
   rw [if_neg c5] at H
   have c5b0 : decide (x6_1 < (l1.length : Int)) = false := decide_eq_false c5
   clear c5
   obtain rfl := Option.some.inj H
   go_wp2
   go_ret
   exact ⟨_, ZE, ZR HO_5.out, Zs⟩
end Go.Proofs.YtcgojdhbphocgaaDoor.F

namespace Go.Proofs.YtcgojdhbphocgaaDoor.F
open Go.Proofs.YtcgojdhbphocgaaDoor
open Go.RowKit Go.Proofs.YtcgojdhbphocgaaDoorW.PrintWords Go.Proofs.YtcgojdhbphocgaaDoorW.PrintWords.Kd Go.Proofs.YtcgojdhbphocgaaDoorW.PrintMore.Kd Go.Proofs.YtcgojdhbphocgaaDoorW.PrintLast Go.Proofs.YtcgojdhbphocgaaDoorW.PrintMore
attribute [local go_sem] max2_int min2_int max_two min_two max_three min_three max_four min_four   -- for this text's walks alone
set_option linter.unusedVariables false
set_option linter.unusedSimpArgs false
def spec_Content.f (k : Nat) (l0_0 : List (S55)) (a1 : ByteArray) : Option (List Int × Bool) := (spec_l03Find.f k l0_0 a1).bind fun t126 => ((spec_DiskOk.f k l0_0).bind fun t127 => (if t127 = true then (if t126 < 0 then (some (([] : List Int), false)) else (if 0 ≤ t126 then (if t126 < (l0_0.length : Int) then ((spec_l01Join.f k ((rd_T55 l0_0 t126).f1) ((rd_T55 l0_0 t126).f2)).bind fun t130 => (some (t130, true))) else (none)) else (none))) else (some (([] : List Int), false))))
def spec_Content.T4 : Bool × List (List Nat × List Nat) := (true, [([], []), ([0], [0]), ([], []), ([1, 2], [1, 2]), ([3], [3]), ([4], [4]), ([], []), ([6], [6]), ([], []), ([7, 8], [7, 8]), ([9], [9]), ([10], [10]), ([5, 11], [5, 11]), ([12, 12, 0, 1, 2, 3, 4, 5, 6, 7, 8, 9, 10, 11, 12], [12]), ([13, 0, 1, 2, 3, 4, 5, 6, 7, 8, 9, 10, 11, 12, 13], [])])
def spec_Content.B4 : List Nat := [0, 1, 0, 7, 15, 31, 0, 64, 0, 448, 960, 1984, 4095, 8191, 16383]
theorem spec_Content.tab4 : rtab .any (opsOf Tryd.f50 4) = spec_Content.T4 := by kernel_rfl
theorem spec_Content.bits4 : waitsOk spec_Content.T4.2 spec_Content.B4 = true := by kernel_rfl
set_option maxHeartbeats 8000000 in
set_option maxRecDepth 100000 in
theorem spec_Content.calls (k : Nat) (A0_0 : Option Addr) (c0_0 : Nat) (l0_0 : List (S55)) (a1 : ByteArray) (r1 : List Int) (r2 : Bool) (w : World) (hr0_0 : Kd.C k55 w A0_0 l0_0.length l0_0) (hc0_0 : l0_0.length ≤ c0_0) (h : spec_Content.f k l0_0 a1 = some (r1, r2)) :
  Calls Tryd.prog 50 #[.agg #[.slice A0_0 l0_0.length c0_0], .string a1] w fun e w' => ∃ v0_ : Value, e = .returned (.tuple #[v0_, .bool r2]) ∧ Kd.R (Kd.int .u8) 5 w' w.heap.size (fun _ => True) v0_ r1 ∧ Below w.heap.size w w' := by
 have hu28 := Tryd.underlying28
 have HR0_0 := Zh hr0_0
 have HC0_0 := Zh hc0_0
 clear hr0_0 hc0_0
 have HB := Zh (Below.refl w.heap.size w)
 have H : ((spec_l03Find.f k l0_0 a1).bind fun t126 => ((spec_DiskOk.f k l0_0).bind fun t127 => (if t127 = true then (if t126 < 0 then (some (([] : List Int), false)) else (if 0 ≤ t126 then (if t126 < (l0_0.length : Int) then ((spec_l01Join.f k ((rd_T55 l0_0 t126).f1) ((rd_T55 l0_0 t126).f2)).bind fun t130 => (some (t130, true))) else (none)) else (none))) else (some (([] : List Int), false))))) = some (r1, r2) := h
 clear h
 replace H := Option.bind_eq_some_iff.mp H
 obtain ⟨t126, A30, H⟩ := H
 replace H : ((spec_DiskOk.f k l0_0).bind fun t127 => (if t127 = true then (if t126 < 0 then (some (([] : List Int), false)) else (if 0 ≤ t126 then (if t126 < (l0_0.length : Int) then ((spec_l01Join.f k ((rd_T55 l0_0 t126).f1) ((rd_T55 l0_0 t126).f2)).bind fun t130 => (some (t130, true))) else (none)) else (none))) else (some (([] : List Int), false)))) = some (r1, r2) := H
 have A3 := Zh A30
 clear A30
 replace H := Option.bind_eq_some_iff.mp H
 obtain ⟨t127, A40, H⟩ := H
 replace H : (if t127 = true then (if t126 < 0 then (some (([] : List Int), false)) else (if 0 ≤ t126 then (if t126 < (l0_0.length : Int) then ((spec_l01Join.f k ((rd_T55 l0_0 t126).f1) ((rd_T55 l0_0 t126).f2)).bind fun t130 => (some (t130, true))) else (none)) else (none))) else (some (([] : List Int), false))) = some (r1, r2) := H
 have A4 := Zh A40
 clear A40
 by_cases c5 : t127 = true
 ·
  subst c5
  have H1 : (if t126 < 0 then (some (([] : List Int), false)) else (if 0 ≤ t126 then (if t126 < (l0_0.length : Int) then ((spec_l01Join.f k ((rd_T55 l0_0 t126).f1) ((rd_T55 l0_0 t126).f2)).bind fun t130 => (some (t130, true))) else (none)) else (none))) = some (r1, r2) := by rw [if_pos rfl] at H; exact H
  clear H
  have H := H1
  clear H1
  by_cases c6 : t126 < 0
  ·
   rw [if_pos c6] at H
   have c6b0 : decide (t126 < 0) = true := decide_eq_true c6
   clear c6
   simp only [Option.some.injEq, Prod.mk.injEq] at H
   obtain ⟨rfl, rfl⟩ := H
   go_enter Tryd.func50, Tryd.ntmps50
   go_wp2_with (first | ((with_reducible refine gate_dst (N := 2) rfl ?_); refine box_event ?hg (N := 2) ?hd (cs := #[.slice A0_0 l0_0.length c0_0]) (t := 28) ?hr ?_; (case hd => rfl); (case hg => rfl); (case hr => first | (go_simp; done) | (go_simp; rfl)); intro gb125 hg w7 hbox hb; have BK125 := Zh (hbox); have GW125 := Zh ((by rw [hg]; exact (below_size Zs) : w.heap.size ≤ gb125)); have GE125 := Zh ((by rw [hg]; exact (below_size Zs) : w.heap.size ≤ gb125)); replace HB := Zh (Zl Zs hb); clear hb hbox hg; have hcz8_0 : w7.cell? ⟨gb125, 0, none⟩ = some (.slice A0_0 l0_0.length c0_0) := (blk_cell BK125.out 0).trans rfl; have hfz8_0 := Zn BK125.out 0) | ((with_reducible refine gate_callee (f := 83) rfl ?_); refine ZG (some 9) Tryd.func83 #[.agg #[.slice A0_0 l0_0.length c0_0], .string a1] rfl ?_; (with_reducible refine (spec_l03Find.calls k _ _ l0_0 a1 t126 _ ?side1 ?side2 A3.out).mono ?_); (case side1 => repeat (first | exact (C_below HR0_0.out HB.out) | (with_reducible refine C_alloc ?_ _) | (with_reducible refine C_drewN ?_ _) | (with_reducible refine C_drew ?_))); (case side2 => exact HC0_0.out); rintro e w9 ⟨rfl, hb⟩; refine ⟨_, rfl, ?_⟩; replace BK125 := Zh (Zm (g := gb125) (o := .cells #[.slice A0_0 l0_0.length c0_0] 28 (0, 0)) Zk hb); replace HB := Zh (Zl Zs hb); (try clear hb); (try clear hb2); (try clear hk); (try clear hi); have hcz10_0 : w9.cell? ⟨gb125, 0, none⟩ = some (.slice A0_0 l0_0.length c0_0) := (blk_cell BK125.out 0).trans rfl; have hfz10_0 := Zn BK125.out 0) | ((with_reducible refine gate_callee (f := 84) rfl ?_); refine ZG (some 11) Tryd.func84 #[.agg #[.slice A0_0 l0_0.length c0_0]] rfl ?_; (with_reducible refine (spec_DiskOk.calls k _ _ l0_0 true _ ?side1 ?side2 A4.out).mono ?_); (case side1 => repeat (first | exact (C_below HR0_0.out HB.out) | (with_reducible refine C_alloc ?_ _) | (with_reducible refine C_drewN ?_ _) | (with_reducible refine C_drew ?_))); (case side2 => exact HC0_0.out); rintro e w11 ⟨rfl, hb⟩; refine ⟨_, rfl, ?_⟩; replace BK125 := Zh (Zm (g := gb125) (o := .cells #[.slice A0_0 l0_0.length c0_0] 28 (0, 0)) Zk hb); replace HB := Zh (Zl Zs hb); (try clear hb); (try clear hb2); (try clear hk); (try clear hi)))
   go_ret2
   exact ⟨_, ZE, by first | exact R_nil _ _ _ _ _ | exact N_nil _ _ _ _ _ | exact V_nil _ _ _ _ _ | exact Q_nil _ _ _ _ _ | exact S_nil _ _ _ _ _, Zs⟩
  rw [if_neg c6] at H
  have c6b0 : decide (t126 < 0) = false := decide_eq_false c6
  clear c6
  by_cases c12 : 0 ≤ t126
  ·
   rw [if_pos c12] at H
   have c12b0 : decide (0 ≤ t126) = true := decide_eq_true c12
   clear c12
   by_cases c13 : t126 < (l0_0.length : Int)
   ·
    rw [if_pos c13] at H
    have c13b0 : decide (t126 < (l0_0.length : Int)) = true := decide_eq_true c13
    clear c13
    replace H := Option.bind_eq_some_iff.mp H
    obtain ⟨t130, A140, H⟩ := H
    replace H : (some (t130, true)) = some (r1, r2) := H
    have A14 := Zh A140
    clear A140
    simp only [Option.some.injEq, Prod.mk.injEq] at H
    obtain ⟨rfl, rfl⟩ := H
    go_enter Tryd.func50, Tryd.ntmps50
    try go_wp2_with (first | ((with_reducible refine gate_dst (N := 2) rfl ?_); refine box_event ?hg (N := 2) ?hd (cs := #[.slice A0_0 l0_0.length c0_0]) (t := 28) ?hr ?_; (case hd => rfl); (case hg => rfl); (case hr => first | (go_simp; done) | (go_simp; rfl)); intro gb125 hg w15 hbox hb; have BK125 := Zh (hbox); have GW125 := Zh ((by rw [hg]; exact (below_size Zs) : w.heap.size ≤ gb125)); have GE125 := Zh ((by rw [hg]; exact (below_size Zs) : w.heap.size ≤ gb125)); replace HB := Zh (Zl Zs hb); clear hb hbox hg; have hcz16_0 : w15.cell? ⟨gb125, 0, none⟩ = some (.slice A0_0 l0_0.length c0_0) := (blk_cell BK125.out 0).trans rfl; have hfz16_0 := Zn BK125.out 0) | ((with_reducible refine gate_callee (f := 83) rfl ?_); refine ZG (some 9) Tryd.func83 #[.agg #[.slice A0_0 l0_0.length c0_0], .string a1] rfl ?_; (with_reducible refine (spec_l03Find.calls k _ _ l0_0 a1 t126 _ ?side1 ?side2 A3.out).mono ?_); (case side1 => repeat (first | exact (C_below HR0_0.out HB.out) | (with_reducible refine C_alloc ?_ _) | (with_reducible refine C_drewN ?_ _) | (with_reducible refine C_drew ?_))); (case side2 => exact HC0_0.out); rintro e w17 ⟨rfl, hb⟩; refine ⟨_, rfl, ?_⟩; replace BK125 := Zh (Zm (g := gb125) (o := .cells #[.slice A0_0 l0_0.length c0_0] 28 (0, 0)) Zk hb); replace HB := Zh (Zl Zs hb); (try clear hb); (try clear hb2); (try clear hk); (try clear hi); have hcz18_0 : w17.cell? ⟨gb125, 0, none⟩ = some (.slice A0_0 l0_0.length c0_0) := (blk_cell BK125.out 0).trans rfl; have hfz18_0 := Zn BK125.out 0) | ((with_reducible refine gate_callee (f := 84) rfl ?_); refine ZG (some 11) Tryd.func84 #[.agg #[.slice A0_0 l0_0.length c0_0]] rfl ?_; (with_reducible refine (spec_DiskOk.calls k _ _ l0_0 true _ ?side1 ?side2 A4.out).mono ?_); (case side1 => repeat (first | exact (C_below HR0_0.out HB.out) | (with_reducible refine C_alloc ?_ _) | (with_reducible refine C_drewN ?_ _) | (with_reducible refine C_drew ?_))); (case side2 => exact HC0_0.out); rintro e w19 ⟨rfl, hb⟩; refine ⟨_, rfl, ?_⟩; replace BK125 := Zh (Zm (g := gb125) (o := .cells #[.slice A0_0 l0_0.length c0_0] 28 (0, 0)) Zk hb); replace HB := Zh (Zl Zs hb); (try clear hb); (try clear hb2); (try clear hk); (try clear hi)))
    replace BK125 := Zh (Zb BK125.out)
    replace HB := Zh (Ze HB.out)
    have p128 : 0 ≤ (t126 : Int) := Zo
    have q128 : t126 < (l0_0.length : Int) := Zo
    obtain ⟨ad128, A128_1, c128_1, A128_2, c128_2, e128, hx128_0, hx128_1, hx128_2, hl128_1, hi128_1, hl128_2, hi128_2⟩ := at_T55 HR0_0.out t126 p128 q128
    have hw128_2 := hx128_2
    have hw128_1 := hx128_1
    have hw128_0 := hx128_0
    cases e128
    replace hx128_0 := Zc HB.out hx128_0
    replace hx128_1 := Zc HB.out hx128_1
    replace hx128_2 := Zc HB.out hx128_2
    have HR128_1 := Zh hi128_1
    have HC128_1 := Zh hl128_1
    clear hi128_1 hl128_1
    have HR128_2 := Zh hi128_2
    have HC128_2 := Zh hl128_2
    clear hi128_2 hl128_2
    replace p128 := eq_true p128
    replace q128 := eq_true q128
    have p129 : 0 ≤ (t126 : Int) := Zo
    have q129 : t126 < (l0_0.length : Int) := Zo
    obtain ⟨ad129, A129_1, c129_1, A129_2, c129_2, e129, hx129_0, hx129_1, hx129_2, hl129_1, hi129_1, hl129_2, hi129_2⟩ := at_T55 HR0_0.out t126 p129 q129
    have hw129_2 := hx129_2
    have hw129_1 := hx129_1
    have hw129_0 := hx129_0
    obtain rfl : ad128 = ad129 := (by injection e129)
    replace hx129_0 := Zc HB.out hx129_0
    replace hx129_1 := Zc HB.out hx129_1
    replace hx129_2 := Zc HB.out hx129_2
    have HR129_1 := Zh hi129_1
    have HC129_1 := Zh hl129_1
    clear hi129_1 hl129_1
    have HR129_2 := Zh hi129_2
    have HC129_2 := Zh hl129_2
    clear hi129_2 hl129_2
    replace p129 := eq_true p129
    replace q129 := eq_true q129
    have ea_ := Option.some.inj (hx128_1.symm.trans hx129_1)
    injection ea_ with ea_ en_ ec_
    subst ea_
    subst ec_
    clear en_
    have ea_ := Option.some.inj (hx128_2.symm.trans hx129_2)
    injection ea_ with ea_ en_ ec_
    subst ea_
    subst ec_
    clear en_
    refine start_ (n := 15) (S := fun w' => w'.cell? ⟨gb125, 0, none⟩ = some (.slice (some ad128) l0_0.length c0_0) ∧ w'.cell? (ad128.add ((t126).toNat * 3)) = some (.string ((rd_T55 l0_0 t126).f0)) ∧ w'.cell? ⟨(ad128.add ((t126).toNat * 3)).block, (ad128.add ((t126).toNat * 3)).off + 1, none⟩ = some (.slice A128_1 ((rd_T55 l0_0 t126).f1).length c128_1) ∧ w'.cell? ⟨(ad128.add ((t126).toNat * 3)).block, (ad128.add ((t126).toNat * 3)).off + 2, none⟩ = some (.slice A128_2 ((rd_T55 l0_0 t126).f2).length c128_2) ∧ w'.cell? (ad128.add ((t126).toNat * 3)) = some (.string ((rd_T55 l0_0 t126).f0)) ∧ w'.cell? ⟨(ad128.add ((t126).toNat * 3)).block, (ad128.add ((t126).toNat * 3)).off + 1, none⟩ = some (.slice A128_1 ((rd_T55 l0_0 t126).f1).length c128_1) ∧ w'.cell? ⟨(ad128.add ((t126).toNat * 3)).block, (ad128.add ((t126).toNat * 3)).off + 2, none⟩ = some (.slice A128_2 ((rd_T55 l0_0 t126).f2).length c128_2)) (ds := []) #[false, false, false, false, false, false, false, false, false, false, false, false, false, false, false] (by kernel_rfl) rfl rfl ⟨(blk_cell BK125.out 0).trans rfl, ((HB.out.cell (Zi w _ hw128_0)).trans hw128_0), ((HB.out.cell (Zi w _ hw128_1)).trans hw128_1), ((HB.out.cell (Zi w _ hw128_2)).trans hw128_2), ((HB.out.cell (Zi w _ hw129_0)).trans hw129_0), ((HB.out.cell (Zi w _ hw129_1)).trans hw129_1), ((HB.out.cell (Zi w _ hw129_2)).trans hw129_2)⟩ (fun hHeld => ?_); refine with_tabW spec_Content.tab4 spec_Content.bits4 (fun HT_ HW_ => ?_)
    generalize w19.drew = w20 at BK125 HB HR128_1 HR128_2 HR129_1 HR129_2 hx128_0 hx128_1 hx128_2 hx129_0 hx129_1 hx129_2 hHeld ⊢
    refine SQ.pu 0 17 HT_ ?_
    refine SQ.pu 2 19 HT_ ?_
    refine SQ.pu 6 23 HT_ ?_
    refine SQ.pu 8 25 HT_ ?_
    refine SQ.tk 1 18 HT_ HW_ hHeld ?_
    refine SQ.pu 3 20 HT_ ?_
    refine SQ.pu 4 21 HT_ ?_
    refine SQ.tk 5 22 HT_ HW_ hHeld ?_
    refine SQ.tk 7 24 HT_ HW_ hHeld ?_
    refine SQ.pu 9 26 HT_ ?_
    refine SQ.pu 10 27 HT_ ?_
    refine SQ.tk 11 28 HT_ HW_ hHeld ?_
    refine one_ (i := 12) (N := some 29) #[true, true, true, true, true, true, true, true, true, true, true, true, true, false, false] rfl rfl (one_of HT_.out (by kernel_rfl)) (by decide) (fun K hK => ?_)
    refine goes_ Tryd.func85 (by kernel_rfl) rfl #[.slice A128_1 ((rd_T55 l0_0 t126).f1).length c128_1, .slice A128_2 ((rd_T55 l0_0 t126).f2).length c128_2] (by rfl) rfl rfl (by (try simp only [List.map_toArray, List.map_cons, List.map_nil]); first | done | rfl | (simp only [List.length_drop, List.length_take]; rfl)) ?_
    with_reducible refine (spec_l01Join.calls k _ _ ((rd_T55 l0_0 t126).f1) _ _ ((rd_T55 l0_0 t126).f2) t130 _ ?side1 ?side2 ?side3 ?side4 A14.out).mono ?_
    (case side1 => repeat (first | exact (C_below HR128_1.out HB.out) | (with_reducible refine C_alloc ?_ _) | (with_reducible refine C_drewN ?_ _) | (with_reducible refine C_drew ?_)))
    (case side2 => exact HC128_1.out)
    (case side3 => repeat (first | exact (C_below HR129_2.out HB.out) | (with_reducible refine C_alloc ?_ _) | (with_reducible refine C_drewN ?_ _) | (with_reducible refine C_drew ?_)))
    (case side4 => exact HC129_2.out)
    rintro e w21 ⟨v131, rfl, ho0, hb⟩
    refine ⟨_, rfl, ?_⟩
    have HO132 := Zh (R_lower ho0 (below_size Zs))
    replace BK125 := Zh (Zm (g := gb125) (o := .cells #[.slice (some ad128) l0_0.length c0_0] 28 (0, 0)) Zk hb)
    replace HB := Zh (Zl Zs hb)
    (try clear hb)
    (try clear hb2)
    (try clear hk)
    (try clear hi)
    (try clear ho0)
    refine hK.out _ _ ⟨(blk_cell BK125.out 0).trans rfl, ((HB.out.cell (Zi w _ hw128_0)).trans hw128_0), ((HB.out.cell (Zi w _ hw128_1)).trans hw128_1), ((HB.out.cell (Zi w _ hw128_2)).trans hw128_2), ((HB.out.cell (Zi w _ hw129_0)).trans hw129_0), ((HB.out.cell (Zi w _ hw129_1)).trans hw129_1), ((HB.out.cell (Zi w _ hw129_2)).trans hw129_2)⟩ (fun hHeld => ?_)
    clear hK K
    refine norm_ (a' := ?_) ?_ ?_
    rotate_left
    ·
     show Act.put _ (some 29) _ = _
     simp only [Act.put, List.setIfInBounds_toArray, List.set_cons_zero, List.set_cons_succ, i64_w, i32_w]
     rfl
    refine SQ.pu 13 4 HT_ ?_
    refine SQ.pu 14 5 HT_ ?_
    refine done_ (done_of HT_.out (by kernel_rfl)) ?_
    try go_wp2
    go_ret2
    exact ⟨_, ZE, ZR HO132.out, Zs⟩
   rw [if_neg c13] at H
   exact absurd H (by simp)
  rw [if_neg c12] at H
  exact absurd H (by simp)
 replace c5 := Bool.eq_false_iff.mpr c5
 subst c5
 have H1 : (some (([] : List Int), false)) = some (r1, r2) := by rw [if_neg (show ¬ (false = true) by decide)] at H; exact H
 clear H
 have H := H1
 clear H1
 simp only [Option.some.injEq, Prod.mk.injEq] at H
 obtain ⟨rfl, rfl⟩ := H
 go_enter Tryd.func50, Tryd.ntmps50
 go_wp2_with (first | ((with_reducible refine gate_dst (N := 2) rfl ?_); refine box_event ?hg (N := 2) ?hd (cs := #[.slice A0_0 l0_0.length c0_0]) (t := 28) ?hr ?_; (case hd => rfl); (case hg => rfl); (case hr => first | (go_simp; done) | (go_simp; rfl)); intro gb125 hg w22 hbox hb; have BK125 := Zh (hbox); have GW125 := Zh ((by rw [hg]; exact (below_size Zs) : w.heap.size ≤ gb125)); have GE125 := Zh ((by rw [hg]; exact (below_size Zs) : w.heap.size ≤ gb125)); replace HB := Zh (Zl Zs hb); clear hb hbox hg; have hcz23_0 : w22.cell? ⟨gb125, 0, none⟩ = some (.slice A0_0 l0_0.length c0_0) := (blk_cell BK125.out 0).trans rfl; have hfz23_0 := Zn BK125.out 0) | ((with_reducible refine gate_callee (f := 83) rfl ?_); refine ZG (some 9) Tryd.func83 #[.agg #[.slice A0_0 l0_0.length c0_0], .string a1] rfl ?_; (with_reducible refine (spec_l03Find.calls k _ _ l0_0 a1 t126 _ ?side1 ?side2 A3.out).mono ?_); (case side1 => repeat (first | exact (C_below HR0_0.out HB.out) | (with_reducible refine C_alloc ?_ _) | (with_reducible refine C_drewN ?_ _) | (with_reducible refine C_drew ?_))); (case side2 => exact HC0_0.out); rintro e w24 ⟨rfl, hb⟩; refine ⟨_, rfl, ?_⟩; replace BK125 := Zh (Zm (g := gb125) (o := .cells #[.slice A0_0 l0_0.length c0_0] 28 (0, 0)) Zk hb); replace HB := Zh (Zl Zs hb); (try clear hb); (try clear hb2); (try clear hk); (try clear hi); have hcz25_0 : w24.cell? ⟨gb125, 0, none⟩ = some (.slice A0_0 l0_0.length c0_0) := (blk_cell BK125.out 0).trans rfl; have hfz25_0 := Zn BK125.out 0) | ((with_reducible refine gate_callee (f := 84) rfl ?_); refine ZG (some 11) Tryd.func84 #[.agg #[.slice A0_0 l0_0.length c0_0]] rfl ?_; (with_reducible refine (spec_DiskOk.calls k _ _ l0_0 false _ ?side1 ?side2 A4.out).mono ?_); (case side1 => repeat (first | exact (C_below HR0_0.out HB.out) | (with_reducible refine C_alloc ?_ _) | (with_reducible refine C_drewN ?_ _) | (with_reducible refine C_drew ?_))); (case side2 => exact HC0_0.out); rintro e w26 ⟨rfl, hb⟩; refine ⟨_, rfl, ?_⟩; replace BK125 := Zh (Zm (g := gb125) (o := .cells #[.slice A0_0 l0_0.length c0_0] 28 (0, 0)) Zk hb); replace HB := Zh (Zl Zs hb); (try clear hb); (try clear hb2); (try clear hk); (try clear hi)))
 go_ret2
 exact ⟨_, ZE, by first | exact R_nil _ _ _ _ _ | exact N_nil _ _ _ _ _ | exact V_nil _ _ _ _ _ | exact Q_nil _ _ _ _ _ | exact S_nil _ _ _ _ _, Zs⟩
end Go.Proofs.YtcgojdhbphocgaaDoor.F

namespace Go.Proofs.YtcgojdhbphocgaaDoor.F
open Go.RowKit Go.Proofs.YtcgojdhbphocgaaDoorW.PrintWords Go.Proofs.YtcgojdhbphocgaaDoorW.PrintWords.Kd Go.Proofs.YtcgojdhbphocgaaDoorW.PrintMore.Kd Go.Proofs.YtcgojdhbphocgaaDoorW.PrintLast Go.Proofs.YtcgojdhbphocgaaDoorW.PrintMore
attribute [local go_sem] max2_int min2_int max_two min_two max_three min_three max_four min_four   -- for this text's walks alone
set_option linter.unusedVariables false
set_option linter.unusedSimpArgs false
def spec_l02Four.f (a0 : Int) : Option (List Int) := some (([(Int.tmod a0 256) % 256, ((Int.tdiv a0 256) % 4294967296) % 256, ((Int.tdiv a0 65536) % 4294967296) % 256, ((Int.tdiv a0 16777216) % 4294967296) % 256] : List Int))
set_option maxHeartbeats 8000000 in
set_option maxRecDepth 100000 in
theorem spec_l02Four.calls (a0 : Int) (r : List Int) (w : World) (h : spec_l02Four.f a0 = some r) :
  Calls Tryd.prog 88 #[.int .u32 a0] w fun e w' => ∃ v0_ : Value, e = .returned (v0_) ∧ Kd.R (Kd.int .u8) 5 w' w.heap.size (fun _ => True) v0_ r ∧ Below w.heap.size w w' := by
 have HB := Zh (Below.refl w.heap.size w)
 have H : (some (([(Int.tmod a0 256) % 256, ((Int.tdiv a0 256) % 4294967296) % 256, ((Int.tdiv a0 65536) % 4294967296) % 256, ((Int.tdiv a0 16777216) % 4294967296) % 256] : List Int))) = some r := h
 clear h
 obtain ⟨y287, hy287⟩ : ∃ y_ : List Int, y_ = (([(Int.tmod a0 256) % 256, ((Int.tdiv a0 256) % 4294967296) % 256, ((Int.tdiv a0 65536) % 4294967296) % 256, ((Int.tdiv a0 16777216) % 4294967296) % 256] : List Int)) := ⟨_, rfl⟩
 replace H : (some y287) = some r := by first | (rw [hy287]; with_reducible exact H) | (have H2_ := (Option.bind_some _ _).symm.trans H; rw [hy287]; with_reducible exact H2_) | (have H2_ := (Option.bind_some _ _).symm.trans H; with_reducible exact H2_) | with_reducible exact H | (rw [hy287]; exact H) | exact H
 have Ny287 := Zh hy287
 clear hy287
 obtain rfl := Option.some.inj H
 go_enter Tryd.func88, Tryd.ntmps88
 go_wp2_with (first | ((with_reducible refine gate_dst (N := 17) rfl ?_); refine R_lit (Kd.int .u8) _ 5 ?hg (N := 17) ?hd (xs := ([(Int.tmod a0 256) % 256, ((Int.tdiv a0 256) % 4294967296) % 256, ((Int.tdiv a0 65536) % 4294967296) % 256, ((Int.tdiv a0 16777216) % 4294967296) % 256] : List Int)) (inner := [.int .u8 ((Int.tmod a0 256) % 256), .int .u8 (((Int.tdiv a0 256) % 4294967296) % 256), .int .u8 (((Int.tdiv a0 65536) % 4294967296) % 256), .int .u8 (((Int.tdiv a0 16777216) % 4294967296) % 256)]) (ok := fun _ => True) (okp := fun _ => True) ?hr ?hp (fun _ hk => hk) trivial (Below.refl _ _) (Nat.le_refl _) (by simp) ?_; (case hd => rfl); (case hg => rfl); (case hr => first | (go_simp; done) | (go_simp; rfl)); (case hp => exact (Reps.one (show Kd.M (Kd.int .u8) _ _ _ ((Int.tmod a0 256) % 256) [.int .u8 ((Int.tmod a0 256) % 256)] from rfl) (Reps.one (show Kd.M (Kd.int .u8) _ _ _ (((Int.tdiv a0 256) % 4294967296) % 256) [.int .u8 (((Int.tdiv a0 256) % 4294967296) % 256)] from rfl) (Reps.one (show Kd.M (Kd.int .u8) _ _ _ (((Int.tdiv a0 65536) % 4294967296) % 256) [.int .u8 (((Int.tdiv a0 65536) % 4294967296) % 256)] from rfl) (Reps.one (show Kd.M (Kd.int .u8) _ _ _ (((Int.tdiv a0 16777216) % 4294967296) % 256) [.int .u8 (((Int.tdiv a0 16777216) % 4294967296) % 256)] from rfl) (Reps.none _ _)))))); intro v288 w2 ho3 hb hg_ hnew_; clear hg_ hnew_; (first | rw [← Ny287.out] at ho3 | (simp only [Int.reduceToNat] at ho3; rw [← Ny287.out] at ho3)); have HO289 := Zh (R_lower ho3 (below_size Zs)); replace HB := Zh (Zl Zs hb); clear hb ho3))
 go_ret
 exact ⟨_, ZE, ZR HO289.out, Zs⟩
mutual
def spec_Crc32.l0 : Nat → List Int → Int → Int → Option (Int)
 | 0, _, _, _ => none
 | k + 1, x0, x3, x4 => if x4 < (x0.length : Int) then (if 0 ≤ x4 then (spec_Crc32.l1 k x0 (Go.bits .xor .u32 x3 ((rd x0 x4) % 4294967296)) x4 0) else (none)) else (some (Go.bits .xor .u32 x3 4294967295))
def spec_Crc32.l1 : Nat → List Int → Int → Int → Int → Option (Int)
 | 0, _, _, _, _ => none
 | k + 1, x0, x3, x4, x5 => if x5 < 8 then (if (Int.tmod x3 2) = 1 then (spec_Crc32.l1 k x0 (Go.bits .xor .u32 ((Int.tdiv x3 2) % 4294967296) 3988292384) x4 (wrap64 (x5 + 1))) else (spec_Crc32.l1 k x0 ((Int.tdiv x3 2) % 4294967296) x4 (wrap64 (x5 + 1)))) else (spec_Crc32.l0 k x0 x3 (wrap64 (x4 + 1)))
end
def spec_Crc32.f (k : Nat) (l0 : List Int) : Option (Int) := if (l0.length : Int) > 20000 then (some 0) else (spec_Crc32.l0 k l0 4294967295 0)
set_option maxHeartbeats 8000000 in
set_option maxRecDepth 100000 in
theorem spec_Crc32.calls (k : Nat) (A0 : Option Addr) (c0 : Nat) (l0 : List Int) (r : Int) (w : World) (hr0 : Kd.C (Kd.int .u8) w A0 l0.length l0) (hc0 : l0.length ≤ c0) (h : spec_Crc32.f k l0 = some r) :
  Calls Tryd.prog 89 #[.slice A0 l0.length c0] w fun e w' => e = .returned (.int .u32 r) ∧ Drawn0 w w' := by
 have HR0 := Zh hr0
 have HC0 := Zh hc0
 clear hr0 hc0
 have H : (if (l0.length : Int) > 20000 then (some 0) else (spec_Crc32.l0 k l0 4294967295 0)) = some r := h
 clear h
 by_cases c2 : (l0.length : Int) > 20000
 ·
  rw [if_pos c2] at H
  have c2b0 : decide (20000 < (l0.length : Int)) = true := decide_eq_true c2
  have c2b1 : decide (20000 < l0.length) = true := decide_eq_true (by omega)
  clear c2
  obtain rfl := Option.some.inj H
  go_enter Tryd.func89, Tryd.ntmps89
  go_wp2
  go_ret
  exact ⟨by first | rfl | (simp; done) | (simp [*]; done), by repeat (first | exact Drawn0.refl _ | apply Drawn0.step)⟩
 rw [if_neg c2] at H
 have c2b0 : decide (20000 < (l0.length : Int)) = false := decide_eq_false c2
 have c2b1 : decide (20000 < l0.length) = false := decide_eq_false (by omega)
 clear c2
 have H' := Zh H
 clear H
 go_enter Tryd.func89, Tryd.ntmps89
 go_wp2
 go_loopg [3, 4] k (fun kq v3 v4 w' => ∃ (x3_1 : Int) (x4_1 : Int), v3 = .int .u32 x3_1 ∧ v4 = .int .i64 x4_1 ∧ Aside0 (spec_Crc32.l0 kq l0 x3_1 x4_1 = some r) ∧ Aside0 (kq ≤ k) ∧ Drawn0 w w')
 case atStart => exact ⟨(4294967295), (0), (by first | rfl | (simp; done) | (simp [*]; done)), (by first | rfl | (simp; done) | (simp [*]; done)), H', ⟨Nat.le_refl _⟩, by repeat (first | exact Drawn0.refl _ | apply Drawn0.step)⟩
 case round =>
  clear H'
  try clear c2
  try clear c2b0
  try clear c2b1
  try clear p2
  obtain ⟨x3_1, x4_1, rfl, rfl, HA, HK1, ⟨m1, rfl⟩⟩ := hrel
  cases gk with
  | zero => exact absurd HA.out (by simp [spec_Crc32.l0])
  | succ k1 =>
   have H := HA.out
   clear HA
   simp only [spec_Crc32.l0] at H
   by_cases c3 : x4_1 < (l0.length : Int)
   ·
    rw [if_pos c3] at H
    have c3b0 : decide (x4_1 < (l0.length : Int)) = true := decide_eq_true c3
    clear c3
    by_cases c4 : 0 ≤ x4_1
    ·
     rw [if_pos c4] at H
     have c4b0 : decide (0 ≤ x4_1) = true := decide_eq_true c4
     clear c4
     have H' := Zh H
     clear H
     have p290 : 0 ≤ (x4_1 : Int) := Zo
     have q290 : x4_1 < (l0.length : Int) := Zo
     obtain ⟨ad290, e290, hx290_0⟩ := Kd.at_int HR0.out x4_1 p290 q290
     cases e290
     replace p290 := eq_true p290
     replace q290 := eq_true q290
     go_wp2
     go_loopg [3, 5] k1 (fun kq v3 v5 w' => ∃ (x3_2 : Int) (x5_2 : Int), v3 = .int .u32 x3_2 ∧ v5 = .int .i64 x5_2 ∧ Aside0 (spec_Crc32.l1 kq l0 x3_2 x4_1 x5_2 = some r) ∧ Aside0 (kq ≤ k1) ∧ Drawn0 w w')
     case atStart => exact ⟨(Go.bits .xor .u32 x3_1 ((rd l0 x4_1) % 4294967296)), (0), (by first | rfl | (simp; done) | (simp [*]; done)), (by first | rfl | (simp; done) | (simp [*]; done)), H', ⟨Nat.le_refl _⟩, by repeat (first | exact Drawn0.refl _ | apply Drawn0.step)⟩
     case round =>
      clear H'
      try clear c2
      try clear c2b0
      try clear c2b1
      try clear p2
      try clear q2
      try clear hx2
      try clear c3
      try clear c3b0
      try clear c4
      try clear c4b0
      try clear hx290_0
      try clear p2
      try clear p290
      try clear q290
      obtain ⟨x3_2, x5_2, rfl, rfl, HA, HK2, ⟨m2, rfl⟩⟩ := hrel
      cases gk with
      | zero => exact absurd HA.out (by simp [spec_Crc32.l1])
      | succ k2 =>
       have H := HA.out
       clear HA
       simp only [spec_Crc32.l1] at H
       by_cases c5 : x5_2 < 8
       ·
        rw [if_pos c5] at H
        have c5b0 : decide (x5_2 < 8) = true := decide_eq_true c5
        clear c5
        by_cases c6 : (Int.tmod x3_2 2) = 1
        ·
         rw [if_pos c6] at H
         have c6b0 : ((Int.tmod x3_2 2) == 1) = true := beq_iff_eq.mpr c6
         have c6b1 : ((Int.tmod x3_2 2) != 1) = false := bne_eq_false_iff_eq.mpr c6
         clear c6
         have H' := Zh H
         clear H
         go_wp2
         go_roundg k2
         case measure => have := HK1.out; have := HK2.out; omega
         case rel => exact ⟨(Go.bits .xor .u32 ((Int.tdiv x3_2 2) % 4294967296) 3988292384), (wrap64 (x5_2 + 1)), (by first | rfl | (simp; done) | (simp [*]; done)), (by first | rfl | (simp; done) | (simp [*]; done)), H', ⟨by have := HK1.out; have := HK2.out; omega⟩, by repeat (first | exact Drawn0.refl _ | apply Drawn0.step)⟩
        rw [if_neg c6] at H
        have c6b0 : ((Int.tmod x3_2 2) == 1) = false := beq_eq_false_iff_ne.mpr c6
        have c6b1 : ((Int.tmod x3_2 2) != 1) = true := bne_iff_ne.mpr c6
        have H' := Zh H
        clear H
        go_wp2
        go_roundg k2
        case measure => have := HK1.out; have := HK2.out; omega
        case rel => exact ⟨((Int.tdiv x3_2 2) % 4294967296), (wrap64 (x5_2 + 1)), (by first | rfl | (simp; done) | (simp [*]; done)), (by first | rfl | (simp; done) | (simp [*]; done)), H', ⟨by have := HK1.out; have := HK2.out; omega⟩, by repeat (first | exact Drawn0.refl _ | apply Drawn0.step)⟩
       rw [if_neg c5] at H
       have c5b0 : decide (x5_2 < 8) = false := decide_eq_false c5
       clear c5
       have H' := Zh H
       clear H
       go_wp2
       go_roundg k2
       case measure => have := HK1.out; have := HK2.out; omega
       case rel => exact ⟨(x3_2), (wrap64 (x4_1 + 1)), (by first | rfl | (simp; done) | (simp [*]; done)), (by first | rfl | (simp; done) | (simp [*]; done)), H', ⟨by have := HK1.out; have := HK2.out; omega⟩, by repeat (first | exact Drawn0.refl _ | apply Drawn0.step)⟩
    rw [if_neg c4] at H
    exact absurd H (by simp)
   rw [if_neg c3] at H
   have c3b0 : decide (x4_1 < (l0.length : Int)) = false := decide_eq_false c3
   clear c3
   obtain rfl := Option.some.inj H
   go_wp2
   go_ret
   exact ⟨by first | rfl | (simp; done) | (simp [*]; done), by repeat (first | exact Drawn0.refl _ | apply Drawn0.step)⟩
def spec_Frame.f (k : Nat) (l0 : List Int) : Option (List Int) := (spec_l01In.f (l0.length : Int) 1 600).bind fun t291 => (if t291 = true then ((spec_l02Four.f (((l0.length : Int)) % 4294967296)).bind fun t292 => ((spec_Crc32.f k l0).bind fun t295 => ((spec_l02Four.f t295).bind fun t296 => ((spec_l01Join.f k t292 t296).bind fun t299 => ((spec_l01Join.f k t299 l0).bind fun t302 => (some t302)))))) else (some ([] : List Int)))
set_option maxHeartbeats 8000000 in
set_option maxRecDepth 100000 in
theorem spec_Frame.calls (k : Nat) (A0 : Option Addr) (c0 : Nat) (l0 : List Int) (r : List Int) (w : World) (hr0 : Kd.C (Kd.int .u8) w A0 l0.length l0) (hc0 : l0.length ≤ c0) (h : spec_Frame.f k l0 = some r) :
  Calls Tryd.prog 58 #[.slice A0 l0.length c0] w fun e w' => ∃ v0_ : Value, e = .returned (v0_) ∧ Kd.R (Kd.int .u8) 5 w' w.heap.size (fun _ => True) v0_ r ∧ Below w.heap.size w w' := by
 have HR0 := Zh hr0
 have HC0 := Zh hc0
 clear hr0 hc0
 have HB := Zh (Below.refl w.heap.size w)
 have H : ((spec_l01In.f (l0.length : Int) 1 600).bind fun t291 => (if t291 = true then ((spec_l02Four.f (((l0.length : Int)) % 4294967296)).bind fun t292 => ((spec_Crc32.f k l0).bind fun t295 => ((spec_l02Four.f t295).bind fun t296 => ((spec_l01Join.f k t292 t296).bind fun t299 => ((spec_l01Join.f k t299 l0).bind fun t302 => (some t302)))))) else (some ([] : List Int)))) = some r := h
 clear h
 replace H := Option.bind_eq_some_iff.mp H
 obtain ⟨t291, A20, H⟩ := H
 replace H : (if t291 = true then ((spec_l02Four.f (((l0.length : Int)) % 4294967296)).bind fun t292 => ((spec_Crc32.f k l0).bind fun t295 => ((spec_l02Four.f t295).bind fun t296 => ((spec_l01Join.f k t292 t296).bind fun t299 => ((spec_l01Join.f k t299 l0).bind fun t302 => (some t302)))))) else (some ([] : List Int))) = some r := H
 have A2 := Zh A20
 clear A20
 by_cases c3 : t291 = true
 ·
  subst c3
  have H1 : ((spec_l02Four.f (((l0.length : Int)) % 4294967296)).bind fun t292 => ((spec_Crc32.f k l0).bind fun t295 => ((spec_l02Four.f t295).bind fun t296 => ((spec_l01Join.f k t292 t296).bind fun t299 => ((spec_l01Join.f k t299 l0).bind fun t302 => (some t302)))))) = some r := by rw [if_pos rfl] at H; exact H
  clear H
  have H := H1
  clear H1
  replace H := Option.bind_eq_some_iff.mp H
  obtain ⟨t292, A40, H⟩ := H
  replace H : ((spec_Crc32.f k l0).bind fun t295 => ((spec_l02Four.f t295).bind fun t296 => ((spec_l01Join.f k t292 t296).bind fun t299 => ((spec_l01Join.f k t299 l0).bind fun t302 => (some t302))))) = some r := H
  have A4 := Zh A40
  clear A40
  replace H := Option.bind_eq_some_iff.mp H
  obtain ⟨t295, A50, H⟩ := H
  replace H : ((spec_l02Four.f t295).bind fun t296 => ((spec_l01Join.f k t292 t296).bind fun t299 => ((spec_l01Join.f k t299 l0).bind fun t302 => (some t302)))) = some r := H
  have A5 := Zh A50
  clear A50
  replace H := Option.bind_eq_some_iff.mp H
  obtain ⟨t296, A60, H⟩ := H
  replace H : ((spec_l01Join.f k t292 t296).bind fun t299 => ((spec_l01Join.f k t299 l0).bind fun t302 => (some t302))) = some r := H
  have A6 := Zh A60
  clear A60
  replace H := Option.bind_eq_some_iff.mp H
  obtain ⟨t299, A70, H⟩ := H
  replace H : ((spec_l01Join.f k t299 l0).bind fun t302 => (some t302)) = some r := H
  have A7 := Zh A70
  clear A70
  replace H := Option.bind_eq_some_iff.mp H
  obtain ⟨t302, A80, H⟩ := H
  replace H : (some t302) = some r := H
  have A8 := Zh A80
  clear A80
  obtain rfl := Option.some.inj H
  go_enter Tryd.func58, Tryd.ntmps58
  go_wp2_with (first | ((with_reducible refine gate_callee (f := 62) rfl ?_); refine ZG (some 5) Tryd.func62 #[.int .i64 (l0.length : Int), .int .i64 1, .int .i64 600] rfl ?_; (with_reducible refine (spec_l01In.calls (l0.length : Int) 1 600 true _ A2.out).mono ?_); rintro e w' ⟨rfl, ⟨nd, rfl⟩⟩; refine ⟨_, rfl, ?_⟩) | ((with_reducible refine gate_callee (f := 88) rfl ?_); refine ZG (some 10) Tryd.func88 #[.int .u32 (((l0.length : Int)) % 4294967296)] rfl ?_; (with_reducible refine (spec_l02Four.calls (((l0.length : Int)) % 4294967296) t292 _ A4.out).mono ?_); rintro e w9 ⟨v293, rfl, ho0, hb⟩; refine ⟨_, rfl, ?_⟩; have HO294 := Zh (R_lower ho0 (below_size Zs)); replace HB := Zh (Zl Zs hb); (try clear hb); (try clear hb2); (try clear hk); (try clear hi); (try clear ho0)) | ((with_reducible refine gate_callee (f := 89) rfl ?_); refine ZG (some 12) Tryd.func89 #[.slice A0 l0.length c0] rfl ?_; (with_reducible refine (spec_Crc32.calls k _ _ l0 t295 _ ?side1 ?side2 A5.out).mono ?_); (case side1 => repeat (first | exact (C_below HR0.out HB.out) | (with_reducible refine C_alloc ?_ _) | (with_reducible refine C_drewN ?_ _) | (with_reducible refine C_drew ?_))); (case side2 => exact HC0.out); rintro e w' ⟨rfl, ⟨nd, rfl⟩⟩; refine ⟨_, rfl, ?_⟩) | ((with_reducible refine gate_callee (f := 88) rfl ?_); refine ZG (some 13) Tryd.func88 #[.int .u32 t295] rfl ?_; (with_reducible refine (spec_l02Four.calls t295 t296 _ A6.out).mono ?_); rintro e w10 ⟨v297, rfl, ho0, hb⟩; refine ⟨_, rfl, ?_⟩; have HO298 := Zh (R_lower (R_new' ho0 (R_lt (ZR HO294.out))) (below_size Zs)); replace HO294 := Zh (R_elder' (ZR HO294.out) (R_base ho0) hb); replace HB := Zh (Zl Zs hb); (try clear hb); (try clear hb2); (try clear hk); (try clear hi); (try clear ho0); obtain ⟨Ao11, co11, eo11⟩ := R_slice HO294.out; subst eo11; obtain ⟨Ao12, co12, eo12⟩ := R_slice HO298.out; subst eo12) | ((with_reducible refine gate_callee (f := 85) rfl ?_); refine ZG (some 14) Tryd.func85 #[.slice Ao11 t292.length co11, .slice Ao12 t296.length co12] rfl ?_; (with_reducible refine (spec_l01Join.calls k _ _ t292 _ _ t296 t299 _ ?side1 ?side2 ?side3 ?side4 A7.out).mono ?_); (case side1 => repeat (first | exact (R_reads' HO294.out).2.2 | (with_reducible refine C_alloc ?_ _) | (with_reducible refine C_drewN ?_ _) | (with_reducible refine C_drew ?_))); (case side2 => exact (R_reads' HO294.out).2.1); (case side3 => repeat (first | exact (R_reads' HO298.out).2.2 | (with_reducible refine C_alloc ?_ _) | (with_reducible refine C_drewN ?_ _) | (with_reducible refine C_drew ?_))); (case side4 => exact (R_reads' HO298.out).2.1); rintro e w13 ⟨v300, rfl, ho0, hb⟩; refine ⟨_, rfl, ?_⟩; have HO301 := Zh (R_lower (R_new' (R_new' ho0 (R_lt (ZR HO294.out))) (R_lt (ZR HO298.out))) (below_size Zs)); replace HO294 := Zh (R_elder' (ZR HO294.out) (R_base ho0) hb); replace HO298 := Zh (R_elder' (ZR HO298.out) (R_base ho0) hb); replace HB := Zh (Zl Zs hb); (try clear hb); (try clear hb2); (try clear hk); (try clear hi); (try clear ho0); obtain ⟨Ao14, co14, eo14⟩ := R_slice HO301.out; subst eo14) | ((with_reducible refine gate_callee (f := 85) rfl ?_); refine ZG (some 16) Tryd.func85 #[.slice Ao14 t299.length co14, .slice A0 l0.length c0] rfl ?_; (with_reducible refine (spec_l01Join.calls k _ _ t299 _ _ l0 t302 _ ?side1 ?side2 ?side3 ?side4 A8.out).mono ?_); (case side1 => repeat (first | exact (R_reads' HO301.out).2.2 | (with_reducible refine C_alloc ?_ _) | (with_reducible refine C_drewN ?_ _) | (with_reducible refine C_drew ?_))); (case side2 => exact (R_reads' HO301.out).2.1); (case side3 => repeat (first | exact (C_below HR0.out HB.out) | (with_reducible refine C_alloc ?_ _) | (with_reducible refine C_drewN ?_ _) | (with_reducible refine C_drew ?_))); (case side4 => exact HC0.out); rintro e w15 ⟨v303, rfl, ho0, hb⟩; refine ⟨_, rfl, ?_⟩; have HO304 := Zh (R_lower (R_new' (R_new' (R_new' ho0 (R_lt (ZR HO294.out))) (R_lt (ZR HO298.out))) (R_lt (ZR HO301.out))) (below_size Zs)); replace HO294 := Zh (R_elder' (ZR HO294.out) (R_base ho0) hb); replace HO298 := Zh (R_elder' (ZR HO298.out) (R_base ho0) hb); replace HO301 := Zh (R_elder' (ZR HO301.out) (R_base ho0) hb); replace HB := Zh (Zl Zs hb); (try clear hb); (try clear hb2); (try clear hk); (try clear hi); (try clear ho0)))
  go_ret
  exact ⟨_, ZE, ZR (R_mono HO304.out (fun _ hk => trivial)), Zs⟩
 replace c3 := Bool.eq_false_iff.mpr c3
 subst c3
 have H1 : (some ([] : List Int)) = some r := by rw [if_neg (show ¬ (false = true) by decide)] at H; exact H
 clear H
 have H := H1
 clear H1
 obtain rfl := Option.some.inj H
 go_enter Tryd.func58, Tryd.ntmps58
 go_wp2_with (first | ((with_reducible refine gate_callee (f := 62) rfl ?_); refine ZG (some 5) Tryd.func62 #[.int .i64 (l0.length : Int), .int .i64 1, .int .i64 600] rfl ?_; (with_reducible refine (spec_l01In.calls (l0.length : Int) 1 600 false _ A2.out).mono ?_); rintro e w' ⟨rfl, ⟨nd, rfl⟩⟩; refine ⟨_, rfl, ?_⟩))
 go_ret
 exact ⟨_, ZE, by first | exact R_nil _ _ _ _ _ | exact N_nil _ _ _ _ _ | exact V_nil _ _ _ _ _ | exact Q_nil _ _ _ _ _ | exact S_nil _ _ _ _ _, Zs⟩
def spec_l01Same.l0 : Nat → List Int → List Int → Int → Option (Bool)
 | 0, _, _, _ => none
 | k + 1, x0, x1, x5 => if x5 < (x0.length : Int) then (if 0 ≤ x5 then (if x5 < (x1.length : Int) then (if (rd x0 x5) = (rd x1 x5) then (spec_l01Same.l0 k x0 x1 (wrap64 (x5 + 1))) else (some false)) else (none)) else (none)) else (some true)
def spec_l01Same.f (k : Nat) (l0 : List Int) (l1 : List Int) : Option (Bool) := if (l0.length : Int) = (l1.length : Int) then (spec_l01Same.l0 k l0 l1 0) else (some false)
set_option maxHeartbeats 8000000 in
set_option maxRecDepth 100000 in
theorem spec_l01Same.calls (k : Nat) (A0 : Option Addr) (c0 : Nat) (l0 : List Int) (A1 : Option Addr) (c1 : Nat) (l1 : List Int) (r : Bool) (w : World) (hr0 : Kd.C (Kd.int .u8) w A0 l0.length l0) (hc0 : l0.length ≤ c0) (hr1 : Kd.C (Kd.int .u8) w A1 l1.length l1) (hc1 : l1.length ≤ c1) (h : spec_l01Same.f k l0 l1 = some r) :
  Calls Tryd.prog 86 #[.slice A0 l0.length c0, .slice A1 l1.length c1] w fun e w' => e = .returned (.bool r) ∧ Drawn0 w w' := by
 have HR0 := Zh hr0
 have HC0 := Zh hc0
 clear hr0 hc0
 have HR1 := Zh hr1
 have HC1 := Zh hc1
 clear hr1 hc1
 have H : (if (l0.length : Int) = (l1.length : Int) then (spec_l01Same.l0 k l0 l1 0) else (some false)) = some r := h
 clear h
 by_cases c3 : (l0.length : Int) = (l1.length : Int)
 ·
  rw [if_pos c3] at H
  have c3b0 : ((l0.length : Int) == (l1.length : Int)) = true := beq_iff_eq.mpr c3
  have c3b1 : ((l0.length : Int) != (l1.length : Int)) = false := bne_eq_false_iff_eq.mpr c3
  have c3b2 : (l0.length == l1.length) = true := by first | simpa using c3 | (simp at c3 ⊢; omega)
  clear c3
  have H' := Zh H
  clear H
  go_enter Tryd.func86, Tryd.ntmps86
  go_wp2
  repeat (go_quiet (fail); try go_wp2)
  go_loopg [5] k (fun kq v5 w' => ∃ (x5_1 : Int), v5 = .int .i64 x5_1 ∧ Aside0 (spec_l01Same.l0 kq l0 l1 x5_1 = some r) ∧ Aside0 (kq ≤ k) ∧ Drawn0 w w')
  case atStart => exact ⟨(0), (by first | rfl | (simp; done) | (simp [*]; done)), H', ⟨Nat.le_refl _⟩, by repeat (first | exact Drawn0.refl _ | apply Drawn0.step)⟩
  case round =>
   clear H'
   try clear c1
   try clear p2
   try clear c3
   try clear c3b0
   try clear c3b1
   try clear c3b2
   obtain ⟨x5_1, rfl, HA, HK1, ⟨m1, rfl⟩⟩ := hrel
   cases gk with
   | zero => exact absurd HA.out (by simp [spec_l01Same.l0])
   | succ k1 =>
    have H := HA.out
    clear HA
    simp only [spec_l01Same.l0] at H
    by_cases c4 : x5_1 < (l0.length : Int)
    ·
     rw [if_pos c4] at H
     have c4b0 : decide (x5_1 < (l0.length : Int)) = true := decide_eq_true c4
     clear c4
     by_cases c5 : 0 ≤ x5_1
     ·
      rw [if_pos c5] at H
      have c5b0 : decide (0 ≤ x5_1) = true := decide_eq_true c5
      clear c5
      by_cases c6 : x5_1 < (l1.length : Int)
      ·
       rw [if_pos c6] at H
       have c6b0 : decide (x5_1 < (l1.length : Int)) = true := decide_eq_true c6
       clear c6
       by_cases c7 : (rd l0 x5_1) = (rd l1 x5_1)
       ·
        rw [if_pos c7] at H
        have c7b0 : ((rd l0 x5_1) == (rd l1 x5_1)) = true := beq_iff_eq.mpr c7
        have c7b1 : ((rd l0 x5_1) != (rd l1 x5_1)) = false := bne_eq_false_iff_eq.mpr c7
        clear c7
        have H' := Zh H
        clear H
        have p305 : 0 ≤ (x5_1 : Int) := Zo
        have q305 : x5_1 < (l0.length : Int) := Zo
        obtain ⟨ad305, e305, hx305_0⟩ := Kd.at_int HR0.out x5_1 p305 q305
        cases e305
        replace p305 := eq_true p305
        replace q305 := eq_true q305
        have p306 : 0 ≤ (x5_1 : Int) := Zo
        have q306 : x5_1 < (l1.length : Int) := Zo
        obtain ⟨ad306, e306, hx306_0⟩ := Kd.at_int HR1.out x5_1 p306 q306
        cases e306
        replace p306 := eq_true p306
        replace q306 := eq_true q306
        go_wp2
        repeat (go_quiet (fail); try go_wp2)
        go_roundg k1
        case measure => have := HK1.out; omega
        case rel => exact ⟨(wrap64 (x5_1 + 1)), (by first | rfl | (simp; done) | (simp [*]; done)), H', ⟨by have := HK1.out; omega⟩, by repeat (first | exact Drawn0.refl _ | apply Drawn0.step)⟩
       rw [if_neg c7] at H
       have c7b0 : ((rd l0 x5_1) == (rd l1 x5_1)) = false := beq_eq_false_iff_ne.mpr c7
       have c7b1 : ((rd l0 x5_1) != (rd l1 x5_1)) = true := bne_iff_ne.mpr c7
       obtain rfl := Option.some.inj H
       have p305 : 0 ≤ (x5_1 : Int) := Zo
       have q305 : x5_1 < (l0.length : Int) := Zo
       obtain ⟨ad305, e305, hx305_0⟩ := Kd.at_int HR0.out x5_1 p305 q305
       cases e305
       replace p305 := eq_true p305
       replace q305 := eq_true q305
       have p306 : 0 ≤ (x5_1 : Int) := Zo
       have q306 : x5_1 < (l1.length : Int) := Zo
       obtain ⟨ad306, e306, hx306_0⟩ := Kd.at_int HR1.out x5_1 p306 q306
       cases e306
       replace p306 := eq_true p306
       replace q306 := eq_true q306
       go_wp2
       repeat (go_quiet (fail); try go_wp2)
       go_ret
       exact ⟨by first | rfl | (simp; done) | (simp [*]; done), by repeat (first | exact Drawn0.refl _ | apply Drawn0.step)⟩
      rw [if_neg c6] at H
      exact absurd H (by simp)
     rw [if_neg c5] at H
     exact absurd H (by simp)
    rw [if_neg c4] at H
    have c4b0 : decide (x5_1 < (l0.length : Int)) = false := decide_eq_false c4
    clear c4
    obtain rfl := Option.some.inj H
    go_wp2
    repeat (go_quiet (fail); try go_wp2)
    go_ret
    exact ⟨by first | rfl | (simp; done) | (simp [*]; done), by repeat (first | exact Drawn0.refl _ | apply Drawn0.step)⟩
 rw [if_neg c3] at H
 have c3b0 : ((l0.length : Int) == (l1.length : Int)) = false := beq_eq_false_iff_ne.mpr c3
 have c3b1 : ((l0.length : Int) != (l1.length : Int)) = true := bne_iff_ne.mpr c3
 have c3b2 : (l0.length == l1.length) = false := by first | simpa using c3 | (simp at c3 ⊢; omega)
 obtain rfl := Option.some.inj H
 go_enter Tryd.func86, Tryd.ntmps86
 go_wp2
 repeat (go_quiet (fail); try go_wp2)
 go_ret
 exact ⟨by first | rfl | (simp; done) | (simp [*]; done), by repeat (first | exact Drawn0.refl _ | apply Drawn0.step)⟩
end Go.Proofs.YtcgojdhbphocgaaDoor.F

namespace Go.Proofs.YtcgojdhbphocgaaDoor.F
open Go.Proofs.YtcgojdhbphocgaaDoor
open Go.RowKit Go.Proofs.YtcgojdhbphocgaaDoorW.PrintWords Go.Proofs.YtcgojdhbphocgaaDoorW.PrintWords.Kd Go.Proofs.YtcgojdhbphocgaaDoorW.PrintMore.Kd Go.Proofs.YtcgojdhbphocgaaDoorW.PrintLast Go.Proofs.YtcgojdhbphocgaaDoorW.PrintMore
attribute [local go_sem] max2_int min2_int max_two min_two max_three min_three max_four min_four   -- for this text's walks alone
set_option linter.unusedVariables false
set_option linter.unusedSimpArgs false
def spec_l02One.j0 : Nat → List Int → Bool → Option (List Int)
 | 0, _, _ => none
 | k + 1, x0, x18 => if x18 = true then (some ([] : List Int)) else (if 0 < (x0.length : Int) then (if 1 < (x0.length : Int) then ((spec_l01In.f (wrap64 ((wrap64 (rd x0 0)) + (wrap64 (256 * (wrap64 (rd x0 1)))))) 1 600).bind fun t311 => (if t311 = true then (if (wrap64 ((wrap64 (rd x0 0)) + (wrap64 (256 * (wrap64 (rd x0 1)))))) > (wrap64 ((x0.length : Int) - 8)) then (some ([] : List Int)) else (if 8 ≤ (wrap64 (8 + (wrap64 ((wrap64 (rd x0 0)) + (wrap64 (256 * (wrap64 (rd x0 1)))))))) then (if (wrap64 (8 + (wrap64 ((wrap64 (rd x0 0)) + (wrap64 (256 * (wrap64 (rd x0 1)))))))) ≤ (x0.length : Int) then ((spec_Frame.f k ((x0.take ((wrap64 (8 + (wrap64 ((wrap64 (rd x0 0)) + (wrap64 (256 * (wrap64 (rd x0 1)))))))) : Int).toNat).drop 8)).bind fun t313 => (if 0 ≤ (wrap64 (8 + (wrap64 ((wrap64 (rd x0 0)) + (wrap64 (256 * (wrap64 (rd x0 1)))))))) then ((spec_l01Same.f k t313 (x0.take ((wrap64 (8 + (wrap64 ((wrap64 (rd x0 0)) + (wrap64 (256 * (wrap64 (rd x0 1)))))))) : Int).toNat)).bind fun t317 => (if t317 = true then ((spec_l01Bytes.f k ((x0.take ((wrap64 (8 + (wrap64 ((wrap64 (rd x0 0)) + (wrap64 (256 * (wrap64 (rd x0 1)))))))) : Int).toNat).drop 8)).bind fun t319 => (some t319)) else (some ([] : List Int)))) else (none))) else (none)) else (none))) else (some ([] : List Int)))) else (none)) else (none))
def spec_l02One.f (k : Nat) (l0 : List Int) : Option (List Int) := if (l0.length : Int) < 9 then (spec_l02One.j0 k l0 true) else (if 2 < (l0.length : Int) then (if (rd l0 2) = 0 then (if 3 < (l0.length : Int) then (spec_l02One.j0 k l0 ((rd l0 3) != 0)) else (none)) else (spec_l02One.j0 k l0 true)) else (none))
def spec_l02One.T3 : Bool × List (List Nat × List Nat) := (true, [([], []), ([0], [0]), ([1], [1]), ([2], [2]), ([], []), ([4], [4]), ([5], [5]), ([6], [6]), ([7], [7]), ([3, 8], [3, 8]), ([9, 0, 1, 2, 3, 4, 5, 6, 7, 8, 9], [9])])
def spec_l02One.B3 : List Nat := [0, 1, 3, 7, 0, 16, 48, 112, 240, 511, 1023]
theorem spec_l02One.tab3 : rtab .any (opsOf Tryd.f52 3) = spec_l02One.T3 := by kernel_rfl
theorem spec_l02One.bits3 : waitsOk spec_l02One.T3.2 spec_l02One.B3 = true := by kernel_rfl
def spec_l02One.T4 : Bool × List (List Nat × List Nat) := (true, [([], []), ([0], [0]), ([1], [1]), ([2, 1], [2]), ([3], [3]), ([3], [3]), ([5, 3], [3, 5]), ([6, 3], [3, 6]), ([4, 7, 3], [3, 4, 7]), ([3, 8], [3, 8]), ([9, 3], [9]), ([10], [10]), ([10], [10]), ([12, 10], [10, 12]), ([11, 13, 10], [10, 11, 13]), ([14, 10, 10], [10, 14]), ([10], [10]), ([10], [10]), ([17, 10], [10, 17]), ([16, 18, 10], [10, 16, 18]), ([15, 19, 15, 10], [10, 15, 19]), ([20, 10], [10, 20]), ([10, 21], [10, 21])])
def spec_l02One.B4 : List Nat := [0, 1, 3, 7, 15, 15, 47, 111, 255, 511, 1023, 2047, 2047, 6143, 16383, 32767, 2047, 2047, 133119, 460799, 1048575, 2097151, 4194303]
theorem spec_l02One.tab4 : rtab .any (opsOf Tryd.f52 4) = spec_l02One.T4 := by kernel_rfl
theorem spec_l02One.bits4 : waitsOk spec_l02One.T4.2 spec_l02One.B4 = true := by kernel_rfl
set_option maxHeartbeats 8000000 in
set_option maxRecDepth 100000 in
theorem spec_l02One.calls (k : Nat) (A0 : Option Addr) (c0 : Nat) (l0 : List Int) (r : List Int) (w : World) (hr0 : Kd.C (Kd.int .u8) w A0 l0.length l0) (hc0 : l0.length ≤ c0) (h : spec_l02One.f k l0 = some r) :
  Calls Tryd.prog 52 #[.slice A0 l0.length c0] w fun e w' => ∃ v0_ : Value, e = .returned (v0_) ∧ Kd.R (Kd.int .u8) 5 w' w.heap.size (fun _ => True) v0_ r ∧ Below w.heap.size w w' := by
 have HR0 := Zh hr0
 have HC0 := Zh hc0
 clear hr0 hc0
 have HB := Zh (Below.refl w.heap.size w)
 have H : (if (l0.length : Int) < 9 then (spec_l02One.j0 k l0 true) else (if 2 < (l0.length : Int) then (if (rd l0 2) = 0 then (if 3 < (l0.length : Int) then (spec_l02One.j0 k l0 ((rd l0 3) != 0)) else (none)) else (spec_l02One.j0 k l0 true)) else (none))) = some r := h
 clear h
 have HC2 := Zh H
 clear H
 go_enter Tryd.func52, Tryd.ntmps52
 go_upto_region 1 with (fail)
 go_cut [18] (fun v18 wc => ∃ (kq : Nat) (x18_1 : Bool), v18 = .bool x18_1 ∧ Aside0 (spec_l02One.j0 kq l0 x18_1 = some r) ∧ Aside0 (kq ≤ k) ∧ Aside0 (Below w.heap.size w wc))
 case first =>
  have H := HC2.out
  clear HC2
  by_cases c3 : (l0.length : Int) < 9
  ·
   rw [if_pos c3] at H
   have c3b0 : decide ((l0.length : Int) < 9) = true := decide_eq_true c3
   have c3b1 : decide (l0.length < 9) = true := decide_eq_true (by omega)
   clear c3
   (first | rw [c3b0] | (simp only [i64_w, i32_w]; rw [c3b0]) | skip)
   have H' := Zh H
   clear H
   go_wp2
   go_meet
   case rel => exact ⟨_, (true), (by first | rfl | (simp; done) | (simp [*]; done)), H', ⟨by first | omega | exact Nat.le_refl _⟩, ⟨Zs⟩⟩
  rw [if_neg c3] at H
  have c3b0 : decide ((l0.length : Int) < 9) = false := decide_eq_false c3
  have c3b1 : decide (l0.length < 9) = false := decide_eq_false (by omega)
  clear c3
  (first | rw [c3b0] | (simp only [i64_w, i32_w]; rw [c3b0]) | skip)
  by_cases c4 : 2 < (l0.length : Int)
  ·
   rw [if_pos c4] at H
   have c4b0 : decide (2 < (l0.length : Int)) = true := decide_eq_true c4
   have c4b1 : decide (2 < l0.length) = true := decide_eq_true (by omega)
   clear c4
   by_cases c5 : (rd l0 2) = 0
   ·
    rw [if_pos c5] at H
    have c5b0 : ((rd l0 2) == 0) = true := beq_iff_eq.mpr c5
    have c5b1 : ((rd l0 2) != 0) = false := bne_eq_false_iff_eq.mpr c5
    clear c5
    by_cases c6 : 3 < (l0.length : Int)
    ·
     rw [if_pos c6] at H
     have c6b0 : decide (3 < (l0.length : Int)) = true := decide_eq_true c6
     have c6b1 : decide (3 < l0.length) = true := decide_eq_true (by omega)
     clear c6
     have H' := Zh H
     clear H
     have p307 : 0 ≤ (2 : Int) := (by omega)
     have q307 : 2 < (l0.length : Int) := Zo
     obtain ⟨ad307, e307, hx307_0⟩ := Kd.at_int HR0.out 2 p307 q307
     cases e307
     (try simp only [show (2 : Int).toNat = 2 from rfl, Nat.reduceMul, Nat.reduceEqDiff, Go.Addr.add, ↓reduceIte] at hx307_0)
     have qi307 : (2 < l0.length) = True := eq_true (by omega)
     (try rw [show ((2 : Int)).toNat = 2 from rfl] at hx307_0)
     replace hx307_0 := Zc HB.out hx307_0
     replace p307 := eq_true p307
     replace q307 := eq_true q307
     have p308 : 0 ≤ (3 : Int) := (by omega)
     have q308 : 3 < (l0.length : Int) := Zo
     obtain ⟨ad308, e308, hx308_0⟩ := Kd.at_int HR0.out 3 p308 q308
     obtain rfl : ad307 = ad308 := (by injection e308)
     (try simp only [show (3 : Int).toNat = 3 from rfl, Nat.reduceMul, Nat.reduceEqDiff, Go.Addr.add, ↓reduceIte] at hx308_0)
     have qi308 : (3 < l0.length) = True := eq_true (by omega)
     (try rw [show ((3 : Int)).toNat = 3 from rfl] at hx308_0)
     replace hx308_0 := Zc HB.out hx308_0
     replace p308 := eq_true p308
     replace q308 := eq_true q308
     go_wp2
     go_meet
     case rel => exact ⟨_, (((rd l0 3) != 0)), (by first | rfl | (simp; done) | (simp [*]; done)), H', ⟨by first | omega | exact Nat.le_refl _⟩, ⟨Zs⟩⟩
    rw [if_neg c6] at H
    exact absurd H (by simp)
   rw [if_neg c5] at H
   have c5b0 : ((rd l0 2) == 0) = false := beq_eq_false_iff_ne.mpr c5
   have c5b1 : ((rd l0 2) != 0) = true := bne_iff_ne.mpr c5
   have H' := Zh H
   clear H
   have p307 : 0 ≤ (2 : Int) := (by omega)
   have q307 : 2 < (l0.length : Int) := Zo
   obtain ⟨ad307, e307, hx307_0⟩ := Kd.at_int HR0.out 2 p307 q307
   cases e307
   (try simp only [show (2 : Int).toNat = 2 from rfl, Nat.reduceMul, Nat.reduceEqDiff, Go.Addr.add, ↓reduceIte] at hx307_0)
   have qi307 : (2 < l0.length) = True := eq_true (by omega)
   (try rw [show ((2 : Int)).toNat = 2 from rfl] at hx307_0)
   replace hx307_0 := Zc HB.out hx307_0
   replace p307 := eq_true p307
   replace q307 := eq_true q307
   go_wp2
   go_meet
   case rel => exact ⟨_, (true), (by first | rfl | (simp; done) | (simp [*]; done)), H', ⟨by first | omega | exact Nat.le_refl _⟩, ⟨Zs⟩⟩
  rw [if_neg c4] at H
  exact absurd H (by simp)
 case rest =>
  clear HC2
  try clear p2
  try clear c3
  try clear c3b0
  try clear c3b1
  try clear p3
  try clear q3
  try clear hx3
  try clear qi3
  try clear c4
  try clear c4b0
  try clear c4b1
  try clear c5
  try clear c5b0
  try clear c5b1
  try clear c6
  try clear c6b0
  try clear c6b1
  try clear hx307_0
  try clear hx308_0
  try clear p307
  try clear p308
  try clear q307
  try clear q308
  obtain ⟨kq, x18_1, rfl, HA, HJ1, HB⟩ := hcut
  cases kq with
  | zero => exact absurd HA.out (by simp [spec_l02One.j0])
  | succ kj1 =>
   have H := HA.out
   clear HA
   simp only [spec_l02One.j0] at H
   by_cases c7 : x18_1 = true
   ·
    subst c7
    have H1 : (some ([] : List Int)) = some r := by rw [if_pos rfl] at H; exact H
    clear H
    have H := H1
    clear H1
    obtain rfl := Option.some.inj H
    go_wp2
    go_ret
    exact ⟨_, ZE, by first | exact R_nil _ _ _ _ _ | exact N_nil _ _ _ _ _ | exact V_nil _ _ _ _ _ | exact Q_nil _ _ _ _ _ | exact S_nil _ _ _ _ _, Zs⟩
   replace c7 := Bool.eq_false_iff.mpr c7
   subst c7
   have H1 : (if 0 < (l0.length : Int) then (if 1 < (l0.length : Int) then ((spec_l01In.f (wrap64 ((wrap64 (rd l0 0)) + (wrap64 (256 * (wrap64 (rd l0 1)))))) 1 600).bind fun t311 => (if t311 = true then (if (wrap64 ((wrap64 (rd l0 0)) + (wrap64 (256 * (wrap64 (rd l0 1)))))) > (wrap64 ((l0.length : Int) - 8)) then (some ([] : List Int)) else (if 8 ≤ (wrap64 (8 + (wrap64 ((wrap64 (rd l0 0)) + (wrap64 (256 * (wrap64 (rd l0 1)))))))) then (if (wrap64 (8 + (wrap64 ((wrap64 (rd l0 0)) + (wrap64 (256 * (wrap64 (rd l0 1)))))))) ≤ (l0.length : Int) then ((spec_Frame.f kj1 ((l0.take ((wrap64 (8 + (wrap64 ((wrap64 (rd l0 0)) + (wrap64 (256 * (wrap64 (rd l0 1)))))))) : Int).toNat).drop 8)).bind fun t313 => (if 0 ≤ (wrap64 (8 + (wrap64 ((wrap64 (rd l0 0)) + (wrap64 (256 * (wrap64 (rd l0 1)))))))) then ((spec_l01Same.f kj1 t313 (l0.take ((wrap64 (8 + (wrap64 ((wrap64 (rd l0 0)) + (wrap64 (256 * (wrap64 (rd l0 1)))))))) : Int).toNat)).bind fun t317 => (if t317 = true then ((spec_l01Bytes.f kj1 ((l0.take ((wrap64 (8 + (wrap64 ((wrap64 (rd l0 0)) + (wrap64 (256 * (wrap64 (rd l0 1)))))))) : Int).toNat).drop 8)).bind fun t319 => (some t319)) else (some ([] : List Int)))) else (none))) else (none)) else (none))) else (some ([] : List Int)))) else (none)) else (none)) = some r := by rw [if_neg (show ¬ (false = true) by decide)] at H; exact H
   clear H
   have H := H1
   clear H1
   by_cases c8 : 0 < (l0.length : Int)
   ·
    rw [if_pos c8] at H
    have c8b0 : decide (0 < (l0.length : Int)) = true := decide_eq_true c8
    have c8b1 : decide (0 < l0.length) = true := decide_eq_true (by omega)
    clear c8
    by_cases c9 : 1 < (l0.length : Int)
    ·
     rw [if_pos c9] at H
     have c9b0 : decide (1 < (l0.length : Int)) = true := decide_eq_true c9
     have c9b1 : decide (1 < l0.length) = true := decide_eq_true (by omega)
     clear c9
     replace H := Option.bind_eq_some_iff.mp H
     obtain ⟨t311, A100, H⟩ := H
     replace H : (if t311 = true then (if (wrap64 ((wrap64 (rd l0 0)) + (wrap64 (256 * (wrap64 (rd l0 1)))))) > (wrap64 ((l0.length : Int) - 8)) then (some ([] : List Int)) else (if 8 ≤ (wrap64 (8 + (wrap64 ((wrap64 (rd l0 0)) + (wrap64 (256 * (wrap64 (rd l0 1)))))))) then (if (wrap64 (8 + (wrap64 ((wrap64 (rd l0 0)) + (wrap64 (256 * (wrap64 (rd l0 1)))))))) ≤ (l0.length : Int) then ((spec_Frame.f kj1 ((l0.take ((wrap64 (8 + (wrap64 ((wrap64 (rd l0 0)) + (wrap64 (256 * (wrap64 (rd l0 1)))))))) : Int).toNat).drop 8)).bind fun t313 => (if 0 ≤ (wrap64 (8 + (wrap64 ((wrap64 (rd l0 0)) + (wrap64 (256 * (wrap64 (rd l0 1)))))))) then ((spec_l01Same.f kj1 t313 (l0.take ((wrap64 (8 + (wrap64 ((wrap64 (rd l0 0)) + (wrap64 (256 * (wrap64 (rd l0 1)))))))) : Int).toNat)).bind fun t317 => (if t317 = true then ((spec_l01Bytes.f kj1 ((l0.take ((wrap64 (8 + (wrap64 ((wrap64 (rd l0 0)) + (wrap64 (256 * (wrap64 (rd l0 1)))))))) : Int).toNat).drop 8)).bind fun t319 => (some t319)) else (some ([] : List Int)))) else (none))) else (none)) else (none))) else (some ([] : List Int))) = some r := H
     have A10 := Zh A100
     clear A100
     by_cases c11 : t311 = true
     ·
      subst c11
      have H1 : (if (wrap64 ((wrap64 (rd l0 0)) + (wrap64 (256 * (wrap64 (rd l0 1)))))) > (wrap64 ((l0.length : Int) - 8)) then (some ([] : List Int)) else (if 8 ≤ (wrap64 (8 + (wrap64 ((wrap64 (rd l0 0)) + (wrap64 (256 * (wrap64 (rd l0 1)))))))) then (if (wrap64 (8 + (wrap64 ((wrap64 (rd l0 0)) + (wrap64 (256 * (wrap64 (rd l0 1)))))))) ≤ (l0.length : Int) then ((spec_Frame.f kj1 ((l0.take ((wrap64 (8 + (wrap64 ((wrap64 (rd l0 0)) + (wrap64 (256 * (wrap64 (rd l0 1)))))))) : Int).toNat).drop 8)).bind fun t313 => (if 0 ≤ (wrap64 (8 + (wrap64 ((wrap64 (rd l0 0)) + (wrap64 (256 * (wrap64 (rd l0 1)))))))) then ((spec_l01Same.f kj1 t313 (l0.take ((wrap64 (8 + (wrap64 ((wrap64 (rd l0 0)) + (wrap64 (256 * (wrap64 (rd l0 1)))))))) : Int).toNat)).bind fun t317 => (if t317 = true then ((spec_l01Bytes.f kj1 ((l0.take ((wrap64 (8 + (wrap64 ((wrap64 (rd l0 0)) + (wrap64 (256 * (wrap64 (rd l0 1)))))))) : Int).toNat).drop 8)).bind fun t319 => (some t319)) else (some ([] : List Int)))) else (none))) else (none)) else (none))) = some r := by rw [if_pos rfl] at H; exact H
      clear H
      have H := H1
      clear H1
      by_cases c12 : (wrap64 ((wrap64 (rd l0 0)) + (wrap64 (256 * (wrap64 (rd l0 1)))))) > (wrap64 ((l0.length : Int) - 8))
      ·
       rw [if_pos c12] at H
       have c12b0 : decide ((wrap64 ((l0.length : Int) - 8)) < (wrap64 ((wrap64 (rd l0 0)) + (wrap64 (256 * (wrap64 (rd l0 1))))))) = true := decide_eq_true c12
       clear c12
       obtain rfl := Option.some.inj H
       try go_wp2
       replace HB := Zh (Ze HB.out)
       have p309 : 0 ≤ (0 : Int) := (by omega)
       have q309 : 0 < (l0.length : Int) := Zo
       obtain ⟨ad309, e309, hx309_0⟩ := Kd.at_int HR0.out 0 p309 q309
       have hw309_0 := hx309_0
       (try rw [show ((0 : Int)).toNat = 0 from rfl] at hw309_0)
       (try rw [show 0 * 1 = 0 from rfl] at hw309_0)
       (try rw [Addr.add_zero'] at hw309_0)
       cases e309
       have qi309 : (0 < l0.length) = True := eq_true (by omega)
       (try rw [show ((0 : Int)).toNat = 0 from rfl] at hx309_0)
       (try rw [Addr.add_zero'] at hx309_0)
       replace hx309_0 := Zc HB.out hx309_0
       replace p309 := eq_true p309
       replace q309 := eq_true q309
       have p310 : 0 ≤ (1 : Int) := (by omega)
       have q310 : 1 < (l0.length : Int) := Zo
       obtain ⟨ad310, e310, hx310_0⟩ := Kd.at_int HR0.out 1 p310 q310
       have hw310_0 := hx310_0
       (try rw [show ((1 : Int)).toNat = 1 from rfl] at hw310_0)
       (try rw [show 1 * 1 = 1 from rfl] at hw310_0)
       (try simp only [Nat.reduceMul, Nat.reduceEqDiff, Go.Addr.add, ↓reduceIte] at hw310_0)
       obtain rfl : ad309 = ad310 := (by injection e310)
       (try simp only [show (1 : Int).toNat = 1 from rfl, Nat.reduceMul, Nat.reduceEqDiff, Go.Addr.add, ↓reduceIte] at hx310_0)
       have qi310 : (1 < l0.length) = True := eq_true (by omega)
       (try rw [show ((1 : Int)).toNat = 1 from rfl] at hx310_0)
       replace hx310_0 := Zc HB.out hx310_0
       replace p310 := eq_true p310
       replace q310 := eq_true q310
       refine start_ (n := 11) (S := fun w' => w'.cell? ad309 = some (.int .u8 (rd l0 0)) ∧ w'.cell? ⟨ad309.block, ad309.off + 1, none⟩ = some (.int .u8 (rd l0 1))) (ds := []) #[false, false, false, false, false, false, false, false, false, false, false] (by kernel_rfl) rfl rfl ⟨((HB.out.cell (Zi w _ hw309_0)).trans hw309_0), ((HB.out.cell (Zi w _ hw310_0)).trans hw310_0)⟩ (fun hHeld => ?_); refine with_tabW spec_l02One.tab3 spec_l02One.bits3 (fun HT_ HW_ => ?_)
       generalize wc.drew = w13 at HB hx309_0 hx310_0 hHeld ⊢
       refine SQ.pu 0 19 HT_ ?_
       refine SQ.pu 1 20 HT_ ?_
       refine SQ.pu 4 23 HT_ ?_
       refine SQ.pu 5 24 HT_ ?_
       refine SQ.tk 2 21 HT_ HW_ hHeld ?_
       refine SQ.pu 3 22 HT_ ?_
       refine SQ.tk 6 25 HT_ HW_ hHeld ?_
       refine SQ.pu 7 26 HT_ ?_
       refine SQ.pu 8 27 HT_ ?_
       refine SQ.pu 9 28 HT_ ?_
       refine SQ.pu 10 3 HT_ ?_
       refine done_ (done_of HT_.out (by kernel_rfl)) ?_
       try go_wp2
       replace HB := Zh (Ze HB.out)
       refine start_ (n := 23) (S := fun w' => True) (ds := []) #[false, false, false, false, false, false, false, false, false, false, false, false, false, false, false, false, false, false, false, false, false, false, false] (by kernel_rfl) rfl rfl trivial (fun hHeld => ?_); refine with_tabW spec_l02One.tab4 spec_l02One.bits4 (fun HT_ HW_ => ?_)
       generalize w13.drew = w14 at HB hHeld ⊢
       refine SQ.pu 0 29 HT_ ?_
       refine one_ (i := 1) (N := some 30) #[true, true, false, false, false, false, false, false, false, false, false, false, false, false, false, false, false, false, false, false, false, false, false] rfl rfl (one_of HT_.out (by kernel_rfl)) (by decide) (fun K hK => ?_)
       refine goes_ Tryd.func62 (by kernel_rfl) rfl #[.int .i64 (wrap64 ((wrap64 (rd l0 0)) + (wrap64 (256 * (wrap64 (rd l0 1)))))), .int .i64 1, .int .i64 600] (by rfl) rfl rfl (by (try simp only [List.map_toArray, List.map_cons, List.map_nil]); first | done | rfl | (simp only [List.length_drop, List.length_take]; rfl)) ?_
       with_reducible refine (spec_l01In.calls (wrap64 ((wrap64 (rd l0 0)) + (wrap64 (256 * (wrap64 (rd l0 1)))))) 1 600 true _ A10.out).mono ?_
       rintro e w' ⟨rfl, ⟨nd, rfl⟩⟩
       refine ⟨_, rfl, ?_⟩
       refine hK.out _ _ trivial (fun hHeld => ?_)
       clear hK K
       refine norm_ (a' := ?_) ?_ ?_
       rotate_left
       ·
        show Act.put _ (some 30) _ = _
        simp only [Act.put, List.setIfInBounds_toArray, List.set_cons_zero, List.set_cons_succ, i64_w, i32_w]
        rfl
       refine SQ.pu 2 31 HT_ ?_
       refine SQ.pu 3 32 HT_ ?_
       refine SQ.pu 4 33 HT_ ?_
       refine SQ.pu 5 34 HT_ ?_
       refine SQ.pu 6 35 HT_ ?_
       refine SQ.pu 7 36 HT_ ?_
       refine SQ.pu 8 37 HT_ ?_
       refine SQ.pu 9 38 HT_ ?_
       refine SQ.pu 10 39 HT_ ?_
       refine SQ.of 11 40 HT_ ?_
       refine SQ.of 12 41 HT_ ?_
       refine SQ.of 13 42 HT_ ?_
       refine SQ.of 14 43 HT_ ?_
       refine SQ.of 15 44 HT_ ?_
       refine SQ.of 16 45 HT_ ?_
       refine SQ.of 17 46 HT_ ?_
       refine SQ.of 18 47 HT_ ?_
       refine SQ.of 19 48 HT_ ?_
       refine SQ.of 20 49 HT_ ?_
       refine SQ.of 21 50 HT_ ?_
       refine SQ.pu 22 51 HT_ ?_
       refine done_ (done_of HT_.out (by kernel_rfl)) ?_
       try go_wp2
       go_ret
       exact ⟨_, ZE, by first | exact R_nil _ _ _ _ _ | exact N_nil _ _ _ _ _ | exact V_nil _ _ _ _ _ | exact Q_nil _ _ _ _ _ | exact S_nil _ _ _ _ _, Zs⟩
      rw [if_neg c12] at H
      have c12b0 : decide ((wrap64 ((l0.length : Int) - 8)) < (wrap64 ((wrap64 (rd l0 0)) + (wrap64 (256 * (wrap64 (rd l0 1))))))) = false := decide_eq_false c12
      clear c12
      by_cases c15 : 8 ≤ (wrap64 (8 + (wrap64 ((wrap64 (rd l0 0)) + (wrap64 (256 * (wrap64 (rd l0 1))))))))
      ·
       rw [if_pos c15] at H
       have c15b0 := eq_true c15
       have c15b1 : decide (8 ≤ (wrap64 (8 + (wrap64 ((wrap64 (rd l0 0)) + (wrap64 (256 * (wrap64 (rd l0 1))))))))) = true := decide_eq_true c15
       by_cases c16 : (wrap64 (8 + (wrap64 ((wrap64 (rd l0 0)) + (wrap64 (256 * (wrap64 (rd l0 1)))))))) ≤ (l0.length : Int)
       ·
        rw [if_pos c16] at H
        have c16b0 := eq_true c16
        have c16b1 : decide ((wrap64 (8 + (wrap64 ((wrap64 (rd l0 0)) + (wrap64 (256 * (wrap64 (rd l0 1)))))))) ≤ (l0.length : Int)) = true := decide_eq_true c16
        replace H := Option.bind_eq_some_iff.mp H
        obtain ⟨t313, A170, H⟩ := H
        replace H : (if 0 ≤ (wrap64 (8 + (wrap64 ((wrap64 (rd l0 0)) + (wrap64 (256 * (wrap64 (rd l0 1)))))))) then ((spec_l01Same.f kj1 t313 (l0.take ((wrap64 (8 + (wrap64 ((wrap64 (rd l0 0)) + (wrap64 (256 * (wrap64 (rd l0 1)))))))) : Int).toNat)).bind fun t317 => (if t317 = true then ((spec_l01Bytes.f kj1 ((l0.take ((wrap64 (8 + (wrap64 ((wrap64 (rd l0 0)) + (wrap64 (256 * (wrap64 (rd l0 1)))))))) : Int).toNat).drop 8)).bind fun t319 => (some t319)) else (some ([] : List Int)))) else (none)) = some r := H
        have A17 := Zh A170
        clear A170
        obtain ⟨ji18, hji18⟩ : ∃ j_ : Int, (wrap64 (8 + (wrap64 ((wrap64 (rd l0 0)) + (wrap64 (256 * (wrap64 (rd l0 1)))))))) = j_ := ⟨_, rfl⟩
        replace H : (if 0 ≤ (ji18) then ((spec_l01Same.f kj1 t313 (l0.take ((ji18) : Int).toNat)).bind fun t317 => (if t317 = true then ((spec_l01Bytes.f kj1 ((l0.take ((ji18) : Int).toNat).drop 8)).bind fun t319 => (some t319)) else (some ([] : List Int)))) else (none)) = some r := by first | (rw [hji18] at H; exact H) | (simp only [hji18] at H ⊢; exact H)
        (try rw [hji18] at c15b0)
        (try rw [hji18] at c15b1)
        (try rw [hji18] at c15)
        (try rw [hji18] at c16b0)
        (try rw [hji18] at c16b1)
        (try rw [hji18] at c16)
        (try rw [hji18] at A10)
        (try rw [hji18] at A17)
        have hji18w : (IntKind.i64.wrap (8 + (wrap64 ((wrap64 (rd l0 0)) + (wrap64 (256 * (wrap64 (rd l0 1)))))))) = ji18 := (i64_w _).trans hji18
        by_cases c19 : 0 ≤ (ji18)
        ·
         rw [if_pos c19] at H
         have c19b0 := eq_true c19
         have c19b1 : decide (0 ≤ (ji18)) = true := decide_eq_true c19
         clear c19
         have c20b0 := eq_true (Zo : (ji18) ≤ (l0.length : Int))
         replace H := Option.bind_eq_some_iff.mp H
         obtain ⟨t317, A210, H⟩ := H
         replace H : (if t317 = true then ((spec_l01Bytes.f kj1 ((l0.take ((ji18) : Int).toNat).drop 8)).bind fun t319 => (some t319)) else (some ([] : List Int))) = some r := H
         have A21 := Zh A210
         clear A210
         by_cases c22 : t317 = true
         ·
          subst c22
          have H1 : ((spec_l01Bytes.f kj1 ((l0.take ((ji18) : Int).toNat).drop 8)).bind fun t319 => (some t319)) = some r := by rw [if_pos rfl] at H; exact H
          clear H
          have H := H1
          clear H1
          have c23b0 := eq_true (Zo : 8 ≤ (ji18))
          have c24b0 := eq_true (Zo : (ji18) ≤ (l0.length : Int))
          replace H := Option.bind_eq_some_iff.mp H
          obtain ⟨t319, A250, H⟩ := H
          replace H : (some t319) = some r := H
          have A25 := Zh A250
          clear A250
          obtain rfl := Option.some.inj H
          try go_wp2
          replace HB := Zh (Ze HB.out)
          have p309 : 0 ≤ (0 : Int) := (by omega)
          have q309 : 0 < (l0.length : Int) := Zo
          obtain ⟨ad309, e309, hx309_0⟩ := Kd.at_int HR0.out 0 p309 q309
          have hw309_0 := hx309_0
          (try rw [show ((0 : Int)).toNat = 0 from rfl] at hw309_0)
          (try rw [show 0 * 1 = 0 from rfl] at hw309_0)
          (try rw [Addr.add_zero'] at hw309_0)
          cases e309
          have qi309 : (0 < l0.length) = True := eq_true (by omega)
          (try rw [show ((0 : Int)).toNat = 0 from rfl] at hx309_0)
          (try rw [Addr.add_zero'] at hx309_0)
          replace hx309_0 := Zc HB.out hx309_0
          replace p309 := eq_true p309
          replace q309 := eq_true q309
          have p310 : 0 ≤ (1 : Int) := (by omega)
          have q310 : 1 < (l0.length : Int) := Zo
          obtain ⟨ad310, e310, hx310_0⟩ := Kd.at_int HR0.out 1 p310 q310
          have hw310_0 := hx310_0
          (try rw [show ((1 : Int)).toNat = 1 from rfl] at hw310_0)
          (try rw [show 1 * 1 = 1 from rfl] at hw310_0)
          (try simp only [Nat.reduceMul, Nat.reduceEqDiff, Go.Addr.add, ↓reduceIte] at hw310_0)
          obtain rfl : ad309 = ad310 := (by injection e310)
          (try simp only [show (1 : Int).toNat = 1 from rfl, Nat.reduceMul, Nat.reduceEqDiff, Go.Addr.add, ↓reduceIte] at hx310_0)
          have qi310 : (1 < l0.length) = True := eq_true (by omega)
          (try rw [show ((1 : Int)).toNat = 1 from rfl] at hx310_0)
          replace hx310_0 := Zc HB.out hx310_0
          replace p310 := eq_true p310
          replace q310 := eq_true q310
          refine start_ (n := 11) (S := fun w' => w'.cell? ad309 = some (.int .u8 (rd l0 0)) ∧ w'.cell? ⟨ad309.block, ad309.off + 1, none⟩ = some (.int .u8 (rd l0 1))) (ds := []) #[false, false, false, false, false, false, false, false, false, false, false] (by kernel_rfl) rfl rfl ⟨((HB.out.cell (Zi w _ hw309_0)).trans hw309_0), ((HB.out.cell (Zi w _ hw310_0)).trans hw310_0)⟩ (fun hHeld => ?_); refine with_tabW spec_l02One.tab3 spec_l02One.bits3 (fun HT_ HW_ => ?_)
          generalize wc.drew = w26 at HB hx309_0 hx310_0 hHeld ⊢
          refine SQ.pu 0 19 HT_ ?_
          refine SQ.pu 1 20 HT_ ?_
          refine SQ.pu 4 23 HT_ ?_
          refine SQ.pu 5 24 HT_ ?_
          refine SQ.tk 2 21 HT_ HW_ hHeld ?_
          refine SQ.pu 3 22 HT_ ?_
          refine SQ.tk 6 25 HT_ HW_ hHeld ?_
          refine SQ.pu 7 26 HT_ ?_
          refine SQ.pu 8 27 HT_ ?_
          refine SQ.pu 9 28 HT_ ?_
          refine SQ.pu 10 3 HT_ ?_
          refine done_ (done_of HT_.out (by kernel_rfl)) ?_
          try go_wp2
          replace HB := Zh (Ze HB.out)
          refine start_ (n := 23) (S := fun w' => True) (ds := []) #[false, false, false, false, false, false, false, false, false, false, false, false, false, false, false, false, false, false, false, false, false, false, false] (by kernel_rfl) rfl rfl trivial (fun hHeld => ?_); refine with_tabW spec_l02One.tab4 spec_l02One.bits4 (fun HT_ HW_ => ?_)
          generalize w26.drew = w27 at HB hHeld ⊢
          refine SQ.pu 0 29 HT_ ?_
          refine one_ (i := 1) (N := some 30) #[true, true, false, false, false, false, false, false, false, false, false, false, false, false, false, false, false, false, false, false, false, false, false] rfl rfl (one_of HT_.out (by kernel_rfl)) (by decide) (fun K hK => ?_)
          refine goes_ Tryd.func62 (by kernel_rfl) rfl #[.int .i64 (wrap64 ((wrap64 (rd l0 0)) + (wrap64 (256 * (wrap64 (rd l0 1)))))), .int .i64 1, .int .i64 600] (by rfl) rfl rfl (by (try simp only [List.map_toArray, List.map_cons, List.map_nil]); first | done | rfl | (simp only [List.length_drop, List.length_take]; rfl)) ?_
          with_reducible refine (spec_l01In.calls (wrap64 ((wrap64 (rd l0 0)) + (wrap64 (256 * (wrap64 (rd l0 1)))))) 1 600 true _ A10.out).mono ?_
          rintro e w' ⟨rfl, ⟨nd, rfl⟩⟩
          refine ⟨_, rfl, ?_⟩
          obtain ⟨i028, hi028, _, hsz28, _⟩ := info_parts info5
          obtain ⟨A28, hcut28, hA28, hC28⟩ := print_mid_of (P := Tryd.prog) (Value.int .u8) 0 41 5 .i64 .i64 Tryd.underlying41 hi028 hsz28 (some ad309) c0 l0 8 (ji18) (by omega) (by first | omega | exact Zo) (Zo) HC0.out
          have HR312 := Zh (C_of_reads (h1 := fun _ => rfl) (hA28 _ (Kd.reads_of_C HR0.out)))
          have HC312 := Zh hC28
          clear hA28 hC28 hi028 hsz28
          obtain ⟨i030, hi030, _, hsz30, _⟩ := info_parts info5
          obtain ⟨hcut30, hA30, hC30⟩ := print_take_of (P := Tryd.prog) (Value.int .u8) 0 41 5 .i64 Tryd.underlying41 hi030 hsz30 (some ad309) c0 l0 (ji18) (Zo) (Zo) HC0.out
          have HR316 := Zh (C_of_reads (h1 := fun _ => rfl) (hA30 _ (Kd.reads_of_C HR0.out)))
          have HC316 := Zh hC30
          clear hA30 hC30 hi030 hsz30
          refine hK.out _ _ trivial (fun hHeld => ?_)
          clear hK K
          refine norm_ (a' := ?_) ?_ ?_
          rotate_left
          ·
           show Act.put _ (some 30) _ = _
           simp only [Act.put, List.setIfInBounds_toArray, List.set_cons_zero, List.set_cons_succ, i64_w, i32_w]
           rfl
          refine SQ.pu 2 31 HT_ ?_
          refine SQ.pu 3 32 HT_ ?_
          refine SQ.pu 4 33 HT_ ?_
          refine SQ.pu 5 34 HT_ ?_
          refine SQ.pu 6 35 HT_ ?_
          refine SQ.pu 7 36 HT_ ?_
          refine SQ.pu 8 37 HT_ ?_
          refine SQ.pu 9 38 HT_ ?_
          refine SQ.pu 10 39 HT_ ?_
          refine SQ.pu 11 40 HT_ ?_
          refine SQ.pu 12 41 HT_ ?_
          refine SQ.pu 13 42 HT_ ?_
          refine SQ.pu 14 43 HT_ ?_
          refine SQ.pu 16 45 HT_ ?_
          refine SQ.pu 17 46 HT_ ?_
          refine SQ.pu 18 47 HT_ ?_
          refine SQ.pu 19 48 HT_ ?_
          refine one_ (i := 15) (N := some 44) #[true, true, true, true, true, true, true, true, true, true, true, true, true, true, true, true, true, true, true, true, false, false, false] rfl rfl (one_of HT_.out (by kernel_rfl)) (by decide) (fun K hK => ?_)
          refine goes_ Tryd.func58 (by kernel_rfl) rfl #[.slice A28 ((l0.take ((ji18) : Int).toNat).drop 8).length (c0 - 8)] (by rfl) rfl rfl (by (try simp only [List.map_toArray, List.map_cons, List.map_nil]); first | done | (rw [show ((l0.take ((ji18) : Int).toNat).drop 8).length = ((ji18).toNat - 8) from (by rw [List.length_drop, List.length_take]; have h_ : ((ji18) : Int) ≤ (l0.length : Int) := Zo; omega)] <;> rfl) | (simp only [hji18]; rfl) | rfl | (simp only [List.length_drop, List.length_take]; rfl)) ?_
          with_reducible refine (spec_Frame.calls kj1 _ _ ((l0.take ((ji18) : Int).toNat).drop 8) t313 _ ?side1 ?side2 A17.out).mono ?_
          (case side1 => repeat (first | exact (C_below HR312.out Zs) | (with_reducible refine C_alloc ?_ _) | (with_reducible refine C_drewN ?_ _) | (with_reducible refine C_drew ?_)))
          (case side2 => exact HC312.out)
          rintro e w29 ⟨v314, rfl, ho0, hb⟩
          refine ⟨_, rfl, ?_⟩
          have HO315 := Zh (R_lower ho0 (below_size Zs))
          replace HB := Zh (Zl Zs hb)
          (try clear hb)
          (try clear hb2)
          (try clear hk)
          (try clear hi)
          (try clear ho0)
          obtain ⟨Ao31, co31, eo31⟩ := R_slice HO315.out
          (first | subst eo31 | (injection eo31 with f1_ f2_ f3_; have f4_ := f1_.symm; have f5_ := f3_.symm; clear f1_ f2_ f3_; subst f4_; subst f5_))
          refine hK.out _ _ trivial (fun hHeld => ?_)
          clear hK K
          refine norm_ (a' := ?_) ?_ ?_
          rotate_left
          ·
           show Act.put _ (some 44) _ = _
           simp only [Act.put, List.setIfInBounds_toArray, List.set_cons_zero, List.set_cons_succ, i64_w, i32_w]
           rfl
          refine one_ (i := 20) (N := some 49) #[true, true, true, true, true, true, true, true, true, true, true, true, true, true, true, true, true, true, true, true, true, false, false] rfl rfl (one_of HT_.out (by kernel_rfl)) (by decide) (fun K hK => ?_)
          refine goes_ Tryd.func86 (by kernel_rfl) rfl #[.slice Ao31 t313.length co31, .slice (some ad309) (l0.take ((ji18) : Int).toNat).length c0] (by rfl) rfl rfl (by (try simp only [List.map_toArray, List.map_cons, List.map_nil]); first | done | (rw [show (l0.take ((ji18) : Int).toNat).length = (ji18).toNat from (by rw [List.length_take]; have h_ : ((ji18) : Int) ≤ (l0.length : Int) := Zo; omega)] <;> rfl) | (simp only [hji18]; rfl) | rfl | (simp only [List.length_drop, List.length_take]; rfl)) ?_
          with_reducible refine (spec_l01Same.calls kj1 _ _ t313 _ _ (l0.take ((ji18) : Int).toNat) true _ ?side1 ?side2 ?side3 ?side4 A21.out).mono ?_
          (case side1 => repeat (first | exact (R_reads' HO315.out).2.2 | (with_reducible refine C_alloc ?_ _) | (with_reducible refine C_drewN ?_ _) | (with_reducible refine C_drew ?_)))
          (case side2 => exact (R_reads' HO315.out).2.1)
          (case side3 => repeat (first | exact (C_below HR316.out HB.out) | (with_reducible refine C_alloc ?_ _) | (with_reducible refine C_drewN ?_ _) | (with_reducible refine C_drew ?_)))
          (case side4 => exact HC316.out)
          rintro e w' ⟨rfl, ⟨nd, rfl⟩⟩
          refine ⟨_, rfl, ?_⟩
          refine hK.out _ _ trivial (fun hHeld => ?_)
          clear hK K
          refine norm_ (a' := ?_) ?_ ?_
          rotate_left
          ·
           show Act.put _ (some 49) _ = _
           simp only [Act.put, List.setIfInBounds_toArray, List.set_cons_zero, List.set_cons_succ, i64_w, i32_w]
           rfl
          refine SQ.pu 21 50 HT_ ?_
          refine SQ.pu 22 51 HT_ ?_
          refine done_ (done_of HT_.out (by kernel_rfl)) ?_
          obtain ⟨i032, hi032, _, hsz32, _⟩ := info_parts info5
          try clear hcut28
          obtain ⟨A32, hcut32, hA32, hC32⟩ := print_mid_of (P := Tryd.prog) (Value.int .u8) 0 41 5 .i64 .i64 Tryd.underlying41 hi032 hsz32 (some ad309) c0 l0 8 (ji18) (by omega) (by first | omega | exact Zo) (Zo) HC0.out
          have HR318 := Zh (C_of_reads (h1 := fun _ => rfl) (hA32 _ (Kd.reads_of_C HR0.out)))
          have HC318 := Zh hC32
          clear hA32 hC32 hi032 hsz32
          try go_wp2_with (first | ((with_reducible refine gate_callee (f := 87) rfl ?_); refine goesL_ (some 56) rfl rfl Tryd.func87 (by kernel_rfl) rfl #[.slice A32 ((l0.take ((ji18) : Int).toNat).drop 8).length (c0 - 8)] rfl (by (try simp only [List.map_toArray, List.map_cons, List.map_nil]); first | done | (rw [show ((l0.take ((ji18) : Int).toNat).drop 8).length = ((ji18).toNat - 8) from (by rw [List.length_drop, List.length_take]; have h_ : ((ji18) : Int) ≤ (l0.length : Int) := Zo; omega)] <;> rfl) | (simp only [hji18]; rfl) | rfl | (simp only [List.length_drop, List.length_take]; rfl)) ?_; (with_reducible refine (spec_l01Bytes.calls kj1 _ _ ((l0.take ((ji18) : Int).toNat).drop 8) t319 _ ?side1 ?side2 A25.out).mono ?_); (case side1 => repeat (first | exact (C_below HR318.out Zs) | (with_reducible refine C_alloc ?_ _) | (with_reducible refine C_drewN ?_ _) | (with_reducible refine C_drew ?_))); (case side2 => exact HC318.out); rintro e w33 ⟨v320, rfl, ho0, hb⟩; refine ⟨_, rfl, ?_⟩; have HO321 := Zh (R_lower (R_new' ho0 (R_lt (ZR HO315.out))) (below_size Zs)); replace HO315 := Zh (R_elder' (ZR HO315.out) (R_base ho0) hb); replace HB := Zh (Zl Zs hb); (try clear hb); (try clear hb2); (try clear hk); (try clear hi); (try clear ho0)))
          go_ret
          exact ⟨_, by first | rfl | (simp [errW_none, errW_some] <;> rfl) | (simp only [← hji18]; first | rfl | (simp [errW_none, errW_some] <;> rfl)) | (simp [*, errW_none, errW_some] <;> rfl), ZR (R_mono HO321.out (fun _ hk => trivial)), Zs⟩
         replace c22 := Bool.eq_false_iff.mpr c22
         subst c22
         have H1 : (some ([] : List Int)) = some r := by rw [if_neg (show ¬ (false = true) by decide)] at H; exact H
         clear H
         have H := H1
         clear H1
         obtain rfl := Option.some.inj H
         try go_wp2
         replace HB := Zh (Ze HB.out)
         have p309 : 0 ≤ (0 : Int) := (by omega)
         have q309 : 0 < (l0.length : Int) := Zo
         obtain ⟨ad309, e309, hx309_0⟩ := Kd.at_int HR0.out 0 p309 q309
         have hw309_0 := hx309_0
         (try rw [show ((0 : Int)).toNat = 0 from rfl] at hw309_0)
         (try rw [show 0 * 1 = 0 from rfl] at hw309_0)
         (try rw [Addr.add_zero'] at hw309_0)
         cases e309
         have qi309 : (0 < l0.length) = True := eq_true (by omega)
         (try rw [show ((0 : Int)).toNat = 0 from rfl] at hx309_0)
         (try rw [Addr.add_zero'] at hx309_0)
         replace hx309_0 := Zc HB.out hx309_0
         replace p309 := eq_true p309
         replace q309 := eq_true q309
         have p310 : 0 ≤ (1 : Int) := (by omega)
         have q310 : 1 < (l0.length : Int) := Zo
         obtain ⟨ad310, e310, hx310_0⟩ := Kd.at_int HR0.out 1 p310 q310
         have hw310_0 := hx310_0
         (try rw [show ((1 : Int)).toNat = 1 from rfl] at hw310_0)
         (try rw [show 1 * 1 = 1 from rfl] at hw310_0)
         (try simp only [Nat.reduceMul, Nat.reduceEqDiff, Go.Addr.add, ↓reduceIte] at hw310_0)
         obtain rfl : ad309 = ad310 := (by injection e310)
         (try simp only [show (1 : Int).toNat = 1 from rfl, Nat.reduceMul, Nat.reduceEqDiff, Go.Addr.add, ↓reduceIte] at hx310_0)
         have qi310 : (1 < l0.length) = True := eq_true (by omega)
         (try rw [show ((1 : Int)).toNat = 1 from rfl] at hx310_0)
         replace hx310_0 := Zc HB.out hx310_0
         replace p310 := eq_true p310
         replace q310 := eq_true q310
         refine start_ (n := 11) (S := fun w' => w'.cell? ad309 = some (.int .u8 (rd l0 0)) ∧ w'.cell? ⟨ad309.block, ad309.off + 1, none⟩ = some (.int .u8 (rd l0 1))) (ds := []) #[false, false, false, false, false, false, false, false, false, false, false] (by kernel_rfl) rfl rfl ⟨((HB.out.cell (Zi w _ hw309_0)).trans hw309_0), ((HB.out.cell (Zi w _ hw310_0)).trans hw310_0)⟩ (fun hHeld => ?_); refine with_tabW spec_l02One.tab3 spec_l02One.bits3 (fun HT_ HW_ => ?_)
         generalize wc.drew = w34 at HB hx309_0 hx310_0 hHeld ⊢
         refine SQ.pu 0 19 HT_ ?_
         refine SQ.pu 1 20 HT_ ?_
         refine SQ.pu 4 23 HT_ ?_
         refine SQ.pu 5 24 HT_ ?_
         refine SQ.tk 2 21 HT_ HW_ hHeld ?_
         refine SQ.pu 3 22 HT_ ?_
         refine SQ.tk 6 25 HT_ HW_ hHeld ?_
         refine SQ.pu 7 26 HT_ ?_
         refine SQ.pu 8 27 HT_ ?_
         refine SQ.pu 9 28 HT_ ?_
         refine SQ.pu 10 3 HT_ ?_
         refine done_ (done_of HT_.out (by kernel_rfl)) ?_
         try go_wp2
         replace HB := Zh (Ze HB.out)
         refine start_ (n := 23) (S := fun w' => True) (ds := []) #[false, false, false, false, false, false, false, false, false, false, false, false, false, false, false, false, false, false, false, false, false, false, false] (by kernel_rfl) rfl rfl trivial (fun hHeld => ?_); refine with_tabW spec_l02One.tab4 spec_l02One.bits4 (fun HT_ HW_ => ?_)
         generalize w34.drew = w35 at HB hHeld ⊢
         refine SQ.pu 0 29 HT_ ?_
         refine one_ (i := 1) (N := some 30) #[true, true, false, false, false, false, false, false, false, false, false, false, false, false, false, false, false, false, false, false, false, false, false] rfl rfl (one_of HT_.out (by kernel_rfl)) (by decide) (fun K hK => ?_)
         refine goes_ Tryd.func62 (by kernel_rfl) rfl #[.int .i64 (wrap64 ((wrap64 (rd l0 0)) + (wrap64 (256 * (wrap64 (rd l0 1)))))), .int .i64 1, .int .i64 600] (by rfl) rfl rfl (by (try simp only [List.map_toArray, List.map_cons, List.map_nil]); first | done | rfl | (simp only [List.length_drop, List.length_take]; rfl)) ?_
         with_reducible refine (spec_l01In.calls (wrap64 ((wrap64 (rd l0 0)) + (wrap64 (256 * (wrap64 (rd l0 1)))))) 1 600 true _ A10.out).mono ?_
         rintro e w' ⟨rfl, ⟨nd, rfl⟩⟩
         refine ⟨_, rfl, ?_⟩
         obtain ⟨i036, hi036, _, hsz36, _⟩ := info_parts info5
         obtain ⟨A36, hcut36, hA36, hC36⟩ := print_mid_of (P := Tryd.prog) (Value.int .u8) 0 41 5 .i64 .i64 Tryd.underlying41 hi036 hsz36 (some ad309) c0 l0 8 (ji18) (by omega) (by first | omega | exact Zo) (Zo) HC0.out
         have HR312 := Zh (C_of_reads (h1 := fun _ => rfl) (hA36 _ (Kd.reads_of_C HR0.out)))
         have HC312 := Zh hC36
         clear hA36 hC36 hi036 hsz36
         obtain ⟨i038, hi038, _, hsz38, _⟩ := info_parts info5
         obtain ⟨hcut38, hA38, hC38⟩ := print_take_of (P := Tryd.prog) (Value.int .u8) 0 41 5 .i64 Tryd.underlying41 hi038 hsz38 (some ad309) c0 l0 (ji18) (Zo) (Zo) HC0.out
         have HR316 := Zh (C_of_reads (h1 := fun _ => rfl) (hA38 _ (Kd.reads_of_C HR0.out)))
         have HC316 := Zh hC38
         clear hA38 hC38 hi038 hsz38
         refine hK.out _ _ trivial (fun hHeld => ?_)
         clear hK K
         refine norm_ (a' := ?_) ?_ ?_
         rotate_left
         ·
          show Act.put _ (some 30) _ = _
          simp only [Act.put, List.setIfInBounds_toArray, List.set_cons_zero, List.set_cons_succ, i64_w, i32_w]
          rfl
         refine SQ.pu 2 31 HT_ ?_
         refine SQ.pu 3 32 HT_ ?_
         refine SQ.pu 4 33 HT_ ?_
         refine SQ.pu 5 34 HT_ ?_
         refine SQ.pu 6 35 HT_ ?_
         refine SQ.pu 7 36 HT_ ?_
         refine SQ.pu 8 37 HT_ ?_
         refine SQ.pu 9 38 HT_ ?_
         refine SQ.pu 10 39 HT_ ?_
         refine SQ.pu 11 40 HT_ ?_
         refine SQ.pu 12 41 HT_ ?_
         refine SQ.pu 13 42 HT_ ?_
         refine SQ.pu 14 43 HT_ ?_
         refine SQ.pu 16 45 HT_ ?_
         refine SQ.pu 17 46 HT_ ?_
         refine SQ.pu 18 47 HT_ ?_
         refine SQ.pu 19 48 HT_ ?_
         refine one_ (i := 15) (N := some 44) #[true, true, true, true, true, true, true, true, true, true, true, true, true, true, true, true, true, true, true, true, false, false, false] rfl rfl (one_of HT_.out (by kernel_rfl)) (by decide) (fun K hK => ?_)
         refine goes_ Tryd.func58 (by kernel_rfl) rfl #[.slice A36 ((l0.take ((ji18) : Int).toNat).drop 8).length (c0 - 8)] (by rfl) rfl rfl (by (try simp only [List.map_toArray, List.map_cons, List.map_nil]); first | done | (rw [show ((l0.take ((ji18) : Int).toNat).drop 8).length = ((ji18).toNat - 8) from (by rw [List.length_drop, List.length_take]; have h_ : ((ji18) : Int) ≤ (l0.length : Int) := Zo; omega)] <;> rfl) | (simp only [hji18]; rfl) | rfl | (simp only [List.length_drop, List.length_take]; rfl)) ?_
         with_reducible refine (spec_Frame.calls kj1 _ _ ((l0.take ((ji18) : Int).toNat).drop 8) t313 _ ?side1 ?side2 A17.out).mono ?_
         (case side1 => repeat (first | exact (C_below HR312.out Zs) | (with_reducible refine C_alloc ?_ _) | (with_reducible refine C_drewN ?_ _) | (with_reducible refine C_drew ?_)))
         (case side2 => exact HC312.out)
         rintro e w37 ⟨v314, rfl, ho0, hb⟩
         refine ⟨_, rfl, ?_⟩
         have HO315 := Zh (R_lower ho0 (below_size Zs))
         replace HB := Zh (Zl Zs hb)
         (try clear hb)
         (try clear hb2)
         (try clear hk)
         (try clear hi)
         (try clear ho0)
         obtain ⟨Ao39, co39, eo39⟩ := R_slice HO315.out
         (first | subst eo39 | (injection eo39 with f1_ f2_ f3_; have f4_ := f1_.symm; have f5_ := f3_.symm; clear f1_ f2_ f3_; subst f4_; subst f5_))
         refine hK.out _ _ trivial (fun hHeld => ?_)
         clear hK K
         refine norm_ (a' := ?_) ?_ ?_
         rotate_left
         ·
          show Act.put _ (some 44) _ = _
          simp only [Act.put, List.setIfInBounds_toArray, List.set_cons_zero, List.set_cons_succ, i64_w, i32_w]
          rfl
         refine one_ (i := 20) (N := some 49) #[true, true, true, true, true, true, true, true, true, true, true, true, true, true, true, true, true, true, true, true, true, false, false] rfl rfl (one_of HT_.out (by kernel_rfl)) (by decide) (fun K hK => ?_)
         refine goes_ Tryd.func86 (by kernel_rfl) rfl #[.slice Ao39 t313.length co39, .slice (some ad309) (l0.take ((ji18) : Int).toNat).length c0] (by rfl) rfl rfl (by (try simp only [List.map_toArray, List.map_cons, List.map_nil]); first | done | (rw [show (l0.take ((ji18) : Int).toNat).length = (ji18).toNat from (by rw [List.length_take]; have h_ : ((ji18) : Int) ≤ (l0.length : Int) := Zo; omega)] <;> rfl) | (simp only [hji18]; rfl) | rfl | (simp only [List.length_drop, List.length_take]; rfl)) ?_
         with_reducible refine (spec_l01Same.calls kj1 _ _ t313 _ _ (l0.take ((ji18) : Int).toNat) false _ ?side1 ?side2 ?side3 ?side4 A21.out).mono ?_
         (case side1 => repeat (first | exact (R_reads' HO315.out).2.2 | (with_reducible refine C_alloc ?_ _) | (with_reducible refine C_drewN ?_ _) | (with_reducible refine C_drew ?_)))
         (case side2 => exact (R_reads' HO315.out).2.1)
         (case side3 => repeat (first | exact (C_below HR316.out HB.out) | (with_reducible refine C_alloc ?_ _) | (with_reducible refine C_drewN ?_ _) | (with_reducible refine C_drew ?_)))
         (case side4 => exact HC316.out)
         rintro e w' ⟨rfl, ⟨nd, rfl⟩⟩
         refine ⟨_, rfl, ?_⟩
         refine hK.out _ _ trivial (fun hHeld => ?_)
         clear hK K
         refine norm_ (a' := ?_) ?_ ?_
         rotate_left
         ·
          show Act.put _ (some 49) _ = _
          simp only [Act.put, List.setIfInBounds_toArray, List.set_cons_zero, List.set_cons_succ, i64_w, i32_w]
          rfl
         refine SQ.pu 21 50 HT_ ?_
         refine SQ.pu 22 51 HT_ ?_
         refine done_ (done_of HT_.out (by kernel_rfl)) ?_
         try go_wp2
         go_ret
         exact ⟨_, by first | rfl | (simp [errW_none, errW_some] <;> rfl) | (simp only [← hji18]; first | rfl | (simp [errW_none, errW_some] <;> rfl)) | (simp [*, errW_none, errW_some] <;> rfl), by first | exact R_nil _ _ _ _ _ | exact N_nil _ _ _ _ _ | exact V_nil _ _ _ _ _ | exact Q_nil _ _ _ _ _ | exact S_nil _ _ _ _ _, Zs⟩
        rw [if_neg c19] at H
        exact absurd H (by simp)
       rw [if_neg c16] at H
       exact absurd H (by simp)
      rw [if_neg c15] at H
      exact absurd H (by simp)
     replace c11 := Bool.eq_false_iff.mpr c11
     subst c11
     have H1 : (some ([] : List Int)) = some r := by rw [if_neg (show ¬ (false = true) by decide)] at H; exact H
     clear H
     have H := H1
     clear H1
     obtain rfl := Option.some.inj H
     try go_wp2
     replace HB := Zh (Ze HB.out)
     have p309 : 0 ≤ (0 : Int) := (by omega)
     have q309 : 0 < (l0.length : Int) := Zo
     obtain ⟨ad309, e309, hx309_0⟩ := Kd.at_int HR0.out 0 p309 q309
     have hw309_0 := hx309_0
     (try rw [show ((0 : Int)).toNat = 0 from rfl] at hw309_0)
     (try rw [show 0 * 1 = 0 from rfl] at hw309_0)
     (try rw [Addr.add_zero'] at hw309_0)
     cases e309
     have qi309 : (0 < l0.length) = True := eq_true (by omega)
     (try rw [show ((0 : Int)).toNat = 0 from rfl] at hx309_0)
     (try rw [Addr.add_zero'] at hx309_0)
     replace hx309_0 := Zc HB.out hx309_0
     replace p309 := eq_true p309
     replace q309 := eq_true q309
     have p310 : 0 ≤ (1 : Int) := (by omega)
     have q310 : 1 < (l0.length : Int) := Zo
     obtain ⟨ad310, e310, hx310_0⟩ := Kd.at_int HR0.out 1 p310 q310
     have hw310_0 := hx310_0
     (try rw [show ((1 : Int)).toNat = 1 from rfl] at hw310_0)
     (try rw [show 1 * 1 = 1 from rfl] at hw310_0)
     (try simp only [Nat.reduceMul, Nat.reduceEqDiff, Go.Addr.add, ↓reduceIte] at hw310_0)
     obtain rfl : ad309 = ad310 := (by injection e310)
     (try simp only [show (1 : Int).toNat = 1 from rfl, Nat.reduceMul, Nat.reduceEqDiff, Go.Addr.add, ↓reduceIte] at hx310_0)
     have qi310 : (1 < l0.length) = True := eq_true (by omega)
     (try rw [show ((1 : Int)).toNat = 1 from rfl] at hx310_0)
     replace hx310_0 := Zc HB.out hx310_0
     replace p310 := eq_true p310
     replace q310 := eq_true q310
     refine start_ (n := 11) (S := fun w' => w'.cell? ad309 = some (.int .u8 (rd l0 0)) ∧ w'.cell? ⟨ad309.block, ad309.off + 1, none⟩ = some (.int .u8 (rd l0 1))) (ds := []) #[false, false, false, false, false, false, false, false, false, false, false] (by kernel_rfl) rfl rfl ⟨((HB.out.cell (Zi w _ hw309_0)).trans hw309_0), ((HB.out.cell (Zi w _ hw310_0)).trans hw310_0)⟩ (fun hHeld => ?_); refine with_tabW spec_l02One.tab3 spec_l02One.bits3 (fun HT_ HW_ => ?_)
     generalize wc.drew = w40 at HB hx309_0 hx310_0 hHeld ⊢
     refine SQ.pu 0 19 HT_ ?_
     refine SQ.pu 1 20 HT_ ?_
     refine SQ.pu 4 23 HT_ ?_
     refine SQ.pu 5 24 HT_ ?_
     refine SQ.tk 2 21 HT_ HW_ hHeld ?_
     refine SQ.pu 3 22 HT_ ?_
     refine SQ.tk 6 25 HT_ HW_ hHeld ?_
     refine SQ.pu 7 26 HT_ ?_
     refine SQ.pu 8 27 HT_ ?_
     refine SQ.pu 9 28 HT_ ?_
     refine SQ.pu 10 3 HT_ ?_
     refine done_ (done_of HT_.out (by kernel_rfl)) ?_
     try go_wp2
     replace HB := Zh (Ze HB.out)
     refine start_ (n := 23) (S := fun w' => True) (ds := []) #[false, false, false, false, false, false, false, false, false, false, false, false, false, false, false, false, false, false, false, false, false, false, false] (by kernel_rfl) rfl rfl trivial (fun hHeld => ?_); refine with_tabW spec_l02One.tab4 spec_l02One.bits4 (fun HT_ HW_ => ?_)
     generalize w40.drew = w41 at HB hHeld ⊢
     refine SQ.pu 0 29 HT_ ?_
     refine one_ (i := 1) (N := some 30) #[true, true, false, false, false, false, false, false, false, false, false, false, false, false, false, false, false, false, false, false, false, false, false] rfl rfl (one_of HT_.out (by kernel_rfl)) (by decide) (fun K hK => ?_)
     refine goes_ Tryd.func62 (by kernel_rfl) rfl #[.int .i64 (wrap64 ((wrap64 (rd l0 0)) + (wrap64 (256 * (wrap64 (rd l0 1)))))), .int .i64 1, .int .i64 600] (by rfl) rfl rfl (by (try simp only [List.map_toArray, List.map_cons, List.map_nil]); first | done | rfl | (simp only [List.length_drop, List.length_take]; rfl)) ?_
     with_reducible refine (spec_l01In.calls (wrap64 ((wrap64 (rd l0 0)) + (wrap64 (256 * (wrap64 (rd l0 1)))))) 1 600 false _ A10.out).mono ?_
     rintro e w' ⟨rfl, ⟨nd, rfl⟩⟩
     refine ⟨_, rfl, ?_⟩
     refine hK.out _ _ trivial (fun hHeld => ?_)
     clear hK K
     refine norm_ (a' := ?_) ?_ ?_
     rotate_left
     ·
      show Act.put _ (some 30) _ = _
      simp only [Act.put, List.setIfInBounds_toArray, List.set_cons_zero, List.set_cons_succ, i64_w, i32_w]
      rfl
     refine SQ.pu 2 31 HT_ ?_
     refine SQ.pu 3 32 HT_ ?_
     refine SQ.of 4 33 HT_ ?_
     refine SQ.of 5 34 HT_ ?_
     refine SQ.of 6 35 HT_ ?_
     refine SQ.of 7 36 HT_ ?_
     refine SQ.of 8 37 HT_ ?_
     refine SQ.pu 9 38 HT_ ?_
     refine SQ.pu 10 39 HT_ ?_
     refine SQ.of 11 40 HT_ ?_
     refine SQ.of 12 41 HT_ ?_
     refine SQ.of 13 42 HT_ ?_
     refine SQ.of 14 43 HT_ ?_
     refine SQ.of 15 44 HT_ ?_
     refine SQ.of 16 45 HT_ ?_
     refine SQ.of 17 46 HT_ ?_
     refine SQ.of 18 47 HT_ ?_
     refine SQ.of 19 48 HT_ ?_
     refine SQ.of 20 49 HT_ ?_
     refine SQ.of 21 50 HT_ ?_
     refine SQ.pu 22 51 HT_ ?_
     refine done_ (done_of HT_.out (by kernel_rfl)) ?_
     try go_wp2
     go_ret
     exact ⟨_, ZE, by first | exact R_nil _ _ _ _ _ | exact N_nil _ _ _ _ _ | exact V_nil _ _ _ _ _ | exact Q_nil _ _ _ _ _ | exact S_nil _ _ _ _ _, Zs⟩
    rw [if_neg c9] at H
    exact absurd H (by simp)
   rw [if_neg c8] at H
   exact absurd H (by simp)
end Go.Proofs.YtcgojdhbphocgaaDoor.F

namespace Go.Proofs.YtcgojdhbphocgaaDoor.F
open Go.RowKit Go.Proofs.YtcgojdhbphocgaaDoorW.PrintWords Go.Proofs.YtcgojdhbphocgaaDoorW.PrintWords.Kd Go.Proofs.YtcgojdhbphocgaaDoorW.PrintMore.Kd Go.Proofs.YtcgojdhbphocgaaDoorW.PrintLast Go.Proofs.YtcgojdhbphocgaaDoorW.PrintMore
attribute [local go_sem] max2_int min2_int max_two min_two max_three min_three max_four min_four   -- for this text's walks alone
set_option linter.unusedVariables false
set_option linter.unusedSimpArgs false
def spec_ScanFrames.l0 : Nat → List Int → List (List Int) → Int → Option ((List (List Int)) × Int)
 | 0, _, _, _ => none
 | k + 1, x0, x4, x5 => if 0 ≤ x5 then (if x5 ≤ (x0.length : Int) then ((spec_l02One.f k (x0.drop (x5 : Int).toNat)).bind fun t326 => (if (t326.length : Int) = 0 then (some (x4, x5)) else (if x4.length < 5864062014805 then (spec_ScanFrames.l0 k x0 (x4 ++ [t326]) (wrap64 ((wrap64 (x5 + 8)) + (t326.length : Int)))) else (none)))) else (none)) else (none)
def spec_ScanFrames.f (k : Nat) (l0 : List Int) : Option ((List (List Int)) × Int) := if (l0.length : Int) > 20000 then (some (([] : List (List Int)), 0)) else (spec_ScanFrames.l0 k l0 (([] : List (List Int))) 0)
set_option maxHeartbeats 8000000 in
set_option maxRecDepth 100000 in
theorem spec_ScanFrames.calls (k : Nat) (A0 : Option Addr) (c0 : Nat) (l0 : List Int) (r1 : List (List Int)) (r2 : Int) (w : World) (hr0 : Kd.C (Kd.int .u8) w A0 l0.length l0) (hc0 : l0.length ≤ c0) (h : spec_ScanFrames.f k l0 = some (r1, r2)) :
  Calls Tryd.prog 51 #[.slice A0 l0.length c0] w fun e w' => ∃ v0_ : Value, e = .returned (.tuple #[v0_, .int .i64 r2]) ∧ Kd.S (Kd.slice 5 (Kd.int .u8)) 41 w' w.heap.size (fun _ => True) v0_ r1 ∧ Below w.heap.size w w' := by
 have HR0 := Zh hr0
 have HC0 := Zh hc0
 clear hr0 hc0
 have HB := Zh (Below.refl w.heap.size w)
 have H : (if (l0.length : Int) > 20000 then (some (([] : List (List Int)), 0)) else (spec_ScanFrames.l0 k l0 (([] : List (List Int))) 0)) = some (r1, r2) := h
 clear h
 by_cases c2 : (l0.length : Int) > 20000
 ·
  rw [if_pos c2] at H
  have c2b0 : decide (20000 < (l0.length : Int)) = true := decide_eq_true c2
  have c2b1 : decide (20000 < l0.length) = true := decide_eq_true (by omega)
  clear c2
  simp only [Option.some.injEq, Prod.mk.injEq] at H
  obtain ⟨rfl, rfl⟩ := H
  go_enter Tryd.func51, Tryd.ntmps51
  go_wp2
  go_ret2
  exact ⟨_, ZE, by first | exact S_nil _ _ _ _ _ | exact N_nil _ _ _ _ _ | exact V_nil _ _ _ _ _ | exact Q_nil _ _ _ _ _ | exact R_nil _ _ _ _ _, Zs⟩
 rw [if_neg c2] at H
 have c2b0 : decide (20000 < (l0.length : Int)) = false := decide_eq_false c2
 have c2b1 : decide (20000 < l0.length) = false := decide_eq_false (by omega)
 clear c2
 obtain ⟨y322, hy322⟩ : ∃ y_ : List (List Int), y_ = (([] : List (List Int))) := ⟨_, rfl⟩
 replace H : (spec_ScanFrames.l0 k l0 y322 0) = some (r1, r2) := by first | (rw [hy322]; with_reducible exact H) | (have H2_ := (Option.bind_some _ _).symm.trans H; rw [hy322]; with_reducible exact H2_) | (have H2_ := (Option.bind_some _ _).symm.trans H; with_reducible exact H2_) | with_reducible exact H | (rw [hy322]; exact H) | exact H
 have Ny322 := Zh hy322
 clear hy322
 have H' := Zh H
 clear H
 go_enter Tryd.func51, Tryd.ntmps51
 go_wp2_with (first | ((with_reducible refine gate_dst (N := 10) rfl ?_); refine S_lit (Kd.slice 5 (Kd.int .u8)) _ 41 ?hg (N := 10) ?hd (xs := ([] : List (List Int))) (inner := []) (ok := fun _ => True) (okp := fun _ => True) ?hr ?hp (fun _ hk => hk) trivial (Below.refl _ _) (Nat.le_refl _) (by simp) ?_; (case hd => rfl); (case hg => rfl); (case hr => first | (go_simp; done) | (go_simp; rfl)); (case hp => exact (Reps.none _ _)); intro v323 w3 ho4 hb hg_ hnew_; clear hg_ hnew_; (first | rw [← Ny322.out] at ho4 | (simp only [Int.reduceToNat] at ho4; rw [← Ny322.out] at ho4)); have HO324 := Zh (S_lower ho4 (below_size Zs)); replace HB := Zh (Zl Zs hb); clear hb ho4))
 go_loopg [4, 5] k (fun kq v4 v5 w' => ∃ (x4_1 : List (List Int)) (x5_1 : Int), v5 = .int .i64 x5_1 ∧ Aside0 (spec_ScanFrames.l0 kq l0 x4_1 x5_1 = some (r1, r2)) ∧ Aside0 (kq ≤ k) ∧ Aside0 (Kd.S (Kd.slice 5 (Kd.int .u8)) 41 w' w.heap.size (fun _ => True) v4 x4_1) ∧ Aside0 (Below w.heap.size w w'))
 case atStart => exact ⟨(y322), (0), (by first | rfl | (simp; done) | (simp [*]; done)), H', ⟨Nat.le_refl _⟩, ⟨ZS HO324.out⟩, ⟨Zs⟩⟩
 case round =>
  clear H'
  try clear c2
  try clear c2b0
  try clear c2b1
  try clear p2
  obtain ⟨x4_1, x5_1, rfl, HA, HK1, HO_4, HB⟩ := hrel
  cases gk with
  | zero => exact absurd HA.out (by simp [spec_ScanFrames.l0])
  | succ k1 =>
   have H := HA.out
   clear HA
   simp only [spec_ScanFrames.l0] at H
   by_cases c5 : 0 ≤ x5_1
   ·
    rw [if_pos c5] at H
    have c5b0 := eq_true c5
    have c5b1 : decide (0 ≤ x5_1) = true := decide_eq_true c5
    clear c5
    by_cases c6 : x5_1 ≤ (l0.length : Int)
    ·
     rw [if_pos c6] at H
     have c6b0 := eq_true c6
     have c6b1 : decide (x5_1 ≤ (l0.length : Int)) = true := decide_eq_true c6
     clear c6
     replace H := Option.bind_eq_some_iff.mp H
     obtain ⟨t326, A70, H⟩ := H
     replace H : (if (t326.length : Int) = 0 then (some (x4_1, x5_1)) else (if x4_1.length < 5864062014805 then (spec_ScanFrames.l0 k1 l0 (x4_1 ++ [t326]) (wrap64 ((wrap64 (x5_1 + 8)) + (t326.length : Int)))) else (none))) = some (r1, r2) := H
     have A7 := Zh A70
     clear A70
     by_cases c8 : (t326.length : Int) = 0
     ·
      rw [if_pos c8] at H
      have c8b0 : ((t326.length : Int) == 0) = true := beq_iff_eq.mpr c8
      have c8b1 : ((t326.length : Int) != 0) = false := bne_eq_false_iff_eq.mpr c8
      clear c8
      simp only [Option.some.injEq, Prod.mk.injEq] at H
      obtain ⟨rfl, rfl⟩ := H
      obtain ⟨i09, hi09, _, hsz9, _⟩ := info_parts info5
      obtain ⟨A9, hcut9, hA9, hC9⟩ := print_drop_of (P := Tryd.prog) (Value.int .u8) 0 41 5 .i64 Tryd.underlying41 hi09 hsz9 A0 c0 l0 x5_1 (Zo) (Zo) HC0.out
      have HR325 := Zh (C_of_reads (h1 := fun _ => rfl) (hA9 _ (Kd.reads_of_C HR0.out)))
      have HC325 := Zh hC9
      clear hA9 hC9 hi09 hsz9
      go_wp2_with (first | ((with_reducible refine gate_callee (f := 52) rfl ?_); refine goesL_ (some 14) rfl rfl Tryd.func52 (by kernel_rfl) rfl #[.slice A9 (l0.drop (x5_1 : Int).toNat).length (c0 - x5_1.toNat)] rfl (by (try simp only [List.map_toArray, List.map_cons, List.map_nil]); first | done | (rw [show (l0.drop (x5_1 : Int).toNat).length = (l0.length - x5_1.toNat) from List.length_drop] <;> rfl) | rfl | (simp only [List.length_drop, List.length_take]; rfl)) ?_; (with_reducible refine (spec_l02One.calls k1 _ _ (l0.drop (x5_1 : Int).toNat) t326 _ ?side1 ?side2 A7.out).mono ?_); (case side1 => repeat (first | exact (C_below HR325.out HB.out) | (with_reducible refine C_alloc ?_ _) | (with_reducible refine C_drewN ?_ _) | (with_reducible refine C_drew ?_))); (case side2 => exact HC325.out); rintro e w10 ⟨v327, rfl, ho0, hb⟩; refine ⟨_, rfl, ?_⟩; replace HO_4 := Zh (S_elder' (ZS HO_4.out) (R_base ho0) hb); have HO328 := Zh (R_lower ho0 (below_size Zs)); replace HB := Zh (Zl Zs hb); (try clear hb); (try clear hb2); (try clear hk); (try clear hi); (try clear ho0); obtain ⟨Ao11, co11, eo11⟩ := R_slice HO328.out; subst eo11))
      go_ret2
      exact ⟨_, ZE, ZS (S_mono HO_4.out (fun _ hk => trivial)), Zs⟩
     rw [if_neg c8] at H
     have c8b0 : ((t326.length : Int) == 0) = false := beq_eq_false_iff_ne.mpr c8
     have c8b1 : ((t326.length : Int) != 0) = true := bne_iff_ne.mpr c8
     have c8b2 : ¬ (t326 = []) := fun h_ => c8 (by rw [h_]; rfl)
     by_cases c12 : x4_1.length < 5864062014805
     ·
      rw [if_pos c12] at H
      have LMc12 := Zh c12
      clear c12
      obtain ⟨y329, hy329⟩ : ∃ y_ : List (List Int), y_ = (x4_1 ++ [t326]) := ⟨_, rfl⟩
      replace H : (spec_ScanFrames.l0 k1 l0 y329 (wrap64 ((wrap64 (x5_1 + 8)) + (t326.length : Int)))) = some (r1, r2) := by first | (rw [hy329]; with_reducible exact H) | (have H2_ := (Option.bind_some _ _).symm.trans H; rw [hy329]; with_reducible exact H2_) | (have H2_ := (Option.bind_some _ _).symm.trans H; with_reducible exact H2_) | with_reducible exact H | (rw [hy329]; exact H) | exact H
      have Ny329 := Zh hy329
      clear hy329
      have H' := Zh H
      clear H
      obtain ⟨i013, hi013, _, hsz13, _⟩ := info_parts info5
      obtain ⟨A13, hcut13, hA13, hC13⟩ := print_drop_of (P := Tryd.prog) (Value.int .u8) 0 41 5 .i64 Tryd.underlying41 hi013 hsz13 A0 c0 l0 x5_1 (Zo) (Zo) HC0.out
      have HR325 := Zh (C_of_reads (h1 := fun _ => rfl) (hA13 _ (Kd.reads_of_C HR0.out)))
      have HC325 := Zh hC13
      clear hA13 hC13 hi013 hsz13
      go_wp2_with (first | ((with_reducible refine gate_callee (f := 52) rfl ?_); refine goesL_ (some 14) rfl rfl Tryd.func52 (by kernel_rfl) rfl #[.slice A13 (l0.drop (x5_1 : Int).toNat).length (c0 - x5_1.toNat)] rfl (by (try simp only [List.map_toArray, List.map_cons, List.map_nil]); first | done | (rw [show (l0.drop (x5_1 : Int).toNat).length = (l0.length - x5_1.toNat) from List.length_drop] <;> rfl) | rfl | (simp only [List.length_drop, List.length_take]; rfl)) ?_; (with_reducible refine (spec_l02One.calls k1 _ _ (l0.drop (x5_1 : Int).toNat) t326 _ ?side1 ?side2 A7.out).mono ?_); (case side1 => repeat (first | exact (C_below HR325.out HB.out) | (with_reducible refine C_alloc ?_ _) | (with_reducible refine C_drewN ?_ _) | (with_reducible refine C_drew ?_))); (case side2 => exact HC325.out); rintro e w14 ⟨v327, rfl, ho0, hb⟩; refine ⟨_, rfl, ?_⟩; replace HO_4 := Zh (S_elder' (ZS HO_4.out) (R_base ho0) hb); have HO328 := Zh (R_lower ho0 (below_size Zs)); replace HB := Zh (Zl Zs hb); (try clear hb); (try clear hb2); (try clear hk); (try clear hi); (try clear ho0); obtain ⟨Ao15, co15, eo15⟩ := R_slice HO328.out; subst eo15) | ((with_reducible refine gate_builtin (b := .append) (xs := #[.tmp 20, .tmp 22]) rfl ?_); at_builtin; refine S_append (Kd.slice 5 (Kd.int .u8)) (w0 := w) w.heap.size rfl (.tmp 20) (.tmp 22) 36 41 (.slice none 0 0) 24 rfl Tryd.underlying36 info41 rfl (by decide) (by omega) u4 x4_1 t326 [.slice Ao15 t326.length co15] (fun _ => True) (fun k_ => some k_ = (.slice Ao15 t326.length co15 : Value).ownBlock) rfl rfl ?aP (fun k_ hk_ => ((R_mono (ok' := fun k_ => ((fun _ => True)) k_ ∧ some k_ ≠ (u4 : Value).ownBlock) (R_apart' (HO328.out) (S_typed HO_4.out) (by decide)) (fun k_ hk => ⟨trivial, hk.2⟩))).1 k_ hk_.symm) ?aF ?aO ?aB ?aS ?aL ?_; (case aP => exact M_row (R_mono (R_tight rfl (R_mono (ok' := fun k_ => ((fun _ => True)) k_ ∧ some k_ ≠ (u4 : Value).ownBlock) (R_apart' (HO328.out) (S_typed HO_4.out) (by decide)) (fun k_ hk => ⟨trivial, hk.2⟩))) (fun _ h_ => h_))); (case aB => exact Zs); (case aF => exact (fun _ _ => trivial)); (case aO => exact (ZS (S_mono HO_4.out (fun k_ hk => ⟨trivial, fun e_ => hk.2 e_⟩)))); (case aS => exact (below_size Zs)); (case aL => have := LMc12.out; omega); intro v330 w16 ho hb hg hat; rw [← Ny329.out] at ho; have n0_ := Zh (hb); have n1_ := Zh (ho); clear HB; clear HO_4; clear HO328; have HB := n0_; have HO331 := n1_; clear n0_ n1_; clear ho hb hg hat))
      go_roundg k1
      case measure => have := HK1.out; omega
      case rel => exact ⟨(y329), (wrap64 ((wrap64 (x5_1 + 8)) + (t326.length : Int))), (by first | rfl | (simp; done) | (simp [*]; done)), H', ⟨by have := HK1.out; omega⟩, ⟨ZS HO331.out⟩, ⟨Zs⟩⟩
     rw [if_neg c12] at H
     exact absurd H (by simp)
    rw [if_neg c6] at H
    exact absurd H (by simp)
   rw [if_neg c5] at H
   exact absurd H (by simp)
def spec_WalRead.l0 : Nat → List Int → List (List Int) → Int → Option ((List (List Int)) × Int)
 | 0, _, _, _ => none
 | k + 1, x4, x6, x8 => if x8 < (x4.length : Int) then (if 0 ≤ x8 then (if x8 ≤ (x4.length : Int) then ((spec_l02One.f k (x4.drop (x8 : Int).toNat)).bind fun t345 => (if (t345.length : Int) > 0 then (some (x6, 2)) else (spec_WalRead.l0 k x4 x6 (wrap64 (x8 + 1))))) else (none)) else (none)) else (some (x6, 1))
def spec_WalRead.f (k : Nat) (l0_0 : List (S55)) : Option ((List (List Int)) × Int) := (spec_Content.f k l0_0 (⟨#[108, 111, 103]⟩ : ByteArray)).bind fun bt333 => (if bt333.2 = true then ((spec_ScanFrames.f k bt333.1).bind fun bt337 => (if bt337.2 = (bt333.1.length : Int) then (some (bt337.1, 0)) else (spec_WalRead.l0 k bt333.1 bt337.1 (wrap64 (bt337.2 + 1))))) else (some (([] : List (List Int)), 3)))
set_option maxHeartbeats 8000000 in
set_option maxRecDepth 100000 in
theorem spec_WalRead.calls (k : Nat) (A0_0 : Option Addr) (c0_0 : Nat) (l0_0 : List (S55)) (r1 : List (List Int)) (r2 : Int) (w : World) (hr0_0 : Kd.C k55 w A0_0 l0_0.length l0_0) (hc0_0 : l0_0.length ≤ c0_0) (h : spec_WalRead.f k l0_0 = some (r1, r2)) :
  Calls Tryd.prog 20 #[.agg #[.slice A0_0 l0_0.length c0_0]] w fun e w' => ∃ v0_ : Value, e = .returned (.tuple #[v0_, .int .i64 r2]) ∧ Kd.S (Kd.slice 5 (Kd.int .u8)) 41 w' w.heap.size (fun _ => True) v0_ r1 ∧ Below w.heap.size w w' := by
 have hu28 := Tryd.underlying28
 have HR0_0 := Zh hr0_0
 have HC0_0 := Zh hc0_0
 clear hr0_0 hc0_0
 have HB := Zh (Below.refl w.heap.size w)
 have H : ((spec_Content.f k l0_0 (⟨#[108, 111, 103]⟩ : ByteArray)).bind fun bt333 => (if bt333.2 = true then ((spec_ScanFrames.f k bt333.1).bind fun bt337 => (if bt337.2 = (bt333.1.length : Int) then (some (bt337.1, 0)) else (spec_WalRead.l0 k bt333.1 bt337.1 (wrap64 (bt337.2 + 1))))) else (some (([] : List (List Int)), 3)))) = some (r1, r2) := h
 clear h
 replace H := Option.bind_eq_some_iff.mp H
 obtain ⟨⟨t333, t336⟩, A20, H⟩ := H
 replace H : (if t336 = true then ((spec_ScanFrames.f k t333).bind fun bt337 => (if bt337.2 = (t333.length : Int) then (some (bt337.1, 0)) else (spec_WalRead.l0 k t333 bt337.1 (wrap64 (bt337.2 + 1))))) else (some (([] : List (List Int)), 3))) = some (r1, r2) := H
 have A2 := Zh A20
 clear A20
 by_cases c3 : t336 = true
 ·
  subst c3
  have H1 : ((spec_ScanFrames.f k t333).bind fun bt337 => (if bt337.2 = (t333.length : Int) then (some (bt337.1, 0)) else (spec_WalRead.l0 k t333 bt337.1 (wrap64 (bt337.2 + 1))))) = some (r1, r2) := by rw [if_pos rfl] at H; exact H
  clear H
  have H := H1
  clear H1
  replace H := Option.bind_eq_some_iff.mp H
  obtain ⟨⟨t337, t338⟩, A40, H⟩ := H
  replace H : (if t338 = (t333.length : Int) then (some (t337, 0)) else (spec_WalRead.l0 k t333 t337 (wrap64 (t338 + 1)))) = some (r1, r2) := H
  have A4 := Zh A40
  clear A40
  by_cases c5 : t338 = (t333.length : Int)
  ·
   rw [if_pos c5] at H
   have c5b0 : (t338 == (t333.length : Int)) = true := beq_iff_eq.mpr c5
   have c5b1 : (t338 != (t333.length : Int)) = false := bne_eq_false_iff_eq.mpr c5
   clear c5
   simp only [Option.some.injEq, Prod.mk.injEq] at H
   obtain ⟨rfl, rfl⟩ := H
   go_enter Tryd.func20, Tryd.ntmps20
   go_wp2_with (first | ((with_reducible refine gate_dst (N := 1) rfl ?_); refine box_event ?hg (N := 1) ?hd (cs := #[.slice A0_0 l0_0.length c0_0]) (t := 28) ?hr ?_; (case hd => rfl); (case hg => rfl); (case hr => first | (go_simp; done) | (go_simp; rfl)); intro gb332 hg w6 hbox hb; have BK332 := Zh (hbox); have GW332 := Zh ((by rw [hg]; exact (below_size Zs) : w.heap.size ≤ gb332)); have GE332 := Zh ((by rw [hg]; exact (below_size Zs) : w.heap.size ≤ gb332)); replace HB := Zh (Zl Zs hb); clear hb hbox hg; have hcz7_0 : w6.cell? ⟨gb332, 0, none⟩ = some (.slice A0_0 l0_0.length c0_0) := (blk_cell BK332.out 0).trans rfl; have hfz7_0 := Zn BK332.out 0) | ((with_reducible refine gate_callee (f := 50) rfl ?_); refine ZG (some 11) Tryd.func50 #[.agg #[.slice A0_0 l0_0.length c0_0], .string (⟨#[108, 111, 103]⟩ : ByteArray)] rfl ?_; (with_reducible refine (spec_Content.calls k _ _ l0_0 (⟨#[108, 111, 103]⟩ : ByteArray) t333 true _ ?side1 ?side2 A2.out).mono ?_); (case side1 => repeat (first | exact (C_below HR0_0.out HB.out) | (with_reducible refine C_alloc ?_ _) | (with_reducible refine C_drewN ?_ _) | (with_reducible refine C_drew ?_))); (case side2 => exact HC0_0.out); rintro e w8 ⟨v334, rfl, ho0, hb⟩; refine ⟨_, rfl, ?_⟩; have HO335 := Zh (R_lower ho0 (below_size Zs)); replace BK332 := Zh (Zm (g := gb332) (o := .cells #[.slice A0_0 l0_0.length c0_0] 28 (0, 0)) Zk hb); replace HB := Zh (Zl Zs hb); (try clear hb); (try clear hb2); (try clear hk); (try clear hi); (try clear ho0); obtain ⟨Ao9, co9, eo9⟩ := R_slice HO335.out; subst eo9) | ((with_reducible refine gate_callee (f := 51) rfl ?_); refine ZG (some 18) Tryd.func51 #[.slice Ao9 t333.length co9] rfl ?_; (with_reducible refine (spec_ScanFrames.calls k _ _ t333 t337 t338 _ ?side1 ?side2 A4.out).mono ?_); (case side1 => repeat (first | exact (R_reads' HO335.out).2.2 | (with_reducible refine C_alloc ?_ _) | (with_reducible refine C_drewN ?_ _) | (with_reducible refine C_drew ?_))); (case side2 => exact (R_reads' HO335.out).2.1); rintro e w10 ⟨v339, rfl, ho0, hb⟩; refine ⟨_, rfl, ?_⟩; have HO340 := Zh (S_lower (S_new' ho0 (R_lt (ZR HO335.out))) (below_size Zs)); replace HO335 := Zh (R_below (ZR HO335.out) hb); replace BK332 := Zh (Zm (g := gb332) (o := .cells #[.slice A0_0 l0_0.length c0_0] 28 (0, 0)) Zk hb); replace HB := Zh (Zl Zs hb); (try clear hb); (try clear hb2); (try clear hk); (try clear hi); (try clear ho0)))
   go_ret2
   exact ⟨_, ZE, ZS (S_mono HO340.out (fun _ hk => trivial)), Zs⟩
  rw [if_neg c5] at H
  have c5b0 : (t338 == (t333.length : Int)) = false := beq_eq_false_iff_ne.mpr c5
  have c5b1 : (t338 != (t333.length : Int)) = true := bne_iff_ne.mpr c5
  have H' := Zh H
  clear H
  go_enter Tryd.func20, Tryd.ntmps20
  go_wp2_with (first | ((with_reducible refine gate_dst (N := 1) rfl ?_); refine box_event ?hg (N := 1) ?hd (cs := #[.slice A0_0 l0_0.length c0_0]) (t := 28) ?hr ?_; (case hd => rfl); (case hg => rfl); (case hr => first | (go_simp; done) | (go_simp; rfl)); intro gb332 hg w11 hbox hb; have BK332 := Zh (hbox); have GW332 := Zh ((by rw [hg]; exact (below_size Zs) : w.heap.size ≤ gb332)); have GE332 := Zh ((by rw [hg]; exact (below_size Zs) : w.heap.size ≤ gb332)); replace HB := Zh (Zl Zs hb); clear hb hbox hg; have hcz12_0 : w11.cell? ⟨gb332, 0, none⟩ = some (.slice A0_0 l0_0.length c0_0) := (blk_cell BK332.out 0).trans rfl; have hfz12_0 := Zn BK332.out 0) | ((with_reducible refine gate_callee (f := 50) rfl ?_); refine ZG (some 11) Tryd.func50 #[.agg #[.slice A0_0 l0_0.length c0_0], .string (⟨#[108, 111, 103]⟩ : ByteArray)] rfl ?_; (with_reducible refine (spec_Content.calls k _ _ l0_0 (⟨#[108, 111, 103]⟩ : ByteArray) t333 true _ ?side1 ?side2 A2.out).mono ?_); (case side1 => repeat (first | exact (C_below HR0_0.out HB.out) | (with_reducible refine C_alloc ?_ _) | (with_reducible refine C_drewN ?_ _) | (with_reducible refine C_drew ?_))); (case side2 => exact HC0_0.out); rintro e w13 ⟨v334, rfl, ho0, hb⟩; refine ⟨_, rfl, ?_⟩; have HO335 := Zh (R_lower ho0 (below_size Zs)); replace BK332 := Zh (Zm (g := gb332) (o := .cells #[.slice A0_0 l0_0.length c0_0] 28 (0, 0)) Zk hb); replace HB := Zh (Zl Zs hb); (try clear hb); (try clear hb2); (try clear hk); (try clear hi); (try clear ho0); obtain ⟨Ao14, co14, eo14⟩ := R_slice HO335.out; subst eo14) | ((with_reducible refine gate_callee (f := 51) rfl ?_); refine ZG (some 18) Tryd.func51 #[.slice Ao14 t333.length co14] rfl ?_; (with_reducible refine (spec_ScanFrames.calls k _ _ t333 t337 t338 _ ?side1 ?side2 A4.out).mono ?_); (case side1 => repeat (first | exact (R_reads' HO335.out).2.2 | (with_reducible refine C_alloc ?_ _) | (with_reducible refine C_drewN ?_ _) | (with_reducible refine C_drew ?_))); (case side2 => exact (R_reads' HO335.out).2.1); rintro e w15 ⟨v339, rfl, ho0, hb⟩; refine ⟨_, rfl, ?_⟩; have HO340 := Zh (S_lower (S_new' ho0 (R_lt (ZR HO335.out))) (below_size Zs)); replace HO335 := Zh (R_below (ZR HO335.out) hb); replace BK332 := Zh (Zm (g := gb332) (o := .cells #[.slice A0_0 l0_0.length c0_0] 28 (0, 0)) Zk hb); replace HB := Zh (Zl Zs hb); (try clear hb); (try clear hb2); (try clear hk); (try clear hi); (try clear ho0)))
  go_loopg [8] k (fun kq v8 w' => ∃ (x8_1 : Int), v8 = .int .i64 x8_1 ∧ Aside0 (spec_WalRead.l0 kq t333 t337 x8_1 = some (r1, r2)) ∧ Aside0 (kq ≤ k) ∧ Aside0 (Kd.R (Kd.int .u8) 5 w' w.heap.size (fun _ => True) (.slice Ao14 t333.length co14) t333) ∧ Aside0 (Kd.S (Kd.slice 5 (Kd.int .u8)) 41 w' w.heap.size (fun k_ => some k_ ≠ ((.slice Ao14 t333.length co14) : Value).ownBlock) v339 t337) ∧ Aside0 (w'.heap[gb332]? = some (.cells #[(.slice A0_0 l0_0.length c0_0)] 28 (0, 0))) ∧ Aside0 (Below w.heap.size w w'))
  case atStart => exact ⟨(wrap64 (t338 + 1)), (by first | rfl | (simp; done) | (simp [*]; done)), H', ⟨Nat.le_refl _⟩, ⟨ZR HO335.out⟩, ⟨ZS (S_mono HO340.out (fun _ hk => hk.2))⟩, ⟨Zk⟩, ⟨Zs⟩⟩
  case round =>
   clear H'
   try clear c2
   try clear p2
   try clear c3
   try clear c5
   try clear c5b0
   try clear c5b1
   try clear p6
   try clear hcz12_0
   try clear hcz7_0
   try clear hfz12_0
   try clear hfz7_0
   obtain ⟨x8_1, rfl, HA, HK1, HO_4, HO_6, BK332, HB⟩ := hrel
   cases gk with
   | zero => exact absurd HA.out (by simp [spec_WalRead.l0])
   | succ k1 =>
    have H := HA.out
    clear HA
    simp only [spec_WalRead.l0] at H
    by_cases c16 : x8_1 < (t333.length : Int)
    ·
     rw [if_pos c16] at H
     have c16b0 : decide (x8_1 < (t333.length : Int)) = true := decide_eq_true c16
     clear c16
     by_cases c17 : 0 ≤ x8_1
     ·
      rw [if_pos c17] at H
      have c17b0 := eq_true c17
      have c17b1 : decide (0 ≤ x8_1) = true := decide_eq_true c17
      clear c17
      by_cases c18 : x8_1 ≤ (t333.length : Int)
      ·
       rw [if_pos c18] at H
       have c18b0 := eq_true c18
       have c18b1 : decide (x8_1 ≤ (t333.length : Int)) = true := decide_eq_true c18
       clear c18
       obtain ⟨y341, hy341⟩ : ∃ y_ : List Int, y_ = (t333.drop (x8_1 : Int).toNat) := ⟨_, rfl⟩
       replace H : ((spec_l02One.f k1 y341).bind fun t345 => (if (t345.length : Int) > 0 then (some (t337, 2)) else (spec_WalRead.l0 k1 t333 t337 (wrap64 (x8_1 + 1))))) = some (r1, r2) := by first | (rw [hy341]; with_reducible exact H) | (have H2_ := (Option.bind_some _ _).symm.trans H; rw [hy341]; with_reducible exact H2_) | (have H2_ := (Option.bind_some _ _).symm.trans H; with_reducible exact H2_) | with_reducible exact H | (rw [hy341]; exact H) | exact H
       have Ny341 := Zh hy341
       clear hy341
       replace H := Option.bind_eq_some_iff.mp H
       obtain ⟨t345, A190, H⟩ := H
       replace H : (if (t345.length : Int) > 0 then (some (t337, 2)) else (spec_WalRead.l0 k1 t333 t337 (wrap64 (x8_1 + 1)))) = some (r1, r2) := H
       have A19 := Zh A190
       clear A190
       by_cases c20 : (t345.length : Int) > 0
       ·
        rw [if_pos c20] at H
        have c20b0 : decide (0 < (t345.length : Int)) = true := decide_eq_true c20
        have c20b1 : decide (0 < t345.length) = true := decide_eq_true (by omega)
        clear c20
        simp only [Option.some.injEq, Prod.mk.injEq] at H
        obtain ⟨rfl, rfl⟩ := H
        have q21 : (x8_1 : Int) ≤ ((t333.length : Int) : Int) := Zo
        obtain ⟨i021, hi021, _, hsz21, _⟩ := info_parts info5
        have hroom21 : t333.length ≤ co14 := (R_reads' HO_4.out).2.1
        have hC21 : Kd.C (Kd.int .u8) _ Ao14 t333.length t333 := (R_reads' HO_4.out).2.2
        have q021 : (0 : Int) ≤ (x8_1 : Int) := Zo
        have hcut21 := cut_from (P := Tryd.prog) 41 5 .i64 Tryd.underlying41 hi021 1 hsz21 Ao14 t333.length co14 x8_1 q021 q21
        have hr21 := C_drop (m := (x8_1 : Int).toNat) (c := co14) hC21 (by omega) hroom21
        obtain ⟨A21, hA21⟩ : ∃ A1, A1 = (if co14 = (x8_1 : Int).toNat then Ao14 else (Ao14 : Option Addr).map (·.add ((x8_1 : Int).toNat * 1))) := ⟨_, rfl⟩
        obtain ⟨c21, hc21⟩ : ∃ c1, c1 = co14 - (x8_1 : Int).toNat := ⟨_, rfl⟩
        have hy21 : y341.length = t333.length - (x8_1 : Int).toNat := (by rw [Ny341.out, List.length_drop] <;> omega)
        rw [show (t333).drop (x8_1 : Int).toNat = y341 from Ny341.out.symm] at hr21
        replace hr21 : Kd.C (Kd.int .u8) _ A21 y341.length y341 := (by rw [hA21]; exact hr21)
        rw [← hy21, ← hA21, ← hc21] at hcut21
        have HR344 := Zh hr21
        have HC344 := Zh (show y341.length ≤ c21 from by rw [hy21, hc21]; exact Nat.sub_le_sub_right hroom21 _)
        clear hr21 hC21 hroom21 hi021 hsz21 hc21
        have KY21 := Zh hy21
        have KA21 := Zh hA21
        clear hy21 hA21
        have KL21 := Zh (show (x8_1 : Int).toNat ≤ t333.length from by omega)
        replace q21 := eq_true q21
        go_wp2_with (first | ((with_reducible refine gate_callee (f := 52) rfl ?_); refine ZG (some 37) Tryd.func52 #[.slice A21 y341.length c21] rfl ?_; (with_reducible refine (spec_l02One.calls k1 _ _ y341 t345 _ ?side1 ?side2 A19.out).mono ?_); (case side1 => repeat (first | exact (by repeat (first | (with_reducible exact HR344.out) | (with_reducible refine C_alloc ?_ _) | (with_reducible refine C_drewN ?_ _) | (with_reducible refine C_drew ?_) | exact HR344.out)) | (with_reducible refine C_alloc ?_ _) | (with_reducible refine C_drewN ?_ _) | (with_reducible refine C_drew ?_))); (case side2 => exact HC344.out); rintro e w22 ⟨v346, rfl, ho0, hb⟩; refine ⟨_, rfl, ?_⟩; replace HO_6 := Zh (S_elder' (ZS HO_6.out) (R_base ho0) hb); have HO347 := Zh (R_lower (R_new' ho0 (R_lt (ZR HO_4.out))) (below_size Zs)); replace HO_4 := Zh (R_elder' (ZR HO_4.out) (R_base ho0) hb); replace BK332 := Zh (Zm (g := gb332) (o := .cells #[.slice A0_0 l0_0.length c0_0] 28 (0, 0)) Zk hb); replace HR344 := Zh (C_below (by repeat (first | (with_reducible exact HR344.out) | (with_reducible refine C_alloc ?_ _) | (with_reducible refine C_drewN ?_ _) | (with_reducible refine C_drew ?_) | exact HR344.out)) hb); replace HB := Zh (Zl Zs hb); (try clear hb); (try clear hb2); (try clear hk); (try clear hi); (try clear ho0); obtain ⟨Ao23, co23, eo23⟩ := R_slice HO347.out; subst eo23))
        go_ret2
        exact ⟨_, ZE, ZS (S_mono HO_6.out (fun _ hk => trivial)), Zs⟩
       rw [if_neg c20] at H
       have c20b0 : decide (0 < (t345.length : Int)) = false := decide_eq_false c20
       have c20b1 : decide (0 < t345.length) = false := decide_eq_false (by omega)
       clear c20
       have H' := Zh H
       clear H
       have q24 : (x8_1 : Int) ≤ ((t333.length : Int) : Int) := Zo
       obtain ⟨i024, hi024, _, hsz24, _⟩ := info_parts info5
       have hroom24 : t333.length ≤ co14 := (R_reads' HO_4.out).2.1
       have hC24 : Kd.C (Kd.int .u8) _ Ao14 t333.length t333 := (R_reads' HO_4.out).2.2
       have q024 : (0 : Int) ≤ (x8_1 : Int) := Zo
       have hcut24 := cut_from (P := Tryd.prog) 41 5 .i64 Tryd.underlying41 hi024 1 hsz24 Ao14 t333.length co14 x8_1 q024 q24
       have hr24 := C_drop (m := (x8_1 : Int).toNat) (c := co14) hC24 (by omega) hroom24
       obtain ⟨A24, hA24⟩ : ∃ A1, A1 = (if co14 = (x8_1 : Int).toNat then Ao14 else (Ao14 : Option Addr).map (·.add ((x8_1 : Int).toNat * 1))) := ⟨_, rfl⟩
       obtain ⟨c24, hc24⟩ : ∃ c1, c1 = co14 - (x8_1 : Int).toNat := ⟨_, rfl⟩
       have hy24 : y341.length = t333.length - (x8_1 : Int).toNat := (by rw [Ny341.out, List.length_drop] <;> omega)
       rw [show (t333).drop (x8_1 : Int).toNat = y341 from Ny341.out.symm] at hr24
       replace hr24 : Kd.C (Kd.int .u8) _ A24 y341.length y341 := (by rw [hA24]; exact hr24)
       rw [← hy24, ← hA24, ← hc24] at hcut24
       have HR344 := Zh hr24
       have HC344 := Zh (show y341.length ≤ c24 from by rw [hy24, hc24]; exact Nat.sub_le_sub_right hroom24 _)
       clear hr24 hC24 hroom24 hi024 hsz24 hc24
       have KY24 := Zh hy24
       have KA24 := Zh hA24
       clear hy24 hA24
       have KL24 := Zh (show (x8_1 : Int).toNat ≤ t333.length from by omega)
       replace q24 := eq_true q24
       go_wp2_with (first | ((with_reducible refine gate_callee (f := 52) rfl ?_); refine ZG (some 37) Tryd.func52 #[.slice A24 y341.length c24] rfl ?_; (with_reducible refine (spec_l02One.calls k1 _ _ y341 t345 _ ?side1 ?side2 A19.out).mono ?_); (case side1 => repeat (first | exact (by repeat (first | (with_reducible exact HR344.out) | (with_reducible refine C_alloc ?_ _) | (with_reducible refine C_drewN ?_ _) | (with_reducible refine C_drew ?_) | exact HR344.out)) | (with_reducible refine C_alloc ?_ _) | (with_reducible refine C_drewN ?_ _) | (with_reducible refine C_drew ?_))); (case side2 => exact HC344.out); rintro e w25 ⟨v346, rfl, ho0, hb⟩; refine ⟨_, rfl, ?_⟩; replace HO_6 := Zh (S_elder' (ZS HO_6.out) (R_base ho0) hb); have HO347 := Zh (R_lower (R_new' ho0 (R_lt (ZR HO_4.out))) (below_size Zs)); replace HO_4 := Zh (R_elder' (ZR HO_4.out) (R_base ho0) hb); replace BK332 := Zh (Zm (g := gb332) (o := .cells #[.slice A0_0 l0_0.length c0_0] 28 (0, 0)) Zk hb); replace HR344 := Zh (C_below (by repeat (first | (with_reducible exact HR344.out) | (with_reducible refine C_alloc ?_ _) | (with_reducible refine C_drewN ?_ _) | (with_reducible refine C_drew ?_) | exact HR344.out)) hb); replace HB := Zh (Zl Zs hb); (try clear hb); (try clear hb2); (try clear hk); (try clear hi); (try clear ho0); obtain ⟨Ao26, co26, eo26⟩ := R_slice HO347.out; subst eo26))
       go_roundg k1
       case measure => have := HK1.out; omega
       case rel => exact ⟨(wrap64 (x8_1 + 1)), (by first | rfl | (simp; done) | (simp [*]; done)), H', ⟨by have := HK1.out; omega⟩, ⟨ZR (R_mono HO_4.out (fun _ hk => trivial))⟩, ⟨ZS (S_mono HO_6.out (fun _ hk => hk.1))⟩, ⟨Zk⟩, ⟨Zs⟩⟩
      rw [if_neg c18] at H
      exact absurd H (by simp)
     rw [if_neg c17] at H
     exact absurd H (by simp)
    rw [if_neg c16] at H
    have c16b0 : decide (x8_1 < (t333.length : Int)) = false := decide_eq_false c16
    clear c16
    simp only [Option.some.injEq, Prod.mk.injEq] at H
    obtain ⟨rfl, rfl⟩ := H
    go_wp2
    go_ret2
    exact ⟨_, ZE, ZS (S_mono HO_6.out (fun _ hk => trivial)), Zs⟩
 replace c3 := Bool.eq_false_iff.mpr c3
 subst c3
 have H1 : (some (([] : List (List Int)), 3)) = some (r1, r2) := by rw [if_neg (show ¬ (false = true) by decide)] at H; exact H
 clear H
 have H := H1
 clear H1
 simp only [Option.some.injEq, Prod.mk.injEq] at H
 obtain ⟨rfl, rfl⟩ := H
 go_enter Tryd.func20, Tryd.ntmps20
 go_wp2_with (first | ((with_reducible refine gate_dst (N := 1) rfl ?_); refine box_event ?hg (N := 1) ?hd (cs := #[.slice A0_0 l0_0.length c0_0]) (t := 28) ?hr ?_; (case hd => rfl); (case hg => rfl); (case hr => first | (go_simp; done) | (go_simp; rfl)); intro gb332 hg w27 hbox hb; have BK332 := Zh (hbox); have GW332 := Zh ((by rw [hg]; exact (below_size Zs) : w.heap.size ≤ gb332)); have GE332 := Zh ((by rw [hg]; exact (below_size Zs) : w.heap.size ≤ gb332)); replace HB := Zh (Zl Zs hb); clear hb hbox hg; have hcz28_0 : w27.cell? ⟨gb332, 0, none⟩ = some (.slice A0_0 l0_0.length c0_0) := (blk_cell BK332.out 0).trans rfl; have hfz28_0 := Zn BK332.out 0) | ((with_reducible refine gate_callee (f := 50) rfl ?_); refine ZG (some 11) Tryd.func50 #[.agg #[.slice A0_0 l0_0.length c0_0], .string (⟨#[108, 111, 103]⟩ : ByteArray)] rfl ?_; (with_reducible refine (spec_Content.calls k _ _ l0_0 (⟨#[108, 111, 103]⟩ : ByteArray) t333 false _ ?side1 ?side2 A2.out).mono ?_); (case side1 => repeat (first | exact (C_below HR0_0.out HB.out) | (with_reducible refine C_alloc ?_ _) | (with_reducible refine C_drewN ?_ _) | (with_reducible refine C_drew ?_))); (case side2 => exact HC0_0.out); rintro e w29 ⟨v334, rfl, ho0, hb⟩; refine ⟨_, rfl, ?_⟩; have HO335 := Zh (R_lower ho0 (below_size Zs)); replace BK332 := Zh (Zm (g := gb332) (o := .cells #[.slice A0_0 l0_0.length c0_0] 28 (0, 0)) Zk hb); replace HB := Zh (Zl Zs hb); (try clear hb); (try clear hb2); (try clear hk); (try clear hi); (try clear ho0)))
 go_ret2
 exact ⟨_, ZE, by first | exact S_nil _ _ _ _ _ | exact N_nil _ _ _ _ _ | exact V_nil _ _ _ _ _ | exact Q_nil _ _ _ _ _ | exact R_nil _ _ _ _ _, Zs⟩
def impl_WalRead.f (k : Nat) (l0_0 : List (S55)) : Option ((List (List Int)) × Int) := (impl_walRead.f k l0_0).bind fun bt443 => (some (bt443.1, bt443.2.2))
set_option maxHeartbeats 8000000 in
set_option maxRecDepth 100000 in
theorem impl_WalRead.calls (k : Nat) (A0_0 : Option Addr) (c0_0 : Nat) (l0_0 : List (S55)) (r1 : List (List Int)) (r2 : Int) (w : World) (hr0_0 : Kd.C k55 w A0_0 l0_0.length l0_0) (hc0_0 : l0_0.length ≤ c0_0) (h : impl_WalRead.f k l0_0 = some (r1, r2)) :
  Calls Tryd.prog 21 #[.agg #[.slice A0_0 l0_0.length c0_0]] w fun e w' => ∃ v0_ : Value, e = .returned (.tuple #[v0_, .int .i64 r2]) ∧ Kd.S (Kd.slice 5 (Kd.int .u8)) 41 w' w.heap.size (fun _ => True) v0_ r1 ∧ Below w.heap.size w w' := by
 have hu28 := Tryd.underlying28
 have HR0_0 := Zh hr0_0
 have HC0_0 := Zh hc0_0
 clear hr0_0 hc0_0
 have HB := Zh (Below.refl w.heap.size w)
 have H : ((impl_walRead.f k l0_0).bind fun bt443 => (some (bt443.1, bt443.2.2))) = some (r1, r2) := h
 clear h
 replace H := Option.bind_eq_some_iff.mp H
 obtain ⟨⟨t443, t446, t447⟩, A20, H⟩ := H
 replace H : (some (t443, t447)) = some (r1, r2) := H
 have A2 := Zh A20
 clear A20
 simp only [Option.some.injEq, Prod.mk.injEq] at H
 obtain ⟨rfl, rfl⟩ := H
 go_enter Tryd.func21, Tryd.ntmps21
 go_wp2_with (first | ((with_reducible refine gate_dst (N := 1) rfl ?_); refine box_event ?hg (N := 1) ?hd (cs := #[.slice A0_0 l0_0.length c0_0]) (t := 28) ?hr ?_; (case hd => rfl); (case hg => rfl); (case hr => first | (go_simp; done) | (go_simp; rfl)); intro gb442 hg w3 hbox hb; have BK442 := Zh (hbox); have GW442 := Zh ((by rw [hg]; exact (below_size Zs) : w.heap.size ≤ gb442)); have GE442 := Zh ((by rw [hg]; exact (below_size Zs) : w.heap.size ≤ gb442)); replace HB := Zh (Zl Zs hb); clear hb hbox hg; have hcz4_0 : w3.cell? ⟨gb442, 0, none⟩ = some (.slice A0_0 l0_0.length c0_0) := (blk_cell BK442.out 0).trans rfl; have hfz4_0 := Zn BK442.out 0) | ((with_reducible refine gate_callee (f := 49) rfl ?_); refine ZG (some 9) Tryd.func49 #[.agg #[.slice A0_0 l0_0.length c0_0]] rfl ?_; (with_reducible refine (impl_walRead.calls k _ _ l0_0 t443 t446 t447 _ ?side1 ?side2 A2.out).mono ?_); (case side1 => repeat (first | exact (C_below HR0_0.out HB.out) | (with_reducible refine C_alloc ?_ _) | (with_reducible refine C_drewN ?_ _) | (with_reducible refine C_drew ?_))); (case side2 => exact HC0_0.out); rintro e w5 ⟨v444, rfl, ho0, hb⟩; refine ⟨_, rfl, ?_⟩; have HO445 := Zh (S_lower ho0 (below_size Zs)); replace BK442 := Zh (Zm (g := gb442) (o := .cells #[.slice A0_0 l0_0.length c0_0] 28 (0, 0)) Zk hb); replace HB := Zh (Zl Zs hb); (try clear hb); (try clear hb2); (try clear hk); (try clear hi); (try clear ho0)))
 go_ret2
 exact ⟨_, ZE, ZS HO445.out, Zs⟩
end Go.Proofs.YtcgojdhbphocgaaDoor.F

namespace Go.Proofs.YtcgojdhbphocgaaDoor.F
open Go.RowKit Go.Proofs.YtcgojdhbphocgaaDoorW.PrintWords Go.Proofs.YtcgojdhbphocgaaDoorW.PrintLast Go.Proofs.YtcgojdhbphocgaaDoorW.PrintMore
open Go.Proofs.YtcgojdhbphocgaaDoor
set_option linter.unusedVariables false
set_option linter.unusedSimpArgs false
theorem setFileC {A : Option Addr} {cA m : Nat} {w0 w : World} {l : List LW.It} {g n c : Nat} {xs : List S55} {F G : Nat → Prop} {ys : List Int} (h : LW.St w0 w l) (q p : Nat) (hn : q ≠ p)
    (hq : l[q]? = some (LW.row k55 55 w0.heap.size (.slice (some ⟨g, 0, none⟩) n c) xs F)) (hp : l[p]? = some (LW.row (Kd.int .u8) 5 w0.heap.size (.slice A ys.length cA) ys G)) (i : Int) (h0 : 0 ≤ i) (h1 : i < n) (a : ByteArray) (hm : m ≤ ys.length) :
    LW.St w0 (((w.setCell ⟨g, i.toNat * 3, none⟩ (.string a)).setCell ⟨g, i.toNat * 3 + 1, none⟩ (.slice A m m)).setCell ⟨g, i.toNat * 3 + 2, none⟩ (.slice none 0 0))
      ((l.set q (LW.row k55c 55 w0.heap.size (.slice (some ⟨g, 0, none⟩) n c) (xs.set i.toNat ⟨a, ys.take m, []⟩) (fun k => F k ∨ G k))).set p LW.gone) := by
  have hS := h.own q hq
  have hR := Kd.R_take (Kd.S_R (h.own p hp)) hm
  have hcA := (Kd.S_reads' (h.own p hp)).2.1
  have hd := LW.Its.disj h.i q p _ _ hn hq hp
  have hFg : F g := (Kd.S_R hS).1 g (by simp [Value.ownBlock])
  have hbg := (h.i.all _ (List.mem_of_getElem? hq)).2 g hFg
  have hS2 : Kd.S k55c 55 w w0.heap.size (fun k => (F k ∨ G k) ∧ ¬ G k) (.slice (some ⟨g, 0, none⟩) n c) xs := Kd.S_mono (S_c hS) (fun k hk => ⟨.inl hk, fun h2 => hd k hk h2⟩)
  obtain ⟨oki, cs, hcl, hM, hcc, hfr, hoki, hH⟩ := Kd.S_elem hS2 z55 i h0 h1
  obtain ⟨pp, v1, v2, u1, u2, rfl, hc1, hc2, hA1, hA2⟩ := k55c_openA hM
  have hP := (Kd.S_seg (okg := G) (seg := [.string a, .slice A m m, .slice none 0 0]) (j := 0) hH h0 h1 (show 0 + 3 ≤ 3 by decide) (x' := (⟨a, ys.take m, []⟩ : S55)) (k55c_mkM _ _ _ (⟨a, ys.take m, []⟩ : S55) (u1 := .slice A m cA) (u2 := .slice none 0 0) ⟨A, m, m, cA, rfl, rfl, Nat.le_refl _, by omega⟩ ⟨none, 0, 0, 0, rfl, rfl, Nat.le_refl _, Nat.le_refl _⟩ hR (Kd.R_nil _ _ _ _ _) AP.nil_ne) (fun k hk => .inr hk) (fun k hk => ⟨.inr hk, fun he => hd k (he ▸ hFg) hk⟩))
  refine h.merge q p hn hq hp (LW.row k55c 55 w0.heap.size (.slice (some ⟨g, 0, none⟩) n c) (xs.set i.toNat ⟨a, ys.take m, []⟩) (fun k => F k ∨ G k)) (fun k hk => hk) hP.1 (Zg (Zg (Zg h.b hbg.1) hbg.1) hbg.1) ⟨?_, fun k hk hne => ?_⟩
  · simp [World.setCell]
  have hkg : k ≠ g := fun he => hne (he ▸ hFg)
  rw [Below.heap_setCell _ _ _ k hkg, Below.heap_setCell _ _ _ k hkg, Below.heap_setCell _ _ _ k hkg]
def impl_cutFile.f (k : Nat) (l0_0 : List S55) (a1 : ByteArray) (a2 : Int) : Option (List S55 × Bool) := (impl_copyDisk.f k l0_0).bind fun o => (impl_fileOf.f l0_0 a1).bind fun i => (impl_isDisk.f k l0_0).bind fun t => if t = true then (if i < 0 then some (o, false) else (if i < (l0_0.length : Int) then (if i < (o.length : Int) then (impl_File_content.f (rd_T55 l0_0 i).f0 (rd_T55 l0_0 i).f1 (rd_T55 l0_0 i).f2).bind fun b => if a2 < 0 then some (o, false) else (if a2 > (b.length : Int) then some (o, false) else some (o.set i.toNat (⟨a1, b.take a2.toNat, []⟩ : S55), true)) else none) else none)) else some (o, false)
set_option maxHeartbeats 8000000 in
set_option maxRecDepth 100000 in
theorem impl_cutFile.calls (k : Nat) (A0_0 : Option Addr) (c0_0 : Nat) (l0_0 : List S55) (a1 : ByteArray) (a2 : Int) (r1 : List S55) (r2 : Bool) (w : World) (hr0_0 : Kd.C k55 w A0_0 l0_0.length l0_0) (hc0_0 : l0_0.length ≤ c0_0) (h : impl_cutFile.f k l0_0 a1 a2 = some (r1, r2)) :
    Calls Tryd.prog 57 #[.agg #[.slice A0_0 l0_0.length c0_0], .string a1, .int .i64 a2] w fun e w' => ∃ v0_ : Value, e = .returned (.tuple #[.agg #[v0_], .bool r2]) ∧ Kd.S k55c 55 w' w.heap.size (fun _ => True) v0_ r1 ∧ Below w.heap.size w w' := by
  have HR := Zh hr0_0
  have HC := Zh hc0_0
  clear hr0_0 hc0_0
  have ST := Zh (LW.St.start w)
  unfold impl_cutFile.f at h
  replace h := Option.bind_eq_some_iff.mp h
  obtain ⟨o, HA1, h⟩ := h
  replace h := Option.bind_eq_some_iff.mp h
  obtain ⟨i, HA2, h⟩ := h
  replace h := Option.bind_eq_some_iff.mp h
  obtain ⟨t, HA3, h⟩ := h
  replace HA1 := Zh HA1
  replace HA2 := Zh HA2
  replace HA3 := Zh HA3
  have H := Zh h
  clear h
  go_enter Tryd.func57, Tryd.ntmps57
  go_wp2_with fail
  replace ST := Zh (ST.out.alloc #[.slice A0_0 l0_0.length c0_0] 28 (g := w.heap.size) rfl)
  replace ST := Zh (ST.out.alloc #[.slice none 0 0] 28 (g := w.heap.size + 1) (by simp))
  with_reducible refine (impl_copyDisk.calls k _ _ l0_0 o _ (Kd.C_below HR.out ST.out.b) HC.out HA1.out).mono ?_
  rintro e w1 ⟨v1, rfl, ho, hb⟩
  obtain ⟨A1, c1, rfl⟩ := Kd.S_slice ho
  replace ST := Zh (ST.out.row hb ho)
  clear hb ho
  have hc1 := ST.out.cell 1 rfl 0 (u := .slice none 0 0) rfl
  have hl1 := ST.out.lt 1 rfl
  have hc2 := ST.out.cell 2 rfl 0 (u := .slice A0_0 l0_0.length c0_0) rfl
  have hl2 := ST.out.lt 2 rfl
  go_wp2_with fail
  replace ST := Zh (ST.out.alloc #[.slice A1 o.length c1] 28 (g := w1.heap.size) rfl)
  with_reducible refine (impl_fileOf.calls _ _ l0_0 a1 i _ (Kd.C_below HR.out ST.out.b) HC.out HA2.out).mono ?_
  rintro e w2 ⟨rfl, hb⟩
  replace ST := Zh (ST.out.step hb)
  clear hb
  clear hc1 hl1 hc2 hl2
  have hc1 := ST.out.cell 0 rfl 0 (u := .slice A1 o.length c1) rfl
  have hl1 := ST.out.lt 0 rfl
  have hc2 := ST.out.cell 3 rfl 0 (u := .slice A0_0 l0_0.length c0_0) rfl
  have hl2 := ST.out.lt 3 rfl
  go_wp2_with fail
  with_reducible refine (impl_isDisk.calls k _ _ l0_0 t _ (Kd.C_below HR.out ST.out.b) HC.out HA3.out).mono ?_
  rintro e w3 ⟨rfl, hb⟩
  replace ST := Zh (ST.out.step hb)
  clear hb
  clear hc1 hl1 hc2 hl2
  have hc1 := ST.out.cell 0 rfl 0 (u := .slice A1 o.length c1) rfl
  have hl1 := ST.out.lt 0 rfl
  have hc2 := ST.out.cell 2 rfl 0 (u := .slice none 0 0) rfl
  have hl2 := ST.out.lt 2 rfl
  have h := H.out
  clear H
  by_cases ct : t = true
  · subst ct
    rw [if_pos rfl] at h
    by_cases ci : i < 0
    · rw [if_pos ci] at h
      obtain ⟨rfl, rfl⟩ := Prod.mk.inj (Option.some.inj h)
      clear h
      have cib : decide (i < 0) = true := decide_eq_true ci
      clear ci
      have hf2 := ST.out.frozen 2 rfl 0
      go_wp2_with fail
      replace ST := Zh (ST.out.set 2 rfl 0 (.slice A1 o.length c1))
      refine Zq (results_ct rfl _ _ (w.heap.size + 1) 28 #[.slice A1 o.length c1] (0, 0) _ rfl (ST.out.blk 2 rfl) Tryd.underlying28 rfl (by kernel_rfl)) rfl ?_
      exact ⟨_, rfl, Kd.S_mono (S_c (ST.out.own 1 rfl)) (fun _ _ => trivial), ST.out.b⟩
    rw [if_neg ci] at h
    by_cases cl : i < (l0_0.length : Int)
    · rw [if_pos cl] at h
      by_cases cj : i < (o.length : Int)
      · rw [if_pos cj] at h
        replace h := Option.bind_eq_some_iff.mp h
        obtain ⟨b, HA4, h⟩ := h
        replace HA4 := Zh HA4
        have H := Zh h
        clear h
        have cib : decide (i < 0) = false := decide_eq_false ci
        have ci0 : 0 ≤ i := by omega
        obtain ⟨g, cg, hv, _, _, _⟩ := Kd.S_form (ST.out.own 1 rfl) (by omega)
        injection hv with hv1 hv2 hv3
        subst hv1
        have HI0 := Zh ci0
        have HIL := Zh cl
        have HIO := Zh cj
        have ci0b := eq_true ci0
        have clb := eq_true cl
        have cjb := eq_true cj
        clear ci cl cj ci0 hv2 hv3
        obtain ⟨ad, B1, d1, B2, d2, e, hx0, hx1, hx2, hl1', hi1, hl2', hi2⟩ := at_T55 HR.out i HI0.out HIL.out
        cases e
        replace hx0 := (ST.out.b.cell (Zi w _ hx0)).trans hx0
        replace hx1 := (ST.out.b.cell (Zi w _ hx1)).trans hx1
        replace hx2 := (ST.out.b.cell (Zi w _ hx2)).trans hx2
        clear hc2 hl2
        have hc2 := ST.out.cell 3 rfl 0 (u := .slice (some ad) l0_0.length c0_0) rfl
        have hl2 := ST.out.lt 3 rfl
        go_wp2_with fail
        clear hc1 hl1 hc2 hl2
        have HI1 := Zh hi1
        have HL1 := Zh hl1'
        have HI2 := Zh hi2
        have HL2 := Zh hl2'
        clear hx0 hx1 hx2 hl1' hi1 hl2' hi2
        with_reducible refine (impl_File_content.calls (rd_T55 l0_0 i).f0 _ _ (rd_T55 l0_0 i).f1 _ _ (rd_T55 l0_0 i).f2 b _ (Kd.C_below HI1.out ST.out.b) HL1.out (Kd.C_below HI2.out ST.out.b) HL2.out HA4.out).mono ?_
        rintro e w5 ⟨v5, rfl, ho, hb⟩
        obtain ⟨A5, c5, rfl⟩ := Kd.R_slice ho
        replace ST := Zh (ST.out.rowR rfl hb ho)
        clear hb ho
        have hc1 := ST.out.cell 1 rfl 0 (u := .slice (some ⟨g, 0, none⟩) o.length c1) rfl
        have hl1 := ST.out.lt 1 rfl
        have hc2 := ST.out.cell 3 rfl 0 (u := .slice none 0 0) rfl
        have hl2 := ST.out.lt 3 rfl
        have hf2 := ST.out.frozen 3 rfl 0
        have h := H.out
        clear H
        by_cases d1 : a2 < 0
        · rw [if_pos d1] at h
          obtain ⟨rfl, rfl⟩ := Prod.mk.inj (Option.some.inj h)
          clear h
          have d1b : decide (a2 < 0) = true := decide_eq_true d1
          clear d1
          go_wp2
          replace ST := Zh (ST.out.set 3 rfl 0 (.slice (some ⟨g, 0, none⟩) o.length c1))
          refine Zq (results_ct rfl _ _ (w.heap.size + 1) 28 #[.slice (some ⟨g, 0, none⟩) o.length c1] (0, 0) _ rfl (ST.out.blk 3 rfl) Tryd.underlying28 rfl (by kernel_rfl)) rfl ?_
          exact ⟨_, rfl, Kd.S_mono (S_c (ST.out.own 2 rfl)) (fun _ _ => trivial), ST.out.b⟩
        rw [if_neg d1] at h
        have d1b : decide (a2 < 0) = false := decide_eq_false d1
        by_cases d2 : a2 > (b.length : Int)
        · rw [if_pos d2] at h
          obtain ⟨rfl, rfl⟩ := Prod.mk.inj (Option.some.inj h)
          clear h
          have d2b : decide (a2 > (b.length : Int)) = true := decide_eq_true d2
          clear d1 d2
          go_wp2
          replace ST := Zh (ST.out.set 3 rfl 0 (.slice (some ⟨g, 0, none⟩) o.length c1))
          refine Zq (results_ct rfl _ _ (w.heap.size + 1) 28 #[.slice (some ⟨g, 0, none⟩) o.length c1] (0, 0) _ rfl (ST.out.blk 3 rfl) Tryd.underlying28 rfl (by kernel_rfl)) rfl ?_
          exact ⟨_, rfl, Kd.S_mono (S_c (ST.out.own 2 rfl)) (fun _ _ => trivial), ST.out.b⟩
        rw [if_neg d2] at h
        obtain ⟨rfl, rfl⟩ := Prod.mk.inj (Option.some.inj h)
        clear h
        have d2b : decide (a2 > (b.length : Int)) = false := decide_eq_false d2
        obtain ⟨m, rfl⟩ := Int.eq_ofNat_of_zero_le (show 0 ≤ a2 by omega)
        have hm : m ≤ b.length := by omega
        have hm5 : m ≤ c5 := by have := (ST.out.reads 0 rfl).2.1; omega
        have HM := Zh hm
        clear d1 d2
        go_wp2_with fail
        clear hc1 hl1 hc2 hl2 hf2
        replace ST := Zh ST.out.drew
        refine start_ (n := 11) (S := fun w' => w'.cell? ⟨w1.heap.size, 0, none⟩ = some (.slice (some ⟨g, 0, none⟩) o.length c1)) (ds := [10]) #[false, false, false, false, false, false, false, false, false, false, false] (by kernel_rfl) rfl rfl (ST.out.cell 1 rfl 0 rfl) (fun hHeld => ?_)
        generalize w5.drew = w6 at ST hHeld ⊢
        refine pure_ (i := 0) (N := some 39) (v := ?_) (a' := ?_) #[true, false, false, false, false, false, false, false, false, false, false] rfl rfl (by kernel_rfl) (fun _ _ _ h => h) (Or.inl ⟨by rfl, ?_⟩) ?_ ?_
        rotate_left
        · intro w'
          go_simp
          with_reducible rfl
        rotate_left
        · simp only [Act.put, List.setIfInBounds_toArray, List.set_cons_zero, List.set_cons_succ, i64_w, i32_w]
          rfl
        refine pure_ (i := 2) (N := some 41) (v := ?_) (a' := ?_) #[true, false, true, false, false, false, false, false, false, false, false] rfl rfl (by kernel_rfl) (fun _ _ _ h => h) (Or.inl ⟨by rfl, ?_⟩) ?_ ?_
        rotate_left
        · intro w'
          go_simp
          with_reducible rfl
        rotate_left
        · simp only [Act.put, List.setIfInBounds_toArray, List.set_cons_zero, List.set_cons_succ, i64_w, i32_w]
          rfl
        refine pure_ (i := 3) (N := some 42) (v := ?_) (a' := ?_) #[true, false, true, true, false, false, false, false, false, false, false] rfl rfl (by kernel_rfl) (fun _ _ _ h => h) (Or.inl ⟨by rfl, ?_⟩) ?_ ?_
        rotate_left
        · intro w'
          go_simp
          with_reducible rfl
        rotate_left
        · simp only [Act.put, List.setIfInBounds_toArray, List.set_cons_zero, List.set_cons_succ, i64_w, i32_w]
          rfl
        refine pure_ (i := 4) (N := some 43) (v := ?_) (a' := ?_) #[true, false, true, true, true, false, false, false, false, false, false] rfl rfl (by kernel_rfl) (fun _ _ _ h => h) (Or.inl ⟨by rfl, ?_⟩) ?_ ?_
        rotate_left
        · intro w'
          go_simp
          with_reducible rfl
        rotate_left
        · simp only [Act.put, List.setIfInBounds_toArray, List.set_cons_zero, List.set_cons_succ, i64_w, i32_w]
          rfl
        refine pure_ (i := 5) (N := some 44) (v := ?_) (a' := ?_) #[true, false, true, true, true, true, false, false, false, false, false] rfl rfl (by kernel_rfl) (fun _ _ _ h => h) (Or.inl ⟨by rfl, ?_⟩) ?_ ?_
        rotate_left
        · intro w'
          go_simp
          with_reducible rfl
        rotate_left
        · simp only [Act.put, List.setIfInBounds_toArray, List.set_cons_zero, List.set_cons_succ, i64_w, i32_w]
          rfl
        refine pure_ (i := 6) (N := some 45) (v := ?_) (a' := ?_) #[true, false, true, true, true, true, true, false, false, false, false] rfl rfl (by kernel_rfl) (fun _ _ _ h => h) (Or.inl ⟨by rfl, ?_⟩) ?_ ?_
        rotate_left
        · intro w'
          go_simp
          with_reducible rfl
        rotate_left
        · simp only [Act.put, List.setIfInBounds_toArray, List.set_cons_zero, List.set_cons_succ, i64_w, i32_w]
          rfl
        refine take_ (i := 1) (N := some 40) (v := ?_) (a' := ?_) #[true, true, true, true, true, true, true, false, false, false, false] rfl rfl (by kernel_rfl) (fun _ _ _ h => h) (Or.inl ⟨by rfl, ?_⟩) hHeld ?_ ?_
        rotate_left
        · rintro w' s0
          go_simp
          with_reducible rfl
        rotate_left
        · simp only [Act.put, List.setIfInBounds_toArray, List.set_cons_zero, List.set_cons_succ, i64_w, i32_w]
          rfl
        refine pure_ (i := 7) (N := some 46) (v := ?_) (a' := ?_) #[true, true, true, true, true, true, true, true, false, false, false] rfl rfl (by kernel_rfl) (fun _ _ _ h => h) (Or.inl ⟨by rfl, ?_⟩) ?_ ?_
        rotate_left
        · intro w'
          go_simp
          with_reducible rfl
        rotate_left
        · simp only [Act.put, List.setIfInBounds_toArray, List.set_cons_zero, List.set_cons_succ, i64_w, i32_w]
          rfl
        obtain ⟨oki, cs, hcl, hM, hcc, hfr, hoki, hH⟩ := Kd.S_elem (ST.out.own 2 rfl) z55 i HI0.out HIO.out
        obtain ⟨pp, u1, u2, rfl, hA1, hA2⟩ := k55_openA hM
        have hy0 : w6.cell? ⟨g, i.toNat * 3, none⟩ = some (.string (o.getD i.toNat z55).f0) := hcc 0 _ rfl
        have hy1 : w6.cell? ⟨g, i.toNat * 3 + 1, none⟩ = some u1 := hcc 1 _ rfl
        have hy2 : w6.cell? ⟨g, i.toNat * 3 + 2, none⟩ = some u2 := hcc 2 _ rfl
        have hf0 : w6.frozen? ⟨g, i.toNat * 3, none⟩ = false := hfr 0
        have hf1 : w6.frozen? ⟨g, i.toNat * 3 + 1, none⟩ = false := hfr 1
        have hf2 : w6.frozen? ⟨g, i.toNat * 3 + 2, none⟩ = false := hfr 2
        clear hcl hM hcc hfr hoki hH hA1 hA2
        refine pure_ (i := 8) (N := some 47) (v := ?_) (a' := ?_) #[true, true, true, true, true, true, true, true, true, false, false] rfl rfl (by kernel_rfl) (fun _ _ _ h => h) (Or.inl ⟨by rfl, ?_⟩) ?_ ?_
        rotate_left
        · intro w'
          go_simp
          with_reducible rfl
        rotate_left
        · simp only [Act.put, List.setIfInBounds_toArray, List.set_cons_zero, List.set_cons_succ, i64_w, i32_w]
          rfl
        refine pure_ (i := 9) (N := some 48) (v := ?_) (a' := ?_) #[true, true, true, true, true, true, true, true, true, true, false] rfl rfl (by kernel_rfl) (fun _ _ _ h => h) (Or.inl ⟨by rfl, ?_⟩) ?_ ?_
        rotate_left
        · intro w'
          go_simp
          with_reducible rfl
        rotate_left
        · simp only [Act.put, List.setIfInBounds_toArray, List.set_cons_zero, List.set_cons_succ, i64_w, i32_w]
          rfl
        refine last_ (i := 10) (N := none) #[true, true, true, true, true, true, true, true, true, true, true] rfl rfl (by kernel_rfl) (by decide) (fun K hK => ?_)
        refine skip_ (w1 := ?_) (by rfl) rfl ?_ ?_
        rotate_left
        · go_simp
          rfl
        refine hK.out _ _ ?_
        clear hK K
        refine done_ (by kernel_rfl) ?_
        clear hy0 hy1 hy2 hf0 hf1 hf2 hHeld
        replace ST := Zh (setFileC (m := m) ST.out 2 0 (by decide) rfl rfl i HI0.out HIO.out a1 HM.out)
        generalize (((w6.setCell ⟨g, i.toNat * 3, none⟩ (.string a1)).setCell ⟨g, i.toNat * 3 + 1, none⟩ (.slice A5 m m)).setCell ⟨g, i.toNat * 3 + 2, none⟩ (.slice none 0 0)) = w7 at ST ⊢
        have hc1 := ST.out.cell 1 rfl 0 (u := .slice (some ⟨g, 0, none⟩) o.length c1) rfl
        have hl1 := ST.out.lt 1 rfl
        have hc2 := ST.out.cell 3 rfl 0 (u := .slice none 0 0) rfl
        have hl2 := ST.out.lt 3 rfl
        have hf2 := ST.out.frozen 3 rfl 0
        go_wp2
        replace ST := Zh (ST.out.set 3 rfl 0 (.slice (some ⟨g, 0, none⟩) o.length c1))
        refine Zq (results_ct rfl _ _ (w.heap.size + 1) 28 #[.slice (some ⟨g, 0, none⟩) o.length c1] (0, 0) _ rfl (ST.out.blk 3 rfl) Tryd.underlying28 rfl (by kernel_rfl)) rfl ?_
        exact ⟨_, rfl, Kd.S_mono (ST.out.own 2 rfl) (fun _ _ => trivial), ST.out.b⟩
      rw [if_neg cj] at h
      exact absurd h (by simp)
    rw [if_neg cl] at h
    exact absurd h (by simp)
  rw [if_neg ct] at h
  obtain rfl : t = false := by simpa using ct
  obtain ⟨rfl, rfl⟩ := Prod.mk.inj (Option.some.inj h)
  clear h ct
  have hf2 := ST.out.frozen 2 rfl 0
  go_wp2_with fail
  replace ST := Zh (ST.out.set 2 rfl 0 (.slice A1 o.length c1))
  refine Zq (results_ct rfl _ _ (w.heap.size + 1) 28 #[.slice A1 o.length c1] (0, 0) _ rfl (ST.out.blk 2 rfl) Tryd.underlying28 rfl (by kernel_rfl)) rfl ?_
  exact ⟨_, rfl, Kd.S_mono (S_c (ST.out.own 1 rfl)) (fun _ _ => trivial), ST.out.b⟩
end Go.Proofs.YtcgojdhbphocgaaDoor.F

namespace Go.Proofs.YtcgojdhbphocgaaDoor.F
open Go.RowKit Go.Proofs.YtcgojdhbphocgaaDoorW.PrintWords Go.Proofs.YtcgojdhbphocgaaDoorW.PrintWords.Kd Go.Proofs.YtcgojdhbphocgaaDoorW.PrintMore.Kd Go.Proofs.YtcgojdhbphocgaaDoorW.PrintLast Go.Proofs.YtcgojdhbphocgaaDoorW.PrintMore
attribute [local go_sem] max2_int min2_int max_two min_two max_three min_three max_four min_four   -- for this text's walks alone
set_option linter.unusedVariables false
set_option linter.unusedSimpArgs false
def impl_WalRepair.j0 : Nat → Int → Bool → List (S55) → Option ((List (S55)) × Bool)
 | 0, _, _, _ => none
 | k + 1, x5, x18, x508000 => if x18 = true then ((impl_copyDisk.f k x508000).bind fun t514 => (some (t514, false))) else ((impl_cutFile.f k x508000 (⟨#[108, 111, 103]⟩ : ByteArray) x5).bind fun bt517 => (some (bt517.1, bt517.2)))
def impl_WalRepair.f (k : Nat) (l0_0 : List (S55)) : Option ((List (S55)) × Bool) := (impl_walRead.f k l0_0).bind fun bt509 => (if bt509.2.2 = 0 then (impl_WalRepair.j0 k bt509.2.1 false l0_0) else (impl_WalRepair.j0 k bt509.2.1 (bt509.2.2 != 1) l0_0))
set_option maxHeartbeats 8000000 in
set_option maxRecDepth 100000 in
theorem impl_WalRepair.calls (k : Nat) (A0_0 : Option Addr) (c0_0 : Nat) (l0_0 : List (S55)) (r1 : List (S55)) (r2 : Bool) (w : World) (hr0_0 : Kd.C k55 w A0_0 l0_0.length l0_0) (hc0_0 : l0_0.length ≤ c0_0) (h : impl_WalRepair.f k l0_0 = some (r1, r2)) :
  Calls Tryd.prog 26 #[.agg #[.slice A0_0 l0_0.length c0_0]] w fun e w' => ∃ v0_ : Value, e = .returned (.tuple #[.agg #[v0_], .bool r2]) ∧ Kd.S k55c 55 w' w.heap.size (fun _ => True) v0_ r1 ∧ Below w.heap.size w w' := by
 have hu28 := Tryd.underlying28
 have HR0_0 := Zh hr0_0
 have HC0_0 := Zh hc0_0
 clear hr0_0 hc0_0
 have HB := Zh (Below.refl w.heap.size w)
 have H : ((impl_walRead.f k l0_0).bind fun bt509 => (if bt509.2.2 = 0 then (impl_WalRepair.j0 k bt509.2.1 false l0_0) else (impl_WalRepair.j0 k bt509.2.1 (bt509.2.2 != 1) l0_0))) = some (r1, r2) := h
 clear h
 replace H := Option.bind_eq_some_iff.mp H
 obtain ⟨⟨t509, t512, t513⟩, A20, H⟩ := H
 replace H : (if t513 = 0 then (impl_WalRepair.j0 k t512 false l0_0) else (impl_WalRepair.j0 k t512 (t513 != 1) l0_0)) = some (r1, r2) := H
 have A2 := Zh A20
 clear A20
 have HC3 := Zh H
 clear H
 go_enter Tryd.func26, Tryd.ntmps26
 go_upto_region 2 with (first | ((with_reducible refine gate_dst (N := 1) rfl ?_); refine box_event ?hg (N := 1) ?hd (cs := #[.slice A0_0 l0_0.length c0_0]) (t := 28) ?hr ?_; (case hd => rfl); (case hg => rfl); (case hr => first | (go_simp; done) | (go_simp; rfl)); intro gb507 hg w4 hbox hb; have BK507 := Zh (hbox); have GW507 := Zh ((by rw [hg]; exact (below_size Zs) : w.heap.size ≤ gb507)); have GE507 := Zh ((by rw [hg]; exact (below_size Zs) : w.heap.size ≤ gb507)); replace HB := Zh (Zl Zs hb); clear hb hbox hg) | ((with_reducible refine gate_dst (N := 2) rfl ?_); refine box_event ?hg (N := 2) ?hd (cs := #[.slice none 0 0]) (t := 28) ?hr ?_; (case hd => rfl); (case hg => rfl); (case hr => first | (go_simp; done) | (go_simp; rfl)); intro gb508 hg w5 hbox hb; have BK508 := Zh (hbox); have GW508 := Zh ((by rw [hg]; exact (below_size Zs) : w.heap.size ≤ gb508)); have GE508 := Zh ((by rw [hg]; exact (below_size Zs) : w.heap.size ≤ gb508)); replace HB := Zh (Zl Zs hb); have NB507_508 := Zh ((by rw [hg]; exact Nat.ne_of_lt (blk_lt (g := gb507) (o := .cells #[.slice A0_0 l0_0.length c0_0] 28 (0, 0)) Zk) : gb507 ≠ gb508)); have NB508_507 := Zh ((by rw [hg]; exact Nat.ne_of_gt (blk_lt (g := gb507) (o := .cells #[.slice A0_0 l0_0.length c0_0] 28 (0, 0)) Zk) : gb508 ≠ gb507)); replace BK507 := Zh (Zm (g := gb507) (o := .cells #[.slice A0_0 l0_0.length c0_0] 28 (0, 0)) Zk hb); clear hb hbox hg; have hnb6 := NB507_508.out; have hnc6 := NB508_507.out; have hcz7_0 : w5.cell? ⟨gb507, 0, none⟩ = some (.slice A0_0 l0_0.length c0_0) := (blk_cell BK507.out 0).trans rfl; have hfz7_0 := Zn BK507.out 0) | ((with_reducible refine gate_callee (f := 49) rfl ?_); refine ZG (some 9) Tryd.func49 #[.agg #[.slice A0_0 l0_0.length c0_0]] rfl ?_; (with_reducible refine (impl_walRead.calls k _ _ l0_0 t509 t512 t513 _ ?side1 ?side2 A2.out).mono ?_); (case side1 => repeat (first | exact (C_below HR0_0.out HB.out) | (with_reducible refine C_alloc ?_ _) | (with_reducible refine C_drewN ?_ _) | (with_reducible refine C_drew ?_))); (case side2 => exact HC0_0.out); rintro e w8 ⟨v510, rfl, ho0, hb⟩; refine ⟨_, rfl, ?_⟩; have HO511 := Zh (S_lower ho0 (below_size Zs)); replace BK507 := Zh (Zm (g := gb507) (o := .cells #[.slice A0_0 l0_0.length c0_0] 28 (0, 0)) Zk hb); replace BK508 := Zh (Zm (g := gb508) (o := .cells #[.slice none 0 0] 28 (0, 0)) Zk hb); replace HB := Zh (Zl Zs hb); (try clear hb); (try clear hb2); (try clear hk); (try clear hi); (try clear ho0)))
 (try simp only [Act.put, List.setIfInBounds_toArray, List.set_cons_zero, List.set_cons_succ])
 go_cut [18] (fun v18 wc => ∃ (kq : Nat) (x18_2 : Bool), v18 = .bool x18_2 ∧ Aside0 (impl_WalRepair.j0 kq t512 x18_2 l0_0 = some (r1, r2)) ∧ Aside0 (kq ≤ k) ∧ Aside0 (wc.heap[gb507]? = some (.cells #[(.slice A0_0 l0_0.length c0_0)] 28 (0, 0))) ∧ Aside0 (wc.heap[gb508]? = some (.cells #[(.slice none 0 0)] 28 (0, 0))) ∧ Aside0 (Below w.heap.size w wc))
 case first =>
  have H := HC3.out
  clear HC3
  by_cases c9 : t513 = 0
  ·
   rw [if_pos c9] at H
   have c9b0 : (t513 == 0) = true := beq_iff_eq.mpr c9
   have c9b1 : (t513 != 0) = false := bne_eq_false_iff_eq.mpr c9
   clear c9
   (first | rw [c9b0] | (simp only [i64_w, i32_w]; rw [c9b0]) | skip)
   have H' := Zh H
   clear H
   go_wp2
   go_meet
   case rel => exact ⟨_, (false), (by first | rfl | (simp; done) | (simp [*]; done)), H', ⟨by first | omega | exact Nat.le_refl _⟩, ⟨Zk⟩, ⟨Zk⟩, ⟨Zs⟩⟩
  rw [if_neg c9] at H
  have c9b0 : (t513 == 0) = false := beq_eq_false_iff_ne.mpr c9
  have c9b1 : (t513 != 0) = true := bne_iff_ne.mpr c9
  (first | rw [c9b0] | (simp only [i64_w, i32_w]; rw [c9b0]) | skip)
  have H' := Zh H
  clear H
  go_wp2
  go_meet
  case rel => exact ⟨_, ((t513 != 1)), (by first | rfl | (simp; done) | (simp [*]; done)), H', ⟨by first | omega | exact Nat.le_refl _⟩, ⟨Zk⟩, ⟨Zk⟩, ⟨Zs⟩⟩
 case rest =>
  clear HC3
  try clear c2
  try clear p2
  try clear c4
  try clear c6
  try clear c9
  try clear c9b0
  try clear c9b1
  try clear hcz7_0
  try clear hfz7_0
  obtain ⟨kq, x18_2, rfl, HA, HJ2, BK507, BK508, HB⟩ := hcut
  cases kq with
  | zero => exact absurd HA.out (by simp [impl_WalRepair.j0])
  | succ kj2 =>
   have H := HA.out
   clear HA
   simp only [impl_WalRepair.j0] at H
   by_cases c10 : x18_2 = true
   ·
    subst c10
    have H1 : ((impl_copyDisk.f kj2 l0_0).bind fun t514 => (some (t514, false))) = some (r1, r2) := by rw [if_pos rfl] at H; exact H
    clear H
    have H := H1
    clear H1
    replace H := Option.bind_eq_some_iff.mp H
    obtain ⟨t514, A110, H⟩ := H
    replace H : (some (t514, false)) = some (r1, r2) := H
    have A11 := Zh A110
    clear A110
    simp only [Option.some.injEq, Prod.mk.injEq] at H
    obtain ⟨rfl, rfl⟩ := H
    have hnb12 := NB507_508.out
    have hnc12 := NB508_507.out
    have hcz13_0 : wc.cell? ⟨gb507, 0, none⟩ = some (.slice A0_0 l0_0.length c0_0) := (blk_cell BK507.out 0).trans rfl
    have hfz13_0 := Zn BK507.out 0
    go_wp2_with (first | ((with_reducible refine gate_callee (f := 56) rfl ?_); refine ZG (some 20) Tryd.func56 #[.agg #[.slice A0_0 l0_0.length c0_0]] rfl ?_; (with_reducible refine (impl_copyDisk.calls kj2 _ _ l0_0 t514 _ ?side1 ?side2 A11.out).mono ?_); (case side1 => repeat (first | exact (C_below HR0_0.out HB.out) | (with_reducible refine C_alloc ?_ _) | (with_reducible refine C_drewN ?_ _) | (with_reducible refine C_drew ?_))); (case side2 => exact HC0_0.out); rintro e w14 ⟨v515, rfl, ho0, hb⟩; refine ⟨_, rfl, ?_⟩; have HO516 := Zh (S_lower ho0 (below_size Zs)); replace BK507 := Zh (Zm (g := gb507) (o := .cells #[.slice A0_0 l0_0.length c0_0] 28 (0, 0)) Zk hb); replace BK508 := Zh (Zm (g := gb508) (o := .cells #[.slice none 0 0] 28 (0, 0)) Zk hb); replace HB := Zh (Zl Zs hb); (try clear hb); (try clear hb2); (try clear hk); (try clear hi); (try clear ho0); obtain ⟨Ao15, co15, eo15⟩ := S_slice HO516.out; subst eo15; have hcz16_0 : w14.cell? ⟨gb508, 0, none⟩ = some (.slice none 0 0) := (blk_cell BK508.out 0).trans rfl; have hfz16_0 := Zn BK508.out 0))
    refine Zq (results_ct rfl _ _ gb508 28 #[.slice Ao15 t514.length co15] (0, 0) _ rfl (by (with_reducible repeat (first | refine Za ?_ _ | refine Zb ?_ | refine blk_alloc ?_ _)); refine blk_put (cs := #[.slice none 0 0]) ?_ 0 _ rfl; (with_reducible repeat (first | refine Za ?_ _ | refine Zb ?_ | refine blk_alloc ?_ _)); exact BK508.out) Tryd.underlying28 rfl (by kernel_rfl)) rfl ?_
    exact ⟨_, ZE, ZS (S_mono (S_far (p := ⟨gb508, 0, none⟩) (S_types (S_c HO516.out) BK508.out (by decide)) (fun _ hk => hk.2) (.slice Ao15 t514.length co15)) (fun _ hk => trivial)), Zs⟩
   replace c10 := Bool.eq_false_iff.mpr c10
   subst c10
   have H1 : ((impl_cutFile.f kj2 l0_0 (⟨#[108, 111, 103]⟩ : ByteArray) t512).bind fun bt517 => (some (bt517.1, bt517.2))) = some (r1, r2) := by rw [if_neg (show ¬ (false = true) by decide)] at H; exact H
   clear H
   have H := H1
   clear H1
   replace H := Option.bind_eq_some_iff.mp H
   obtain ⟨⟨t517, t520⟩, A170, H⟩ := H
   replace H : (some (t517, t520)) = some (r1, r2) := H
   have A17 := Zh A170
   clear A170
   simp only [Option.some.injEq, Prod.mk.injEq] at H
   obtain ⟨rfl, rfl⟩ := H
   have hnb18 := NB507_508.out
   have hnc18 := NB508_507.out
   have hcz19_0 : wc.cell? ⟨gb507, 0, none⟩ = some (.slice A0_0 l0_0.length c0_0) := (blk_cell BK507.out 0).trans rfl
   have hfz19_0 := Zn BK507.out 0
   go_wp2_with (first | ((with_reducible refine gate_callee (f := 57) rfl ?_); refine ZG (some 23) Tryd.func57 #[.agg #[.slice A0_0 l0_0.length c0_0], .string (⟨#[108, 111, 103]⟩ : ByteArray), .int .i64 t512] rfl ?_; (with_reducible refine (impl_cutFile.calls kj2 _ _ l0_0 (⟨#[108, 111, 103]⟩ : ByteArray) t512 t517 t520 _ ?side1 ?side2 A17.out).mono ?_); (case side1 => repeat (first | exact (C_below HR0_0.out HB.out) | (with_reducible refine C_alloc ?_ _) | (with_reducible refine C_drewN ?_ _) | (with_reducible refine C_drew ?_))); (case side2 => exact HC0_0.out); rintro e w20 ⟨v518, rfl, ho0, hb⟩; refine ⟨_, rfl, ?_⟩; have HO519 := Zh (S_lower ho0 (below_size Zs)); replace BK507 := Zh (Zm (g := gb507) (o := .cells #[.slice A0_0 l0_0.length c0_0] 28 (0, 0)) Zk hb); replace BK508 := Zh (Zm (g := gb508) (o := .cells #[.slice none 0 0] 28 (0, 0)) Zk hb); replace HB := Zh (Zl Zs hb); (try clear hb); (try clear hb2); (try clear hk); (try clear hi); (try clear ho0); obtain ⟨Ao21, co21, eo21⟩ := S_slice HO519.out; subst eo21; have hcz22_0 : w20.cell? ⟨gb508, 0, none⟩ = some (.slice none 0 0) := (blk_cell BK508.out 0).trans rfl; have hfz22_0 := Zn BK508.out 0))
   refine Zq (results_ct rfl _ _ gb508 28 #[.slice Ao21 t517.length co21] (0, 0) _ rfl (by (with_reducible repeat (first | refine Za ?_ _ | refine Zb ?_ | refine blk_alloc ?_ _)); refine blk_put (cs := #[.slice none 0 0]) ?_ 0 _ rfl; (with_reducible repeat (first | refine Za ?_ _ | refine Zb ?_ | refine blk_alloc ?_ _)); exact BK508.out) Tryd.underlying28 rfl (by kernel_rfl)) rfl ?_
   exact ⟨_, ZE, ZS (S_mono (S_far (p := ⟨gb508, 0, none⟩) (S_types HO519.out BK508.out (by decide)) (fun _ hk => hk.2) (.slice Ao21 t517.length co21)) (fun _ hk => trivial)), Zs⟩
def laws_big.f (l0 : List Int) : Option (Bool) := some (decide ((l0.length : Int) > 1048576))
set_option maxHeartbeats 8000000 in
set_option maxRecDepth 100000 in
theorem laws_big.calls (A0 : Option Addr) (c0 : Nat) (l0 : List Int) (r : Bool) (w : World) (hr0 : Kd.C (Kd.int .u8) w A0 l0.length l0) (hc0 : l0.length ≤ c0) (h : laws_big.f l0 = some r) :
  Calls Tryd.prog 34 #[.slice A0 l0.length c0] w fun e w' => e = .returned (.bool r) ∧ Drawn0 w w' := by
 have HR0 := Zh hr0
 have HC0 := Zh hc0
 clear hr0 hc0
 have H : (some (decide ((l0.length : Int) > 1048576))) = some r := h
 clear h
 obtain rfl := Option.some.inj H
 go_enter Tryd.func34, Tryd.ntmps34
 go_wp2
 go_ret
 exact ⟨by first | rfl | (simp; done) | (simp [*]; done), by repeat (first | exact Drawn0.refl _ | apply Drawn0.step)⟩
def IsS99 (w0 W : World) (g : Nat) (f0 : List Int) (f1 : Int) (f2 : Int) : Prop := ∃ A0 c0, W.heap[g]? = some (.cells #[.slice A0 f0.length c0, .int .i64 f1, .int .i64 f2] 99 (0, 0)) ∧ w0.heap.size ≤ g ∧ Kd.C (Kd.int .u8) w0 A0 f0.length f0
theorem IsS99.grown {w0 W : World} {g : Nat} {f0 : List Int} {f1 : Int} {f2 : Int} {W1 : World} {row : Option Nat} (h : IsS99 w0 W g f0 f1 f2) (hw : W.grownBy W1 row) (hne : some g ≠ row) : IsS99 w0 W1 g f0 f1 f2 := by
 obtain ⟨A0, c0, hb, hg, hr0⟩ := h
 exact ⟨A0, c0, blk_grown hb hw hne, hg, hr0⟩
theorem IsS99.kept {w0 W : World} {g : Nat} {f0 : List Int} {f1 : Int} {f2 : Int} {W1 : World} {S : Nat → Prop} (h : IsS99 w0 W g f0 f1 f2) (hk : Kept W W1 S) (hne : ¬ S g) : IsS99 w0 W1 g f0 f1 f2 := by
 obtain ⟨A0, c0, hb, hg, hr0⟩ := h
 exact ⟨A0, c0, blk_kept hb hk hne, hg, hr0⟩
theorem IsS99.below {w0 W : World} {g : Nat} {f0 : List Int} {f1 : Int} {f2 : Int} {W1 : World} (h : IsS99 w0 W g f0 f1 f2) (hw : Below W.heap.size W W1) : IsS99 w0 W1 g f0 f1 f2 := h.grown (grown_of_below hw none) (by simp)
theorem IsS99.alloc {w0 W : World} {g : Nat} {f0 : List Int} {f1 : Int} {f2 : Int} (h : IsS99 w0 W g f0 f1 f2) (o : Obj) : IsS99 w0 (W.alloc o) g f0 f1 f2 := h.below (Zf (Below.refl _ _) o)
theorem IsS99.drewN {w0 W : World} {g : Nat} {f0 : List Int} {f1 : Int} {f2 : Int} (h : IsS99 w0 W g f0 f1 f2) (m : Nat) : IsS99 w0 (W.drewN m) g f0 f1 f2 := h
theorem IsS99.drew {w0 W : World} {g : Nat} {f0 : List Int} {f1 : Int} {f2 : Int} (h : IsS99 w0 W g f0 f1 f2) : IsS99 w0 W.drew g f0 f1 f2 := h
theorem IsS99.at_ {w0 W : World} {g : Nat} {f0 : List Int} {f1 : Int} {f2 : Int} {w' : World} {m : Nat} (hq : W.drewN m = w') (h : IsS99 w0 W g f0 f1 f2) : IsS99 w0 w' g f0 f1 f2 := by subst hq; exact IsS99.drewN h m
theorem IsS99.apart {w0 W : World} {g : Nat} {f0 : List Int} {f1 : Int} {f2 : Int} {α : Type} {d : Kd α} {e : Nat} {base : Nat} {ok : Nat → Prop} {v : Value} {xs : List α} (h : IsS99 w0 W g f0 f1 f2) (ho : d.R e W base ok v xs) (ht : ∀ q, q ∈ e :: d.E → q ≠ 99) : d.R e W base (fun k => ok k ∧ k ≠ g) v xs := by
 obtain ⟨A0, c0, hb, hg, hr0⟩ := h
 exact R_types ho hb ht
theorem IsS99.own_ne {w0 W : World} {g : Nat} {f0 : List Int} {f1 : Int} {f2 : Int} {α : Type} {d : Kd α} {e : Nat} {base : Nat} {ok : Nat → Prop} {v : Value} {xs : List α} (h : IsS99 w0 W g f0 f1 f2) (ho : d.R e W base ok v xs) (ht : e ≠ 99) : some g ≠ v.ownBlock := by
 obtain ⟨A0, c0, hb, hg, hr0⟩ := h
 exact R_ne ho hb ht
theorem IsS99.apartS {w0 W : World} {g : Nat} {f0 : List Int} {f1 : Int} {f2 : Int} {α : Type} {d : Kd α} {e : Nat} {base : Nat} {ok : Nat → Prop} {v : Value} {xs : List α} (h : IsS99 w0 W g f0 f1 f2) (ho : d.S e W base ok v xs) (ht : ∀ q, q ∈ e :: d.E → q ≠ 99) : d.S e W base (fun k => ok k ∧ k ≠ g) v xs := by
 obtain ⟨A0, c0, hb, hg, hr0⟩ := h
 exact S_types ho hb ht
theorem IsS99.own_neS {w0 W : World} {g : Nat} {f0 : List Int} {f1 : Int} {f2 : Int} {α : Type} {d : Kd α} {e : Nat} {base : Nat} {ok : Nat → Prop} {v : Value} {xs : List α} (h : IsS99 w0 W g f0 f1 f2) (ho : d.S e W base ok v xs) (ht : e ≠ 99) : some g ≠ v.ownBlock := by
 obtain ⟨A0, c0, hb, hg, hr0⟩ := h
 exact S_ne ho hb ht
theorem IsS99.lt {w0 W : World} {g : Nat} {f0 : List Int} {f1 : Int} {f2 : Int} (h : IsS99 w0 W g f0 f1 f2) : g < W.heap.size := by
 obtain ⟨A0, c0, hb, hg, hr0⟩ := h
 exact blk_lt hb
theorem IsS99.ge {w0 W : World} {g : Nat} {f0 : List Int} {f1 : Int} {f2 : Int} (h : IsS99 w0 W g f0 f1 f2) : w0.heap.size ≤ g := by
 obtain ⟨A0, c0, hb, hg, hr0⟩ := h
 exact hg
theorem IsS99.ne_blk {w0 W : World} {g : Nat} {f0 : List Int} {f1 : Int} {f2 : Int} {a : Nat} {cs : Array Value} {t : TypeId} {fr : Nat × Nat} (h : IsS99 w0 W g f0 f1 f2) (hb2 : W.heap[a]? = some (.cells cs t fr)) (ht : t ≠ 99) : g ≠ a := by
 obtain ⟨A0, c0, hb, hg, hr0⟩ := h
 rintro rfl
 rw [hb] at hb2
 injection hb2 with hb2
 injection hb2 with _ ht2
 exact ht ht2.symm
theorem IsS99.far {w0 W : World} {g : Nat} {f0 : List Int} {f1 : Int} {f2 : Int} {p : Addr} (h : IsS99 w0 W g f0 f1 f2) (hne : g ≠ p.block) (u : Value) : IsS99 w0 (W.setCell p u) g f0 f1 f2 := by
 obtain ⟨A0, c0, hb, hg, hr0⟩ := h
 exact ⟨A0, c0, blk_far hb hne u, hg, hr0⟩
theorem cellS99_0 {W : World} {g : Nat} {A0 : Option Addr} {c0 : Nat} {f0 : List Int} {f1 : Int} {f2 : Int} (h : W.heap[g]? = some (.cells #[.slice A0 f0.length c0, .int .i64 f1, .int .i64 f2] 99 (0, 0))) : W.cell? ⟨g, 0, none⟩ = some (.slice A0 f0.length c0) := (blk_cell h 0).trans rfl
theorem cellS99_1 {W : World} {g : Nat} {A0 : Option Addr} {c0 : Nat} {f0 : List Int} {f1 : Int} {f2 : Int} (h : W.heap[g]? = some (.cells #[.slice A0 f0.length c0, .int .i64 f1, .int .i64 f2] 99 (0, 0))) : W.cell? ⟨g, 1, none⟩ = some (.int .i64 f1) := (blk_cell h 1).trans rfl
theorem IsS99.set_1 {w0 W : World} {g : Nat} {f0 : List Int} {f1 : Int} {f2 : Int} (h : IsS99 w0 W g f0 f1 f2) (x : Int) : IsS99 w0 (W.setCell ⟨g, 1, none⟩ (.int .i64 x)) g f0 x f2 := by
 obtain ⟨A0, c0, hb, hg, hr0⟩ := h
 exact ⟨A0, c0, by simpa using blk_set hb 1 (.int .i64 x), hg, hr0⟩
theorem cellS99_2 {W : World} {g : Nat} {A0 : Option Addr} {c0 : Nat} {f0 : List Int} {f1 : Int} {f2 : Int} (h : W.heap[g]? = some (.cells #[.slice A0 f0.length c0, .int .i64 f1, .int .i64 f2] 99 (0, 0))) : W.cell? ⟨g, 2, none⟩ = some (.int .i64 f2) := (blk_cell h 2).trans rfl
theorem IsS99.set_2 {w0 W : World} {g : Nat} {f0 : List Int} {f1 : Int} {f2 : Int} (h : IsS99 w0 W g f0 f1 f2) (x : Int) : IsS99 w0 (W.setCell ⟨g, 2, none⟩ (.int .i64 x)) g f0 f1 x := by
 obtain ⟨A0, c0, hb, hg, hr0⟩ := h
 exact ⟨A0, c0, by simpa using blk_set hb 2 (.int .i64 x), hg, hr0⟩
def spec_l01New.l0 : Nat → List Int → Int → Int → Option (List Int × Int × Int)
 | 0, _, _, _ => none
 | k + 1, x0, x3, x4 => if x4 < (x0.length : Int) then (if x4 < 4000 then (if 0 ≤ x4 then (spec_l01New.l0 k x0 (Go.bits .and .i64 (wrap64 ((wrap64 ((wrap64 (x3 * 149)) + (wrap64 (rd x0 x4)))) + 11)) 1073741823) (wrap64 (x4 + 1))) else (none)) else (some (x0, 0, x3))) else (some (x0, 0, x3))
def spec_l01New.f (k : Nat) (l0 : List Int) : Option (List Int × Int × Int) := spec_l01New.l0 k l0 (wrap64 (138138 + (l0.length : Int))) 0
set_option maxHeartbeats 8000000 in
set_option maxRecDepth 100000 in
theorem spec_l01New.calls (k : Nat) (A0 : Option Addr) (c0 : Nat) (l0 : List Int) (r1 : List Int) (r2 : Int) (r3 : Int) (w0 w : World) (hB : Below w0.heap.size w0 w) (hr0 : Kd.C (Kd.int .u8) w0 A0 l0.length l0) (hc0 : l0.length ≤ c0) (h : spec_l01New.f k l0 = some (r1, r2, r3)) :
  Calls Tryd.prog 68 #[.slice A0 l0.length c0] w fun e w' => ∃ g_ : Nat, e = .returned (.pointer (some ⟨g_, 0, none⟩)) ∧ IsS99 w0 w' g_ r1 r2 r3 ∧ Below w0.heap.size w0 w' ∧ Below w.heap.size w w' := by
 have hu99 := Tryd.underlying99
 have HR0 := Zh hr0
 have HC0 := Zh hc0
 clear hr0 hc0
 have HBW := Zh (Below.refl w.heap.size w)
 have HW0 := Zh hB.size
 have HB := Zh hB
 clear hB
 have H : (spec_l01New.l0 k l0 (wrap64 (138138 + (l0.length : Int))) 0) = some (r1, r2, r3) := h
 clear h
 have H' := Zh H
 clear H
 go_enter Tryd.func68, Tryd.ntmps68
 go_wp2
 go_loopg [3, 4] k (fun kq v3 v4 w' => ∃ (x3_1 : Int) (x4_1 : Int), v3 = .int .i64 x3_1 ∧ v4 = .int .i64 x4_1 ∧ Aside0 (spec_l01New.l0 kq l0 x3_1 x4_1 = some (r1, r2, r3)) ∧ Aside0 (kq ≤ k) ∧ Aside0 (Below w.heap.size w w') ∧ Aside0 (Below w0.heap.size w0 w'))
 case atStart => exact ⟨(wrap64 (138138 + (l0.length : Int))), (0), (by first | rfl | (simp; done) | (simp [*]; done)), (by first | rfl | (simp; done) | (simp [*]; done)), H', ⟨Nat.le_refl _⟩, ⟨by repeat (first | (with_reducible first | exact HBW.out | apply Zf | apply Zd | apply Ze) | exact HBW.out)⟩, ⟨Zs⟩⟩
 case round =>
  clear H'
  obtain ⟨x3_1, x4_1, rfl, rfl, HA, HK1, HBW, HB⟩ := hrel
  cases gk with
  | zero => exact absurd HA.out (by simp [spec_l01New.l0])
  | succ k1 =>
   have H := HA.out
   clear HA
   simp only [spec_l01New.l0] at H
   by_cases c2 : x4_1 < (l0.length : Int)
   ·
    rw [if_pos c2] at H
    have c2b0 : decide (x4_1 < (l0.length : Int)) = true := decide_eq_true c2
    clear c2
    by_cases c3 : x4_1 < 4000
    ·
     rw [if_pos c3] at H
     have c3b0 : decide (x4_1 < 4000) = true := decide_eq_true c3
     clear c3
     by_cases c4 : 0 ≤ x4_1
     ·
      rw [if_pos c4] at H
      have c4b0 : decide (0 ≤ x4_1) = true := decide_eq_true c4
      clear c4
      have H' := Zh H
      clear H
      have p614 : 0 ≤ (x4_1 : Int) := Zo
      have q614 : x4_1 < (l0.length : Int) := Zo
      obtain ⟨ad614, e614, hx614_0⟩ := Kd.at_int HR0.out x4_1 p614 q614
      cases e614
      replace hx614_0 := pw_cell_below HB.out hx614_0
      replace p614 := eq_true p614
      replace q614 := eq_true q614
      go_wp2
      go_roundg k1
      case measure => have := HK1.out; omega
      case rel => exact ⟨(Go.bits .and .i64 (wrap64 ((wrap64 ((wrap64 (x3_1 * 149)) + (wrap64 (rd l0 x4_1)))) + 11)) 1073741823), (wrap64 (x4_1 + 1)), (by first | rfl | (simp; done) | (simp [*]; done)), (by first | rfl | (simp; done) | (simp [*]; done)), H', ⟨by have := HK1.out; omega⟩, ⟨by repeat (first | (with_reducible first | exact HBW.out | apply Zf | apply Zd | apply Ze) | exact HBW.out)⟩, ⟨Zs⟩⟩
     rw [if_neg c4] at H
     exact absurd H (by simp)
    rw [if_neg c3] at H
    have c3b0 : decide (x4_1 < 4000) = false := decide_eq_false c3
    clear c3
    simp only [Option.some.injEq, Prod.mk.injEq] at H
    obtain ⟨rfl, rfl, rfl⟩ := H
    go_wp2_with (first | ((with_reducible refine gate_dst (N := 31) rfl ?_); refine box_event ?hg (N := 31) ?hd (cs := #[.slice A0 l0.length c0, .int .i64 0, .int .i64 x3_1]) (t := 99) ?hr ?_; (case hd => rfl); (case hg => rfl); (case hr => first | (go_simp; done) | (go_simp; rfl)); intro gb615 hg w5 hbox hb; replace HB := Zh (Zl Zs hb); have BK615 := Zh (hbox); have GW615 := Zh ((by rw [hg]; exact (below_size (by repeat (first | (with_reducible first | exact HBW.out | apply Zf | apply Zd | apply Ze) | exact HBW.out))) : w.heap.size ≤ gb615)); have GE615 := Zh ((Nat.le_trans HW0.out (by rw [hg]; exact (below_size (by repeat (first | (with_reducible first | exact HBW.out | apply Zf | apply Zd | apply Ze) | exact HBW.out))) : w.heap.size ≤ gb615) : w0.heap.size ≤ gb615)); replace HBW := Zh (Zl HBW.out hb); clear hb hbox hg))
    go_ret
    exact ⟨_, rfl, (show IsS99 w0 _ gb615 l0 0 x3_1 from ⟨_, _, Zk, GE615.out, HR0.out⟩), Zs, by repeat (first | (with_reducible first | exact HBW.out | apply Zf | apply Zd | apply Ze | refine Zg ?_ GW615.out) | exact HBW.out)⟩
   rw [if_neg c2] at H
   have c2b0 : decide (x4_1 < (l0.length : Int)) = false := decide_eq_false c2
   clear c2
   simp only [Option.some.injEq, Prod.mk.injEq] at H
   obtain ⟨rfl, rfl, rfl⟩ := H
   go_wp2_with (first | ((with_reducible refine gate_dst (N := 31) rfl ?_); refine box_event ?hg (N := 31) ?hd (cs := #[.slice A0 l0.length c0, .int .i64 0, .int .i64 x3_1]) (t := 99) ?hr ?_; (case hd => rfl); (case hg => rfl); (case hr => first | (go_simp; done) | (go_simp; rfl)); intro gb616 hg w6 hbox hb; replace HB := Zh (Zl Zs hb); have BK616 := Zh (hbox); have GW616 := Zh ((by rw [hg]; exact (below_size (by repeat (first | (with_reducible first | exact HBW.out | apply Zf | apply Zd | apply Ze) | exact HBW.out))) : w.heap.size ≤ gb616)); have GE616 := Zh ((Nat.le_trans HW0.out (by rw [hg]; exact (below_size (by repeat (first | (with_reducible first | exact HBW.out | apply Zf | apply Zd | apply Ze) | exact HBW.out))) : w.heap.size ≤ gb616) : w0.heap.size ≤ gb616)); replace HBW := Zh (Zl HBW.out hb); clear hb hbox hg))
   go_ret
   exact ⟨_, rfl, (show IsS99 w0 _ gb616 l0 0 x3_1 from ⟨_, _, Zk, GE616.out, HR0.out⟩), Zs, by repeat (first | (with_reducible first | exact HBW.out | apply Zf | apply Zd | apply Ze | refine Zg ?_ GW616.out) | exact HBW.out)⟩
end Go.Proofs.YtcgojdhbphocgaaDoor.F

namespace Go.Proofs.YtcgojdhbphocgaaDoor.F
open Go.RowKit Go.Proofs.YtcgojdhbphocgaaDoorW.PrintWords Go.Proofs.YtcgojdhbphocgaaDoorW.PrintLast Go.Proofs.YtcgojdhbphocgaaDoorW.PrintMore
open Go.Proofs.YtcgojdhbphocgaaDoor
set_option linter.unusedVariables false
set_option linter.unusedSimpArgs false
theorem St_app2 {w0 w : World} {l : List LW.It} {v v1 v2 : Value} {xs : List S55} {y1 y2 : List Int} {F G1 G2 : Nat → Prop} (h : LW.St w0 w l) (q p1 p2 : Nat) (n1 : q ≠ p1) (n2 : q ≠ p2) (n3 : p1 ≠ p2) (hq : l[q]? = some (LW.row k55 55 w0.heap.size v xs F)) (hp1 : l[p1]? = some (LW.row (Kd.int .u8) 5 w0.heap.size v1 y1 G1)) (hp2 : l[p2]? = some (LW.row (Kd.int .u8) 5 w0.heap.size v2 y2 G2)) (s : ByteArray) :
    Kd.S k55 55 w w0.heap.size (fun k => (F k ∨ G1 k ∨ G2 k ∨ w.heap.size ≤ k) ∧ ¬ (G1 k ∨ G2 k)) v xs ∧ k55.M w w0.heap.size (fun k => G1 k ∨ G2 k) (⟨s, y1, y2⟩ : S55) [.string s, v1, v2] ∧ (∀ k, G1 k ∨ G2 k → (F k ∨ G1 k ∨ G2 k ∨ w.heap.size ≤ k) ∧ some k ≠ v.ownBlock) ∧
      ∀ (v' : Value) (w1 : World), Kd.S k55 55 w1 w0.heap.size (fun k => F k ∨ G1 k ∨ G2 k ∨ w.heap.size ≤ k) v' (xs ++ [(⟨s, y1, y2⟩ : S55)]) → Below w0.heap.size w0 w1 → w.grownBy w1 v.ownBlock →
        LW.St w0 w1 (((l.set p1 LW.gone).set p2 LW.gone).set q (LW.row k55 55 w0.heap.size v' (xs ++ [(⟨s, y1, y2⟩ : S55)]) (fun k => (F k ∨ G1 k ∨ G2 k) ∨ (w.heap.size ≤ k ∧ k < w1.heap.size)))) := by
  have hS := h.own q hq
  have hR1 := Kd.S_R (h.own p1 hp1)
  have hR2 := Kd.S_R (h.own p2 hp2)
  have d1 := LW.Its.disj h.i q p1 _ _ n1 hq hp1
  have d2 := LW.Its.disj h.i q p2 _ _ n2 hq hp2
  have d3 := LW.Its.disj h.i p1 p2 _ _ n3 hp1 hp2
  have own : ∀ k, v.ownBlock = some k → F k := (Kd.S_R hS).1
  refine ⟨Kd.S_mono hS (fun k hk => ⟨.inl hk, fun hg => hg.elim (d1 k hk) (d2 k hk)⟩), k55_mkM _ _ _ (⟨s, y1, y2⟩ : S55) (Kd.R_mono hR1 (fun k hk => .inl hk)) (Kd.R_mono hR2 (fun k hk => .inr hk)) (fun k a b => d3 k (hR1.1 k a.symm) (hR2.1 k b.symm)), fun k hk => ⟨hk.elim (fun a => .inr (.inl a)) (fun a => .inr (.inr (.inl a))), fun he => hk.elim (d1 k (own k he.symm)) (d2 k (own k he.symm))⟩, fun v' w1 hS' hB hg => ?_⟩
  have lq : ∀ {x : LW.It} {m : Nat}, q ≠ m → (l.set m x)[q]? = l[q]? := fun hm => List.getElem?_set_ne hm.symm
  have m1 := h.merge q p1 n1 hq hp1 (LW.row k55 55 w0.heap.size v xs (fun k => F k ∨ G1 k)) (fun k hk => hk) (Kd.S_mono hS (fun k hk => .inl hk)) h.b ⟨Nat.le_refl _, fun k _ _ => rfl⟩
  have hql : q < l.length := (List.getElem?_eq_some_iff.1 hq).1
  have hq1 : ((l.set q (LW.row k55 55 w0.heap.size v xs (fun k => F k ∨ G1 k))).set p1 LW.gone)[q]? = some (LW.row k55 55 w0.heap.size v xs (fun k => F k ∨ G1 k)) := by
    rw [List.getElem?_set_ne n1.symm, List.getElem?_set_self hql]
  have hp2' : ((l.set q (LW.row k55 55 w0.heap.size v xs (fun k => F k ∨ G1 k))).set p1 LW.gone)[p2]? = some (LW.row (Kd.int .u8) 5 w0.heap.size v2 y2 G2) := by
    rw [List.getElem?_set_ne n3, List.getElem?_set_ne n2, hp2]
  have m2 := m1.merge q p2 n2 hq1 hp2' (LW.row k55 55 w0.heap.size v xs (fun k => F k ∨ G1 k ∨ G2 k)) (fun k hk => by rcases hk with a | a | a; exact .inl (.inl a); exact .inl (.inr a); exact .inr a) (Kd.S_mono hS (fun k hk => .inl hk)) h.b ⟨Nat.le_refl _, fun k _ _ => rfl⟩
  have hq2 : ((((l.set q (LW.row k55 55 w0.heap.size v xs (fun k => F k ∨ G1 k))).set p1 LW.gone).set q (LW.row k55 55 w0.heap.size v xs (fun k => F k ∨ G1 k ∨ G2 k))).set p2 LW.gone)[q]? = some (LW.row k55 55 w0.heap.size v xs (fun k => F k ∨ G1 k ∨ G2 k)) := by
    rw [List.getElem?_set_ne n2.symm, List.getElem?_set_self (by simpa using hql)]
  have m3 := m2.grow q hq2 (LW.row k55 55 w0.heap.size v' (xs ++ [(⟨s, y1, y2⟩ : S55)]) (fun k => (F k ∨ G1 k ∨ G2 k) ∨ (w.heap.size ≤ k ∧ k < w1.heap.size))) (fun k hk => hk) (Kd.S_mono (Kd.S_bound hS') (fun k hk => by
    rcases hk.1 with a | a | a | a
    · exact .inl (.inl a)
    · exact .inl (.inr (.inl a))
    · exact .inl (.inr (.inr a))
    exact .inr ⟨a, hk.2.2.1⟩)) hB ⟨hg.size, fun k hk hn => hg.block k hk (fun he => hn (.inl (own k he.symm)))⟩
  have e : ((((l.set q (LW.row k55 55 w0.heap.size v xs (fun k => F k ∨ G1 k))).set p1 LW.gone).set q (LW.row k55 55 w0.heap.size v xs (fun k => F k ∨ G1 k ∨ G2 k))).set p2 LW.gone).set q (LW.row k55 55 w0.heap.size v' (xs ++ [(⟨s, y1, y2⟩ : S55)]) (fun k => (F k ∨ G1 k ∨ G2 k) ∨ (w.heap.size ≤ k ∧ k < w1.heap.size))) = ((l.set p1 LW.gone).set p2 LW.gone).set q (LW.row k55 55 w0.heap.size v' (xs ++ [(⟨s, y1, y2⟩ : S55)]) (fun k => (F k ∨ G1 k ∨ G2 k) ∨ (w.heap.size ≤ k ∧ k < w1.heap.size))) := by
    apply List.ext_getElem?
    intro m
    by_cases e0 : q = m
    · subst e0
      rw [List.getElem?_set_self (by simpa using hql), List.getElem?_set_self (by simpa using hql)]
    rw [List.getElem?_set_ne e0, List.getElem?_set_ne e0]
    by_cases e2 : p2 = m
    · subst e2
      by_cases hm : p2 < l.length
      · rw [List.getElem?_set_self (by simpa using hm), List.getElem?_set_self (by simpa using hm)]
      rw [List.getElem?_eq_none (by simpa using Nat.le_of_not_lt hm), List.getElem?_eq_none (by simpa using Nat.le_of_not_lt hm)]
    rw [List.getElem?_set_ne e2, List.getElem?_set_ne e2, List.getElem?_set_ne e0]
    by_cases e1 : p1 = m
    · subst e1
      by_cases hm : p1 < l.length
      · rw [List.getElem?_set_self (by simpa using hm), List.getElem?_set_self (by simpa using hm)]
      rw [List.getElem?_eq_none (by simpa using Nat.le_of_not_lt hm), List.getElem?_eq_none (by simpa using Nat.le_of_not_lt hm)]
    rw [List.getElem?_set_ne e1, List.getElem?_set_ne e1, List.getElem?_set_ne e0]
  rw [e] at m3
  exact m3
end Go.Proofs.YtcgojdhbphocgaaDoor.F
