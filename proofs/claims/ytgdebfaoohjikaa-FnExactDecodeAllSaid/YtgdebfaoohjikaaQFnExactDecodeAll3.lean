/- Merged texts below the law FnExactDecodeAll: Go functions as Lean functions, their contracts, and plain lemmas. -/
import Derived.Test.YtgdebfaoohjikaaQFnExactDecodeAll1
import Derived.Test.YtgdebfaoohjikaaQFnExactDecodeAll2
import Derived.Test.YtgdebfaoohjikaaWMore
import Derived.Test.YtgdebfaoohjikaaWKept
import Derived.Test.YtgdebfaoohjikaaWApart
import Derived.Laws.BitsAllLaws
import Derived.Laws.Bits64
namespace Go.Proofs.Ytgdebfaoohjikaa.F
open Go.RowKit Go.Proofs.YtgdebfaoohjikaaW.PrintWords Go.Proofs.YtgdebfaoohjikaaW.PrintLast Go.Proofs.YtgdebfaoohjikaaW.PrintMore
attribute [local go_sem] max2_int min2_int max_two min_two max_three min_three max_four min_four   -- for this text's walks alone
set_option linter.unusedVariables false
set_option linter.unusedSimpArgs false

/-! ### impl_decode: function 63 -/
mutual
def impl_decode.j0 : Nat → List Int → Bool → Option (Int × List Int × List ByteArray × Bool)
  | 0, _, _ => none
  | k + 1, x0, x24 => if x24 = true then (some (0, ([] : List Int), ([] : List ByteArray), false)) else (if 0 < (x0.length : Int) then (if 1 < (x0.length : Int) then (impl_decode.l0 k x0 2 (rd x0 1) 0 (wrap64 (rd x0 0)) ([] : List Int)) else (none)) else (none))
def impl_decode.l0 : Nat → List Int → Int → Int → Int → Int → List Int → Option (Int × List Int × List ByteArray × Bool)
  | 0, _, _, _, _, _, _ => none
  | k + 1, x0, x5, x33, x34, x388000, x388001 => if x34 < x33 then ((impl_getVar.f k x0 x5).bind fun bt389 => (if bt389.2.2 = true then (if x388001.length < 17592186044416 then (impl_decode.l0 k x0 bt389.2.1 x33 ((x34 + 1) % 256) x388000 (x388001 ++ [bt389.1])) else (none)) else (some (0, ([] : List Int), ([] : List ByteArray), false)))) else (if x5 ≥ (x0.length : Int) then (some (0, ([] : List Int), ([] : List ByteArray), false)) else (if 0 ≤ x5 then (if x5 < (x0.length : Int) then (impl_decode.l1 k x0 (wrap64 (x5 + 1)) (wrap64 (rd x0 x5)) 0 x388000 x388001 ([] : List ByteArray)) else (none)) else (none)))
def impl_decode.l1 : Nat → List Int → Int → Int → Int → Int → List Int → List ByteArray → Option (Int × List Int × List ByteArray × Bool)
  | 0, _, _, _, _, _, _, _ => none
  | k + 1, x0, x5, x66, x67, x388000, x388001, x388002 => if x67 < x66 then (if x5 ≥ (x0.length : Int) then (some (0, ([] : List Int), ([] : List ByteArray), false)) else (if 0 ≤ x5 then (if x5 < (x0.length : Int) then (if (wrap64 ((wrap64 (x5 + 1)) + (wrap64 (rd x0 x5)))) > (x0.length : Int) then (some (0, ([] : List Int), ([] : List ByteArray), false)) else (if 0 ≤ (wrap64 (x5 + 1)) then (if (wrap64 (x5 + 1)) ≤ (wrap64 ((wrap64 (x5 + 1)) + (wrap64 (rd x0 x5)))) then (if (wrap64 ((wrap64 (x5 + 1)) + (wrap64 (rd x0 x5)))) ≤ (x0.length : Int) then (if x388002.length < 8796093022208 then (impl_decode.l1 k x0 (wrap64 ((wrap64 (x5 + 1)) + (wrap64 (rd x0 x5)))) x66 (wrap64 (x67 + 1)) x388000 x388001 (x388002 ++ [strOfNums ((x0.take ((wrap64 ((wrap64 (x5 + 1)) + (wrap64 (rd x0 x5)))) : Int).toNat).drop ((wrap64 (x5 + 1)) : Int).toNat)])) else (none)) else (none)) else (none)) else (none))) else (none)) else (none))) else (if x5 = (x0.length : Int) then ((impl_isRecord.f x388000 x388001 x388002).bind fun t402 => (if t402 = true then (some (x388000, x388001, x388002, true)) else (some (0, ([] : List Int), ([] : List ByteArray), false)))) else (some (0, ([] : List Int), ([] : List ByteArray), false)))
end
def impl_decode.f (k : Nat) (l0 : List Int) : Option (Int × List Int × List ByteArray × Bool) := if (l0.length : Int) < 3 then (impl_decode.j0 k l0 true) else (if (l0.length : Int) > 4000 then (impl_decode.j0 k l0 true) else (if 1 < (l0.length : Int) then (impl_decode.j0 k l0 (decide ((rd l0 1) > 24))) else (none)))
theorem impl_decode.mono_l : ∀ k, (∀ y0 y1, LeO (impl_decode.j0 k y0 y1) (impl_decode.j0 (k + 1) y0 y1)) ∧ (∀ y0 y1 y2 y3 y4 y5, LeO (impl_decode.l0 k y0 y1 y2 y3 y4 y5) (impl_decode.l0 (k + 1) y0 y1 y2 y3 y4 y5)) ∧ (∀ y0 y1 y2 y3 y4 y5 y6, LeO (impl_decode.l1 k y0 y1 y2 y3 y4 y5 y6) (impl_decode.l1 (k + 1) y0 y1 y2 y3 y4 y5 y6))
  | 0 => ⟨fun _ _ r h => by simp [impl_decode.j0] at h, fun _ _ _ _ _ _ r h => by simp [impl_decode.l0] at h, fun _ _ _ _ _ _ _ r h => by simp [impl_decode.l1] at h⟩
  | k + 1 => by
    obtain ⟨ih0, ih1, ih2⟩ := impl_decode.mono_l k
    refine ⟨?_, ?_, ?_⟩
    · intro y0 y1
      unfold impl_decode.j0
      repeat' first
      | (with_reducible exact ih0 _ _)
      | (with_reducible exact ih1 _ _ _ _ _ _)
      | (with_reducible exact ih2 _ _ _ _ _ _ _)
      | (with_reducible exact impl_getVar.mono _ _ _)
      | (with_reducible exact LeO.refl _)
      | (with_reducible exact LeO.none _)
      | (with_reducible refine LeO.ite ?_ ?_)
      | (with_reducible refine LeO.bind ?_ (fun _ => ?_))
      | exact ih0 _ _
      | exact ih1 _ _ _ _ _ _
      | exact ih2 _ _ _ _ _ _ _
      | exact impl_getVar.mono _ _ _
      | exact LeO.none _
      | refine LeO.ite ?_ ?_
      | refine LeO.bind ?_ (fun _ => ?_)
    · intro y0 y1 y2 y3 y4 y5
      unfold impl_decode.l0
      repeat' first
      | (with_reducible exact ih0 _ _)
      | (with_reducible exact ih1 _ _ _ _ _ _)
      | (with_reducible exact ih2 _ _ _ _ _ _ _)
      | (with_reducible exact impl_getVar.mono _ _ _)
      | (with_reducible exact LeO.refl _)
      | (with_reducible exact LeO.none _)
      | (with_reducible refine LeO.ite ?_ ?_)
      | (with_reducible refine LeO.bind ?_ (fun _ => ?_))
      | exact ih0 _ _
      | exact ih1 _ _ _ _ _ _
      | exact ih2 _ _ _ _ _ _ _
      | exact impl_getVar.mono _ _ _
      | exact LeO.none _
      | refine LeO.ite ?_ ?_
      | refine LeO.bind ?_ (fun _ => ?_)
    · intro y0 y1 y2 y3 y4 y5 y6
      unfold impl_decode.l1
      repeat' first
      | (with_reducible exact ih0 _ _)
      | (with_reducible exact ih1 _ _ _ _ _ _)
      | (with_reducible exact ih2 _ _ _ _ _ _ _)
      | (with_reducible exact impl_getVar.mono _ _ _)
      | (with_reducible exact LeO.refl _)
      | (with_reducible exact LeO.none _)
      | (with_reducible refine LeO.ite ?_ ?_)
      | (with_reducible refine LeO.bind ?_ (fun _ => ?_))
      | exact ih0 _ _
      | exact ih1 _ _ _ _ _ _
      | exact ih2 _ _ _ _ _ _ _
      | exact impl_getVar.mono _ _ _
      | exact LeO.none _
      | refine LeO.ite ?_ ?_
      | refine LeO.bind ?_ (fun _ => ?_)
theorem impl_decode.mono : ∀ a0 k, LeO (impl_decode.f k a0) (impl_decode.f (k + 1) a0) := by
  intro a0 k
  obtain ⟨ih0, ih1, ih2⟩ := impl_decode.mono_l k
  unfold impl_decode.f
  repeat' first
      | (with_reducible exact ih0 _ _)
      | (with_reducible exact ih1 _ _ _ _ _ _)
      | (with_reducible exact ih2 _ _ _ _ _ _ _)
      | (with_reducible exact impl_getVar.mono _ _ _)
      | (with_reducible exact LeO.refl _)
      | (with_reducible exact LeO.none _)
      | (with_reducible refine LeO.ite ?_ ?_)
      | (with_reducible refine LeO.bind ?_ (fun _ => ?_))
      | exact ih0 _ _
      | exact ih1 _ _ _ _ _ _
      | exact ih2 _ _ _ _ _ _ _
      | exact impl_getVar.mono _ _ _
      | exact LeO.none _
      | refine LeO.ite ?_ ?_
      | refine LeO.bind ?_ (fun _ => ?_)
def impl_decode.T22 : Bool × List (List Nat × List Nat) := (true, [([], []), ([0], [0]), ([], []), ([], []), ([3], [3]), ([], []), ([2, 4, 5], [2, 4, 5]), ([6], [6]), ([7], [7]), ([1, 8], [1, 8]), ([0, 1, 2, 3, 4, 5, 6, 7, 8, 9], []), ([10, 9, 9, 0, 1, 2, 3, 4, 5, 6, 7, 8, 9], [9, 10])])
def impl_decode.B22 : List Nat := [0, 1, 0, 0, 8, 0, 60, 124, 252, 511, 1023, 2047]
theorem impl_decode.tab22 : rtab .any (opsOf Try.f63 22) = impl_decode.T22 := by kernel_rfl
theorem impl_decode.bits22 : waitsOk impl_decode.T22.2 impl_decode.B22 = true := by kernel_rfl
set_option maxHeartbeats 8000000 in
set_option maxRecDepth 100000 in
theorem impl_decode.calls (k : Nat) (A0 : Option Addr) (c0 : Nat) (l0 : List Int) (r1 : Int) (r2 : List Int) (r3 : List ByteArray) (r4 : Bool) (w : World) (hr0 : Kd.C (Kd.int .u8) w A0 l0.length l0) (hc0 : l0.length ≤ c0) (h : impl_decode.f k l0 = some (r1, r2, r3, r4)) :
    Calls Try.prog 63 #[.slice A0 l0.length c0] w fun e w' => ∃ v1_ v2_ : Value, e = .returned (.tuple #[.agg #[.int .i64 r1, v1_, v2_], .bool r4]) ∧ Kd.R (Kd.int .u64) 23 w' w.heap.size (fun _ => True) v1_ r2 ∧ Kd.R Kd.string 9 w' w.heap.size (fun _ => True) v2_ r3 ∧ Below w.heap.size w w' := by
  have hu42 := Try.underlying42
  have HR0 := Aside0.mk hr0
  have HC0 := Aside0.mk hc0
  clear hr0 hc0
  have HB := Aside0.mk (Below.refl w.heap.size w)
  have H : (if (l0.length : Int) < 3 then (impl_decode.j0 k l0 true) else (if (l0.length : Int) > 4000 then (impl_decode.j0 k l0 true) else (if 1 < (l0.length : Int) then (impl_decode.j0 k l0 (decide ((rd l0 1) > 24))) else (none)))) = some (r1, r2, r3, r4) := h
  clear h
  have HC2 := Aside0.mk H
  clear H
  go_enter Try.func63, Try.ntmps63
  go_upto_region 1 with (first | ((with_reducible refine gate_dst (N := 2) rfl ?_); (try (refine gate_guard (by rfl) ?_; dsimp only)); refine box_event ?hg (N := 2) ?hd (cs := #[.int .i64 0, .slice none 0 0, .slice none 0 0]) (t := 42) ?hr ?_; (case hd => rfl); (case hg => rfl); (case hr => first | (go_simp; done) | (go_simp; rfl)); intro gb384 hg w3 hbox hb; have n0_ := Aside0.mk (below_step (by repeat (first | (with_reducible first | exact HB.out | apply below_alloc | apply pw_below_drewN | apply below_drew1) | exact HB.out)) hb); have n1_ := Aside0.mk (hbox); have n2_ := Aside0.mk ((by rw [hg]; exact (below_size (by repeat (first | (with_reducible first | exact HB.out | apply below_alloc | apply pw_below_drewN | apply below_drew1) | exact HB.out))) : w.heap.size ≤ gb384)); have n3_ := Aside0.mk ((by rw [hg]; exact (below_size (by repeat (first | (with_reducible first | exact HB.out | apply below_alloc | apply pw_below_drewN | apply below_drew1) | exact HB.out))) : w.heap.size ≤ gb384)); clear HB; have HB := n0_; have BK384 := n1_; have GW384 := n2_; have GE384 := n3_; clear n0_ n1_ n2_ n3_; clear hb hbox hg))
  (try simp only [Act.put, List.setIfInBounds_toArray, List.set_cons_zero, List.set_cons_succ])
  go_cut [24] (fun v24 wc => ∃ (kq : Nat) (x24_1 : Bool), v24 = .bool x24_1 ∧ Aside0 (impl_decode.j0 kq l0 x24_1 = some (r1, r2, r3, r4)) ∧ Aside0 (kq ≤ k) ∧ Aside0 (wc.heap[gb384]? = some (.cells #[.int .i64 0, (.slice none 0 0), (.slice none 0 0)] 42 (0, 0))) ∧ Aside0 (Below w.heap.size w wc))
  case first =>
    have H := HC2.out
    clear HC2
    by_cases c4 : (l0.length : Int) < 3
    · rw [if_pos c4] at H
      have c4b0 : decide ((l0.length : Int) < 3) = true := decide_eq_true c4
      have c4b1 : decide (l0.length < 3) = true := decide_eq_true (by omega)
      clear c4
      (first | rw [c4b0] | (simp only [i64_w, i32_w]; rw [c4b0]) | skip)
      have H' := Aside0.mk H
      clear H
      go_wp2
      go_meet
      case rel => exact ⟨_, (true), (by first | rfl | (simp; done) | (simp [*]; done)), H', ⟨by first | omega | exact Nat.le_refl _⟩, ⟨by (with_reducible repeat (first | refine blk_drewN ?_ _ | refine blk_drew ?_ | refine blk_alloc ?_ _)); exact BK384.out⟩, ⟨by repeat (first | (with_reducible first | exact HB.out | apply below_alloc | apply pw_below_drewN | apply below_drew1 | refine below_set ?_ GE384.out) | exact HB.out)⟩⟩
    · rw [if_neg c4] at H
      have c4b0 : decide ((l0.length : Int) < 3) = false := decide_eq_false c4
      have c4b1 : decide (l0.length < 3) = false := decide_eq_false (by omega)
      clear c4
      (first | rw [c4b0] | (simp only [i64_w, i32_w]; rw [c4b0]) | skip)
      by_cases c5 : (l0.length : Int) > 4000
      · rw [if_pos c5] at H
        have c5b0 : decide (4000 < (l0.length : Int)) = true := decide_eq_true c5
        have c5b1 : decide (4000 < l0.length) = true := decide_eq_true (by omega)
        clear c5
        have H' := Aside0.mk H
        clear H
        go_wp2
        go_meet
        case rel => exact ⟨_, (true), (by first | rfl | (simp; done) | (simp [*]; done)), H', ⟨by first | omega | exact Nat.le_refl _⟩, ⟨by (with_reducible repeat (first | refine blk_drewN ?_ _ | refine blk_drew ?_ | refine blk_alloc ?_ _)); exact BK384.out⟩, ⟨by repeat (first | (with_reducible first | exact HB.out | apply below_alloc | apply pw_below_drewN | apply below_drew1 | refine below_set ?_ GE384.out) | exact HB.out)⟩⟩
      · rw [if_neg c5] at H
        have c5b0 : decide (4000 < (l0.length : Int)) = false := decide_eq_false c5
        have c5b1 : decide (4000 < l0.length) = false := decide_eq_false (by omega)
        clear c5
        by_cases c6 : 1 < (l0.length : Int)
        · rw [if_pos c6] at H
          have c6b0 : decide (1 < (l0.length : Int)) = true := decide_eq_true c6
          have c6b1 : decide (1 < l0.length) = true := decide_eq_true (by omega)
          clear c6
          have H' := Aside0.mk H
          clear H
          have p385 : 0 ≤ (1 : Int) := (by omega)
          have q385 : 1 < (l0.length : Int) := of_decide_eq_true (by first | (with_reducible assumption) | assumption)
          obtain ⟨ad385, e385, hx385_0⟩ := Kd.at_int HR0.out 1 p385 q385
          cases e385
          (try simp only [show (1 : Int).toNat = 1 from rfl, Nat.reduceMul, Nat.reduceEqDiff, Go.Addr.add, ↓reduceIte] at hx385_0)
          have qi385 : (1 < l0.length) = True := eq_true (by omega)
          (try rw [show ((1 : Int)).toNat = 1 from rfl] at hx385_0)
          replace hx385_0 := (HB.out.cell (World.block_lt_of_cell? w _ hx385_0)).trans hx385_0
          replace p385 := eq_true p385
          replace q385 := eq_true q385
          go_wp2
          go_meet
          case rel => exact ⟨_, (decide ((rd l0 1) > 24)), (by first | rfl | (simp; done) | (simp [*]; done)), H', ⟨by first | omega | exact Nat.le_refl _⟩, ⟨by (with_reducible repeat (first | refine blk_drewN ?_ _ | refine blk_drew ?_ | refine blk_alloc ?_ _)); exact BK384.out⟩, ⟨by repeat (first | (with_reducible first | exact HB.out | apply below_alloc | apply pw_below_drewN | apply below_drew1 | refine below_set ?_ GE384.out) | exact HB.out)⟩⟩
        · rw [if_neg c6] at H
          exact absurd H (by simp)
  case rest =>
    clear HC2
    try clear p2
    try clear p3
    try clear q3
    try clear hx3
    try clear qi3
    try clear c4
    try clear c4b0
    try clear c4b1
    try clear c5
    try clear c5b0
    try clear c5b1
    try clear c6
    try clear c6b0
    try clear c6b1
    try clear hx385_0
    try clear p385
    try clear q385
    obtain ⟨kq, x24_1, rfl, HA, HJ1, BK384, HB⟩ := hcut
    cases kq with
    | zero => exact absurd HA.out (by simp [impl_decode.j0])
    | succ kj1 =>
      have H := HA.out
      clear HA
      simp only [impl_decode.j0] at H
      by_cases c7 : x24_1 = true
      · subst c7
        have H1 : (some (0, ([] : List Int), ([] : List ByteArray), false)) = some (r1, r2, r3, r4) := by rw [if_pos rfl] at H; exact H
        clear H
        have H := H1
        clear H1
        simp only [Option.some.injEq, Prod.mk.injEq] at H
        obtain ⟨rfl, rfl, rfl, rfl⟩ := H
        have hcz8_0 : wc.cell? ⟨gb384, 0, none⟩ = some (.int .i64 0) := (blk_cell BK384.out 0).trans rfl
        have hcz8_1 : wc.cell? ⟨gb384, 1, none⟩ = some (.slice none 0 0) := (blk_cell BK384.out 1).trans rfl
        have hcz8_2 : wc.cell? ⟨gb384, 2, none⟩ = some (.slice none 0 0) := (blk_cell BK384.out 2).trans rfl
        have hfz8_0 := blk_frozen BK384.out 0
        have hfz8_1 := blk_frozen BK384.out 1
        have hfz8_2 := blk_frozen BK384.out 2
        go_wp2
        refine bodyPost_ret (results_ct rfl _ _ gb384 42 #[.int .i64 0, .slice none 0 0, .slice none 0 0] (0, 0) _ rfl (by (with_reducible repeat (first | refine blk_drewN ?_ _ | refine blk_drew ?_ | refine blk_alloc ?_ _)); refine blk_put (cs := #[.int .i64 0, .slice none 0 0, .slice none 0 0]) ?_ 2 _ rfl; (with_reducible repeat (first | refine blk_drewN ?_ _ | refine blk_drew ?_ | refine blk_alloc ?_ _)); refine blk_put (cs := #[.int .i64 0, .slice none 0 0, .slice none 0 0]) ?_ 1 _ rfl; (with_reducible repeat (first | refine blk_drewN ?_ _ | refine blk_drew ?_ | refine blk_alloc ?_ _)); refine blk_put (cs := #[.int .i64 0, .slice none 0 0, .slice none 0 0]) ?_ 0 _ rfl; (with_reducible repeat (first | refine blk_drewN ?_ _ | refine blk_drew ?_ | refine blk_alloc ?_ _)); exact BK384.out) Try.underlying42 rfl (by kernel_rfl)) rfl ?_
        exact ⟨_, _, by first | rfl | (simp [errW_none, errW_some] <;> rfl) | (simp [*, errW_none, errW_some] <;> rfl), by first | exact Kd.R_nil _ _ _ _ _ | exact Kd.N_nil _ _ _ _ _ | exact Kd.V_nil _ _ _ _ _ | exact Kd.Q_nil _ _ _ _ _ | exact Kd.S_nil _ _ _ _ _, by first | exact Kd.R_nil _ _ _ _ _ | exact Kd.N_nil _ _ _ _ _ | exact Kd.V_nil _ _ _ _ _ | exact Kd.Q_nil _ _ _ _ _ | exact Kd.S_nil _ _ _ _ _, by repeat (first | (with_reducible first | exact HB.out | apply below_alloc | apply pw_below_drewN | apply below_drew1 | refine below_set ?_ GE384.out) | exact HB.out)⟩
      · replace c7 := Bool.eq_false_iff.mpr c7
        subst c7
        have H1 : (if 0 < (l0.length : Int) then (if 1 < (l0.length : Int) then (impl_decode.l0 kj1 l0 2 (rd l0 1) 0 (wrap64 (rd l0 0)) ([] : List Int)) else (none)) else (none)) = some (r1, r2, r3, r4) := by rw [if_neg (show ¬ (false = true) by decide)] at H; exact H
        clear H
        have H := H1
        clear H1
        by_cases c9 : 0 < (l0.length : Int)
        · rw [if_pos c9] at H
          have c9b0 : decide (0 < (l0.length : Int)) = true := decide_eq_true c9
          have c9b1 : decide (0 < l0.length) = true := decide_eq_true (by omega)
          clear c9
          by_cases c10 : 1 < (l0.length : Int)
          · rw [if_pos c10] at H
            have c10b0 : decide (1 < (l0.length : Int)) = true := decide_eq_true c10
            have c10b1 : decide (1 < l0.length) = true := decide_eq_true (by omega)
            clear c10
            have H' := Aside0.mk H
            clear H
            have p386 : 0 ≤ (0 : Int) := (by omega)
            have q386 : 0 < (l0.length : Int) := of_decide_eq_true (by first | (with_reducible assumption) | assumption)
            obtain ⟨ad386, e386, hx386_0⟩ := Kd.at_int HR0.out 0 p386 q386
            cases e386
            have qi386 : (0 < l0.length) = True := eq_true (by omega)
            (try rw [show ((0 : Int)).toNat = 0 from rfl] at hx386_0)
            (try rw [Addr.add_zero'] at hx386_0)
            replace hx386_0 := (HB.out.cell (World.block_lt_of_cell? w _ hx386_0)).trans hx386_0
            replace p386 := eq_true p386
            replace q386 := eq_true q386
            go_wp2_with (first | ((with_reducible refine gate_dst (N := 4) rfl ?_); (try (refine gate_guard (by rfl) ?_; dsimp only)); refine box_event ?hg (N := 4) ?hd (cs := #[.int .i64 0, .slice none 0 0, .slice none 0 0]) (t := 42) ?hr ?_; (case hd => rfl); (case hg => rfl); (case hr => first | (go_simp; done) | (go_simp; rfl)); intro gb387 hg w11 hbox hb; have n0_ := Aside0.mk (blk_below (g := gb384) (o := .cells #[.int .i64 0, .slice none 0 0, .slice none 0 0] 42 (0, 0)) (by (with_reducible repeat (first | refine blk_drewN ?_ _ | refine blk_drew ?_ | refine blk_alloc ?_ _)); exact BK384.out) hb); have n1_ := Aside0.mk (below_step (by repeat (first | (with_reducible first | exact HB.out | apply below_alloc | apply pw_below_drewN | apply below_drew1 | refine below_set ?_ GE384.out) | exact HB.out)) hb); have n2_ := Aside0.mk (hbox); have n3_ := Aside0.mk ((by rw [hg]; exact (below_size (by repeat (first | (with_reducible first | exact HB.out | apply below_alloc | apply pw_below_drewN | apply below_drew1 | refine below_set ?_ GE384.out) | exact HB.out))) : w.heap.size ≤ gb387)); have n4_ := Aside0.mk ((by rw [hg]; exact (below_size (by repeat (first | (with_reducible first | exact HB.out | apply below_alloc | apply pw_below_drewN | apply below_drew1 | refine below_set ?_ GE384.out) | exact HB.out))) : w.heap.size ≤ gb387)); have n5_ := Aside0.mk ((by rw [hg]; exact Nat.ne_of_lt (blk_lt (g := gb384) (o := .cells #[.int .i64 0, .slice none 0 0, .slice none 0 0] 42 (0, 0)) (by (with_reducible repeat (first | refine blk_drewN ?_ _ | refine blk_drew ?_ | refine blk_alloc ?_ _)); exact BK384.out)) : gb384 ≠ gb387)); have n6_ := Aside0.mk ((by rw [hg]; exact Nat.ne_of_gt (blk_lt (g := gb384) (o := .cells #[.int .i64 0, .slice none 0 0, .slice none 0 0] 42 (0, 0)) (by (with_reducible repeat (first | refine blk_drewN ?_ _ | refine blk_drew ?_ | refine blk_alloc ?_ _)); exact BK384.out)) : gb387 ≠ gb384)); clear BK384; clear HB; have BK384 := n0_; have HB := n1_; have BK387 := n2_; have GW387 := n3_; have GE387 := n4_; have NB384_387 := n5_; have NB387_384 := n6_; clear n0_ n1_ n2_ n3_ n4_ n5_ n6_; clear hb hbox hg; have hnb12 := NB387_384.out; have hnc12 := NB384_387.out; have hcz13_0 : w11.cell? ⟨gb387, 0, none⟩ = some (.int .i64 0) := (blk_cell BK387.out 0).trans rfl; have hcz13_1 : w11.cell? ⟨gb387, 1, none⟩ = some (.slice none 0 0) := (blk_cell BK387.out 1).trans rfl; have hcz13_2 : w11.cell? ⟨gb387, 2, none⟩ = some (.slice none 0 0) := (blk_cell BK387.out 2).trans rfl; have hfz13_0 := blk_frozen BK387.out 0; have hfz13_1 := blk_frozen BK387.out 1; have hfz13_2 := blk_frozen BK387.out 2; have p388 : 0 ≤ (1 : Int) := (by omega); have q388 : 1 < (l0.length : Int) := of_decide_eq_true (by first | (with_reducible assumption) | assumption); obtain ⟨ad388, e388, hx388_0⟩ := Kd.at_int HR0.out 1 p388 q388; obtain rfl : ad386 = ad388 := (by injection e388); (try simp only [show (1 : Int).toNat = 1 from rfl, Nat.reduceMul, Nat.reduceEqDiff, Go.Addr.add, ↓reduceIte] at hx388_0); have qi388 : (1 < l0.length) = True := eq_true (by omega); (try rw [show ((1 : Int)).toNat = 1 from rfl] at hx388_0); have hn388_0 : ad386.block ≠ gb387 := Nat.ne_of_lt (Nat.lt_of_lt_of_le (by have := World.block_lt_of_cell? _ _ hx388_0; first | rwa [add_block] at this | exact this) GW387.out); have hn388_1 : ad386.block ≠ gb387 := Nat.ne_of_lt (Nat.lt_of_lt_of_le (by have := World.block_lt_of_cell? _ _ hx388_0; first | rwa [add_block] at this | exact this) GW387.out); have hn388_2 : ad386.block ≠ gb387 := Nat.ne_of_lt (Nat.lt_of_lt_of_le (by have := World.block_lt_of_cell? _ _ hx388_0; first | rwa [add_block] at this | exact this) GW387.out); replace hx388_0 := (HB.out.cell (World.block_lt_of_cell? w _ hx388_0)).trans hx388_0; replace hx388_0 := (cell_far (p := ⟨gb387, 0, none⟩) (by first | (rw [add_block]; exact hn388_0) | (show (Addr.add _ _).block ≠ _; rw [add_block]; exact hn388_0) | exact hn388_0) (.int .i64 (wrap64 (rd l0 0)))).trans hx388_0; replace hx388_0 := (cell_far (p := ⟨gb387, 1, none⟩) (by first | (rw [add_block]; exact hn388_1) | (show (Addr.add _ _).block ≠ _; rw [add_block]; exact hn388_1) | exact hn388_1) (.slice none 0 0)).trans hx388_0; replace hx388_0 := (cell_far (p := ⟨gb387, 2, none⟩) (by first | (rw [add_block]; exact hn388_2) | (show (Addr.add _ _).block ≠ _; rw [add_block]; exact hn388_2) | exact hn388_2) (.slice none 0 0)).trans hx388_0; clear hn388_0; clear hn388_1; clear hn388_2; replace p388 := eq_true p388; replace q388 := eq_true q388))
            go_loopg [5, 34] kj1 (fun kq v5 v34 w' => ∃ (x5_2 : Int) (x34_2 : Int) (x385000_2 : Int) (x388001_2 : List Int) (u388001 : Value), v5 = .int .i64 x5_2 ∧ v34 = .int .u8 x34_2 ∧ Aside0 (impl_decode.l0 kq l0 x5_2 (rd l0 1) x34_2 (wrap64 (rd l0 0)) x388001_2 = some (r1, r2, r3, r4)) ∧ Aside0 (kq ≤ kj1) ∧ Aside0 (Kd.R (Kd.int .u64) 23 w' w.heap.size (fun _ => True) u388001 x388001_2) ∧ Aside0 (w'.heap[gb384]? = some (.cells #[.int .i64 x385000_2, (.slice none 0 0), (.slice none 0 0)] 42 (0, 0))) ∧ Aside0 (w'.heap[gb387]? = some (.cells #[.int .i64 (wrap64 (rd l0 0)), u388001, (.slice none 0 0)] 42 (0, 0))) ∧ Aside0 (Below w.heap.size w w'))
            case atStart => exact ⟨(2), (0), (0), (([] : List Int)), (.slice none 0 0), (by first | rfl | (simp; done) | (simp [*]; done)), (by first | rfl | (simp; done) | (simp [*]; done)), H', ⟨Nat.le_refl _⟩, ⟨by first | exact Kd.R_nil _ _ _ _ _ | exact Kd.N_nil _ _ _ _ _ | exact Kd.V_nil _ _ _ _ _ | exact Kd.Q_nil _ _ _ _ _ | exact Kd.S_nil _ _ _ _ _⟩, ⟨by (with_reducible repeat (first | refine blk_drewN ?_ _ | refine blk_drew ?_ | refine blk_alloc ?_ _)); refine blk_far ?_ NB384_387.out _; (with_reducible repeat (first | refine blk_drewN ?_ _ | refine blk_drew ?_ | refine blk_alloc ?_ _)); refine blk_far ?_ NB384_387.out _; (with_reducible repeat (first | refine blk_drewN ?_ _ | refine blk_drew ?_ | refine blk_alloc ?_ _)); refine blk_far ?_ NB384_387.out _; (with_reducible repeat (first | refine blk_drewN ?_ _ | refine blk_drew ?_ | refine blk_alloc ?_ _)); exact BK384.out⟩, ⟨by (with_reducible repeat (first | refine blk_drewN ?_ _ | refine blk_drew ?_ | refine blk_alloc ?_ _)); refine blk_put (cs := #[.int .i64 (wrap64 (rd l0 0)), .slice none 0 0, .slice none 0 0]) ?_ 2 _ rfl; (with_reducible repeat (first | refine blk_drewN ?_ _ | refine blk_drew ?_ | refine blk_alloc ?_ _)); refine blk_put (cs := #[.int .i64 (wrap64 (rd l0 0)), .slice none 0 0, .slice none 0 0]) ?_ 1 _ rfl; (with_reducible repeat (first | refine blk_drewN ?_ _ | refine blk_drew ?_ | refine blk_alloc ?_ _)); refine blk_put (cs := #[.int .i64 0, .slice none 0 0, .slice none 0 0]) ?_ 0 _ rfl; (with_reducible repeat (first | refine blk_drewN ?_ _ | refine blk_drew ?_ | refine blk_alloc ?_ _)); exact BK387.out⟩, ⟨by repeat (first | (with_reducible first | exact HB.out | apply below_alloc | apply pw_below_drewN | apply below_drew1 | refine below_set ?_ GE384.out | refine below_set ?_ GE387.out) | exact HB.out)⟩⟩
            case round =>
              clear H'
              try clear c1
              try clear p2
              try clear p3
              try clear q3
              try clear hx3
              try clear qi3
              try clear c4
              try clear c4b0
              try clear c4b1
              try clear c5
              try clear c5b0
              try clear c5b1
              try clear c6
              try clear c6b0
              try clear c6b1
              try clear p6
              try clear c7
              try clear c9
              try clear c9b0
              try clear c9b1
              try clear c10
              try clear c10b0
              try clear c10b1
              try clear c12
              try clear hcz13_0
              try clear hcz13_1
              try clear hcz13_2
              try clear hcz8_0
              try clear hcz8_1
              try clear hcz8_2
              try clear hfz13_0
              try clear hfz13_1
              try clear hfz13_2
              try clear hfz8_0
              try clear hfz8_1
              try clear hfz8_2
              try clear hx385_0
              try clear hx386_0
              try clear hx388_0
              try clear p2
              try clear p3
              try clear p385
              try clear p386
              try clear p388
              try clear q3
              try clear q385
              try clear q386
              try clear q388
              obtain ⟨x5_2, x34_2, x385000_2, x388001_2, u388001, rfl, rfl, HA, HK2, HO_388001, BK384, BK387, HB⟩ := hrel
              cases gk with
              | zero => exact absurd HA.out (by simp [impl_decode.l0])
              | succ k2 =>
                have H := HA.out
                clear HA
                simp only [impl_decode.l0] at H
                by_cases c14 : x34_2 < (rd l0 1)
                · rw [if_pos c14] at H
                  have c14b0 : decide (x34_2 < (rd l0 1)) = true := decide_eq_true c14
                  clear c14
                  replace H := Option.bind_eq_some_iff.mp H
                  obtain ⟨⟨t389, t390, t391⟩, A150, H⟩ := H
                  replace H : (if t391 = true then (if x388001_2.length < 17592186044416 then (impl_decode.l0 k2 l0 t390 (rd l0 1) ((x34_2 + 1) % 256) (wrap64 (rd l0 0)) (x388001_2 ++ [t389])) else (none)) else (some (0, ([] : List Int), ([] : List ByteArray), false))) = some (r1, r2, r3, r4) := H
                  have A15 := Aside0.mk A150
                  clear A150
                  by_cases c16 : t391 = true
                  · subst c16
                    have H1 : (if x388001_2.length < 17592186044416 then (impl_decode.l0 k2 l0 t390 (rd l0 1) ((x34_2 + 1) % 256) (wrap64 (rd l0 0)) (x388001_2 ++ [t389])) else (none)) = some (r1, r2, r3, r4) := by rw [if_pos rfl] at H; exact H
                    clear H
                    have H := H1
                    clear H1
                    by_cases c17 : x388001_2.length < 17592186044416
                    · rw [if_pos c17] at H
                      have LMc17 := Aside0.mk c17
                      clear c17
                      obtain ⟨y392, hy392⟩ : ∃ y_ : List Int, y_ = (x388001_2 ++ [t389]) := ⟨_, rfl⟩
                      replace H : (impl_decode.l0 k2 l0 t390 (rd l0 1) ((x34_2 + 1) % 256) (wrap64 (rd l0 0)) y392) = some (r1, r2, r3, r4) := by first | (rw [hy392]; with_reducible exact H) | (have H2_ := (Option.bind_some _ _).symm.trans H; rw [hy392]; with_reducible exact H2_) | (have H2_ := (Option.bind_some _ _).symm.trans H; with_reducible exact H2_) | with_reducible exact H | (rw [hy392]; exact H) | exact H
                      have Ny392 := Aside0.mk hy392
                      clear hy392
                      have H' := Aside0.mk H
                      clear H
                      go_wp2_with (first | ((with_reducible refine gate_callee (f := 51) rfl ?_); refine goesL_ (some 39) rfl rfl Try.func51 (by kernel_rfl) rfl #[.slice (some ad386) l0.length c0, .int .i64 x5_2] rfl (by (try simp only [List.map_toArray, List.map_cons, List.map_nil]); first | done | rfl | (simp only [List.length_drop, List.length_take]; rfl)) ?_; (with_reducible refine (impl_getVar.calls k2 _ _ l0 x5_2 t389 t390 true _ ?side1 ?side2 A15.out).mono ?_); (case side1 => repeat (first | exact (Kd.C_below HR0.out HB.out) | (with_reducible refine Kd.C_alloc ?_ _) | (with_reducible refine Kd.C_drewN ?_ _) | (with_reducible refine Kd.C_drew ?_))); (case side2 => exact HC0.out); rintro e w' ⟨rfl, ⟨nd, rfl⟩⟩; refine ⟨_, rfl, ?_⟩; (try (rw [drewN_self wr]; generalize hq_ : World.drewN wr _ = wr; have n0_ : Aside0 (Kd.R (Kd.int .u64) 23 wr w.heap.size (fun _ => True) u388001 x388001_2) := ⟨by rw [← hq_]; exact (by (with_reducible repeat (first | apply Kd.R_alloc | apply Kd.R_drewN | apply Kd.R_drew)); exact HO_388001.out)⟩; have n1_ : Aside0 (wr.heap[gb384]? = some (.cells #[.int .i64 x385000_2, .slice none 0 0, .slice none 0 0] 42 (0, 0))) := ⟨by rw [← hq_]; exact (by (with_reducible repeat (first | refine blk_drewN ?_ _ | refine blk_drew ?_ | refine blk_alloc ?_ _)); exact BK384.out)⟩; have n2_ : Aside0 (wr.heap[gb387]? = some (.cells #[.int .i64 (wrap64 (rd l0 0)), u388001, .slice none 0 0] 42 (0, 0))) := ⟨by rw [← hq_]; exact (by (with_reducible repeat (first | refine blk_drewN ?_ _ | refine blk_drew ?_ | refine blk_alloc ?_ _)); exact BK387.out)⟩; have n3_ : Aside0 (Below w.heap.size w wr) := ⟨by rw [← hq_]; exact (by repeat (first | (with_reducible first | exact HB.out | apply below_alloc | apply pw_below_drewN | apply below_drew1 | refine below_set ?_ GE384.out | refine below_set ?_ GE387.out) | exact HB.out))⟩; clear HO_388001 BK384 BK387 HB hq_; have HO_388001 := n0_; have BK384 := n1_; have BK387 := n2_; have HB := n3_; clear n0_ n1_ n2_ n3_)); have hnb18 := NB387_384.out; have hnc18 := NB384_387.out; have hcz19_0 : wr.cell? ⟨gb387, 0, none⟩ = some (.int .i64 (wrap64 (rd l0 0))) := (blk_cell BK387.out 0).trans rfl; have hcz19_1 : wr.cell? ⟨gb387, 1, none⟩ = some (u388001) := (blk_cell BK387.out 1).trans rfl; have hcz19_2 : wr.cell? ⟨gb387, 2, none⟩ = some (.slice none 0 0) := (blk_cell BK387.out 2).trans rfl; have hfz19_0 := blk_frozen BK387.out 0; have hfz19_1 := blk_frozen BK387.out 1; have hfz19_2 := blk_frozen BK387.out 2) | ((with_reducible refine gate_builtin (b := .append) (xs := #[.tmp 47, .tmp 49]) rfl ?_); (try (refine gate_guard (by rfl) ?_; dsimp only)); at_builtin; refine Kd.R_append (Kd.int .u64) (w0 := w) w.heap.size rfl (.tmp 47) (.tmp 49) 36 23 (.int .u64 0) 8 rfl Try.underlying36 info23 rfl (by decide) (by omega) u388001 x388001_2 t389 [.int .u64 t389] (fun _ => True) (fun _ => False) rfl rfl ?aP (fun _ hk => hk.elim) ?aF ?aO ?aB ?aS ?aL ?_; (case aP => exact rfl); (case aB => exact (by repeat (first | (with_reducible first | exact HB.out | apply below_alloc | apply pw_below_drewN | apply below_drew1 | refine below_set ?_ GE384.out | refine below_set ?_ GE387.out) | exact HB.out))); (case aF => exact (fun _ _ => trivial)); (case aO => exact (by (with_reducible repeat (first | apply Kd.R_alloc | apply Kd.R_drewN | apply Kd.R_drew)); exact HO_388001.out)); (case aS => exact (below_size (by repeat (first | (with_reducible first | exact HB.out | apply below_alloc | apply pw_below_drewN | apply below_drew1 | refine below_set ?_ GE384.out | refine below_set ?_ GE387.out) | exact HB.out)))); (case aL => have := LMc17.out; omega); intro v393 w20 ho hb hg hat; rw [← Ny392.out] at ho; have n0_ := Aside0.mk (blk_grown (g := gb384) (o := .cells #[.int .i64 x385000_2, .slice none 0 0, .slice none 0 0] 42 (0, 0)) (by (with_reducible repeat (first | refine blk_drewN ?_ _ | refine blk_drew ?_ | refine blk_alloc ?_ _)); exact BK384.out) hg (Kd.R_ne HO_388001.out BK384.out (by decide))); have n1_ := Aside0.mk (blk_grown (g := gb387) (o := .cells #[.int .i64 (wrap64 (rd l0 0)), u388001, .slice none 0 0] 42 (0, 0)) (by (with_reducible repeat (first | refine blk_drewN ?_ _ | refine blk_drew ?_ | refine blk_alloc ?_ _)); exact BK387.out) hg (Kd.R_ne HO_388001.out BK387.out (by decide))); have n2_ := Aside0.mk (hb); have n3_ := Aside0.mk (ho); clear BK384; clear BK387; clear HB; clear HO_388001; have BK384 := n0_; have BK387 := n1_; have HB := n2_; have HO394 := n3_; clear n0_ n1_ n2_ n3_; clear ho hb hg hat; obtain ⟨Ao21, co21, eo21⟩ := Kd.R_slice HO394.out; subst eo21; have hcz22_0 : w20.cell? ⟨gb387, 0, none⟩ = some (.int .i64 (wrap64 (rd l0 0))) := (blk_cell BK387.out 0).trans rfl; have hcz22_1 : w20.cell? ⟨gb387, 1, none⟩ = some (u388001) := (blk_cell BK387.out 1).trans rfl; have hcz22_2 : w20.cell? ⟨gb387, 2, none⟩ = some (.slice none 0 0) := (blk_cell BK387.out 2).trans rfl; have hfz22_0 := blk_frozen BK387.out 0; have hfz22_1 := blk_frozen BK387.out 1; have hfz22_2 := blk_frozen BK387.out 2))
                      go_roundg k2
                      case measure => have := HJ1.out; have := HK2.out; omega
                      case rel => exact ⟨(t390), ((x34_2 + 1) % 256), (x385000_2), (y392), (.slice Ao21 y392.length co21), (by first | rfl | (simp; done) | (simp [*]; done)), (by first | rfl | (simp; done) | (simp [*]; done)), H', ⟨by have := HJ1.out; have := HK2.out; omega⟩, ⟨by (with_reducible repeat (first | apply Kd.R_alloc | apply Kd.R_drewN | apply Kd.R_drew)); exact Kd.R_mono (Kd.R_far (p := ⟨gb387, 1, none⟩) (Kd.R_types HO394.out BK387.out (by decide)) (fun _ hk => hk.2) (.slice Ao21 y392.length co21)) (fun _ hk => trivial)⟩, ⟨by (with_reducible repeat (first | refine blk_drewN ?_ _ | refine blk_drew ?_ | refine blk_alloc ?_ _)); refine blk_far ?_ NB384_387.out _; (with_reducible repeat (first | refine blk_drewN ?_ _ | refine blk_drew ?_ | refine blk_alloc ?_ _)); exact BK384.out⟩, ⟨by (with_reducible repeat (first | refine blk_drewN ?_ _ | refine blk_drew ?_ | refine blk_alloc ?_ _)); refine blk_put (cs := #[.int .i64 (wrap64 (rd l0 0)), u388001, .slice none 0 0]) ?_ 1 _ rfl; (with_reducible repeat (first | refine blk_drewN ?_ _ | refine blk_drew ?_ | refine blk_alloc ?_ _)); exact BK387.out⟩, ⟨by repeat (first | (with_reducible first | exact HB.out | apply below_alloc | apply pw_below_drewN | apply below_drew1 | refine below_set ?_ GE384.out | refine below_set ?_ GE387.out) | exact HB.out)⟩⟩
                    · rw [if_neg c17] at H
                      exact absurd H (by simp)
                  · replace c16 := Bool.eq_false_iff.mpr c16
                    subst c16
                    have H1 : (some (0, ([] : List Int), ([] : List ByteArray), false)) = some (r1, r2, r3, r4) := by rw [if_neg (show ¬ (false = true) by decide)] at H; exact H
                    clear H
                    have H := H1
                    clear H1
                    simp only [Option.some.injEq, Prod.mk.injEq] at H
                    obtain ⟨rfl, rfl, rfl, rfl⟩ := H
                    go_wp2_with (first | ((with_reducible refine gate_callee (f := 51) rfl ?_); refine goesL_ (some 39) rfl rfl Try.func51 (by kernel_rfl) rfl #[.slice (some ad386) l0.length c0, .int .i64 x5_2] rfl (by (try simp only [List.map_toArray, List.map_cons, List.map_nil]); first | done | rfl | (simp only [List.length_drop, List.length_take]; rfl)) ?_; (with_reducible refine (impl_getVar.calls k2 _ _ l0 x5_2 t389 t390 false _ ?side1 ?side2 A15.out).mono ?_); (case side1 => repeat (first | exact (Kd.C_below HR0.out HB.out) | (with_reducible refine Kd.C_alloc ?_ _) | (with_reducible refine Kd.C_drewN ?_ _) | (with_reducible refine Kd.C_drew ?_))); (case side2 => exact HC0.out); rintro e w' ⟨rfl, ⟨nd, rfl⟩⟩; refine ⟨_, rfl, ?_⟩; (try (rw [drewN_self wr]; generalize hq_ : World.drewN wr _ = wr; have n0_ : Aside0 (Kd.R (Kd.int .u64) 23 wr w.heap.size (fun _ => True) u388001 x388001_2) := ⟨by rw [← hq_]; exact (by (with_reducible repeat (first | apply Kd.R_alloc | apply Kd.R_drewN | apply Kd.R_drew)); exact HO_388001.out)⟩; have n1_ : Aside0 (wr.heap[gb384]? = some (.cells #[.int .i64 x385000_2, .slice none 0 0, .slice none 0 0] 42 (0, 0))) := ⟨by rw [← hq_]; exact (by (with_reducible repeat (first | refine blk_drewN ?_ _ | refine blk_drew ?_ | refine blk_alloc ?_ _)); exact BK384.out)⟩; have n2_ : Aside0 (wr.heap[gb387]? = some (.cells #[.int .i64 (wrap64 (rd l0 0)), u388001, .slice none 0 0] 42 (0, 0))) := ⟨by rw [← hq_]; exact (by (with_reducible repeat (first | refine blk_drewN ?_ _ | refine blk_drew ?_ | refine blk_alloc ?_ _)); exact BK387.out)⟩; have n3_ : Aside0 (Below w.heap.size w wr) := ⟨by rw [← hq_]; exact (by repeat (first | (with_reducible first | exact HB.out | apply below_alloc | apply pw_below_drewN | apply below_drew1 | refine below_set ?_ GE384.out | refine below_set ?_ GE387.out) | exact HB.out))⟩; clear HO_388001 BK384 BK387 HB hq_; have HO_388001 := n0_; have BK384 := n1_; have BK387 := n2_; have HB := n3_; clear n0_ n1_ n2_ n3_)); have hnb23 := NB384_387.out; have hnc23 := NB387_384.out; have hcz24_0 : wr.cell? ⟨gb384, 0, none⟩ = some (.int .i64 x385000_2) := (blk_cell BK384.out 0).trans rfl; have hcz24_1 : wr.cell? ⟨gb384, 1, none⟩ = some (.slice none 0 0) := (blk_cell BK384.out 1).trans rfl; have hcz24_2 : wr.cell? ⟨gb384, 2, none⟩ = some (.slice none 0 0) := (blk_cell BK384.out 2).trans rfl; have hfz24_0 := blk_frozen BK384.out 0; have hfz24_1 := blk_frozen BK384.out 1; have hfz24_2 := blk_frozen BK384.out 2))
                    refine bodyPost_ret (results_ct rfl _ _ gb384 42 #[.int .i64 0, .slice none 0 0, .slice none 0 0] (0, 0) _ rfl (by (with_reducible repeat (first | refine blk_drewN ?_ _ | refine blk_drew ?_ | refine blk_alloc ?_ _)); refine blk_put (cs := #[.int .i64 0, .slice none 0 0, .slice none 0 0]) ?_ 2 _ rfl; (with_reducible repeat (first | refine blk_drewN ?_ _ | refine blk_drew ?_ | refine blk_alloc ?_ _)); refine blk_put (cs := #[.int .i64 0, .slice none 0 0, .slice none 0 0]) ?_ 1 _ rfl; (with_reducible repeat (first | refine blk_drewN ?_ _ | refine blk_drew ?_ | refine blk_alloc ?_ _)); refine blk_put (cs := #[.int .i64 x385000_2, .slice none 0 0, .slice none 0 0]) ?_ 0 _ rfl; (with_reducible repeat (first | refine blk_drewN ?_ _ | refine blk_drew ?_ | refine blk_alloc ?_ _)); exact BK384.out) Try.underlying42 rfl (by kernel_rfl)) rfl ?_
                    exact ⟨_, _, by first | rfl | (simp [errW_none, errW_some] <;> rfl) | (simp [*, errW_none, errW_some] <;> rfl), by first | exact Kd.R_nil _ _ _ _ _ | exact Kd.N_nil _ _ _ _ _ | exact Kd.V_nil _ _ _ _ _ | exact Kd.Q_nil _ _ _ _ _ | exact Kd.S_nil _ _ _ _ _, by first | exact Kd.R_nil _ _ _ _ _ | exact Kd.N_nil _ _ _ _ _ | exact Kd.V_nil _ _ _ _ _ | exact Kd.Q_nil _ _ _ _ _ | exact Kd.S_nil _ _ _ _ _, by repeat (first | (with_reducible first | exact HB.out | apply below_alloc | apply pw_below_drewN | apply below_drew1 | refine below_set ?_ GE384.out | refine below_set ?_ GE387.out) | exact HB.out)⟩
                · rw [if_neg c14] at H
                  have c14b0 : decide (x34_2 < (rd l0 1)) = false := decide_eq_false c14
                  clear c14
                  by_cases c25 : x5_2 ≥ (l0.length : Int)
                  · rw [if_pos c25] at H
                    have c25b0 : decide ((l0.length : Int) ≤ x5_2) = true := decide_eq_true c25
                    clear c25
                    simp only [Option.some.injEq, Prod.mk.injEq] at H
                    obtain ⟨rfl, rfl, rfl, rfl⟩ := H
                    have hnb26 := NB384_387.out
                    have hnc26 := NB387_384.out
                    have hcz27_0 : wr.cell? ⟨gb384, 0, none⟩ = some (.int .i64 x385000_2) := (blk_cell BK384.out 0).trans rfl
                    have hcz27_1 : wr.cell? ⟨gb384, 1, none⟩ = some (.slice none 0 0) := (blk_cell BK384.out 1).trans rfl
                    have hcz27_2 : wr.cell? ⟨gb384, 2, none⟩ = some (.slice none 0 0) := (blk_cell BK384.out 2).trans rfl
                    have hfz27_0 := blk_frozen BK384.out 0
                    have hfz27_1 := blk_frozen BK384.out 1
                    have hfz27_2 := blk_frozen BK384.out 2
                    go_wp2
                    refine bodyPost_ret (results_ct rfl _ _ gb384 42 #[.int .i64 0, .slice none 0 0, .slice none 0 0] (0, 0) _ rfl (by (with_reducible repeat (first | refine blk_drewN ?_ _ | refine blk_drew ?_ | refine blk_alloc ?_ _)); refine blk_put (cs := #[.int .i64 0, .slice none 0 0, .slice none 0 0]) ?_ 2 _ rfl; (with_reducible repeat (first | refine blk_drewN ?_ _ | refine blk_drew ?_ | refine blk_alloc ?_ _)); refine blk_put (cs := #[.int .i64 0, .slice none 0 0, .slice none 0 0]) ?_ 1 _ rfl; (with_reducible repeat (first | refine blk_drewN ?_ _ | refine blk_drew ?_ | refine blk_alloc ?_ _)); refine blk_put (cs := #[.int .i64 x385000_2, .slice none 0 0, .slice none 0 0]) ?_ 0 _ rfl; (with_reducible repeat (first | refine blk_drewN ?_ _ | refine blk_drew ?_ | refine blk_alloc ?_ _)); exact BK384.out) Try.underlying42 rfl (by kernel_rfl)) rfl ?_
                    exact ⟨_, _, by first | rfl | (simp [errW_none, errW_some] <;> rfl) | (simp [*, errW_none, errW_some] <;> rfl), by first | exact Kd.R_nil _ _ _ _ _ | exact Kd.N_nil _ _ _ _ _ | exact Kd.V_nil _ _ _ _ _ | exact Kd.Q_nil _ _ _ _ _ | exact Kd.S_nil _ _ _ _ _, by first | exact Kd.R_nil _ _ _ _ _ | exact Kd.N_nil _ _ _ _ _ | exact Kd.V_nil _ _ _ _ _ | exact Kd.Q_nil _ _ _ _ _ | exact Kd.S_nil _ _ _ _ _, by repeat (first | (with_reducible first | exact HB.out | apply below_alloc | apply pw_below_drewN | apply below_drew1 | refine below_set ?_ GE384.out | refine below_set ?_ GE387.out) | exact HB.out)⟩
                  · rw [if_neg c25] at H
                    have c25b0 : decide ((l0.length : Int) ≤ x5_2) = false := decide_eq_false c25
                    clear c25
                    by_cases c28 : 0 ≤ x5_2
                    · rw [if_pos c28] at H
                      have c28b0 : decide (0 ≤ x5_2) = true := decide_eq_true c28
                      clear c28
                      by_cases c29 : x5_2 < (l0.length : Int)
                      · rw [if_pos c29] at H
                        have c29b0 : decide (x5_2 < (l0.length : Int)) = true := decide_eq_true c29
                        clear c29
                        have H' := Aside0.mk H
                        clear H
                        have p395 : 0 ≤ (x5_2 : Int) := of_decide_eq_true (by first | (with_reducible assumption) | assumption)
                        have q395 : x5_2 < (l0.length : Int) := of_decide_eq_true (by first | (with_reducible assumption) | assumption)
                        obtain ⟨ad395, e395, hx395_0⟩ := Kd.at_int HR0.out x5_2 p395 q395
                        obtain rfl : ad386 = ad395 := (by injection e395)
                        replace hx395_0 := (HB.out.cell (World.block_lt_of_cell? w _ hx395_0)).trans hx395_0
                        replace p395 := eq_true p395
                        replace q395 := eq_true q395
                        go_wp2
                        go_loopg [5, 67] k2 (fun kq v5 v67 w' => ∃ (x5_3 : Int) (x67_3 : Int) (x385000_3 : Int) (x388002_3 : List ByteArray) (u388002 : Value), v5 = .int .i64 x5_3 ∧ v67 = .int .i64 x67_3 ∧ Aside0 (impl_decode.l1 kq l0 x5_3 (wrap64 (rd l0 x5_2)) x67_3 (wrap64 (rd l0 0)) x388001_2 x388002_3 = some (r1, r2, r3, r4)) ∧ Aside0 (kq ≤ k2) ∧ Aside0 (Kd.R (Kd.int .u64) 23 w' w.heap.size (fun _ => True) u388001 x388001_2) ∧ Aside0 (Kd.R Kd.string 9 w' w.heap.size (fun _ => True) u388002 x388002_3) ∧ Aside0 (w'.heap[gb384]? = some (.cells #[.int .i64 x385000_3, (.slice none 0 0), (.slice none 0 0)] 42 (0, 0))) ∧ Aside0 (w'.heap[gb387]? = some (.cells #[.int .i64 (wrap64 (rd l0 0)), u388001, u388002] 42 (0, 0))) ∧ Aside0 (Below w.heap.size w w'))
                        case atStart => exact ⟨(wrap64 (x5_2 + 1)), (0), (x385000_2), (([] : List ByteArray)), (.slice none 0 0), (by first | rfl | (simp; done) | (simp [*]; done)), (by first | rfl | (simp; done) | (simp [*]; done)), H', ⟨Nat.le_refl _⟩, ⟨by (with_reducible repeat (first | apply Kd.R_alloc | apply Kd.R_drewN | apply Kd.R_drew)); exact HO_388001.out⟩, ⟨by first | exact Kd.R_nil _ _ _ _ _ | exact Kd.N_nil _ _ _ _ _ | exact Kd.V_nil _ _ _ _ _ | exact Kd.Q_nil _ _ _ _ _ | exact Kd.S_nil _ _ _ _ _⟩, ⟨by (with_reducible repeat (first | refine blk_drewN ?_ _ | refine blk_drew ?_ | refine blk_alloc ?_ _)); exact BK384.out⟩, ⟨by (with_reducible repeat (first | refine blk_drewN ?_ _ | refine blk_drew ?_ | refine blk_alloc ?_ _)); exact BK387.out⟩, ⟨by repeat (first | (with_reducible first | exact HB.out | apply below_alloc | apply pw_below_drewN | apply below_drew1 | refine below_set ?_ GE384.out | refine below_set ?_ GE387.out) | exact HB.out)⟩⟩
                        case round =>
                          clear H'
                          try clear c1
                          try clear c2
                          try clear p2
                          try clear p3
                          try clear q3
                          try clear hx3
                          try clear qi3
                          try clear c4
                          try clear c4b0
                          try clear c4b1
                          try clear c5
                          try clear c5b0
                          try clear c5b1
                          try clear c6
                          try clear c6b0
                          try clear c6b1
                          try clear p6
                          try clear c7
                          try clear c9
                          try clear c9b0
                          try clear c9b1
                          try clear c10
                          try clear c10b0
                          try clear c10b1
                          try clear c12
                          try clear c14
                          try clear c14b0
                          try clear c16
                          try clear c17
                          try clear c18
                          try clear c23
                          try clear c25
                          try clear c25b0
                          try clear c26
                          try clear c28
                          try clear c28b0
                          try clear c29
                          try clear c29b0
                          try clear hcz13_0
                          try clear hcz13_1
                          try clear hcz13_2
                          try clear hcz19_0
                          try clear hcz19_1
                          try clear hcz19_2
                          try clear hcz22_0
                          try clear hcz22_1
                          try clear hcz22_2
                          try clear hcz24_0
                          try clear hcz24_1
                          try clear hcz24_2
                          try clear hcz27_0
                          try clear hcz27_1
                          try clear hcz27_2
                          try clear hcz8_0
                          try clear hcz8_1
                          try clear hcz8_2
                          try clear hfz13_0
                          try clear hfz13_1
                          try clear hfz13_2
                          try clear hfz19_0
                          try clear hfz19_1
                          try clear hfz19_2
                          try clear hfz22_0
                          try clear hfz22_1
                          try clear hfz22_2
                          try clear hfz24_0
                          try clear hfz24_1
                          try clear hfz24_2
                          try clear hfz27_0
                          try clear hfz27_1
                          try clear hfz27_2
                          try clear hfz8_0
                          try clear hfz8_1
                          try clear hfz8_2
                          try clear hx385_0
                          try clear hx386_0
                          try clear hx388_0
                          try clear hx395_0
                          try clear p2
                          try clear p3
                          try clear p385
                          try clear p386
                          try clear p388
                          try clear p395
                          try clear p6
                          try clear q3
                          try clear q385
                          try clear q386
                          try clear q388
                          try clear q395
                          obtain ⟨x5_3, x67_3, x385000_3, x388002_3, u388002, rfl, rfl, HA, HK3, HO_388001, HO_388002, BK384, BK387, HB⟩ := hrel
                          cases gk with
                          | zero => exact absurd HA.out (by simp [impl_decode.l1])
                          | succ k3 =>
                            have H := HA.out
                            clear HA
                            simp only [impl_decode.l1] at H
                            by_cases c30 : x67_3 < (wrap64 (rd l0 x5_2))
                            · rw [if_pos c30] at H
                              have c30b0 : decide (x67_3 < (wrap64 (rd l0 x5_2))) = true := decide_eq_true c30
                              clear c30
                              by_cases c31 : x5_3 ≥ (l0.length : Int)
                              · rw [if_pos c31] at H
                                have c31b0 : decide ((l0.length : Int) ≤ x5_3) = true := decide_eq_true c31
                                clear c31
                                simp only [Option.some.injEq, Prod.mk.injEq] at H
                                obtain ⟨rfl, rfl, rfl, rfl⟩ := H
                                have hnb32 := NB384_387.out
                                have hnc32 := NB387_384.out
                                have hcz33_0 : wr.cell? ⟨gb384, 0, none⟩ = some (.int .i64 x385000_3) := (blk_cell BK384.out 0).trans rfl
                                have hcz33_1 : wr.cell? ⟨gb384, 1, none⟩ = some (.slice none 0 0) := (blk_cell BK384.out 1).trans rfl
                                have hcz33_2 : wr.cell? ⟨gb384, 2, none⟩ = some (.slice none 0 0) := (blk_cell BK384.out 2).trans rfl
                                have hfz33_0 := blk_frozen BK384.out 0
                                have hfz33_1 := blk_frozen BK384.out 1
                                have hfz33_2 := blk_frozen BK384.out 2
                                go_wp2
                                refine bodyPost_ret (results_ct rfl _ _ gb384 42 #[.int .i64 0, .slice none 0 0, .slice none 0 0] (0, 0) _ rfl (by (with_reducible repeat (first | refine blk_drewN ?_ _ | refine blk_drew ?_ | refine blk_alloc ?_ _)); refine blk_put (cs := #[.int .i64 0, .slice none 0 0, .slice none 0 0]) ?_ 2 _ rfl; (with_reducible repeat (first | refine blk_drewN ?_ _ | refine blk_drew ?_ | refine blk_alloc ?_ _)); refine blk_put (cs := #[.int .i64 0, .slice none 0 0, .slice none 0 0]) ?_ 1 _ rfl; (with_reducible repeat (first | refine blk_drewN ?_ _ | refine blk_drew ?_ | refine blk_alloc ?_ _)); refine blk_put (cs := #[.int .i64 x385000_3, .slice none 0 0, .slice none 0 0]) ?_ 0 _ rfl; (with_reducible repeat (first | refine blk_drewN ?_ _ | refine blk_drew ?_ | refine blk_alloc ?_ _)); exact BK384.out) Try.underlying42 rfl (by kernel_rfl)) rfl ?_
                                exact ⟨_, _, by first | rfl | (simp [errW_none, errW_some] <;> rfl) | (simp [*, errW_none, errW_some] <;> rfl), by first | exact Kd.R_nil _ _ _ _ _ | exact Kd.N_nil _ _ _ _ _ | exact Kd.V_nil _ _ _ _ _ | exact Kd.Q_nil _ _ _ _ _ | exact Kd.S_nil _ _ _ _ _, by first | exact Kd.R_nil _ _ _ _ _ | exact Kd.N_nil _ _ _ _ _ | exact Kd.V_nil _ _ _ _ _ | exact Kd.Q_nil _ _ _ _ _ | exact Kd.S_nil _ _ _ _ _, by repeat (first | (with_reducible first | exact HB.out | apply below_alloc | apply pw_below_drewN | apply below_drew1 | refine below_set ?_ GE384.out | refine below_set ?_ GE387.out) | exact HB.out)⟩
                              · rw [if_neg c31] at H
                                have c31b0 : decide ((l0.length : Int) ≤ x5_3) = false := decide_eq_false c31
                                clear c31
                                by_cases c34 : 0 ≤ x5_3
                                · rw [if_pos c34] at H
                                  have c34b0 : decide (0 ≤ x5_3) = true := decide_eq_true c34
                                  clear c34
                                  by_cases c35 : x5_3 < (l0.length : Int)
                                  · rw [if_pos c35] at H
                                    have c35b0 : decide (x5_3 < (l0.length : Int)) = true := decide_eq_true c35
                                    clear c35
                                    by_cases c36 : (wrap64 ((wrap64 (x5_3 + 1)) + (wrap64 (rd l0 x5_3)))) > (l0.length : Int)
                                    · rw [if_pos c36] at H
                                      have c36b0 : decide ((l0.length : Int) < (wrap64 ((wrap64 (x5_3 + 1)) + (wrap64 (rd l0 x5_3))))) = true := decide_eq_true c36
                                      clear c36
                                      simp only [Option.some.injEq, Prod.mk.injEq] at H
                                      obtain ⟨rfl, rfl, rfl, rfl⟩ := H
                                      have p396 : 0 ≤ (x5_3 : Int) := of_decide_eq_true (by first | (with_reducible assumption) | assumption)
                                      have q396 : x5_3 < (l0.length : Int) := of_decide_eq_true (by first | (with_reducible assumption) | assumption)
                                      obtain ⟨ad396, e396, hx396_0⟩ := Kd.at_int HR0.out x5_3 p396 q396
                                      obtain rfl : ad386 = ad396 := (by injection e396)
                                      replace hx396_0 := (HB.out.cell (World.block_lt_of_cell? w _ hx396_0)).trans hx396_0
                                      replace p396 := eq_true p396
                                      replace q396 := eq_true q396
                                      have hnb37 := NB384_387.out
                                      have hnc37 := NB387_384.out
                                      have hcz38_0 : wr.cell? ⟨gb384, 0, none⟩ = some (.int .i64 x385000_3) := (blk_cell BK384.out 0).trans rfl
                                      have hcz38_1 : wr.cell? ⟨gb384, 1, none⟩ = some (.slice none 0 0) := (blk_cell BK384.out 1).trans rfl
                                      have hcz38_2 : wr.cell? ⟨gb384, 2, none⟩ = some (.slice none 0 0) := (blk_cell BK384.out 2).trans rfl
                                      have hfz38_0 := blk_frozen BK384.out 0
                                      have hfz38_1 := blk_frozen BK384.out 1
                                      have hfz38_2 := blk_frozen BK384.out 2
                                      go_wp2
                                      refine bodyPost_ret (results_ct rfl _ _ gb384 42 #[.int .i64 0, .slice none 0 0, .slice none 0 0] (0, 0) _ rfl (by (with_reducible repeat (first | refine blk_drewN ?_ _ | refine blk_drew ?_ | refine blk_alloc ?_ _)); refine blk_put (cs := #[.int .i64 0, .slice none 0 0, .slice none 0 0]) ?_ 2 _ rfl; (with_reducible repeat (first | refine blk_drewN ?_ _ | refine blk_drew ?_ | refine blk_alloc ?_ _)); refine blk_put (cs := #[.int .i64 0, .slice none 0 0, .slice none 0 0]) ?_ 1 _ rfl; (with_reducible repeat (first | refine blk_drewN ?_ _ | refine blk_drew ?_ | refine blk_alloc ?_ _)); refine blk_put (cs := #[.int .i64 x385000_3, .slice none 0 0, .slice none 0 0]) ?_ 0 _ rfl; (with_reducible repeat (first | refine blk_drewN ?_ _ | refine blk_drew ?_ | refine blk_alloc ?_ _)); exact BK384.out) Try.underlying42 rfl (by kernel_rfl)) rfl ?_
                                      exact ⟨_, _, by first | rfl | (simp [errW_none, errW_some] <;> rfl) | (simp [*, errW_none, errW_some] <;> rfl), by first | exact Kd.R_nil _ _ _ _ _ | exact Kd.N_nil _ _ _ _ _ | exact Kd.V_nil _ _ _ _ _ | exact Kd.Q_nil _ _ _ _ _ | exact Kd.S_nil _ _ _ _ _, by first | exact Kd.R_nil _ _ _ _ _ | exact Kd.N_nil _ _ _ _ _ | exact Kd.V_nil _ _ _ _ _ | exact Kd.Q_nil _ _ _ _ _ | exact Kd.S_nil _ _ _ _ _, by repeat (first | (with_reducible first | exact HB.out | apply below_alloc | apply pw_below_drewN | apply below_drew1 | refine below_set ?_ GE384.out | refine below_set ?_ GE387.out) | exact HB.out)⟩
                                    · rw [if_neg c36] at H
                                      have c36b0 : decide ((l0.length : Int) < (wrap64 ((wrap64 (x5_3 + 1)) + (wrap64 (rd l0 x5_3))))) = false := decide_eq_false c36
                                      clear c36
                                      obtain ⟨ji39, hji39⟩ : ∃ j_ : Int, (wrap64 (x5_3 + 1)) = j_ := ⟨_, rfl⟩
                                      replace H : (if 0 ≤ (ji39) then (if (ji39) ≤ (wrap64 ((ji39) + (wrap64 (rd l0 x5_3)))) then (if (wrap64 ((ji39) + (wrap64 (rd l0 x5_3)))) ≤ (l0.length : Int) then (if x388002_3.length < 8796093022208 then (impl_decode.l1 k3 l0 (wrap64 ((ji39) + (wrap64 (rd l0 x5_3)))) (wrap64 (rd l0 x5_2)) (wrap64 (x67_3 + 1)) (wrap64 (rd l0 0)) x388001_2 (x388002_3 ++ [strOfNums ((l0.take ((wrap64 ((ji39) + (wrap64 (rd l0 x5_3)))) : Int).toNat).drop ((ji39) : Int).toNat)])) else (none)) else (none)) else (none)) else (none)) = some (r1, r2, r3, r4) := by first | (rw [hji39] at H; exact H) | (simp only [hji39] at H ⊢; exact H)
                                      (try rw [hji39] at c36b0)
                                      have hji39w : (IntKind.i64.wrap (x5_3 + 1)) = ji39 := (i64_w _).trans hji39
                                      by_cases c40 : 0 ≤ (ji39)
                                      · rw [if_pos c40] at H
                                        have c40b0 := eq_true c40
                                        have c40b1 : decide (0 ≤ (ji39)) = true := decide_eq_true c40
                                        clear c40
                                        by_cases c41 : (ji39) ≤ (wrap64 ((ji39) + (wrap64 (rd l0 x5_3))))
                                        · rw [if_pos c41] at H
                                          have c41b0 := eq_true c41
                                          have c41b1 : decide ((ji39) ≤ (wrap64 ((ji39) + (wrap64 (rd l0 x5_3))))) = true := decide_eq_true c41
                                          by_cases c42 : (wrap64 ((ji39) + (wrap64 (rd l0 x5_3)))) ≤ (l0.length : Int)
                                          · rw [if_pos c42] at H
                                            have c42b0 := eq_true c42
                                            have c42b1 : decide ((wrap64 ((ji39) + (wrap64 (rd l0 x5_3)))) ≤ (l0.length : Int)) = true := decide_eq_true c42
                                            by_cases c43 : x388002_3.length < 8796093022208
                                            · rw [if_pos c43] at H
                                              have LMc43 := Aside0.mk c43
                                              clear c43
                                              obtain ⟨y399, hy399⟩ : ∃ y_ : List ByteArray, y_ = (x388002_3 ++ [strOfNums ((l0.take ((wrap64 ((ji39) + (wrap64 (rd l0 x5_3)))) : Int).toNat).drop ((ji39) : Int).toNat)]) := ⟨_, rfl⟩
                                              replace H : (impl_decode.l1 k3 l0 (wrap64 ((ji39) + (wrap64 (rd l0 x5_3)))) (wrap64 (rd l0 x5_2)) (wrap64 (x67_3 + 1)) (wrap64 (rd l0 0)) x388001_2 y399) = some (r1, r2, r3, r4) := by first | (rw [hy399]; with_reducible exact H) | (have H2_ := (Option.bind_some _ _).symm.trans H; rw [hy399]; with_reducible exact H2_) | (have H2_ := (Option.bind_some _ _).symm.trans H; with_reducible exact H2_) | with_reducible exact H | (rw [hy399]; exact H) | exact H
                                              have Ny399 := Aside0.mk hy399
                                              clear hy399
                                              have H' := Aside0.mk H
                                              clear H
                                              have p396 : 0 ≤ (x5_3 : Int) := of_decide_eq_true (by first | (with_reducible assumption) | assumption)
                                              have q396 : x5_3 < (l0.length : Int) := of_decide_eq_true (by first | (with_reducible assumption) | assumption)
                                              obtain ⟨ad396, e396, hx396_0⟩ := Kd.at_int HR0.out x5_3 p396 q396
                                              obtain rfl : ad386 = ad396 := (by injection e396)
                                              replace hx396_0 := (HB.out.cell (World.block_lt_of_cell? w _ hx396_0)).trans hx396_0
                                              replace p396 := eq_true p396
                                              replace q396 := eq_true q396
                                              have p397 : 0 ≤ (x5_3 : Int) := of_decide_eq_true (by first | (with_reducible assumption) | assumption)
                                              have q397 : x5_3 < (l0.length : Int) := of_decide_eq_true (by first | (with_reducible assumption) | assumption)
                                              obtain ⟨ad397, e397, hx397_0⟩ := Kd.at_int HR0.out x5_3 p397 q397
                                              obtain rfl : ad386 = ad397 := (by injection e397)
                                              replace hx397_0 := (HB.out.cell (World.block_lt_of_cell? w _ hx397_0)).trans hx397_0
                                              replace p397 := eq_true p397
                                              replace q397 := eq_true q397
                                              try go_wp2
                                              have n0_ := Aside0.mk (Kd.R_drew HO_388001.out)
                                              have n1_ := Aside0.mk (Kd.R_drew HO_388002.out)
                                              have n2_ := Aside0.mk (blk_drew BK384.out)
                                              have n3_ := Aside0.mk (blk_drew BK387.out)
                                              have n4_ := Aside0.mk (below_drew1 HB.out)
                                              clear HO_388001
                                              clear HO_388002
                                              clear BK384
                                              clear BK387
                                              clear HB
                                              have HO_388001 := n0_
                                              have HO_388002 := n1_
                                              have BK384 := n2_
                                              have BK387 := n3_
                                              have HB := n4_
                                              clear n0_ n1_ n2_ n3_ n4_
                                              obtain ⟨i045, hi045, _, hsz45, _⟩ := info_parts info5
                                              obtain ⟨A45, hcut45, hA45, hC45⟩ := print_mid_of (P := Try.prog) (Value.int .u8) 0 24 5 .i64 .i64 Try.underlying24 hi045 hsz45 (some ad386) c0 l0 (ji39) (wrap64 ((ji39) + (wrap64 (rd l0 x5_3)))) (of_decide_eq_true (by first | (with_reducible assumption) | assumption)) (by first | omega | exact of_decide_eq_true (by first | (with_reducible assumption) | assumption)) (of_decide_eq_true (by first | (with_reducible assumption) | assumption)) HC0.out
                                              have HR398 := Aside0.mk (Kd.C_of_reads (h1 := fun _ => rfl) (hA45 _ (Kd.reads_of_C HR0.out)))
                                              have HC398 := Aside0.mk hC45
                                              clear hA45 hC45 hi045 hsz45
                                              have hcv46 := Kd.C_string (P := Try.prog) (A := A45) (c := (c0 - (ji39).toNat)) Try.underlying24 Try.underlying5 Try.underlying9 (Kd.C_below HR398.out HB.out)
                                              have hcv46s := hcv46
                                              try simp only [show ((l0.take ((wrap64 ((ji39) + (wrap64 (rd l0 x5_3)))) : Int).toNat).drop ((ji39) : Int).toNat).length = ((wrap64 ((ji39) + (wrap64 (rd l0 x5_3)))) : Int).toNat - ((ji39) : Int).toNat from by have h_ : ((wrap64 ((ji39) + (wrap64 (rd l0 x5_3)))) : Int) ≤ (l0.length : Int) := of_decide_eq_true (by first | (with_reducible assumption) | assumption); rw [List.length_drop, List.length_take]; omega] at hcv46s
                                              have hcv47 := fun (nq_ : Nat) => Kd.C_string (P := Try.prog) (A := A45) (c := (c0 - (ji39).toNat)) Try.underlying24 Try.underlying5 Try.underlying9 (Kd.C_drewN (Kd.C_below HR398.out HB.out) nq_)
                                              have hcv47s := hcv47
                                              try simp only [show ((l0.take ((wrap64 ((ji39) + (wrap64 (rd l0 x5_3)))) : Int).toNat).drop ((ji39) : Int).toNat).length = ((wrap64 ((ji39) + (wrap64 (rd l0 x5_3)))) : Int).toNat - ((ji39) : Int).toNat from by have h_ : ((wrap64 ((ji39) + (wrap64 (rd l0 x5_3)))) : Int) ≤ (l0.length : Int) := of_decide_eq_true (by first | (with_reducible assumption) | assumption); rw [List.length_drop, List.length_take]; omega] at hcv47s
                                              refine start_ (n := 12) (S := fun w' => w'.cell? ⟨gb387, 0, none⟩ = some (.int .i64 (wrap64 (rd l0 0))) ∧ w'.cell? ⟨gb387, 1, none⟩ = some (u388001) ∧ w'.cell? ⟨gb387, 2, none⟩ = some (u388002) ∧ (convert 24 9 (.slice A45 (((wrap64 ((ji39) + (wrap64 (rd l0 x5_3)))) : Int).toNat - ((ji39) : Int).toNat) ((c0 - (ji39).toNat)))).run Try.prog w' = .ok (.string (strOfNums ((l0.take ((wrap64 ((ji39) + (wrap64 (rd l0 x5_3)))) : Int).toNat).drop ((ji39) : Int).toNat))) w') (ds := [11]) #[false, false, false, false, false, false, false, false, false, false, false, false] (by kernel_rfl) rfl rfl ⟨(blk_cell BK387.out 0).trans rfl, (blk_cell BK387.out 1).trans rfl, (blk_cell BK387.out 2).trans rfl, (by have hq_ := fun (W_ : World) (hb_ : Below w.heap.size w W_) => Kd.C_string (P := Try.prog) (A := A45) (c := (c0 - (ji39).toNat)) Try.underlying24 Try.underlying5 Try.underlying9 (Kd.C_below HR398.out hb_); simp only [show ((l0.take ((wrap64 ((ji39) + (wrap64 (rd l0 x5_3)))) : Int).toNat).drop ((ji39) : Int).toNat).length = ((wrap64 ((ji39) + (wrap64 (rd l0 x5_3)))) : Int).toNat - ((ji39) : Int).toNat from by have h_ : ((wrap64 ((ji39) + (wrap64 (rd l0 x5_3)))) : Int) ≤ (l0.length : Int) := of_decide_eq_true (by first | (with_reducible assumption) | assumption); rw [List.length_drop, List.length_take]; omega] at hq_; exact hq_ _ (by repeat (first | (with_reducible first | exact HB.out | apply below_alloc | apply pw_below_drewN | apply below_drew1) | exact HB.out)))⟩ (fun hHeld => ?_); refine with_tabW impl_decode.tab22 impl_decode.bits22 (fun HT_ HW_ => ?_)
                                              generalize wr.drew = w44 at HO_388001 HO_388002 BK384 BK387 HB HR398 hHeld ⊢
                                              refine pure_ (i := 0) (N := some 95) (v := ?_) (a' := ?_) #[true, false, false, false, false, false, false, false, false, false, false, false] rfl rfl (any_of HT_.out (by kernel_rfl)) (fun _ _ _ h => h) (Or.inl ⟨by rfl, ?_⟩) ?_ ?_
                                              rotate_left
                                              · intro w'
                                                go_simp
                                                with_reducible rfl
                                              rotate_left
                                              · simp only [Act.put, List.setIfInBounds_toArray, List.set_cons_zero, List.set_cons_succ, i64_w, i32_w]
                                                rfl
                                              refine pure_ (i := 2) (N := some 97) (v := ?_) (a' := ?_) #[true, false, true, false, false, false, false, false, false, false, false, false] rfl rfl (any_of HT_.out (by kernel_rfl)) (fun _ _ _ h => h) (Or.inl ⟨by rfl, ?_⟩) ?_ ?_
                                              rotate_left
                                              · intro w'
                                                go_simp
                                                with_reducible rfl
                                              rotate_left
                                              · simp only [Act.put, List.setIfInBounds_toArray, List.set_cons_zero, List.set_cons_succ, i64_w, i32_w]
                                                rfl
                                              refine pure_ (i := 3) (N := some 98) (v := ?_) (a' := ?_) #[true, false, true, true, false, false, false, false, false, false, false, false] rfl rfl (any_of HT_.out (by kernel_rfl)) (fun _ _ _ h => h) (Or.inl ⟨by rfl, ?_⟩) ?_ ?_
                                              rotate_left
                                              · intro w'
                                                go_simp
                                                with_reducible rfl
                                              rotate_left
                                              · simp only [Act.put, List.setIfInBounds_toArray, List.set_cons_zero, List.set_cons_succ, i64_w, i32_w]
                                                rfl
                                              refine pure_ (i := 4) (N := some 99) (v := ?_) (a' := ?_) #[true, false, true, true, true, false, false, false, false, false, false, false] rfl rfl (any_of HT_.out (by kernel_rfl)) (fun _ _ _ h => h) (Or.inl ⟨by rfl, ?_⟩) ?_ ?_
                                              rotate_left
                                              · intro w'
                                                go_simp
                                                with_reducible rfl
                                              rotate_left
                                              · simp only [Act.put, List.setIfInBounds_toArray, List.set_cons_zero, List.set_cons_succ, i64_w, i32_w]
                                                rfl
                                              refine pure_ (i := 5) (N := some 100) (v := ?_) (a' := ?_) #[true, false, true, true, true, true, false, false, false, false, false, false] rfl rfl (any_of HT_.out (by kernel_rfl)) (fun _ _ _ h => h) (Or.inl ⟨by rfl, ?_⟩) ?_ ?_
                                              rotate_left
                                              · intro w'
                                                go_simp
                                                with_reducible rfl
                                              rotate_left
                                              · simp only [Act.put, List.setIfInBounds_toArray, List.set_cons_zero, List.set_cons_succ, i64_w, i32_w]
                                                rfl
                                              refine pure_ (i := 6) (N := some 101) (v := ?_) (a' := ?_) #[true, false, true, true, true, true, true, false, false, false, false, false] rfl rfl (any_of HT_.out (by kernel_rfl)) (fun _ _ _ h => h) (Or.inl ⟨by rfl, ?_⟩) ?_ ?_
                                              rotate_left
                                              · intro w'
                                                go_simp
                                                with_reducible rfl
                                              rotate_left
                                              · simp only [Act.put, List.setIfInBounds_toArray, List.set_cons_zero, List.set_cons_succ, i64_w, i32_w]
                                                rfl
                                              refine take_ (i := 7) (N := some 102) (v := ?_) (a' := ?_) #[true, false, true, true, true, true, true, true, false, false, false, false] rfl rfl (take_ofW HT_.out HW_.out (by kernel_rfl)) (fun _ _ _ h => h) (Or.inl ⟨by rfl, ?_⟩) hHeld ?_ ?_
                                              rotate_left
                                              · rintro w' ⟨s0, s1, s2, s3⟩
                                                go_simp
                                                with_reducible rfl
                                              rotate_left
                                              · simp only [Act.put, List.setIfInBounds_toArray, List.set_cons_zero, List.set_cons_succ, i64_w, i32_w]
                                                rfl
                                              refine take_ (i := 1) (N := some 96) (v := ?_) (a' := ?_) #[true, true, true, true, true, true, true, true, false, false, false, false] rfl rfl (take_ofW HT_.out HW_.out (by kernel_rfl)) (fun _ _ _ h => h) (Or.inl ⟨by rfl, ?_⟩) hHeld ?_ ?_
                                              rotate_left
                                              · rintro w' ⟨s0, s1, s2, s3⟩
                                                go_simp
                                                with_reducible rfl
                                              rotate_left
                                              · simp only [Act.put, List.setIfInBounds_toArray, List.set_cons_zero, List.set_cons_succ, i64_w, i32_w]
                                                rfl
                                              refine one_ (i := 8) (N := some 103) #[true, true, true, true, true, true, true, true, true, false, false, false] rfl rfl (one_of HT_.out (by kernel_rfl)) (by decide) (fun K hK => ?_)
                                              refine value_ (w1 := ?_) (v := ?_) (by rfl) rfl ?_ ?_
                                              rotate_left 2
                                              · go_simp
                                                constructor
                                                · rfl
                                                · rfl
                                              refine hK.out _ _ ⟨(blk_cell (blk_alloc BK387.out _) 0).trans rfl, (blk_cell (blk_alloc BK387.out _) 1).trans rfl, (blk_cell (blk_alloc BK387.out _) 2).trans rfl, (by have hq_ := fun (W_ : World) (hb_ : Below w.heap.size w W_) => Kd.C_string (P := Try.prog) (A := A45) (c := (c0 - (ji39).toNat)) Try.underlying24 Try.underlying5 Try.underlying9 (Kd.C_below HR398.out hb_); simp only [show ((l0.take ((wrap64 ((ji39) + (wrap64 (rd l0 x5_3)))) : Int).toNat).drop ((ji39) : Int).toNat).length = ((wrap64 ((ji39) + (wrap64 (rd l0 x5_3)))) : Int).toNat - ((ji39) : Int).toNat from by have h_ : ((wrap64 ((ji39) + (wrap64 (rd l0 x5_3)))) : Int) ≤ (l0.length : Int) := of_decide_eq_true (by first | (with_reducible assumption) | assumption); rw [List.length_drop, List.length_take]; omega] at hq_; exact hq_ _ (by repeat (first | (with_reducible first | exact HB.out | apply below_alloc | apply pw_below_drewN | apply below_drew1) | exact HB.out)))⟩ (fun hHeld => ?_)
                                              clear hK K
                                              refine norm_ (a' := ?_) ?_ ?_
                                              rotate_left
                                              · show Act.put _ (some 103) _ = _
                                                simp only [Act.put, List.setIfInBounds_toArray, List.set_cons_zero, List.set_cons_succ, i64_w, i32_w]
                                                rfl
                                              refine one_ (i := 9) (N := some 104) #[true, true, true, true, true, true, true, true, true, true, false, false] rfl rfl (one_of HT_.out (by kernel_rfl)) (by decide) (fun K hK => ?_)
                                              refine Kd.R_append_step Kd.string (w0 := w) w.heap.size (by rfl) (.tmp 96) (.tmp 103) 37 9 (.string ⟨#[]⟩) 16 rfl Try.underlying37 info9 rfl (by decide) (by omega) u388002 x388002_3 (strOfNums ((l0.take ((wrap64 ((ji39) + (wrap64 (rd l0 x5_3)))) : Int).toNat).drop ((ji39) : Int).toNat)) [.string (strOfNums ((l0.take ((wrap64 ((ji39) + (wrap64 (rd l0 x5_3)))) : Int).toNat).drop ((ji39) : Int).toNat))] (fun _ => True) (fun _ => False) rfl rfl ?aP (fun _ hk => hk.elim) ?aF ?aO ?aB ?aS ?aL ?_
                                              (case aP => exact rfl)
                                              (case aB => exact (by repeat (first | (with_reducible first | exact HB.out | apply below_alloc | apply pw_below_drewN | apply below_drew1 | refine below_set ?_ GE384.out | refine below_set ?_ GE387.out) | exact HB.out)))
                                              (case aF => exact (fun _ _ => trivial))
                                              (case aO => exact (by (with_reducible repeat (first | apply Kd.R_alloc | apply Kd.R_drewN | apply Kd.R_drew)); exact HO_388002.out))
                                              (case aS => exact (below_size (by repeat (first | (with_reducible first | exact HB.out | apply below_alloc | apply pw_below_drewN | apply below_drew1 | refine below_set ?_ GE384.out | refine below_set ?_ GE387.out) | exact HB.out))))
                                              (case aL => have := LMc43.out; omega)
                                              intro v400 w48 ho hb hg hat
                                              rw [← Ny399.out] at ho
                                              have n0_ := Aside0.mk (Kd.R_over' (by (with_reducible repeat (first | apply Kd.R_alloc | apply Kd.R_drewN | apply Kd.R_drew)); exact HO_388001.out) (Kd.R_typed (by (with_reducible repeat (first | apply Kd.R_alloc | apply Kd.R_drewN | apply Kd.R_drew)); exact HO_388002.out)) (by decide) hg)
                                              have n1_ := Aside0.mk (blk_grown (g := gb384) (o := .cells #[.int .i64 x385000_3, .slice none 0 0, .slice none 0 0] 42 (0, 0)) (by (with_reducible repeat (first | refine blk_drewN ?_ _ | refine blk_drew ?_ | refine blk_alloc ?_ _)); exact BK384.out) hg (Kd.R_ne HO_388002.out BK384.out (by decide)))
                                              have n2_ := Aside0.mk (blk_grown (g := gb387) (o := .cells #[.int .i64 (wrap64 (rd l0 0)), u388001, u388002] 42 (0, 0)) (by (with_reducible repeat (first | refine blk_drewN ?_ _ | refine blk_drew ?_ | refine blk_alloc ?_ _)); exact BK387.out) hg (Kd.R_ne HO_388002.out BK387.out (by decide)))
                                              have n3_ := Aside0.mk (hb)
                                              have n4_ := Aside0.mk (ho)
                                              clear HO_388001
                                              clear BK384
                                              clear BK387
                                              clear HB
                                              clear HO_388002
                                              have HO_388001 := n0_
                                              have BK384 := n1_
                                              have BK387 := n2_
                                              have HB := n3_
                                              have HO401 := n4_
                                              clear n0_ n1_ n2_ n3_ n4_
                                              clear ho hb hg hat
                                              obtain ⟨Ao49, co49, eo49⟩ := Kd.R_slice HO401.out
                                              (first | subst eo49 | (injection eo49 with f1_ f2_ f3_; have f4_ := f1_.symm; have f5_ := f3_.symm; clear f1_ f2_ f3_; subst f4_; subst f5_))
                                              refine hK.out _ _ ⟨(blk_cell BK387.out 0).trans rfl, (blk_cell BK387.out 1).trans rfl, (blk_cell BK387.out 2).trans rfl, (by have hq_ := fun (W_ : World) (hb_ : Below w.heap.size w W_) => Kd.C_string (P := Try.prog) (A := A45) (c := (c0 - (ji39).toNat)) Try.underlying24 Try.underlying5 Try.underlying9 (Kd.C_below HR398.out hb_); simp only [show ((l0.take ((wrap64 ((ji39) + (wrap64 (rd l0 x5_3)))) : Int).toNat).drop ((ji39) : Int).toNat).length = ((wrap64 ((ji39) + (wrap64 (rd l0 x5_3)))) : Int).toNat - ((ji39) : Int).toNat from by have h_ : ((wrap64 ((ji39) + (wrap64 (rd l0 x5_3)))) : Int) ≤ (l0.length : Int) := of_decide_eq_true (by first | (with_reducible assumption) | assumption); rw [List.length_drop, List.length_take]; omega] at hq_; exact hq_ _ (by repeat (first | (with_reducible first | exact HB.out | apply below_alloc | apply pw_below_drewN | apply below_drew1) | exact HB.out)))⟩ (fun hHeld => ?_)
                                              clear hK K
                                              refine norm_ (a' := ?_) ?_ ?_
                                              rotate_left
                                              · show Act.put _ (some 104) _ = _
                                                simp only [Act.put, List.setIfInBounds_toArray, List.set_cons_zero, List.set_cons_succ, i64_w, i32_w]
                                                rfl
                                              refine pure_ (i := 10) (N := some 105) (v := ?_) (a' := ?_) #[true, true, true, true, true, true, true, true, true, true, true, false] rfl rfl (any_of HT_.out (by kernel_rfl)) (fun _ _ _ h => h) (Or.inl ⟨by rfl, ?_⟩) ?_ ?_
                                              rotate_left
                                              · intro w'
                                                go_simp
                                                with_reducible rfl
                                              rotate_left
                                              · simp only [Act.put, List.setIfInBounds_toArray, List.set_cons_zero, List.set_cons_succ, i64_w, i32_w]
                                                rfl
                                              refine last_ (i := 11) (N := none) #[true, true, true, true, true, true, true, true, true, true, true, true] rfl rfl (one_of HT_.out (by kernel_rfl)) (by decide) (fun K hK => ?_)
                                              have hs50 : w48.cell? ⟨gb387, 2, none⟩ = some (u388002) := (blk_cell BK387.out 2).trans rfl
                                              have hfs50 := blk_frozen BK387.out 2
                                              have hns50_0 := NB384_387.out
                                              have hms50_0 := NB387_384.out
                                              refine skip_ (w1 := ?_) (by rfl) rfl ?_ ?_
                                              rotate_left
                                              · go_simp
                                                rfl
                                              refine hK.out _ _ ?_
                                              clear hK K
                                              refine done_ (done_of HT_.out (by kernel_rfl)) ?_
                                              try go_wp2
                                              go_roundg k3
                                              case measure => have := HJ1.out; have := HK2.out; have := HK3.out; omega
                                              case rel => exact ⟨(wrap64 ((ji39) + (wrap64 (rd l0 x5_3)))), (wrap64 (x67_3 + 1)), (x385000_3), (y399), (.slice Ao49 y399.length co49), (by first | rfl | (simp; done) | (simp only [← hji39] <;> (first | rfl | simp)) | (simp [*]; done)), (by first | rfl | (simp; done) | (simp [*]; done)), (by first | exact H' | (simp only [hji39]; exact H')), ⟨by have := HJ1.out; have := HK2.out; have := HK3.out; omega⟩, ⟨by (with_reducible repeat (first | apply Kd.R_alloc | apply Kd.R_drewN | apply Kd.R_drew)); exact Kd.R_mono (Kd.R_far (p := ⟨gb387, 2, none⟩) (Kd.R_types HO_388001.out BK387.out (by decide)) (fun _ hk => hk.2) (.slice Ao49 y399.length co49)) (fun _ hk => trivial)⟩, ⟨by (with_reducible repeat (first | apply Kd.R_alloc | apply Kd.R_drewN | apply Kd.R_drew)); exact Kd.R_mono (Kd.R_far (p := ⟨gb387, 2, none⟩) (Kd.R_types HO401.out BK387.out (by decide)) (fun _ hk => hk.2) (.slice Ao49 y399.length co49)) (fun _ hk => trivial)⟩, ⟨by (with_reducible repeat (first | refine blk_drewN ?_ _ | refine blk_drew ?_ | refine blk_alloc ?_ _)); refine blk_far ?_ NB384_387.out _; (with_reducible repeat (first | refine blk_drewN ?_ _ | refine blk_drew ?_ | refine blk_alloc ?_ _)); exact BK384.out⟩, ⟨by (with_reducible repeat (first | refine blk_drewN ?_ _ | refine blk_drew ?_ | refine blk_alloc ?_ _)); refine blk_put (cs := #[.int .i64 (wrap64 (rd l0 0)), u388001, u388002]) ?_ 2 _ rfl; (with_reducible repeat (first | refine blk_drewN ?_ _ | refine blk_drew ?_ | refine blk_alloc ?_ _)); exact BK387.out⟩, ⟨by repeat (first | (with_reducible first | exact HB.out | apply below_alloc | apply pw_below_drewN | apply below_drew1 | refine below_set ?_ GE384.out | refine below_set ?_ GE387.out) | exact HB.out)⟩⟩
                                            · rw [if_neg c43] at H
                                              exact absurd H (by simp)
                                          · rw [if_neg c42] at H
                                            exact absurd H (by simp)
                                        · rw [if_neg c41] at H
                                          exact absurd H (by simp)
                                      · rw [if_neg c40] at H
                                        exact absurd H (by simp)
                                  · rw [if_neg c35] at H
                                    exact absurd H (by simp)
                                · rw [if_neg c34] at H
                                  exact absurd H (by simp)
                            · rw [if_neg c30] at H
                              have c30b0 : decide (x67_3 < (wrap64 (rd l0 x5_2))) = false := decide_eq_false c30
                              clear c30
                              by_cases c51 : x5_3 = (l0.length : Int)
                              · rw [if_pos c51] at H
                                have c51b0 : (x5_3 == (l0.length : Int)) = true := beq_iff_eq.mpr c51
                                have c51b1 : (x5_3 != (l0.length : Int)) = false := bne_eq_false_iff_eq.mpr c51
                                clear c51
                                replace H := Option.bind_eq_some_iff.mp H
                                obtain ⟨t402, A520, H⟩ := H
                                replace H : (if t402 = true then (some ((wrap64 (rd l0 0)), x388001_2, x388002_3, true)) else (some (0, ([] : List Int), ([] : List ByteArray), false))) = some (r1, r2, r3, r4) := H
                                have A52 := Aside0.mk A520
                                clear A520
                                by_cases c53 : t402 = true
                                · subst c53
                                  have H1 : (some ((wrap64 (rd l0 0)), x388001_2, x388002_3, true)) = some (r1, r2, r3, r4) := by rw [if_pos rfl] at H; exact H
                                  clear H
                                  have H := H1
                                  clear H1
                                  simp only [Option.some.injEq, Prod.mk.injEq] at H
                                  obtain ⟨rfl, rfl, rfl, rfl⟩ := H
                                  have hnb54 := NB387_384.out
                                  have hnc54 := NB384_387.out
                                  have hcz55_0 : wr.cell? ⟨gb387, 0, none⟩ = some (.int .i64 (wrap64 (rd l0 0))) := (blk_cell BK387.out 0).trans rfl
                                  have hcz55_1 : wr.cell? ⟨gb387, 1, none⟩ = some (u388001) := (blk_cell BK387.out 1).trans rfl
                                  have hcz55_2 : wr.cell? ⟨gb387, 2, none⟩ = some (u388002) := (blk_cell BK387.out 2).trans rfl
                                  have hfz55_0 := blk_frozen BK387.out 0
                                  have hfz55_1 := blk_frozen BK387.out 1
                                  have hfz55_2 := blk_frozen BK387.out 2
                                  obtain ⟨Ao56, co56, eo56⟩ := Kd.R_slice HO_388001.out
                                  subst eo56
                                  obtain ⟨Ao57, co57, eo57⟩ := Kd.R_slice HO_388002.out
                                  subst eo57
                                  go_wp2_with (first | (go_at_call 56; (with_reducible refine (impl_isRecord.calls (wrap64 (rd l0 0)) _ _ x388001_2 _ _ x388002_3 true _ ?side1 ?side2 ?side3 ?side4 A52.out).mono ?_); (case side1 => repeat (first | exact (Kd.R_reads' HO_388001.out).2.2 | (with_reducible refine Kd.C_alloc ?_ _) | (with_reducible refine Kd.C_drewN ?_ _) | (with_reducible refine Kd.C_drew ?_))); (case side2 => exact (Kd.R_reads' HO_388001.out).2.1); (case side3 => repeat (first | exact (Kd.R_reads' HO_388002.out).2.2 | (with_reducible refine Kd.C_alloc ?_ _) | (with_reducible refine Kd.C_drewN ?_ _) | (with_reducible refine Kd.C_drew ?_))); (case side4 => exact (Kd.R_reads' HO_388002.out).2.1); rintro e w58 ⟨rfl, hb⟩; have n0_ := Aside0.mk (Kd.R_below (by (with_reducible repeat (first | apply Kd.R_alloc | apply Kd.R_drewN | apply Kd.R_drew)); exact HO_388001.out) hb); have n1_ := Aside0.mk (Kd.R_below (by (with_reducible repeat (first | apply Kd.R_alloc | apply Kd.R_drewN | apply Kd.R_drew)); exact HO_388002.out) hb); have n2_ := Aside0.mk (blk_below (g := gb384) (o := .cells #[.int .i64 x385000_3, .slice none 0 0, .slice none 0 0] 42 (0, 0)) (by (with_reducible repeat (first | refine blk_drewN ?_ _ | refine blk_drew ?_ | refine blk_alloc ?_ _)); exact BK384.out) hb); have n3_ := Aside0.mk (blk_below (g := gb387) (o := .cells #[.int .i64 (wrap64 (rd l0 0)), .slice Ao56 x388001_2.length co56, .slice Ao57 x388002_3.length co57] 42 (0, 0)) (by (with_reducible repeat (first | refine blk_drewN ?_ _ | refine blk_drew ?_ | refine blk_alloc ?_ _)); exact BK387.out) hb); have n4_ := Aside0.mk (below_step (by repeat (first | (with_reducible first | exact HB.out | apply below_alloc | apply pw_below_drewN | apply below_drew1 | refine below_set ?_ GE384.out | refine below_set ?_ GE387.out) | exact HB.out)) hb); clear HO_388001; clear HO_388002; clear BK384; clear BK387; clear HB; have HO_388001 := n0_; have HO_388002 := n1_; have BK384 := n2_; have BK387 := n3_; have HB := n4_; clear n0_ n1_ n2_ n3_ n4_; (try clear hb); (try clear hb2); (try clear hk); (try clear hi); have hcz59_0 : w58.cell? ⟨gb387, 0, none⟩ = some (.int .i64 (wrap64 (rd l0 0))) := (blk_cell BK387.out 0).trans rfl; have hcz59_1 : w58.cell? ⟨gb387, 1, none⟩ = some (.slice Ao56 x388001_2.length co56) := (blk_cell BK387.out 1).trans rfl; have hcz59_2 : w58.cell? ⟨gb387, 2, none⟩ = some (.slice Ao57 x388002_3.length co57) := (blk_cell BK387.out 2).trans rfl; have hfz59_0 := blk_frozen BK387.out 0; have hfz59_1 := blk_frozen BK387.out 1; have hfz59_2 := blk_frozen BK387.out 2; have hcz60_0 : w58.cell? ⟨gb384, 0, none⟩ = some (.int .i64 x385000_3) := (blk_cell BK384.out 0).trans rfl; have hcz60_1 : w58.cell? ⟨gb384, 1, none⟩ = some (.slice none 0 0) := (blk_cell BK384.out 1).trans rfl; have hcz60_2 : w58.cell? ⟨gb384, 2, none⟩ = some (.slice none 0 0) := (blk_cell BK384.out 2).trans rfl; have hfz60_0 := blk_frozen BK384.out 0; have hfz60_1 := blk_frozen BK384.out 1; have hfz60_2 := blk_frozen BK384.out 2))
                                  refine bodyPost_ret (results_ct rfl _ _ gb384 42 #[.int .i64 (wrap64 (rd l0 0)), .slice Ao56 x388001_2.length co56, .slice Ao57 x388002_3.length co57] (0, 0) _ rfl (by (with_reducible repeat (first | refine blk_drewN ?_ _ | refine blk_drew ?_ | refine blk_alloc ?_ _)); refine blk_put (cs := #[.int .i64 (wrap64 (rd l0 0)), .slice Ao56 x388001_2.length co56, .slice none 0 0]) ?_ 2 _ rfl; (with_reducible repeat (first | refine blk_drewN ?_ _ | refine blk_drew ?_ | refine blk_alloc ?_ _)); refine blk_put (cs := #[.int .i64 (wrap64 (rd l0 0)), .slice none 0 0, .slice none 0 0]) ?_ 1 _ rfl; (with_reducible repeat (first | refine blk_drewN ?_ _ | refine blk_drew ?_ | refine blk_alloc ?_ _)); refine blk_put (cs := #[.int .i64 x385000_3, .slice none 0 0, .slice none 0 0]) ?_ 0 _ rfl; (with_reducible repeat (first | refine blk_drewN ?_ _ | refine blk_drew ?_ | refine blk_alloc ?_ _)); exact BK384.out) Try.underlying42 rfl (by kernel_rfl)) rfl ?_
                                  exact ⟨_, _, by first | rfl | (simp [errW_none, errW_some] <;> rfl) | (simp [*, errW_none, errW_some] <;> rfl), by (with_reducible repeat (first | apply Kd.R_alloc | apply Kd.R_drewN | apply Kd.R_drew)); exact Kd.R_mono (Kd.R_far (p := ⟨gb384, 2, none⟩) (Kd.R_far (p := ⟨gb384, 1, none⟩) (Kd.R_far (p := ⟨gb384, 0, none⟩) (Kd.R_types HO_388001.out BK384.out (by decide)) (fun _ hk => hk.2) (.int .i64 (wrap64 (rd l0 0)))) (fun _ hk => hk.2) (.slice Ao56 x388001_2.length co56)) (fun _ hk => hk.2) (.slice Ao57 x388002_3.length co57)) (fun _ hk => trivial), by (with_reducible repeat (first | apply Kd.R_alloc | apply Kd.R_drewN | apply Kd.R_drew)); exact Kd.R_mono (Kd.R_far (p := ⟨gb384, 2, none⟩) (Kd.R_far (p := ⟨gb384, 1, none⟩) (Kd.R_far (p := ⟨gb384, 0, none⟩) (Kd.R_types HO_388002.out BK384.out (by decide)) (fun _ hk => hk.2) (.int .i64 (wrap64 (rd l0 0)))) (fun _ hk => hk.2) (.slice Ao56 x388001_2.length co56)) (fun _ hk => hk.2) (.slice Ao57 x388002_3.length co57)) (fun _ hk => trivial), by repeat (first | (with_reducible first | exact HB.out | apply below_alloc | apply pw_below_drewN | apply below_drew1 | refine below_set ?_ GE384.out | refine below_set ?_ GE387.out) | exact HB.out)⟩
                                · replace c53 := Bool.eq_false_iff.mpr c53
                                  subst c53
                                  have H1 : (some (0, ([] : List Int), ([] : List ByteArray), false)) = some (r1, r2, r3, r4) := by rw [if_neg (show ¬ (false = true) by decide)] at H; exact H
                                  clear H
                                  have H := H1
                                  clear H1
                                  simp only [Option.some.injEq, Prod.mk.injEq] at H
                                  obtain ⟨rfl, rfl, rfl, rfl⟩ := H
                                  have hnb61 := NB387_384.out
                                  have hnc61 := NB384_387.out
                                  have hcz62_0 : wr.cell? ⟨gb387, 0, none⟩ = some (.int .i64 (wrap64 (rd l0 0))) := (blk_cell BK387.out 0).trans rfl
                                  have hcz62_1 : wr.cell? ⟨gb387, 1, none⟩ = some (u388001) := (blk_cell BK387.out 1).trans rfl
                                  have hcz62_2 : wr.cell? ⟨gb387, 2, none⟩ = some (u388002) := (blk_cell BK387.out 2).trans rfl
                                  have hfz62_0 := blk_frozen BK387.out 0
                                  have hfz62_1 := blk_frozen BK387.out 1
                                  have hfz62_2 := blk_frozen BK387.out 2
                                  obtain ⟨Ao63, co63, eo63⟩ := Kd.R_slice HO_388001.out
                                  subst eo63
                                  obtain ⟨Ao64, co64, eo64⟩ := Kd.R_slice HO_388002.out
                                  subst eo64
                                  go_wp2_with (first | (go_at_call 56; (with_reducible refine (impl_isRecord.calls (wrap64 (rd l0 0)) _ _ x388001_2 _ _ x388002_3 false _ ?side1 ?side2 ?side3 ?side4 A52.out).mono ?_); (case side1 => repeat (first | exact (Kd.R_reads' HO_388001.out).2.2 | (with_reducible refine Kd.C_alloc ?_ _) | (with_reducible refine Kd.C_drewN ?_ _) | (with_reducible refine Kd.C_drew ?_))); (case side2 => exact (Kd.R_reads' HO_388001.out).2.1); (case side3 => repeat (first | exact (Kd.R_reads' HO_388002.out).2.2 | (with_reducible refine Kd.C_alloc ?_ _) | (with_reducible refine Kd.C_drewN ?_ _) | (with_reducible refine Kd.C_drew ?_))); (case side4 => exact (Kd.R_reads' HO_388002.out).2.1); rintro e w65 ⟨rfl, hb⟩; have n0_ := Aside0.mk (Kd.R_below (by (with_reducible repeat (first | apply Kd.R_alloc | apply Kd.R_drewN | apply Kd.R_drew)); exact HO_388001.out) hb); have n1_ := Aside0.mk (Kd.R_below (by (with_reducible repeat (first | apply Kd.R_alloc | apply Kd.R_drewN | apply Kd.R_drew)); exact HO_388002.out) hb); have n2_ := Aside0.mk (blk_below (g := gb384) (o := .cells #[.int .i64 x385000_3, .slice none 0 0, .slice none 0 0] 42 (0, 0)) (by (with_reducible repeat (first | refine blk_drewN ?_ _ | refine blk_drew ?_ | refine blk_alloc ?_ _)); exact BK384.out) hb); have n3_ := Aside0.mk (blk_below (g := gb387) (o := .cells #[.int .i64 (wrap64 (rd l0 0)), .slice Ao63 x388001_2.length co63, .slice Ao64 x388002_3.length co64] 42 (0, 0)) (by (with_reducible repeat (first | refine blk_drewN ?_ _ | refine blk_drew ?_ | refine blk_alloc ?_ _)); exact BK387.out) hb); have n4_ := Aside0.mk (below_step (by repeat (first | (with_reducible first | exact HB.out | apply below_alloc | apply pw_below_drewN | apply below_drew1 | refine below_set ?_ GE384.out | refine below_set ?_ GE387.out) | exact HB.out)) hb); clear HO_388001; clear HO_388002; clear BK384; clear BK387; clear HB; have HO_388001 := n0_; have HO_388002 := n1_; have BK384 := n2_; have BK387 := n3_; have HB := n4_; clear n0_ n1_ n2_ n3_ n4_; (try clear hb); (try clear hb2); (try clear hk); (try clear hi); have hcz66_0 : w65.cell? ⟨gb384, 0, none⟩ = some (.int .i64 x385000_3) := (blk_cell BK384.out 0).trans rfl; have hcz66_1 : w65.cell? ⟨gb384, 1, none⟩ = some (.slice none 0 0) := (blk_cell BK384.out 1).trans rfl; have hcz66_2 : w65.cell? ⟨gb384, 2, none⟩ = some (.slice none 0 0) := (blk_cell BK384.out 2).trans rfl; have hfz66_0 := blk_frozen BK384.out 0; have hfz66_1 := blk_frozen BK384.out 1; have hfz66_2 := blk_frozen BK384.out 2))
                                  refine bodyPost_ret (results_ct rfl _ _ gb384 42 #[.int .i64 0, .slice none 0 0, .slice none 0 0] (0, 0) _ rfl (by (with_reducible repeat (first | refine blk_drewN ?_ _ | refine blk_drew ?_ | refine blk_alloc ?_ _)); refine blk_put (cs := #[.int .i64 0, .slice none 0 0, .slice none 0 0]) ?_ 2 _ rfl; (with_reducible repeat (first | refine blk_drewN ?_ _ | refine blk_drew ?_ | refine blk_alloc ?_ _)); refine blk_put (cs := #[.int .i64 0, .slice none 0 0, .slice none 0 0]) ?_ 1 _ rfl; (with_reducible repeat (first | refine blk_drewN ?_ _ | refine blk_drew ?_ | refine blk_alloc ?_ _)); refine blk_put (cs := #[.int .i64 x385000_3, .slice none 0 0, .slice none 0 0]) ?_ 0 _ rfl; (with_reducible repeat (first | refine blk_drewN ?_ _ | refine blk_drew ?_ | refine blk_alloc ?_ _)); exact BK384.out) Try.underlying42 rfl (by kernel_rfl)) rfl ?_
                                  exact ⟨_, _, by first | rfl | (simp [errW_none, errW_some] <;> rfl) | (simp [*, errW_none, errW_some] <;> rfl), by first | exact Kd.R_nil _ _ _ _ _ | exact Kd.N_nil _ _ _ _ _ | exact Kd.V_nil _ _ _ _ _ | exact Kd.Q_nil _ _ _ _ _ | exact Kd.S_nil _ _ _ _ _, by first | exact Kd.R_nil _ _ _ _ _ | exact Kd.N_nil _ _ _ _ _ | exact Kd.V_nil _ _ _ _ _ | exact Kd.Q_nil _ _ _ _ _ | exact Kd.S_nil _ _ _ _ _, by repeat (first | (with_reducible first | exact HB.out | apply below_alloc | apply pw_below_drewN | apply below_drew1 | refine below_set ?_ GE384.out | refine below_set ?_ GE387.out) | exact HB.out)⟩
                              · rw [if_neg c51] at H
                                have c51b0 : (x5_3 == (l0.length : Int)) = false := beq_eq_false_iff_ne.mpr c51
                                have c51b1 : (x5_3 != (l0.length : Int)) = true := bne_iff_ne.mpr c51
                                simp only [Option.some.injEq, Prod.mk.injEq] at H
                                obtain ⟨rfl, rfl, rfl, rfl⟩ := H
                                have hnb67 := NB384_387.out
                                have hnc67 := NB387_384.out
                                have hcz68_0 : wr.cell? ⟨gb384, 0, none⟩ = some (.int .i64 x385000_3) := (blk_cell BK384.out 0).trans rfl
                                have hcz68_1 : wr.cell? ⟨gb384, 1, none⟩ = some (.slice none 0 0) := (blk_cell BK384.out 1).trans rfl
                                have hcz68_2 : wr.cell? ⟨gb384, 2, none⟩ = some (.slice none 0 0) := (blk_cell BK384.out 2).trans rfl
                                have hfz68_0 := blk_frozen BK384.out 0
                                have hfz68_1 := blk_frozen BK384.out 1
                                have hfz68_2 := blk_frozen BK384.out 2
                                go_wp2
                                refine bodyPost_ret (results_ct rfl _ _ gb384 42 #[.int .i64 0, .slice none 0 0, .slice none 0 0] (0, 0) _ rfl (by (with_reducible repeat (first | refine blk_drewN ?_ _ | refine blk_drew ?_ | refine blk_alloc ?_ _)); refine blk_put (cs := #[.int .i64 0, .slice none 0 0, .slice none 0 0]) ?_ 2 _ rfl; (with_reducible repeat (first | refine blk_drewN ?_ _ | refine blk_drew ?_ | refine blk_alloc ?_ _)); refine blk_put (cs := #[.int .i64 0, .slice none 0 0, .slice none 0 0]) ?_ 1 _ rfl; (with_reducible repeat (first | refine blk_drewN ?_ _ | refine blk_drew ?_ | refine blk_alloc ?_ _)); refine blk_put (cs := #[.int .i64 x385000_3, .slice none 0 0, .slice none 0 0]) ?_ 0 _ rfl; (with_reducible repeat (first | refine blk_drewN ?_ _ | refine blk_drew ?_ | refine blk_alloc ?_ _)); exact BK384.out) Try.underlying42 rfl (by kernel_rfl)) rfl ?_
                                exact ⟨_, _, by first | rfl | (simp [errW_none, errW_some] <;> rfl) | (simp [*, errW_none, errW_some] <;> rfl), by first | exact Kd.R_nil _ _ _ _ _ | exact Kd.N_nil _ _ _ _ _ | exact Kd.V_nil _ _ _ _ _ | exact Kd.Q_nil _ _ _ _ _ | exact Kd.S_nil _ _ _ _ _, by first | exact Kd.R_nil _ _ _ _ _ | exact Kd.N_nil _ _ _ _ _ | exact Kd.V_nil _ _ _ _ _ | exact Kd.Q_nil _ _ _ _ _ | exact Kd.S_nil _ _ _ _ _, by repeat (first | (with_reducible first | exact HB.out | apply below_alloc | apply pw_below_drewN | apply below_drew1 | refine below_set ?_ GE384.out | refine below_set ?_ GE387.out) | exact HB.out)⟩
                      · rw [if_neg c29] at H
                        exact absurd H (by simp)
                    · rw [if_neg c28] at H
                      exact absurd H (by simp)
          · rw [if_neg c10] at H
            exact absurd H (by simp)
        · rw [if_neg c9] at H
          exact absurd H (by simp)

end Go.Proofs.Ytgdebfaoohjikaa.F

namespace Go.Proofs.Ytgdebfaoohjikaa.F
open Go.RowKit Go.Proofs.YtgdebfaoohjikaaW.PrintWords Go.Proofs.YtgdebfaoohjikaaW.PrintLast Go.Proofs.YtgdebfaoohjikaaW.PrintMore
attribute [local go_sem] max2_int min2_int max_two min_two max_three min_three max_four min_four   -- for this text's walks alone
set_option linter.unusedVariables false
set_option linter.unusedSimpArgs false

/-! ### impl_DecodeAll: function 42 -/
mutual
def impl_DecodeAll.l0 : Nat → List Int → List (S42) → Int → Option ((List (S42)) × Bool)
  | 0, _, _, _ => none
  | k + 1, x0, x4, x5 => if x5 < (x0.length : Int) then ((impl_getVar.f k x0 x5).bind fun bt535 => (if bt535.2.2 = true then (if bt535.1 > (IntKind.u64.wrap (wrap64 ((x0.length : Int) - bt535.2.1))) then (impl_DecodeAll.j1 k x0 x4 bt535.1 bt535.2.1 true) else (impl_DecodeAll.j1 k x0 x4 bt535.1 bt535.2.1 ((x4.length : Int) == 100))) else (impl_DecodeAll.j1 k x0 x4 bt535.1 bt535.2.1 true))) else (some (x4, true))
def impl_DecodeAll.j1 : Nat → List Int → List (S42) → Int → Int → Bool → Option ((List (S42)) × Bool)
  | 0, _, _, _, _, _ => none
  | k + 1, x0, x4, x6, x7, x41 => if x41 = true then (some (([] : List (S42)), false)) else (if 0 ≤ x7 then (if x7 ≤ (wrap64 (x7 + (wrap64 (x6)))) then (if (wrap64 (x7 + (wrap64 (x6)))) ≤ (x0.length : Int) then ((impl_decode.f k ((x0.take ((wrap64 (x7 + (wrap64 (x6)))) : Int).toNat).drop (x7 : Int).toNat)).bind fun bt539 => (if bt539.2.2.2 = true then (if x4.length < 2513169434916 then (impl_DecodeAll.l0 k x0 (x4 ++ [(⟨bt539.1, bt539.2.1, bt539.2.2.1⟩ : S42)]) (wrap64 (x7 + (wrap64 (x6))))) else (none)) else (some (([] : List (S42)), false)))) else (none)) else (none)) else (none))
end
def impl_DecodeAll.f (k : Nat) (l0 : List Int) : Option ((List (S42)) × Bool) := if (l0.length : Int) > 4000 then (some (([] : List (S42)), false)) else (impl_DecodeAll.l0 k l0 (([] : List (S42))) 0)
theorem impl_DecodeAll.mono_l : ∀ k, (∀ y0 y1 y2, LeO (impl_DecodeAll.l0 k y0 y1 y2) (impl_DecodeAll.l0 (k + 1) y0 y1 y2)) ∧ (∀ y0 y1 y2 y3 y4, LeO (impl_DecodeAll.j1 k y0 y1 y2 y3 y4) (impl_DecodeAll.j1 (k + 1) y0 y1 y2 y3 y4))
  | 0 => ⟨fun _ _ _ r h => by simp [impl_DecodeAll.l0] at h, fun _ _ _ _ _ r h => by simp [impl_DecodeAll.j1] at h⟩
  | k + 1 => by
    obtain ⟨ih0, ih1⟩ := impl_DecodeAll.mono_l k
    refine ⟨?_, ?_⟩
    · intro y0 y1 y2
      unfold impl_DecodeAll.l0
      repeat' first
      | (with_reducible exact ih0 _ _ _)
      | (with_reducible exact ih1 _ _ _ _ _)
      | (with_reducible exact impl_decode.mono _ _)
      | (with_reducible exact impl_getVar.mono _ _ _)
      | (with_reducible exact LeO.refl _)
      | (with_reducible exact LeO.none _)
      | (with_reducible refine LeO.ite ?_ ?_)
      | (with_reducible refine LeO.bind ?_ (fun _ => ?_))
      | exact ih0 _ _ _
      | exact ih1 _ _ _ _ _
      | exact impl_decode.mono _ _
      | exact impl_getVar.mono _ _ _
      | exact LeO.none _
      | refine LeO.ite ?_ ?_
      | refine LeO.bind ?_ (fun _ => ?_)
    · intro y0 y1 y2 y3 y4
      unfold impl_DecodeAll.j1
      repeat' first
      | (with_reducible exact ih0 _ _ _)
      | (with_reducible exact ih1 _ _ _ _ _)
      | (with_reducible exact impl_decode.mono _ _)
      | (with_reducible exact impl_getVar.mono _ _ _)
      | (with_reducible exact LeO.refl _)
      | (with_reducible exact LeO.none _)
      | (with_reducible refine LeO.ite ?_ ?_)
      | (with_reducible refine LeO.bind ?_ (fun _ => ?_))
      | exact ih0 _ _ _
      | exact ih1 _ _ _ _ _
      | exact impl_decode.mono _ _
      | exact impl_getVar.mono _ _ _
      | exact LeO.none _
      | refine LeO.ite ?_ ?_
      | refine LeO.bind ?_ (fun _ => ?_)
theorem impl_DecodeAll.mono : ∀ a0 k, LeO (impl_DecodeAll.f k a0) (impl_DecodeAll.f (k + 1) a0) := by
  intro a0 k
  obtain ⟨ih0, ih1⟩ := impl_DecodeAll.mono_l k
  unfold impl_DecodeAll.f
  repeat' first
      | (with_reducible exact ih0 _ _ _)
      | (with_reducible exact ih1 _ _ _ _ _)
      | (with_reducible exact impl_decode.mono _ _)
      | (with_reducible exact impl_getVar.mono _ _ _)
      | (with_reducible exact LeO.refl _)
      | (with_reducible exact LeO.none _)
      | (with_reducible refine LeO.ite ?_ ?_)
      | (with_reducible refine LeO.bind ?_ (fun _ => ?_))
      | exact ih0 _ _ _
      | exact ih1 _ _ _ _ _
      | exact impl_decode.mono _ _
      | exact impl_getVar.mono _ _ _
      | exact LeO.none _
      | refine LeO.ite ?_ ?_
      | refine LeO.bind ?_ (fun _ => ?_)
set_option maxHeartbeats 8000000 in
set_option maxRecDepth 100000 in
theorem impl_DecodeAll.calls (k : Nat) (A0 : Option Addr) (c0 : Nat) (l0 : List Int) (r1 : List (S42)) (r2 : Bool) (w : World) (hr0 : Kd.C (Kd.int .u8) w A0 l0.length l0) (hc0 : l0.length ≤ c0) (h : impl_DecodeAll.f k l0 = some (r1, r2)) :
    Calls Try.prog 42 #[.slice A0 l0.length c0] w fun e w' => ∃ v0_ : Value, e = .returned (.tuple #[v0_, .bool r2]) ∧ Kd.S k42 42 w' w.heap.size (fun _ => True) v0_ r1 ∧ Below w.heap.size w w' := by
  have hu42 := Try.underlying42
  have HR0 := Aside0.mk hr0
  have HC0 := Aside0.mk hc0
  clear hr0 hc0
  have HB := Aside0.mk (Below.refl w.heap.size w)
  have H : (if (l0.length : Int) > 4000 then (some (([] : List (S42)), false)) else (impl_DecodeAll.l0 k l0 (([] : List (S42))) 0)) = some (r1, r2) := h
  clear h
  by_cases c2 : (l0.length : Int) > 4000
  · rw [if_pos c2] at H
    have c2b0 : decide (4000 < (l0.length : Int)) = true := decide_eq_true c2
    have c2b1 : decide (4000 < l0.length) = true := decide_eq_true (by omega)
    clear c2
    simp only [Option.some.injEq, Prod.mk.injEq] at H
    obtain ⟨rfl, rfl⟩ := H
    go_enter Try.func42, Try.ntmps42
    go_wp2
    go_ret2
    exact ⟨_, by first | rfl | (simp [errW_none, errW_some] <;> rfl) | (simp [*, errW_none, errW_some] <;> rfl), by first | exact Kd.S_nil _ _ _ _ _ | exact Kd.N_nil _ _ _ _ _ | exact Kd.V_nil _ _ _ _ _ | exact Kd.Q_nil _ _ _ _ _ | exact Kd.R_nil _ _ _ _ _, by repeat (first | (with_reducible first | exact HB.out | apply below_alloc | apply pw_below_drewN | apply below_drew1) | exact HB.out)⟩
  · rw [if_neg c2] at H
    have c2b0 : decide (4000 < (l0.length : Int)) = false := decide_eq_false c2
    have c2b1 : decide (4000 < l0.length) = false := decide_eq_false (by omega)
    clear c2
    obtain ⟨y532, hy532⟩ : ∃ y_ : List (S42), y_ = (([] : List (S42))) := ⟨_, rfl⟩
    replace H : (impl_DecodeAll.l0 k l0 y532 0) = some (r1, r2) := by first | (rw [hy532]; with_reducible exact H) | (have H2_ := (Option.bind_some _ _).symm.trans H; rw [hy532]; with_reducible exact H2_) | (have H2_ := (Option.bind_some _ _).symm.trans H; with_reducible exact H2_) | with_reducible exact H | (rw [hy532]; exact H) | exact H
    have Ny532 := Aside0.mk hy532
    clear hy532
    have H' := Aside0.mk H
    clear H
    go_enter Try.func42, Try.ntmps42
    go_wp2_with (first | ((with_reducible refine gate_dst (N := 14) rfl ?_); (try (refine gate_guard (by rfl) ?_; dsimp only)); refine Kd.S_lit k42 _ 42 ?hg (N := 14) ?hd (xs := ([] : List (S42))) (inner := []) (ok := fun _ => True) (okp := fun _ => True) ?hr ?hp (fun _ hk => hk) trivial (Below.refl _ _) (Nat.le_refl _) (by simp) ?_; (case hd => rfl); (case hg => rfl); (case hr => first | (go_simp; done) | (go_simp; rfl)); (case hp => exact (Reps.none _ _)); intro v533 w3 ho4 hb hg_ hnew_; clear hg_ hnew_; (first | rw [← Ny532.out] at ho4 | (simp only [Int.reduceToNat] at ho4; rw [← Ny532.out] at ho4)); have n0_ := Aside0.mk (Kd.S_lower ho4 (below_size (by repeat (first | (with_reducible first | exact HB.out | apply below_alloc | apply pw_below_drewN | apply below_drew1) | exact HB.out)))); have n1_ := Aside0.mk (below_step (by repeat (first | (with_reducible first | exact HB.out | apply below_alloc | apply pw_below_drewN | apply below_drew1) | exact HB.out)) hb); clear HB; have HO534 := n0_; have HB := n1_; clear n0_ n1_; clear hb ho4))
    go_loopg [4, 5] k (fun kq v4 v5 w' => ∃ (x4_1 : List (S42)) (x5_1 : Int), v5 = .int .i64 x5_1 ∧ Aside0 (impl_DecodeAll.l0 kq l0 x4_1 x5_1 = some (r1, r2)) ∧ Aside0 (kq ≤ k) ∧ Aside0 (Kd.S k42 42 w' w.heap.size (fun _ => True) v4 x4_1) ∧ Aside0 (Below w.heap.size w w'))
    case atStart => exact ⟨(y532), (0), (by first | rfl | (simp; done) | (simp [*]; done)), H', ⟨Nat.le_refl _⟩, ⟨by (with_reducible repeat (first | apply Kd.S_alloc | apply Kd.S_drewN | apply Kd.S_drew)); exact HO534.out⟩, ⟨by repeat (first | (with_reducible first | exact HB.out | apply below_alloc | apply pw_below_drewN | apply below_drew1) | exact HB.out)⟩⟩
    case round =>
      clear H'
      try clear c2
      try clear c2b0
      try clear c2b1
      try clear p2
      try clear c4
      obtain ⟨x4_1, x5_1, rfl, HA, HK1, HO_4, HB⟩ := hrel
      cases gk with
      | zero => exact absurd HA.out (by simp [impl_DecodeAll.l0])
      | succ k1 =>
        have H := HA.out
        clear HA
        simp only [impl_DecodeAll.l0] at H
        by_cases c5 : x5_1 < (l0.length : Int)
        · rw [if_pos c5] at H
          have c5b0 : decide (x5_1 < (l0.length : Int)) = true := decide_eq_true c5
          clear c5
          replace H := Option.bind_eq_some_iff.mp H
          obtain ⟨⟨t535, t536, t537⟩, A60, H⟩ := H
          replace H : (if t537 = true then (if t535 > (IntKind.u64.wrap (wrap64 ((l0.length : Int) - t536))) then (impl_DecodeAll.j1 k1 l0 x4_1 t535 t536 true) else (impl_DecodeAll.j1 k1 l0 x4_1 t535 t536 ((x4_1.length : Int) == 100))) else (impl_DecodeAll.j1 k1 l0 x4_1 t535 t536 true)) = some (r1, r2) := H
          have A6 := Aside0.mk A60
          clear A60
          have HC7 := Aside0.mk H
          clear H
          go_upto_region 7 with (first | ((with_reducible refine gate_callee (f := 51) rfl ?_); refine goesL_ (some 22) rfl rfl Try.func51 (by kernel_rfl) rfl #[.slice A0 l0.length c0, .int .i64 x5_1] rfl (by (try simp only [List.map_toArray, List.map_cons, List.map_nil]); first | done | rfl | (simp only [List.length_drop, List.length_take]; rfl)) ?_; (with_reducible refine (impl_getVar.calls k1 _ _ l0 x5_1 t535 t536 t537 _ ?side1 ?side2 A6.out).mono ?_); (case side1 => repeat (first | exact (Kd.C_below HR0.out HB.out) | (with_reducible refine Kd.C_alloc ?_ _) | (with_reducible refine Kd.C_drewN ?_ _) | (with_reducible refine Kd.C_drew ?_))); (case side2 => exact HC0.out); rintro e w' ⟨rfl, ⟨nd, rfl⟩⟩; refine ⟨_, rfl, ?_⟩))
          (try simp only [Act.put, List.setIfInBounds_toArray, List.set_cons_zero, List.set_cons_succ])
          go_cut [41] (fun v41 wc => ∃ (kq : Nat) (x41_6 : Bool), v41 = .bool x41_6 ∧ Aside0 (impl_DecodeAll.j1 kq l0 x4_1 t535 t536 x41_6 = some (r1, r2)) ∧ Aside0 (kq ≤ k1) ∧ Aside0 (Kd.S k42 42 wc w.heap.size (fun _ => True) u4 x4_1) ∧ Aside0 (Below w.heap.size w wc))
          case first =>
            have H := HC7.out
            clear HC7
            by_cases c8 : t537 = true
            · subst c8
              have H1 : (if t535 > (IntKind.u64.wrap (wrap64 ((l0.length : Int) - t536))) then (impl_DecodeAll.j1 k1 l0 x4_1 t535 t536 true) else (impl_DecodeAll.j1 k1 l0 x4_1 t535 t536 ((x4_1.length : Int) == 100))) = some (r1, r2) := by rw [if_pos rfl] at H; exact H
              clear H
              have H := H1
              clear H1
              by_cases c9 : t535 > (IntKind.u64.wrap (wrap64 ((l0.length : Int) - t536)))
              · rw [if_pos c9] at H
                have c9b0 : decide ((IntKind.u64.wrap (wrap64 ((l0.length : Int) - t536))) < t535) = true := decide_eq_true c9
                clear c9
                (first | rw [c9b0] | (simp only [i64_w, i32_w]; rw [c9b0]) | skip)
                have H' := Aside0.mk H
                clear H
                go_wp2
                go_meet
                case rel => exact ⟨_, (true), (by first | rfl | (simp; done) | (simp [*]; done)), H', ⟨by have := HK1.out; first | omega | exact Nat.le_refl _⟩, ⟨by (with_reducible repeat (first | apply Kd.S_alloc | apply Kd.S_drewN | apply Kd.S_drew)); exact HO_4.out⟩, ⟨by repeat (first | (with_reducible first | exact HB.out | apply below_alloc | apply pw_below_drewN | apply below_drew1) | exact HB.out)⟩⟩
              · rw [if_neg c9] at H
                have c9b0 : decide ((IntKind.u64.wrap (wrap64 ((l0.length : Int) - t536))) < t535) = false := decide_eq_false c9
                clear c9
                (first | rw [c9b0] | (simp only [i64_w, i32_w]; rw [c9b0]) | skip)
                have H' := Aside0.mk H
                clear H
                obtain ⟨Ao10, co10, eo10⟩ := Kd.S_slice HO_4.out
                subst eo10
                go_wp2
                go_meet
                case rel => exact ⟨_, (((x4_1.length : Int) == 100)), (by first | rfl | (simp; done) | (simp [*]; done)), H', ⟨by have := HK1.out; first | omega | exact Nat.le_refl _⟩, ⟨by (with_reducible repeat (first | apply Kd.S_alloc | apply Kd.S_drewN | apply Kd.S_drew)); exact HO_4.out⟩, ⟨by repeat (first | (with_reducible first | exact HB.out | apply below_alloc | apply pw_below_drewN | apply below_drew1) | exact HB.out)⟩⟩
            · replace c8 := Bool.eq_false_iff.mpr c8
              subst c8
              have H1 : (impl_DecodeAll.j1 k1 l0 x4_1 t535 t536 true) = some (r1, r2) := by rw [if_neg (show ¬ (false = true) by decide)] at H; exact H
              clear H
              have H := H1
              clear H1
              have H' := Aside0.mk H
              clear H
              go_wp2
              go_meet
              case rel => exact ⟨_, (true), (by first | rfl | (simp; done) | (simp [*]; done)), H', ⟨by have := HK1.out; first | omega | exact Nat.le_refl _⟩, ⟨by (with_reducible repeat (first | apply Kd.S_alloc | apply Kd.S_drewN | apply Kd.S_drew)); exact HO_4.out⟩, ⟨by repeat (first | (with_reducible first | exact HB.out | apply below_alloc | apply pw_below_drewN | apply below_drew1) | exact HB.out)⟩⟩
          case rest =>
            clear HC7
            try clear c2
            try clear c2b0
            try clear c2b1
            try clear p2
            try clear c4
            try clear c5
            try clear c5b0
            try clear p6
            try clear c8
            try clear c9
            try clear c9b0
            try clear p2
            obtain ⟨kq, x41_6, rfl, HA, HJ6, HO_4, HB⟩ := hcut
            cases kq with
            | zero => exact absurd HA.out (by simp [impl_DecodeAll.j1])
            | succ kj6 =>
              have H := HA.out
              clear HA
              simp only [impl_DecodeAll.j1] at H
              by_cases c11 : x41_6 = true
              · subst c11
                have H1 : (some (([] : List (S42)), false)) = some (r1, r2) := by rw [if_pos rfl] at H; exact H
                clear H
                have H := H1
                clear H1
                simp only [Option.some.injEq, Prod.mk.injEq] at H
                obtain ⟨rfl, rfl⟩ := H
                go_wp2
                go_ret2
                exact ⟨_, by first | rfl | (simp [errW_none, errW_some] <;> rfl) | (simp [*, errW_none, errW_some] <;> rfl), by first | exact Kd.S_nil _ _ _ _ _ | exact Kd.N_nil _ _ _ _ _ | exact Kd.V_nil _ _ _ _ _ | exact Kd.Q_nil _ _ _ _ _ | exact Kd.R_nil _ _ _ _ _, by repeat (first | (with_reducible first | exact HB.out | apply below_alloc | apply pw_below_drewN | apply below_drew1) | exact HB.out)⟩
              · replace c11 := Bool.eq_false_iff.mpr c11
                subst c11
                have H1 : (if 0 ≤ t536 then (if t536 ≤ (wrap64 (t536 + (wrap64 (t535)))) then (if (wrap64 (t536 + (wrap64 (t535)))) ≤ (l0.length : Int) then ((impl_decode.f kj6 ((l0.take ((wrap64 (t536 + (wrap64 (t535)))) : Int).toNat).drop (t536 : Int).toNat)).bind fun bt539 => (if bt539.2.2.2 = true then (if x4_1.length < 2513169434916 then (impl_DecodeAll.l0 kj6 l0 (x4_1 ++ [(⟨bt539.1, bt539.2.1, bt539.2.2.1⟩ : S42)]) (wrap64 (t536 + (wrap64 (t535))))) else (none)) else (some (([] : List (S42)), false)))) else (none)) else (none)) else (none)) = some (r1, r2) := by rw [if_neg (show ¬ (false = true) by decide)] at H; exact H
                clear H
                have H := H1
                clear H1
                by_cases c12 : 0 ≤ t536
                · rw [if_pos c12] at H
                  have c12b0 := eq_true c12
                  have c12b1 : decide (0 ≤ t536) = true := decide_eq_true c12
                  clear c12
                  by_cases c13 : t536 ≤ (wrap64 (t536 + (wrap64 (t535))))
                  · rw [if_pos c13] at H
                    have c13b0 := eq_true c13
                    have c13b1 : decide (t536 ≤ (wrap64 (t536 + (wrap64 (t535))))) = true := decide_eq_true c13
                    by_cases c14 : (wrap64 (t536 + (wrap64 (t535)))) ≤ (l0.length : Int)
                    · rw [if_pos c14] at H
                      have c14b0 := eq_true c14
                      have c14b1 : decide ((wrap64 (t536 + (wrap64 (t535)))) ≤ (l0.length : Int)) = true := decide_eq_true c14
                      replace H := Option.bind_eq_some_iff.mp H
                      obtain ⟨⟨t539, t540, t543, t546⟩, A150, H⟩ := H
                      replace H : (if t546 = true then (if x4_1.length < 2513169434916 then (impl_DecodeAll.l0 kj6 l0 (x4_1 ++ [(⟨t539, t540, t543⟩ : S42)]) (wrap64 (t536 + (wrap64 (t535))))) else (none)) else (some (([] : List (S42)), false))) = some (r1, r2) := H
                      have A15 := Aside0.mk A150
                      clear A150
                      by_cases c16 : t546 = true
                      · subst c16
                        have H1 : (if x4_1.length < 2513169434916 then (impl_DecodeAll.l0 kj6 l0 (x4_1 ++ [(⟨t539, t540, t543⟩ : S42)]) (wrap64 (t536 + (wrap64 (t535))))) else (none)) = some (r1, r2) := by rw [if_pos rfl] at H; exact H
                        clear H
                        have H := H1
                        clear H1
                        by_cases c17 : x4_1.length < 2513169434916
                        · rw [if_pos c17] at H
                          have LMc17 := Aside0.mk c17
                          clear c17
                          obtain ⟨y548, hy548⟩ : ∃ y_ : List (S42), y_ = (x4_1 ++ [(⟨t539, t540, t543⟩ : S42)]) := ⟨_, rfl⟩
                          replace H : (impl_DecodeAll.l0 kj6 l0 y548 (wrap64 (t536 + (wrap64 (t535))))) = some (r1, r2) := by first | (rw [hy548]; with_reducible exact H) | (have H2_ := (Option.bind_some _ _).symm.trans H; rw [hy548]; with_reducible exact H2_) | (have H2_ := (Option.bind_some _ _).symm.trans H; with_reducible exact H2_) | with_reducible exact H | (rw [hy548]; exact H) | exact H
                          have Ny548 := Aside0.mk hy548
                          clear hy548
                          have H' := Aside0.mk H
                          clear H
                          obtain ⟨i018, hi018, _, hsz18, _⟩ := info_parts info5
                          obtain ⟨A18, hcut18, hA18, hC18⟩ := print_mid_of (P := Try.prog) (Value.int .u8) 0 24 5 .i64 .i64 Try.underlying24 hi018 hsz18 A0 c0 l0 t536 (wrap64 (t536 + (wrap64 (t535)))) (of_decide_eq_true (by first | (with_reducible assumption) | assumption)) (by first | omega | exact of_decide_eq_true (by first | (with_reducible assumption) | assumption)) (of_decide_eq_true (by first | (with_reducible assumption) | assumption)) HC0.out
                          have HR538 := Aside0.mk (Kd.C_of_reads (h1 := fun _ => rfl) (hA18 _ (Kd.reads_of_C HR0.out)))
                          have HC538 := Aside0.mk hC18
                          clear hA18 hC18 hi018 hsz18
                          go_wp2_with (first | ((with_reducible refine gate_callee (f := 63) rfl ?_); refine goesL_ (some 51) rfl rfl Try.func63 (by kernel_rfl) rfl #[.slice A18 ((l0.take ((wrap64 (t536 + (wrap64 (t535)))) : Int).toNat).drop (t536 : Int).toNat).length (c0 - t536.toNat)] rfl (by (try simp only [List.map_toArray, List.map_cons, List.map_nil]); first | done | (rw [show ((l0.take ((wrap64 (t536 + (wrap64 (t535)))) : Int).toNat).drop (t536 : Int).toNat).length = ((wrap64 (t536 + (wrap64 (t535)))).toNat - t536.toNat) from (by rw [List.length_drop, List.length_take]; have h_ : ((wrap64 (t536 + (wrap64 (t535)))) : Int) ≤ (l0.length : Int) := of_decide_eq_true (by first | (with_reducible assumption) | assumption); omega)] <;> rfl) | rfl | (simp only [List.length_drop, List.length_take]; rfl)) ?_; (with_reducible refine (impl_decode.calls kj6 _ _ ((l0.take ((wrap64 (t536 + (wrap64 (t535)))) : Int).toNat).drop (t536 : Int).toNat) t539 t540 t543 true _ ?side1 ?side2 A15.out).mono ?_); (case side1 => repeat (first | exact (Kd.C_below HR538.out HB.out) | (with_reducible refine Kd.C_alloc ?_ _) | (with_reducible refine Kd.C_drewN ?_ _) | (with_reducible refine Kd.C_drew ?_))); (case side2 => exact HC538.out); rintro e w19 ⟨v541, v544, rfl, ho0, ho1, hb⟩; refine ⟨_, rfl, ?_⟩; have n0_ := Aside0.mk (Kd.S_mono (Kd.S_told (Kd.S_told (Kd.S_old (by (with_reducible repeat (first | apply Kd.S_alloc | apply Kd.S_drewN | apply Kd.S_drew)); exact HO_4.out) hb) (Kd.R_base ho0)) (Kd.R_base ho1)) (fun _ h_ => h_.1)); have n1_ := Aside0.mk (Kd.R_lower ho0 (below_size (by repeat (first | (with_reducible first | exact HB.out | apply below_alloc | apply pw_below_drewN | apply below_drew1) | exact HB.out)))); have n2_ := Aside0.mk (Kd.R_lower ho1 (below_size (by repeat (first | (with_reducible first | exact HB.out | apply below_alloc | apply pw_below_drewN | apply below_drew1) | exact HB.out)))); have n3_ := Aside0.mk (below_step (by repeat (first | (with_reducible first | exact HB.out | apply below_alloc | apply pw_below_drewN | apply below_drew1) | exact HB.out)) hb); clear HO_4; clear HB; have HO_4 := n0_; have HO542 := n1_; have HO545 := n2_; have HB := n3_; clear n0_ n1_ n2_ n3_; (try clear hb); (try clear hb2); (try clear hk); (try clear hi); (try clear ho0); (try clear ho1)) | ((with_reducible refine gate_dst (N := 9) rfl ?_); (try (refine gate_guard (by rfl) ?_; dsimp only)); refine box_event ?hg (N := 9) ?hd (cs := #[.int .i64 0, .slice none 0 0, .slice none 0 0]) (t := 42) ?hr ?_; (case hd => rfl); (case hg => rfl); (case hr => first | (go_simp; done) | (go_simp; rfl)); intro gb547 hg w20 hbox hb; have n0_ := Aside0.mk (Kd.S_below (Kd.S_elderB (by (with_reducible repeat (first | apply Kd.S_alloc | apply Kd.S_drewN | apply Kd.S_drew)); exact HO_4.out) gb547 (Nat.le_of_eq hg.symm)) hb); have n1_ := Aside0.mk (Kd.R_below (by (with_reducible repeat (first | apply Kd.R_alloc | apply Kd.R_drewN | apply Kd.R_drew)); exact HO542.out) hb); have n2_ := Aside0.mk (Kd.R_below (by (with_reducible repeat (first | apply Kd.R_alloc | apply Kd.R_drewN | apply Kd.R_drew)); exact HO545.out) hb); have n3_ := Aside0.mk (below_step (by repeat (first | (with_reducible first | exact HB.out | apply below_alloc | apply pw_below_drewN | apply below_drew1) | exact HB.out)) hb); have n4_ := Aside0.mk (hbox); have n5_ := Aside0.mk ((by rw [hg]; exact (below_size (by repeat (first | (with_reducible first | exact HB.out | apply below_alloc | apply pw_below_drewN | apply below_drew1) | exact HB.out))) : w.heap.size ≤ gb547)); have n6_ := Aside0.mk ((by rw [hg]; exact (below_size (by repeat (first | (with_reducible first | exact HB.out | apply below_alloc | apply pw_below_drewN | apply below_drew1) | exact HB.out))) : w.heap.size ≤ gb547)); clear HO_4; clear HO542; clear HO545; clear HB; have HO_4 := n0_; have HO542 := n1_; have HO545 := n2_; have HB := n3_; have BK547 := n4_; have GW547 := n5_; have GE547 := n6_; clear n0_ n1_ n2_ n3_ n4_ n5_ n6_; clear hb hbox hg; have hcz21_0 : w20.cell? ⟨gb547, 0, none⟩ = some (.int .i64 0) := (blk_cell BK547.out 0).trans rfl; have hcz21_1 : w20.cell? ⟨gb547, 1, none⟩ = some (.slice none 0 0) := (blk_cell BK547.out 1).trans rfl; have hcz21_2 : w20.cell? ⟨gb547, 2, none⟩ = some (.slice none 0 0) := (blk_cell BK547.out 2).trans rfl; have hfz21_0 := blk_frozen BK547.out 0; have hfz21_1 := blk_frozen BK547.out 1; have hfz21_2 := blk_frozen BK547.out 2; obtain ⟨Ao22, co22, eo22⟩ := Kd.R_slice HO542.out; subst eo22; obtain ⟨Ao23, co23, eo23⟩ := Kd.R_slice HO545.out; subst eo23) | ((with_reducible refine gate_store (t := 42) (p := 9) rfl ?_); refine store_event (t := 42) (p := 9) (v := ?vo_w24) (w1 := (((w20.setCell ⟨gb547, 0, none⟩ (.int .i64 t539)).setCell ⟨gb547, 1, none⟩ (.slice Ao22 t540.length co22)).setCell ⟨gb547, 2, none⟩ (.slice Ao23 t543.length co23))) ?hg ?ho ?hn ?hr ?_; (case ho => rfl); (case hg => rfl); (case hn => rfl); (case hr => first | (go_simp; done) | (go_simp; rfl)); intro w24 hw; have n0_ : Aside0 (Kd.S k42 42 w24 w.heap.size (fun k_ => some k_ ≠ (.slice Ao22 t540.length co22 : Value).ownBlock ∧ some k_ ≠ (.slice Ao23 t543.length co23 : Value).ownBlock ∧ k_ ≠ gb547) u4 x4_1) := ⟨(by rw [hw]; exact (by (with_reducible repeat (first | apply Kd.S_alloc | apply Kd.S_drewN | apply Kd.S_drew)); exact Kd.S_mono (Kd.S_far (p := ⟨gb547, 2, none⟩) (Kd.S_far (p := ⟨gb547, 1, none⟩) (Kd.S_far (p := ⟨gb547, 0, none⟩) (Kd.S_mono HO_4.out (fun k_ hk => (⟨hk, hk.2⟩ : _ ∧ k_ ≠ gb547))) (fun _ hk => hk.2) (.int .i64 t539)) (fun _ hk => hk.2) (.slice Ao22 t540.length co22)) (fun _ hk => hk.2) (.slice Ao23 t543.length co23)) (fun _ hk => ⟨hk.1.1.1.2, ⟨hk.1.1.2, hk.1.2⟩⟩)))⟩; have n1_ : Aside0 (Kd.R (Kd.int .u64) 23 w24 w.heap.size (fun _ => True) (.slice Ao22 t540.length co22) t540) := ⟨(by rw [hw]; exact (by (with_reducible repeat (first | apply Kd.R_alloc | apply Kd.R_drewN | apply Kd.R_drew)); exact Kd.R_mono (Kd.R_far (p := ⟨gb547, 2, none⟩) (Kd.R_far (p := ⟨gb547, 1, none⟩) (Kd.R_far (p := ⟨gb547, 0, none⟩) (Kd.R_types HO542.out BK547.out (by decide)) (fun _ hk => hk.2) (.int .i64 t539)) (fun _ hk => hk.2) (.slice Ao22 t540.length co22)) (fun _ hk => hk.2) (.slice Ao23 t543.length co23)) (fun _ hk => trivial)))⟩; have n2_ : Aside0 (Kd.R Kd.string 9 w24 w.heap.size (fun _ => True) (.slice Ao23 t543.length co23) t543) := ⟨(by rw [hw]; exact (by (with_reducible repeat (first | apply Kd.R_alloc | apply Kd.R_drewN | apply Kd.R_drew)); exact Kd.R_mono (Kd.R_far (p := ⟨gb547, 2, none⟩) (Kd.R_far (p := ⟨gb547, 1, none⟩) (Kd.R_far (p := ⟨gb547, 0, none⟩) (Kd.R_types HO545.out BK547.out (by decide)) (fun _ hk => hk.2) (.int .i64 t539)) (fun _ hk => hk.2) (.slice Ao22 t540.length co22)) (fun _ hk => hk.2) (.slice Ao23 t543.length co23)) (fun _ hk => trivial)))⟩; have n3_ : Aside0 (w24.heap[gb547]? = some (.cells #[.int .i64 t539, .slice Ao22 t540.length co22, .slice Ao23 t543.length co23] 42 (0, 0))) := ⟨(by rw [hw]; exact (by (with_reducible repeat (first | refine blk_drewN ?_ _ | refine blk_drew ?_ | refine blk_alloc ?_ _)); refine blk_put (cs := #[.int .i64 t539, .slice Ao22 t540.length co22, .slice none 0 0]) ?_ 2 _ rfl; (with_reducible repeat (first | refine blk_drewN ?_ _ | refine blk_drew ?_ | refine blk_alloc ?_ _)); refine blk_put (cs := #[.int .i64 t539, .slice none 0 0, .slice none 0 0]) ?_ 1 _ rfl; (with_reducible repeat (first | refine blk_drewN ?_ _ | refine blk_drew ?_ | refine blk_alloc ?_ _)); refine blk_put (cs := #[.int .i64 0, .slice none 0 0, .slice none 0 0]) ?_ 0 _ rfl; (with_reducible repeat (first | refine blk_drewN ?_ _ | refine blk_drew ?_ | refine blk_alloc ?_ _)); exact BK547.out))⟩; have n4_ : Aside0 (Below w.heap.size w w24) := ⟨(by rw [hw]; exact (by repeat (first | (with_reducible first | exact HB.out | apply below_alloc | apply pw_below_drewN | apply below_drew1 | refine below_set ?_ GE547.out) | exact HB.out)))⟩; clear hw; clear HO_4; clear HO542; clear HO545; clear BK547; clear HB; have HO_4 := n0_; have HO542 := n1_; have HO545 := n2_; have BK547 := n3_; have HB := n4_; clear n0_ n1_ n2_ n3_ n4_; have hcz25_0 : w24.cell? ⟨gb547, 0, none⟩ = some (.int .i64 t539) := (blk_cell BK547.out 0).trans rfl; have hcz25_1 : w24.cell? ⟨gb547, 1, none⟩ = some (.slice Ao22 t540.length co22) := (blk_cell BK547.out 1).trans rfl; have hcz25_2 : w24.cell? ⟨gb547, 2, none⟩ = some (.slice Ao23 t543.length co23) := (blk_cell BK547.out 2).trans rfl; have hfz25_0 := blk_frozen BK547.out 0; have hfz25_1 := blk_frozen BK547.out 1; have hfz25_2 := blk_frozen BK547.out 2) | ((with_reducible refine gate_builtin (b := .append) (xs := #[.tmp 56, .tmp 58]) rfl ?_); (try (refine gate_guard (by rfl) ?_; dsimp only)); at_builtin; refine Kd.S_append k42 (w0 := w) w.heap.size rfl (.tmp 56) (.tmp 58) 53 42 (.agg #[(.int .i64 0), (.slice none 0 0), (.slice none 0 0)]) 56 rfl Try.underlying53 info42 rfl (by decide) (by omega) u4 x4_1 (⟨t539, t540, t543⟩ : S42) [.int .i64 t539, .slice Ao22 t540.length co22, .slice Ao23 t543.length co23] (fun k_ => k_ ≠ gb547) (fun k_ => some k_ = (.slice Ao22 t540.length co22 : Value).ownBlock ∨ some k_ = (.slice Ao23 t543.length co23 : Value).ownBlock) rfl rfl ?aP (fun k_ hk_ => hk_.elim (fun h_ => ((Kd.R_mono (ok' := fun k_ => ((fun k_ => k_ ≠ gb547)) k_ ∧ some k_ ≠ (u4 : Value).ownBlock) (Kd.R_types (Kd.R_apart' (HO542.out) (Kd.S_typed HO_4.out) (by decide)) BK547.out (by decide)) (fun k_ hk => ⟨hk.2, hk.1.2⟩))).1 k_ h_.symm) (fun h_ => ((Kd.R_mono (ok' := fun k_ => ((fun k_ => k_ ≠ gb547)) k_ ∧ some k_ ≠ (u4 : Value).ownBlock) (Kd.R_types (Kd.R_apart' (HO545.out) (Kd.S_typed HO_4.out) (by decide)) BK547.out (by decide)) (fun k_ hk => ⟨hk.2, hk.1.2⟩))).1 k_ h_.symm)) ?aF ?aO ?aB ?aS ?aL ?_; (case aP => exact k42_mkM _ _ _ (⟨t539, t540, t543⟩ : S42) (Kd.R_mono (Kd.R_tight rfl (Kd.R_mono (ok' := fun k_ => ((fun k_ => k_ ≠ gb547)) k_ ∧ some k_ ≠ (u4 : Value).ownBlock) (Kd.R_types (Kd.R_apart' (HO542.out) (Kd.S_typed HO_4.out) (by decide)) BK547.out (by decide)) (fun k_ hk => ⟨hk.2, hk.1.2⟩))) (fun _ h_ => Or.inl h_)) (Kd.R_mono (Kd.R_tight rfl (Kd.R_mono (ok' := fun k_ => ((fun k_ => k_ ≠ gb547)) k_ ∧ some k_ ≠ (u4 : Value).ownBlock) (Kd.R_types (Kd.R_apart' (HO545.out) (Kd.S_typed HO_4.out) (by decide)) BK547.out (by decide)) (fun k_ hk => ⟨hk.2, hk.1.2⟩))) (fun _ h_ => Or.inr (h_)))); (case aB => exact (by repeat (first | (with_reducible first | exact HB.out | apply below_alloc | apply pw_below_drewN | apply below_drew1 | refine below_set ?_ GE547.out) | exact HB.out))); (case aF => exact (fun k_ hk => Kd.freshB (g := gb547) (o := .cells #[.int .i64 t539, .slice Ao22 t540.length co22, .slice Ao23 t543.length co23] 42 (0, 0)) (by (with_reducible repeat (first | refine blk_drewN ?_ _ | refine blk_drew ?_ | refine blk_alloc ?_ _)); exact BK547.out) k_ hk)); (case aO => exact (by (with_reducible repeat (first | apply Kd.S_alloc | apply Kd.S_drewN | apply Kd.S_drew)); exact Kd.S_mono HO_4.out (fun k_ hk => ⟨hk.2.2, fun e_ => e_.elim (fun h_ => hk.1 h_) (fun h_ => hk.2.1 h_)⟩))); (case aS => exact (below_size (by repeat (first | (with_reducible first | exact HB.out | apply below_alloc | apply pw_below_drewN | apply below_drew1 | refine below_set ?_ GE547.out) | exact HB.out)))); (case aL => have := LMc17.out; omega); intro v549 w26 ho hb hg hat; rw [← Ny548.out] at ho; have n0_ := Aside0.mk (blk_grown (g := gb547) (o := .cells #[.int .i64 t539, .slice Ao22 t540.length co22, .slice Ao23 t543.length co23] 42 (0, 0)) (by (with_reducible repeat (first | refine blk_drewN ?_ _ | refine blk_drew ?_ | refine blk_alloc ?_ _)); exact BK547.out) hg (Kd.S_away HO_4.out (fun _ hk => hk.2.2))); have n1_ := Aside0.mk (hb); have n2_ := Aside0.mk (ho); clear BK547; clear HB; clear HO_4; clear HO542; clear HO545; have BK547 := n0_; have HB := n1_; have HO550 := n2_; clear n0_ n1_ n2_; clear ho hb hg hat))
                          go_roundg kj6
                          case measure => have := HK1.out; have := HJ6.out; omega
                          case rel => exact ⟨(y548), (wrap64 (t536 + (wrap64 (t535)))), (by first | rfl | (simp; done) | (simp [*]; done)), H', ⟨by have := HK1.out; have := HJ6.out; omega⟩, ⟨by (with_reducible repeat (first | apply Kd.S_alloc | apply Kd.S_drewN | apply Kd.S_drew)); exact Kd.S_mono HO550.out (fun _ hk => trivial)⟩, ⟨by repeat (first | (with_reducible first | exact HB.out | apply below_alloc | apply pw_below_drewN | apply below_drew1 | refine below_set ?_ GE547.out) | exact HB.out)⟩⟩
                        · rw [if_neg c17] at H
                          exact absurd H (by simp)
                      · replace c16 := Bool.eq_false_iff.mpr c16
                        subst c16
                        have H1 : (some (([] : List (S42)), false)) = some (r1, r2) := by rw [if_neg (show ¬ (false = true) by decide)] at H; exact H
                        clear H
                        have H := H1
                        clear H1
                        simp only [Option.some.injEq, Prod.mk.injEq] at H
                        obtain ⟨rfl, rfl⟩ := H
                        obtain ⟨i027, hi027, _, hsz27, _⟩ := info_parts info5
                        obtain ⟨A27, hcut27, hA27, hC27⟩ := print_mid_of (P := Try.prog) (Value.int .u8) 0 24 5 .i64 .i64 Try.underlying24 hi027 hsz27 A0 c0 l0 t536 (wrap64 (t536 + (wrap64 (t535)))) (of_decide_eq_true (by first | (with_reducible assumption) | assumption)) (by first | omega | exact of_decide_eq_true (by first | (with_reducible assumption) | assumption)) (of_decide_eq_true (by first | (with_reducible assumption) | assumption)) HC0.out
                        have HR538 := Aside0.mk (Kd.C_of_reads (h1 := fun _ => rfl) (hA27 _ (Kd.reads_of_C HR0.out)))
                        have HC538 := Aside0.mk hC27
                        clear hA27 hC27 hi027 hsz27
                        go_wp2_with (first | ((with_reducible refine gate_callee (f := 63) rfl ?_); refine goesL_ (some 51) rfl rfl Try.func63 (by kernel_rfl) rfl #[.slice A27 ((l0.take ((wrap64 (t536 + (wrap64 (t535)))) : Int).toNat).drop (t536 : Int).toNat).length (c0 - t536.toNat)] rfl (by (try simp only [List.map_toArray, List.map_cons, List.map_nil]); first | done | (rw [show ((l0.take ((wrap64 (t536 + (wrap64 (t535)))) : Int).toNat).drop (t536 : Int).toNat).length = ((wrap64 (t536 + (wrap64 (t535)))).toNat - t536.toNat) from (by rw [List.length_drop, List.length_take]; have h_ : ((wrap64 (t536 + (wrap64 (t535)))) : Int) ≤ (l0.length : Int) := of_decide_eq_true (by first | (with_reducible assumption) | assumption); omega)] <;> rfl) | rfl | (simp only [List.length_drop, List.length_take]; rfl)) ?_; (with_reducible refine (impl_decode.calls kj6 _ _ ((l0.take ((wrap64 (t536 + (wrap64 (t535)))) : Int).toNat).drop (t536 : Int).toNat) t539 t540 t543 false _ ?side1 ?side2 A15.out).mono ?_); (case side1 => repeat (first | exact (Kd.C_below HR538.out HB.out) | (with_reducible refine Kd.C_alloc ?_ _) | (with_reducible refine Kd.C_drewN ?_ _) | (with_reducible refine Kd.C_drew ?_))); (case side2 => exact HC538.out); rintro e w28 ⟨v541, v544, rfl, ho0, ho1, hb⟩; refine ⟨_, rfl, ?_⟩; have n0_ := Aside0.mk (Kd.S_mono (Kd.S_told (Kd.S_told (Kd.S_old (by (with_reducible repeat (first | apply Kd.S_alloc | apply Kd.S_drewN | apply Kd.S_drew)); exact HO_4.out) hb) (Kd.R_base ho0)) (Kd.R_base ho1)) (fun _ h_ => h_.1)); have n1_ := Aside0.mk (Kd.R_lower ho0 (below_size (by repeat (first | (with_reducible first | exact HB.out | apply below_alloc | apply pw_below_drewN | apply below_drew1) | exact HB.out)))); have n2_ := Aside0.mk (Kd.R_lower ho1 (below_size (by repeat (first | (with_reducible first | exact HB.out | apply below_alloc | apply pw_below_drewN | apply below_drew1) | exact HB.out)))); have n3_ := Aside0.mk (below_step (by repeat (first | (with_reducible first | exact HB.out | apply below_alloc | apply pw_below_drewN | apply below_drew1) | exact HB.out)) hb); clear HO_4; clear HB; have HO_4 := n0_; have HO542 := n1_; have HO545 := n2_; have HB := n3_; clear n0_ n1_ n2_ n3_; (try clear hb); (try clear hb2); (try clear hk); (try clear hi); (try clear ho0); (try clear ho1)) | ((with_reducible refine gate_dst (N := 9) rfl ?_); (try (refine gate_guard (by rfl) ?_; dsimp only)); refine box_event ?hg (N := 9) ?hd (cs := #[.int .i64 0, .slice none 0 0, .slice none 0 0]) (t := 42) ?hr ?_; (case hd => rfl); (case hg => rfl); (case hr => first | (go_simp; done) | (go_simp; rfl)); intro gb547 hg w29 hbox hb; have n0_ := Aside0.mk (Kd.S_below (Kd.S_elderB (by (with_reducible repeat (first | apply Kd.S_alloc | apply Kd.S_drewN | apply Kd.S_drew)); exact HO_4.out) gb547 (Nat.le_of_eq hg.symm)) hb); have n1_ := Aside0.mk (Kd.R_below (by (with_reducible repeat (first | apply Kd.R_alloc | apply Kd.R_drewN | apply Kd.R_drew)); exact HO542.out) hb); have n2_ := Aside0.mk (Kd.R_below (by (with_reducible repeat (first | apply Kd.R_alloc | apply Kd.R_drewN | apply Kd.R_drew)); exact HO545.out) hb); have n3_ := Aside0.mk (below_step (by repeat (first | (with_reducible first | exact HB.out | apply below_alloc | apply pw_below_drewN | apply below_drew1) | exact HB.out)) hb); have n4_ := Aside0.mk (hbox); have n5_ := Aside0.mk ((by rw [hg]; exact (below_size (by repeat (first | (with_reducible first | exact HB.out | apply below_alloc | apply pw_below_drewN | apply below_drew1) | exact HB.out))) : w.heap.size ≤ gb547)); have n6_ := Aside0.mk ((by rw [hg]; exact (below_size (by repeat (first | (with_reducible first | exact HB.out | apply below_alloc | apply pw_below_drewN | apply below_drew1) | exact HB.out))) : w.heap.size ≤ gb547)); clear HO_4; clear HO542; clear HO545; clear HB; have HO_4 := n0_; have HO542 := n1_; have HO545 := n2_; have HB := n3_; have BK547 := n4_; have GW547 := n5_; have GE547 := n6_; clear n0_ n1_ n2_ n3_ n4_ n5_ n6_; clear hb hbox hg; have hcz30_0 : w29.cell? ⟨gb547, 0, none⟩ = some (.int .i64 0) := (blk_cell BK547.out 0).trans rfl; have hcz30_1 : w29.cell? ⟨gb547, 1, none⟩ = some (.slice none 0 0) := (blk_cell BK547.out 1).trans rfl; have hcz30_2 : w29.cell? ⟨gb547, 2, none⟩ = some (.slice none 0 0) := (blk_cell BK547.out 2).trans rfl; have hfz30_0 := blk_frozen BK547.out 0; have hfz30_1 := blk_frozen BK547.out 1; have hfz30_2 := blk_frozen BK547.out 2; obtain ⟨Ao31, co31, eo31⟩ := Kd.R_slice HO542.out; subst eo31; obtain ⟨Ao32, co32, eo32⟩ := Kd.R_slice HO545.out; subst eo32))
                        go_ret2
                        exact ⟨_, by first | rfl | (simp [errW_none, errW_some] <;> rfl) | (simp [*, errW_none, errW_some] <;> rfl), by first | exact Kd.S_nil _ _ _ _ _ | exact Kd.N_nil _ _ _ _ _ | exact Kd.V_nil _ _ _ _ _ | exact Kd.Q_nil _ _ _ _ _ | exact Kd.R_nil _ _ _ _ _, by repeat (first | (with_reducible first | exact HB.out | apply below_alloc | apply pw_below_drewN | apply below_drew1 | refine below_set ?_ GE547.out) | exact HB.out)⟩
                    · rw [if_neg c14] at H
                      exact absurd H (by simp)
                  · rw [if_neg c13] at H
                    exact absurd H (by simp)
                · rw [if_neg c12] at H
                  exact absurd H (by simp)
        · rw [if_neg c5] at H
          have c5b0 : decide (x5_1 < (l0.length : Int)) = false := decide_eq_false c5
          clear c5
          simp only [Option.some.injEq, Prod.mk.injEq] at H
          obtain ⟨rfl, rfl⟩ := H
          go_wp2
          go_ret2
          exact ⟨_, by first | rfl | (simp [errW_none, errW_some] <;> rfl) | (simp [*, errW_none, errW_some] <;> rfl), by (with_reducible repeat (first | apply Kd.S_alloc | apply Kd.S_drewN | apply Kd.S_drew)); exact HO_4.out, by repeat (first | (with_reducible first | exact HB.out | apply below_alloc | apply pw_below_drewN | apply below_drew1) | exact HB.out)⟩

end Go.Proofs.Ytgdebfaoohjikaa.F

namespace Go.Proofs.Ytgdebfaoohjikaa.F
open Go.RowKit Go.Proofs.YtgdebfaoohjikaaW.PrintWords Go.Proofs.YtgdebfaoohjikaaW.PrintLast Go.Proofs.YtgdebfaoohjikaaW.PrintMore
attribute [local go_sem] max2_int min2_int max_two min_two max_three min_three max_four min_four   -- for this text's walks alone
set_option linter.unusedVariables false
set_option linter.unusedSimpArgs false

/-! ### laws_heldUint64S: function 64 -/
def laws_heldUint64S.l0 : Nat → List Int → Int → Int → Option (Int)
  | 0, _, _, _ => none
  | k + 1, x0, x1, x5 => if x5 < (x0.length : Int) then (if 0 ≤ x5 then (if (rd x0 x5) = (IntKind.u64.wrap (x1)) then (laws_heldUint64S.l0 k x0 (wrap64 (x1 + 1)) (wrap64 (x5 + 1))) else (some (-1))) else (none)) else (some x1)
def laws_heldUint64S.f (k : Nat) (l0 : List Int) (a1 : Int) : Option (Int) := laws_heldUint64S.l0 k l0 a1 0
theorem laws_heldUint64S.mono_l : ∀ k, (∀ y0 y1 y2, LeO (laws_heldUint64S.l0 k y0 y1 y2) (laws_heldUint64S.l0 (k + 1) y0 y1 y2))
  | 0 => fun _ _ _ r h => by simp [laws_heldUint64S.l0] at h
  | k + 1 => by
    have ih0 := laws_heldUint64S.mono_l k
    · intro y0 y1 y2
      unfold laws_heldUint64S.l0
      repeat' first
      | (with_reducible exact ih0 _ _ _)
      | (with_reducible exact LeO.refl _)
      | (with_reducible exact LeO.none _)
      | (with_reducible refine LeO.ite ?_ ?_)
      | (with_reducible refine LeO.bind ?_ (fun _ => ?_))
      | exact ih0 _ _ _
      | exact LeO.none _
      | refine LeO.ite ?_ ?_
      | refine LeO.bind ?_ (fun _ => ?_)
theorem laws_heldUint64S.mono : ∀ a0 a1 k, LeO (laws_heldUint64S.f k a0 a1) (laws_heldUint64S.f (k + 1) a0 a1) := by
  intro a0 a1 k
  have ih0 := laws_heldUint64S.mono_l k
  unfold laws_heldUint64S.f
  repeat' first
      | (with_reducible exact ih0 _ _ _)
      | (with_reducible exact LeO.refl _)
      | (with_reducible exact LeO.none _)
      | (with_reducible refine LeO.ite ?_ ?_)
      | (with_reducible refine LeO.bind ?_ (fun _ => ?_))
      | exact ih0 _ _ _
      | exact LeO.none _
      | refine LeO.ite ?_ ?_
      | refine LeO.bind ?_ (fun _ => ?_)
set_option maxHeartbeats 8000000 in
set_option maxRecDepth 100000 in
theorem laws_heldUint64S.calls (k : Nat) (A0 : Option Addr) (c0 : Nat) (l0 : List Int) (a1 : Int) (r : Int) (w : World) (hr0 : Kd.C (Kd.int .u64) w A0 l0.length l0) (hc0 : l0.length ≤ c0) (h : laws_heldUint64S.f k l0 a1 = some r) :
    Calls Try.prog 64 #[.slice A0 l0.length c0, .int .i64 a1] w fun e w' => e = .returned (.int .i64 r) ∧ Drawn0 w w' := by
  have HR0 := Aside0.mk hr0
  have HC0 := Aside0.mk hc0
  clear hr0 hc0
  have H : (laws_heldUint64S.l0 k l0 a1 0) = some r := h
  clear h
  have H' := Aside0.mk H
  clear H
  go_enter Try.func64, Try.ntmps64
  go_wp2
  go_loopg [1, 5] k (fun kq v1 v5 w' => ∃ (x1_1 : Int) (x5_1 : Int), v1 = .int .i64 x1_1 ∧ v5 = .int .i64 x5_1 ∧ Aside0 (laws_heldUint64S.l0 kq l0 x1_1 x5_1 = some r) ∧ Aside0 (kq ≤ k) ∧ Drawn0 w w')
  case atStart => exact ⟨(a1), (0), (by first | rfl | (simp; done) | (simp [*]; done)), (by first | rfl | (simp; done) | (simp [*]; done)), H', ⟨Nat.le_refl _⟩, by repeat (first | exact Drawn0.refl _ | apply Drawn0.step)⟩
  case round =>
    clear H'
    try clear p2
    obtain ⟨x1_1, x5_1, rfl, rfl, HA, HK1, ⟨m1, rfl⟩⟩ := hrel
    cases gk with
    | zero => exact absurd HA.out (by simp [laws_heldUint64S.l0])
    | succ k1 =>
      have H := HA.out
      clear HA
      simp only [laws_heldUint64S.l0] at H
      by_cases c3 : x5_1 < (l0.length : Int)
      · rw [if_pos c3] at H
        have c3b0 : decide (x5_1 < (l0.length : Int)) = true := decide_eq_true c3
        clear c3
        by_cases c4 : 0 ≤ x5_1
        · rw [if_pos c4] at H
          have c4b0 : decide (0 ≤ x5_1) = true := decide_eq_true c4
          clear c4
          by_cases c5 : (rd l0 x5_1) = (IntKind.u64.wrap (x1_1))
          · rw [if_pos c5] at H
            have c5b0 : ((rd l0 x5_1) == (IntKind.u64.wrap (x1_1))) = true := beq_iff_eq.mpr c5
            have c5b1 : ((rd l0 x5_1) != (IntKind.u64.wrap (x1_1))) = false := bne_eq_false_iff_eq.mpr c5
            clear c5
            have H' := Aside0.mk H
            clear H
            have p412 : 0 ≤ (x5_1 : Int) := of_decide_eq_true (by first | (with_reducible assumption) | assumption)
            have q412 : x5_1 < (l0.length : Int) := of_decide_eq_true (by first | (with_reducible assumption) | assumption)
            obtain ⟨ad412, e412, hx412_0⟩ := Kd.at_int HR0.out x5_1 p412 q412
            cases e412
            replace p412 := eq_true p412
            replace q412 := eq_true q412
            go_wp2
            go_roundg k1
            case measure => have := HK1.out; omega
            case rel => exact ⟨(wrap64 (x1_1 + 1)), (wrap64 (x5_1 + 1)), (by first | rfl | (simp; done) | (simp [*]; done)), (by first | rfl | (simp; done) | (simp [*]; done)), H', ⟨by have := HK1.out; omega⟩, by repeat (first | exact Drawn0.refl _ | apply Drawn0.step)⟩
          · rw [if_neg c5] at H
            have c5b0 : ((rd l0 x5_1) == (IntKind.u64.wrap (x1_1))) = false := beq_eq_false_iff_ne.mpr c5
            have c5b1 : ((rd l0 x5_1) != (IntKind.u64.wrap (x1_1))) = true := bne_iff_ne.mpr c5
            obtain rfl := Option.some.inj H
            have p412 : 0 ≤ (x5_1 : Int) := of_decide_eq_true (by first | (with_reducible assumption) | assumption)
            have q412 : x5_1 < (l0.length : Int) := of_decide_eq_true (by first | (with_reducible assumption) | assumption)
            obtain ⟨ad412, e412, hx412_0⟩ := Kd.at_int HR0.out x5_1 p412 q412
            cases e412
            replace p412 := eq_true p412
            replace q412 := eq_true q412
            go_wp2
            go_ret
            exact ⟨by first | rfl | (simp; done) | (simp [*]; done), by repeat (first | exact Drawn0.refl _ | apply Drawn0.step)⟩
        · rw [if_neg c4] at H
          exact absurd H (by simp)
      · rw [if_neg c3] at H
        have c3b0 : decide (x5_1 < (l0.length : Int)) = false := decide_eq_false c3
        clear c3
        obtain rfl := Option.some.inj H
        go_wp2
        go_ret
        exact ⟨by first | rfl | (simp; done) | (simp [*]; done), by repeat (first | exact Drawn0.refl _ | apply Drawn0.step)⟩

end Go.Proofs.Ytgdebfaoohjikaa.F

namespace Go.Proofs.Ytgdebfaoohjikaa.F
open Go.RowKit Go.Proofs.YtgdebfaoohjikaaW.PrintWords Go.Proofs.YtgdebfaoohjikaaW.PrintLast Go.Proofs.YtgdebfaoohjikaaW.PrintMore
attribute [local go_sem] max2_int min2_int max_two min_two max_three min_three max_four min_four   -- for this text's walks alone
set_option linter.unusedVariables false
set_option linter.unusedSimpArgs false

/-! ### laws_markText: function 73 -/
def laws_markText.l0 : Nat → Int → ByteArray → Option (ByteArray)
  | 0, _, _ => none
  | k + 1, x0, x3 => if x0 > 0 then ((some (([(wrap64 (48 + (Int.tmod x0 10))) % 256] : List Int) : List Int)).bind fun y346 => (if (strOfNums y346).size + x3.size ≤ 9223372036854775807 then (laws_markText.l0 k (wrap64 (Int.tdiv x0 10)) ((strOfNums y346) ++ x3)) else (none))) else (if 1 + x3.size ≤ 9223372036854775807 then (some ((⟨#[109]⟩ : ByteArray) ++ x3)) else (none))
def laws_markText.f (k : Nat) (a0 : Int) : Option (ByteArray) := if a0 ≤ 0 then (some (⟨#[109, 48]⟩ : ByteArray)) else (laws_markText.l0 k a0 (⟨#[]⟩ : ByteArray))
theorem laws_markText.mono_l : ∀ k, (∀ y0 y1, LeO (laws_markText.l0 k y0 y1) (laws_markText.l0 (k + 1) y0 y1))
  | 0 => fun _ _ r h => by simp [laws_markText.l0] at h
  | k + 1 => by
    have ih0 := laws_markText.mono_l k
    · intro y0 y1
      unfold laws_markText.l0
      repeat' first
      | (with_reducible exact ih0 _ _)
      | (with_reducible exact LeO.refl _)
      | (with_reducible exact LeO.none _)
      | (with_reducible refine LeO.ite ?_ ?_)
      | (with_reducible refine LeO.bind ?_ (fun _ => ?_))
      | exact ih0 _ _
      | exact LeO.none _
      | refine LeO.ite ?_ ?_
      | refine LeO.bind ?_ (fun _ => ?_)
theorem laws_markText.mono : ∀ a0 k, LeO (laws_markText.f k a0) (laws_markText.f (k + 1) a0) := by
  intro a0 k
  have ih0 := laws_markText.mono_l k
  unfold laws_markText.f
  repeat' first
      | (with_reducible exact ih0 _ _)
      | (with_reducible exact LeO.refl _)
      | (with_reducible exact LeO.none _)
      | (with_reducible refine LeO.ite ?_ ?_)
      | (with_reducible refine LeO.bind ?_ (fun _ => ?_))
      | exact ih0 _ _
      | exact LeO.none _
      | refine LeO.ite ?_ ?_
      | refine LeO.bind ?_ (fun _ => ?_)
set_option maxHeartbeats 8000000 in
set_option maxRecDepth 100000 in
theorem laws_markText.calls (k : Nat) (a0 : Int) (r : ByteArray) (w : World) (h : laws_markText.f k a0 = some r) :
    Calls Try.prog 73 #[.int .i64 a0] w fun e w' => e = .returned (.string r) ∧ Below w.heap.size w w' := by
  have HB := Aside0.mk (Below.refl w.heap.size w)
  have H : (if a0 ≤ 0 then (some (⟨#[109, 48]⟩ : ByteArray)) else (laws_markText.l0 k a0 (⟨#[]⟩ : ByteArray))) = some r := h
  clear h
  by_cases c2 : a0 ≤ 0
  · rw [if_pos c2] at H
    have c2b0 : decide (a0 ≤ 0) = true := decide_eq_true c2
    clear c2
    obtain rfl := Option.some.inj H
    go_enter Try.func73, Try.ntmps73
    go_wp2
    go_ret
    exact ⟨by first | rfl | (simp [errW_none, errW_some] <;> rfl) | (simp [*, errW_none, errW_some] <;> rfl), by repeat (first | (with_reducible first | exact HB.out | apply below_alloc | apply pw_below_drewN | apply below_drew1) | exact HB.out)⟩
  · rw [if_neg c2] at H
    have c2b0 : decide (a0 ≤ 0) = false := decide_eq_false c2
    clear c2
    have H' := Aside0.mk H
    clear H
    go_enter Try.func73, Try.ntmps73
    go_wp2
    go_loopg [0, 3] k (fun kq v0 v3 w' => ∃ (x0_1 : Int) (x3_1 : ByteArray), v0 = .int .i64 x0_1 ∧ v3 = .string x3_1 ∧ Aside0 (laws_markText.l0 kq x0_1 x3_1 = some r) ∧ Aside0 (kq ≤ k) ∧ Aside0 (Below w.heap.size w w'))
    case atStart => exact ⟨(a0), ((⟨#[]⟩ : ByteArray)), (by first | rfl | (simp; done) | (simp [*]; done)), (by first | rfl | (simp; done) | (simp [*]; done)), H', ⟨Nat.le_refl _⟩, ⟨by repeat (first | (with_reducible first | exact HB.out | apply below_alloc | apply pw_below_drewN | apply below_drew1) | exact HB.out)⟩⟩
    case round =>
      clear H'
      try clear c2
      try clear c2b0
      try clear p2
      obtain ⟨x0_1, x3_1, rfl, rfl, HA, HK1, HB⟩ := hrel
      cases gk with
      | zero => exact absurd HA.out (by simp [laws_markText.l0])
      | succ k1 =>
        have H := HA.out
        clear HA
        simp only [laws_markText.l0] at H
        by_cases c3 : x0_1 > 0
        · rw [if_pos c3] at H
          have c3b0 : decide (0 < x0_1) = true := decide_eq_true c3
          clear c3
          obtain ⟨y346, hy346⟩ : ∃ y_ : List Int, y_ = (([(wrap64 (48 + (Int.tmod x0_1 10))) % 256] : List Int)) := ⟨_, rfl⟩
          replace H : (if (strOfNums y346).size + x3_1.size ≤ 9223372036854775807 then (laws_markText.l0 k1 (wrap64 (Int.tdiv x0_1 10)) ((strOfNums y346) ++ x3_1)) else (none)) = some r := by first | (rw [hy346]; with_reducible exact H) | (have H2_ := (Option.bind_some _ _).symm.trans H; rw [hy346]; with_reducible exact H2_) | (have H2_ := (Option.bind_some _ _).symm.trans H; with_reducible exact H2_) | with_reducible exact H | (rw [hy346]; exact H) | exact H
          have Ny346 := Aside0.mk hy346
          clear hy346
          by_cases c4 : (strOfNums y346).size + x3_1.size ≤ 9223372036854775807
          · rw [if_pos c4] at H
            have c4b0 := eq_true c4
            have c4b1 : decide ((strOfNums y346).size + x3_1.size ≤ 9223372036854775807) = true := decide_eq_true c4
            try have c4b2 : (9223372036854775807 < (strOfNums y346).size + x3_1.size) = False := eq_false (Nat.not_lt.2 c4)
            have H' := Aside0.mk H
            clear H
            go_wp2_with (first | ((with_reducible refine gate_dst (N := 12) rfl ?_); refine Kd.R_lit (Kd.int .u8) _ 5 ?hg (N := 12) ?hd (xs := ([(wrap64 (48 + (Int.tmod x0_1 10))) % 256] : List Int)) (inner := [.int .u8 ((wrap64 (48 + (Int.tmod x0_1 10))) % 256)]) (ok := fun _ => True) (okp := fun _ => True) ?hr ?hp (fun _ hk => hk) trivial (Below.refl _ _) (Nat.le_refl _) (by simp) ?_; (case hd => rfl); (case hg => rfl); (case hr => first | (go_simp; done) | (go_simp; rfl)); (case hp => exact (Reps.one (show Kd.M (Kd.int .u8) _ _ _ ((wrap64 (48 + (Int.tmod x0_1 10))) % 256) [.int .u8 ((wrap64 (48 + (Int.tmod x0_1 10))) % 256)] from rfl) (Reps.none _ _))); intro v347 w5 ho6 hb hg_ hnew_; clear hg_ hnew_; (first | rw [← Ny346.out] at ho6 | (simp only [Int.reduceToNat] at ho6; rw [← Ny346.out] at ho6)); have n0_ := Aside0.mk (Kd.R_lower ho6 (below_size (by repeat (first | (with_reducible first | exact HB.out | apply below_alloc | apply pw_below_drewN | apply below_drew1) | exact HB.out)))); have n1_ := Aside0.mk (below_step (by repeat (first | (with_reducible first | exact HB.out | apply below_alloc | apply pw_below_drewN | apply below_drew1) | exact HB.out)) hb); clear HB; have HO348 := n0_; have HB := n1_; clear n0_ n1_; clear hb ho6; have hcv7 := own_string (P := Try.prog) Try.underlying24 Try.underlying5 Try.underlying9 (Kd.own_of_R HO348.out); have hcv8 := fun (nq_ : Nat) => own_string (P := Try.prog) Try.underlying24 Try.underlying5 Try.underlying9 (Kd.own_of_R (Kd.R_drewN HO348.out nq_))))
            go_roundg k1
            case measure => have := HK1.out; omega
            case rel => exact ⟨(wrap64 (Int.tdiv x0_1 10)), ((strOfNums y346) ++ x3_1), (by first | rfl | (simp; done) | (simp [*]; done)), (by first | rfl | (simp; done) | (simp [*]; done)), H', ⟨by have := HK1.out; omega⟩, ⟨by repeat (first | (with_reducible first | exact HB.out | apply below_alloc | apply pw_below_drewN | apply below_drew1) | exact HB.out)⟩⟩
          · rw [if_neg c4] at H
            exact absurd H (by simp)
        · rw [if_neg c3] at H
          have c3b0 : decide (0 < x0_1) = false := decide_eq_false c3
          clear c3
          by_cases c9 : 1 + x3_1.size ≤ 9223372036854775807
          · rw [if_pos c9] at H
            have c9b0 := eq_true c9
            have c9b1 : decide (1 + x3_1.size ≤ 9223372036854775807) = true := decide_eq_true c9
            try have c9b2 : (9223372036854775807 < 1 + x3_1.size) = False := eq_false (Nat.not_lt.2 c9)
            obtain rfl := Option.some.inj H
            go_wp2
            go_ret
            exact ⟨by first | rfl | (simp [errW_none, errW_some] <;> rfl) | (simp [*, errW_none, errW_some] <;> rfl), by repeat (first | (with_reducible first | exact HB.out | apply below_alloc | apply pw_below_drewN | apply below_drew1) | exact HB.out)⟩
          · rw [if_neg c9] at H
            exact absurd H (by simp)

end Go.Proofs.Ytgdebfaoohjikaa.F

namespace Go.Proofs.Ytgdebfaoohjikaa.F
open Go.RowKit Go.Proofs.YtgdebfaoohjikaaW.PrintWords Go.Proofs.YtgdebfaoohjikaaW.PrintLast Go.Proofs.YtgdebfaoohjikaaW.PrintMore
attribute [local go_sem] max2_int min2_int max_two min_two max_three min_three max_four min_four   -- for this text's walks alone
set_option linter.unusedVariables false
set_option linter.unusedSimpArgs false

/-! ### laws_heldStringS: function 65 -/
def laws_heldStringS.l0 : Nat → List ByteArray → Int → Int → Option (Int)
  | 0, _, _, _ => none
  | k + 1, x0, x1, x5 => if x5 < (x0.length : Int) then (if 0 ≤ x5 then ((laws_markText.f k x1).bind fun t414 => (if (rdOf ByteArray.empty x0 x5).toList = t414.toList then (laws_heldStringS.l0 k x0 (wrap64 (x1 + 1)) (wrap64 (x5 + 1))) else (some (-1)))) else (none)) else (some x1)
def laws_heldStringS.f (k : Nat) (l0 : List ByteArray) (a1 : Int) : Option (Int) := laws_heldStringS.l0 k l0 a1 0
theorem laws_heldStringS.mono_l : ∀ k, (∀ y0 y1 y2, LeO (laws_heldStringS.l0 k y0 y1 y2) (laws_heldStringS.l0 (k + 1) y0 y1 y2))
  | 0 => fun _ _ _ r h => by simp [laws_heldStringS.l0] at h
  | k + 1 => by
    have ih0 := laws_heldStringS.mono_l k
    · intro y0 y1 y2
      unfold laws_heldStringS.l0
      repeat' first
      | (with_reducible exact ih0 _ _ _)
      | (with_reducible exact laws_markText.mono _ _)
      | (with_reducible exact LeO.refl _)
      | (with_reducible exact LeO.none _)
      | (with_reducible refine LeO.ite ?_ ?_)
      | (with_reducible refine LeO.bind ?_ (fun _ => ?_))
      | exact ih0 _ _ _
      | exact laws_markText.mono _ _
      | exact LeO.none _
      | refine LeO.ite ?_ ?_
      | refine LeO.bind ?_ (fun _ => ?_)
theorem laws_heldStringS.mono : ∀ a0 a1 k, LeO (laws_heldStringS.f k a0 a1) (laws_heldStringS.f (k + 1) a0 a1) := by
  intro a0 a1 k
  have ih0 := laws_heldStringS.mono_l k
  unfold laws_heldStringS.f
  repeat' first
      | (with_reducible exact ih0 _ _ _)
      | (with_reducible exact laws_markText.mono _ _)
      | (with_reducible exact LeO.refl _)
      | (with_reducible exact LeO.none _)
      | (with_reducible refine LeO.ite ?_ ?_)
      | (with_reducible refine LeO.bind ?_ (fun _ => ?_))
      | exact ih0 _ _ _
      | exact laws_markText.mono _ _
      | exact LeO.none _
      | refine LeO.ite ?_ ?_
      | refine LeO.bind ?_ (fun _ => ?_)
set_option maxHeartbeats 8000000 in
set_option maxRecDepth 100000 in
theorem laws_heldStringS.calls (k : Nat) (A0 : Option Addr) (c0 : Nat) (l0 : List ByteArray) (a1 : Int) (r : Int) (w : World) (hr0 : Kd.C Kd.string w A0 l0.length l0) (hc0 : l0.length ≤ c0) (h : laws_heldStringS.f k l0 a1 = some r) :
    Calls Try.prog 65 #[.slice A0 l0.length c0, .int .i64 a1] w fun e w' => e = .returned (.int .i64 r) ∧ Below w.heap.size w w' := by
  have HR0 := Aside0.mk hr0
  have HC0 := Aside0.mk hc0
  clear hr0 hc0
  have HB := Aside0.mk (Below.refl w.heap.size w)
  have H : (laws_heldStringS.l0 k l0 a1 0) = some r := h
  clear h
  have H' := Aside0.mk H
  clear H
  go_enter Try.func65, Try.ntmps65
  go_wp2
  go_loopg [1, 5] k (fun kq v1 v5 w' => ∃ (x1_1 : Int) (x5_1 : Int), v1 = .int .i64 x1_1 ∧ v5 = .int .i64 x5_1 ∧ Aside0 (laws_heldStringS.l0 kq l0 x1_1 x5_1 = some r) ∧ Aside0 (kq ≤ k) ∧ Aside0 (Below w.heap.size w w'))
  case atStart => exact ⟨(a1), (0), (by first | rfl | (simp; done) | (simp [*]; done)), (by first | rfl | (simp; done) | (simp [*]; done)), H', ⟨Nat.le_refl _⟩, ⟨by repeat (first | (with_reducible first | exact HB.out | apply below_alloc | apply pw_below_drewN | apply below_drew1) | exact HB.out)⟩⟩
  case round =>
    clear H'
    try clear p2
    obtain ⟨x1_1, x5_1, rfl, rfl, HA, HK1, HB⟩ := hrel
    cases gk with
    | zero => exact absurd HA.out (by simp [laws_heldStringS.l0])
    | succ k1 =>
      have H := HA.out
      clear HA
      simp only [laws_heldStringS.l0] at H
      by_cases c3 : x5_1 < (l0.length : Int)
      · rw [if_pos c3] at H
        have c3b0 : decide (x5_1 < (l0.length : Int)) = true := decide_eq_true c3
        clear c3
        by_cases c4 : 0 ≤ x5_1
        · rw [if_pos c4] at H
          have c4b0 : decide (0 ≤ x5_1) = true := decide_eq_true c4
          clear c4
          replace H := Option.bind_eq_some_iff.mp H
          obtain ⟨t414, A50, H⟩ := H
          replace H : (if (rdOf ByteArray.empty l0 x5_1).toList = t414.toList then (laws_heldStringS.l0 k1 l0 (wrap64 (x1_1 + 1)) (wrap64 (x5_1 + 1))) else (some (-1))) = some r := H
          have A5 := Aside0.mk A50
          clear A50
          by_cases c6 : (rdOf ByteArray.empty l0 x5_1).toList = t414.toList
          · rw [if_pos c6] at H
            have c6b0 : ((rdOf ByteArray.empty l0 x5_1).toList == t414.toList) = true := beq_iff_eq.mpr c6
            have c6b1 : ((rdOf ByteArray.empty l0 x5_1).toList != t414.toList) = false := bne_eq_false_iff_eq.mpr c6
            clear c6
            have H' := Aside0.mk H
            clear H
            try go_wp2
            have n0_ := Aside0.mk (below_drew1 HB.out)
            clear HB
            have HB := n0_
            clear n0_
            have p413 : 0 ≤ (x5_1 : Int) := of_decide_eq_true (by first | (with_reducible assumption) | assumption)
            have q413 : x5_1 < (l0.length : Int) := of_decide_eq_true (by first | (with_reducible assumption) | assumption)
            obtain ⟨ad413, e413, hx413_0⟩ := Kd.at_string HR0.out x5_1 p413 q413
            have hw413_0 := hx413_0
            cases e413
            replace hx413_0 := (HB.out.cell (World.block_lt_of_cell? w _ hx413_0)).trans hx413_0
            replace p413 := eq_true p413
            replace q413 := eq_true q413
            refine start_ (n := 7) (S := fun w' => w'.cell? (ad413.add (x5_1).toNat) = some (.string (rdOf ByteArray.empty l0 x5_1))) (ds := []) #[false, false, false, false, false, false, false] (by kernel_rfl) rfl rfl (((HB.out.cell (World.block_lt_of_cell? w _ hw413_0)).trans hw413_0)) (fun hHeld => ?_)
            generalize wr.drew = w7 at HB hx413_0 hHeld ⊢
            refine pure_ (i := 0) (N := some 12) (v := ?_) (a' := ?_) #[true, false, false, false, false, false, false] rfl rfl (by kernel_rfl) (fun _ _ _ h => h) (Or.inl ⟨by rfl, ?_⟩) ?_ ?_
            rotate_left
            · intro w'
              go_simp
              with_reducible rfl
            rotate_left
            · simp only [Act.put, List.setIfInBounds_toArray, List.set_cons_zero, List.set_cons_succ, i64_w, i32_w]
              rfl
            refine pure_ (i := 1) (N := some 13) (v := ?_) (a' := ?_) #[true, true, false, false, false, false, false] rfl rfl (by kernel_rfl) (fun _ _ _ h => h) (Or.inl ⟨by rfl, ?_⟩) ?_ ?_
            rotate_left
            · intro w'
              go_simp
              with_reducible rfl
            rotate_left
            · simp only [Act.put, List.setIfInBounds_toArray, List.set_cons_zero, List.set_cons_succ, i64_w, i32_w]
              rfl
            refine pure_ (i := 2) (N := some 14) (v := ?_) (a' := ?_) #[true, true, true, false, false, false, false] rfl rfl (by kernel_rfl) (fun _ _ _ h => h) (Or.inl ⟨by rfl, ?_⟩) ?_ ?_
            rotate_left
            · intro w'
              go_simp
              with_reducible rfl
            rotate_left
            · simp only [Act.put, List.setIfInBounds_toArray, List.set_cons_zero, List.set_cons_succ, i64_w, i32_w]
              rfl
            refine pure_ (i := 4) (N := some 16) (v := ?_) (a' := ?_) #[true, true, true, false, true, false, false] rfl rfl (by kernel_rfl) (fun _ _ _ h => h) (Or.inl ⟨by rfl, ?_⟩) ?_ ?_
            rotate_left
            · intro w'
              go_simp
              with_reducible rfl
            rotate_left
            · simp only [Act.put, List.setIfInBounds_toArray, List.set_cons_zero, List.set_cons_succ, i64_w, i32_w]
              rfl
            refine take_ (i := 3) (N := some 15) (v := ?_) (a' := ?_) #[true, true, true, true, true, false, false] rfl rfl (by kernel_rfl) (fun _ _ _ h => h) (Or.inl ⟨by rfl, ?_⟩) hHeld ?_ ?_
            rotate_left
            · intro w' s0
              go_simp
              with_reducible rfl
            rotate_left
            · simp only [Act.put, List.setIfInBounds_toArray, List.set_cons_zero, List.set_cons_succ, i64_w, i32_w]
              rfl
            refine one_ (i := 5) (N := some 17) #[true, true, true, true, true, true, false] rfl rfl (by kernel_rfl) (by decide) (fun K hK => ?_)
            refine goes_ Try.func73 (by kernel_rfl) rfl #[.int .i64 x1_1] (by rfl) rfl rfl (by (try simp only [List.map_toArray, List.map_cons, List.map_nil]); first | done | rfl | (simp only [List.length_drop, List.length_take]; rfl)) ?_
            with_reducible refine (laws_markText.calls k1 x1_1 t414 _ A5.out).mono ?_
            rintro e w8 ⟨rfl, hb⟩
            refine ⟨_, rfl, ?_⟩
            have n0_ := Aside0.mk (below_step (by repeat (first | (with_reducible first | exact HB.out | apply below_alloc | apply pw_below_drewN | apply below_drew1) | exact HB.out)) hb)
            clear HB
            have HB := n0_
            clear n0_
            (try clear hb)
            (try clear hb2)
            (try clear hk)
            (try clear hi)
            refine hK.out _ _ (((HB.out.cell (World.block_lt_of_cell? w _ hw413_0)).trans hw413_0)) (fun hHeld => ?_)
            clear hK K
            refine norm_ (a' := ?_) ?_ ?_
            rotate_left
            · show Act.put _ (some 17) _ = _
              simp only [Act.put, List.setIfInBounds_toArray, List.set_cons_zero, List.set_cons_succ, i64_w, i32_w]
              rfl
            refine pure_ (i := 6) (N := some 18) (v := ?_) (a' := ?_) #[true, true, true, true, true, true, true] rfl rfl (by kernel_rfl) (fun _ _ _ h => h) (Or.inl ⟨by rfl, ?_⟩) ?_ ?_
            rotate_left
            · intro w'
              go_simp
              with_reducible rfl
            rotate_left
            · simp only [Act.put, List.setIfInBounds_toArray, List.set_cons_zero, List.set_cons_succ, i64_w, i32_w]
              rfl
            refine done_ (by kernel_rfl) ?_
            try go_wp2
            go_roundg k1
            case measure => have := HK1.out; omega
            case rel => exact ⟨(wrap64 (x1_1 + 1)), (wrap64 (x5_1 + 1)), (by first | rfl | (simp; done) | (simp [*]; done)), (by first | rfl | (simp; done) | (simp [*]; done)), H', ⟨by have := HK1.out; omega⟩, ⟨by repeat (first | (with_reducible first | exact HB.out | apply below_alloc | apply pw_below_drewN | apply below_drew1) | exact HB.out)⟩⟩
          · rw [if_neg c6] at H
            have c6b0 : ((rdOf ByteArray.empty l0 x5_1).toList == t414.toList) = false := beq_eq_false_iff_ne.mpr c6
            have c6b1 : ((rdOf ByteArray.empty l0 x5_1).toList != t414.toList) = true := bne_iff_ne.mpr c6
            obtain rfl := Option.some.inj H
            try go_wp2
            have n0_ := Aside0.mk (below_drew1 HB.out)
            clear HB
            have HB := n0_
            clear n0_
            have p413 : 0 ≤ (x5_1 : Int) := of_decide_eq_true (by first | (with_reducible assumption) | assumption)
            have q413 : x5_1 < (l0.length : Int) := of_decide_eq_true (by first | (with_reducible assumption) | assumption)
            obtain ⟨ad413, e413, hx413_0⟩ := Kd.at_string HR0.out x5_1 p413 q413
            have hw413_0 := hx413_0
            cases e413
            replace hx413_0 := (HB.out.cell (World.block_lt_of_cell? w _ hx413_0)).trans hx413_0
            replace p413 := eq_true p413
            replace q413 := eq_true q413
            refine start_ (n := 7) (S := fun w' => w'.cell? (ad413.add (x5_1).toNat) = some (.string (rdOf ByteArray.empty l0 x5_1))) (ds := []) #[false, false, false, false, false, false, false] (by kernel_rfl) rfl rfl (((HB.out.cell (World.block_lt_of_cell? w _ hw413_0)).trans hw413_0)) (fun hHeld => ?_)
            generalize wr.drew = w9 at HB hx413_0 hHeld ⊢
            refine pure_ (i := 0) (N := some 12) (v := ?_) (a' := ?_) #[true, false, false, false, false, false, false] rfl rfl (by kernel_rfl) (fun _ _ _ h => h) (Or.inl ⟨by rfl, ?_⟩) ?_ ?_
            rotate_left
            · intro w'
              go_simp
              with_reducible rfl
            rotate_left
            · simp only [Act.put, List.setIfInBounds_toArray, List.set_cons_zero, List.set_cons_succ, i64_w, i32_w]
              rfl
            refine pure_ (i := 1) (N := some 13) (v := ?_) (a' := ?_) #[true, true, false, false, false, false, false] rfl rfl (by kernel_rfl) (fun _ _ _ h => h) (Or.inl ⟨by rfl, ?_⟩) ?_ ?_
            rotate_left
            · intro w'
              go_simp
              with_reducible rfl
            rotate_left
            · simp only [Act.put, List.setIfInBounds_toArray, List.set_cons_zero, List.set_cons_succ, i64_w, i32_w]
              rfl
            refine pure_ (i := 2) (N := some 14) (v := ?_) (a' := ?_) #[true, true, true, false, false, false, false] rfl rfl (by kernel_rfl) (fun _ _ _ h => h) (Or.inl ⟨by rfl, ?_⟩) ?_ ?_
            rotate_left
            · intro w'
              go_simp
              with_reducible rfl
            rotate_left
            · simp only [Act.put, List.setIfInBounds_toArray, List.set_cons_zero, List.set_cons_succ, i64_w, i32_w]
              rfl
            refine pure_ (i := 4) (N := some 16) (v := ?_) (a' := ?_) #[true, true, true, false, true, false, false] rfl rfl (by kernel_rfl) (fun _ _ _ h => h) (Or.inl ⟨by rfl, ?_⟩) ?_ ?_
            rotate_left
            · intro w'
              go_simp
              with_reducible rfl
            rotate_left
            · simp only [Act.put, List.setIfInBounds_toArray, List.set_cons_zero, List.set_cons_succ, i64_w, i32_w]
              rfl
            refine take_ (i := 3) (N := some 15) (v := ?_) (a' := ?_) #[true, true, true, true, true, false, false] rfl rfl (by kernel_rfl) (fun _ _ _ h => h) (Or.inl ⟨by rfl, ?_⟩) hHeld ?_ ?_
            rotate_left
            · intro w' s0
              go_simp
              with_reducible rfl
            rotate_left
            · simp only [Act.put, List.setIfInBounds_toArray, List.set_cons_zero, List.set_cons_succ, i64_w, i32_w]
              rfl
            refine one_ (i := 5) (N := some 17) #[true, true, true, true, true, true, false] rfl rfl (by kernel_rfl) (by decide) (fun K hK => ?_)
            refine goes_ Try.func73 (by kernel_rfl) rfl #[.int .i64 x1_1] (by rfl) rfl rfl (by (try simp only [List.map_toArray, List.map_cons, List.map_nil]); first | done | rfl | (simp only [List.length_drop, List.length_take]; rfl)) ?_
            with_reducible refine (laws_markText.calls k1 x1_1 t414 _ A5.out).mono ?_
            rintro e w10 ⟨rfl, hb⟩
            refine ⟨_, rfl, ?_⟩
            have n0_ := Aside0.mk (below_step (by repeat (first | (with_reducible first | exact HB.out | apply below_alloc | apply pw_below_drewN | apply below_drew1) | exact HB.out)) hb)
            clear HB
            have HB := n0_
            clear n0_
            (try clear hb)
            (try clear hb2)
            (try clear hk)
            (try clear hi)
            refine hK.out _ _ (((HB.out.cell (World.block_lt_of_cell? w _ hw413_0)).trans hw413_0)) (fun hHeld => ?_)
            clear hK K
            refine norm_ (a' := ?_) ?_ ?_
            rotate_left
            · show Act.put _ (some 17) _ = _
              simp only [Act.put, List.setIfInBounds_toArray, List.set_cons_zero, List.set_cons_succ, i64_w, i32_w]
              rfl
            refine pure_ (i := 6) (N := some 18) (v := ?_) (a' := ?_) #[true, true, true, true, true, true, true] rfl rfl (by kernel_rfl) (fun _ _ _ h => h) (Or.inl ⟨by rfl, ?_⟩) ?_ ?_
            rotate_left
            · intro w'
              go_simp
              with_reducible rfl
            rotate_left
            · simp only [Act.put, List.setIfInBounds_toArray, List.set_cons_zero, List.set_cons_succ, i64_w, i32_w]
              rfl
            refine done_ (by kernel_rfl) ?_
            try go_wp2
            go_ret
            exact ⟨by first | rfl | (simp [errW_none, errW_some] <;> rfl) | (simp [*, errW_none, errW_some] <;> rfl), by repeat (first | (with_reducible first | exact HB.out | apply below_alloc | apply pw_below_drewN | apply below_drew1) | exact HB.out)⟩
        · rw [if_neg c4] at H
          exact absurd H (by simp)
      · rw [if_neg c3] at H
        have c3b0 : decide (x5_1 < (l0.length : Int)) = false := decide_eq_false c3
        clear c3
        obtain rfl := Option.some.inj H
        go_wp2
        go_ret
        exact ⟨by first | rfl | (simp [errW_none, errW_some] <;> rfl) | (simp [*, errW_none, errW_some] <;> rfl), by repeat (first | (with_reducible first | exact HB.out | apply below_alloc | apply pw_below_drewN | apply below_drew1) | exact HB.out)⟩

end Go.Proofs.Ytgdebfaoohjikaa.F

namespace Go.Proofs.Ytgdebfaoohjikaa.F
open Go.RowKit Go.Proofs.YtgdebfaoohjikaaW.PrintWords Go.Proofs.YtgdebfaoohjikaaW.PrintLast Go.Proofs.YtgdebfaoohjikaaW.PrintMore
attribute [local go_sem] max2_int min2_int max_two min_two max_three min_three max_four min_four   -- for this text's walks alone
set_option linter.unusedVariables false
set_option linter.unusedSimpArgs false

/-! ### laws_heldRecordS: function 43 -/
def laws_heldRecordS.l0 : Nat → List (S42) → Int → Int → Option (Int)
  | 0, _, _, _ => none
  | k + 1, x0, x1, x5 => if x5 < (x0.length : Int) then (if 0 ≤ x5 then (if ((rd_T42 x0 x5).f0) = x1 then ((laws_heldUint64S.f k ((rd_T42 x0 x5).f1) (wrap64 (x1 + 1))).bind fun t553 => (if t553 < 0 then (some (-1)) else ((laws_heldStringS.f k ((rd_T42 x0 x5).f2) t553).bind fun t555 => (if t555 < 0 then (some (-1)) else (laws_heldRecordS.l0 k x0 t555 (wrap64 (x5 + 1))))))) else (some (-1))) else (none)) else (some x1)
def laws_heldRecordS.f (k : Nat) (l0 : List (S42)) (a1 : Int) : Option (Int) := laws_heldRecordS.l0 k l0 a1 0
theorem laws_heldRecordS.mono_l : ∀ k, (∀ y0 y1 y2, LeO (laws_heldRecordS.l0 k y0 y1 y2) (laws_heldRecordS.l0 (k + 1) y0 y1 y2))
  | 0 => fun _ _ _ r h => by simp [laws_heldRecordS.l0] at h
  | k + 1 => by
    have ih0 := laws_heldRecordS.mono_l k
    · intro y0 y1 y2
      unfold laws_heldRecordS.l0
      repeat' first
      | (with_reducible exact ih0 _ _ _)
      | (with_reducible exact laws_heldStringS.mono _ _ _)
      | (with_reducible exact laws_heldUint64S.mono _ _ _)
      | (with_reducible exact LeO.refl _)
      | (with_reducible exact LeO.none _)
      | (with_reducible refine LeO.ite ?_ ?_)
      | (with_reducible refine LeO.bind ?_ (fun _ => ?_))
      | exact ih0 _ _ _
      | exact laws_heldStringS.mono _ _ _
      | exact laws_heldUint64S.mono _ _ _
      | exact LeO.none _
      | refine LeO.ite ?_ ?_
      | refine LeO.bind ?_ (fun _ => ?_)
theorem laws_heldRecordS.mono : ∀ a0 a1 k, LeO (laws_heldRecordS.f k a0 a1) (laws_heldRecordS.f (k + 1) a0 a1) := by
  intro a0 a1 k
  have ih0 := laws_heldRecordS.mono_l k
  unfold laws_heldRecordS.f
  repeat' first
      | (with_reducible exact ih0 _ _ _)
      | (with_reducible exact laws_heldStringS.mono _ _ _)
      | (with_reducible exact laws_heldUint64S.mono _ _ _)
      | (with_reducible exact LeO.refl _)
      | (with_reducible exact LeO.none _)
      | (with_reducible refine LeO.ite ?_ ?_)
      | (with_reducible refine LeO.bind ?_ (fun _ => ?_))
      | exact ih0 _ _ _
      | exact laws_heldStringS.mono _ _ _
      | exact laws_heldUint64S.mono _ _ _
      | exact LeO.none _
      | refine LeO.ite ?_ ?_
      | refine LeO.bind ?_ (fun _ => ?_)
set_option maxHeartbeats 8000000 in
set_option maxRecDepth 100000 in
theorem laws_heldRecordS.calls (k : Nat) (A0 : Option Addr) (c0 : Nat) (l0 : List (S42)) (a1 : Int) (r : Int) (w : World) (hr0 : Kd.C k42 w A0 l0.length l0) (hc0 : l0.length ≤ c0) (h : laws_heldRecordS.f k l0 a1 = some r) :
    Calls Try.prog 43 #[.slice A0 l0.length c0, .int .i64 a1] w fun e w' => e = .returned (.int .i64 r) ∧ Below w.heap.size w w' := by
  have HR0 := Aside0.mk hr0
  have HC0 := Aside0.mk hc0
  clear hr0 hc0
  have HB := Aside0.mk (Below.refl w.heap.size w)
  have H : (laws_heldRecordS.l0 k l0 a1 0) = some r := h
  clear h
  have H' := Aside0.mk H
  clear H
  go_enter Try.func43, Try.ntmps43
  go_wp2
  go_loopg [1, 5] k (fun kq v1 v5 w' => ∃ (x1_1 : Int) (x5_1 : Int), v1 = .int .i64 x1_1 ∧ v5 = .int .i64 x5_1 ∧ Aside0 (laws_heldRecordS.l0 kq l0 x1_1 x5_1 = some r) ∧ Aside0 (kq ≤ k) ∧ Aside0 (Below w.heap.size w w'))
  case atStart => exact ⟨(a1), (0), (by first | rfl | (simp; done) | (simp [*]; done)), (by first | rfl | (simp; done) | (simp [*]; done)), H', ⟨Nat.le_refl _⟩, ⟨by repeat (first | (with_reducible first | exact HB.out | apply below_alloc | apply pw_below_drewN | apply below_drew1) | exact HB.out)⟩⟩
  case round =>
    clear H'
    try clear p2
    obtain ⟨x1_1, x5_1, rfl, rfl, HA, HK1, HB⟩ := hrel
    cases gk with
    | zero => exact absurd HA.out (by simp [laws_heldRecordS.l0])
    | succ k1 =>
      have H := HA.out
      clear HA
      simp only [laws_heldRecordS.l0] at H
      by_cases c3 : x5_1 < (l0.length : Int)
      · rw [if_pos c3] at H
        have c3b0 : decide (x5_1 < (l0.length : Int)) = true := decide_eq_true c3
        clear c3
        by_cases c4 : 0 ≤ x5_1
        · rw [if_pos c4] at H
          have c4b0 : decide (0 ≤ x5_1) = true := decide_eq_true c4
          clear c4
          by_cases c5 : ((rd_T42 l0 x5_1).f0) = x1_1
          · rw [if_pos c5] at H
            have c5b0 : (((rd_T42 l0 x5_1).f0) == x1_1) = true := beq_iff_eq.mpr c5
            have c5b1 : (((rd_T42 l0 x5_1).f0) != x1_1) = false := bne_eq_false_iff_eq.mpr c5
            clear c5
            replace H := Option.bind_eq_some_iff.mp H
            obtain ⟨t553, A60, H⟩ := H
            replace H : (if t553 < 0 then (some (-1)) else ((laws_heldStringS.f k1 ((rd_T42 l0 x5_1).f2) t553).bind fun t555 => (if t555 < 0 then (some (-1)) else (laws_heldRecordS.l0 k1 l0 t555 (wrap64 (x5_1 + 1)))))) = some r := H
            have A6 := Aside0.mk A60
            clear A60
            by_cases c7 : t553 < 0
            · rw [if_pos c7] at H
              have c7b0 : decide (t553 < 0) = true := decide_eq_true c7
              clear c7
              obtain rfl := Option.some.inj H
              have p551 : 0 ≤ (x5_1 : Int) := of_decide_eq_true (by first | (with_reducible assumption) | assumption)
              have q551 : x5_1 < (l0.length : Int) := of_decide_eq_true (by first | (with_reducible assumption) | assumption)
              obtain ⟨ad551, A551_1, c551_1, A551_2, c551_2, e551, hx551_0, hx551_1, hx551_2, hl551_1, hi551_1, hl551_2, hi551_2⟩ := at_T42 HR0.out x5_1 p551 q551
              cases e551
              replace hx551_0 := (HB.out.cell (World.block_lt_of_cell? w _ hx551_0)).trans hx551_0
              replace hx551_1 := (HB.out.cell (World.block_lt_of_cell? w _ hx551_1)).trans hx551_1
              replace hx551_2 := (HB.out.cell (World.block_lt_of_cell? w _ hx551_2)).trans hx551_2
              have HR551_1 := Aside0.mk hi551_1
              have HC551_1 := Aside0.mk hl551_1
              clear hi551_1 hl551_1
              have HR551_2 := Aside0.mk hi551_2
              have HC551_2 := Aside0.mk hl551_2
              clear hi551_2 hl551_2
              replace p551 := eq_true p551
              replace q551 := eq_true q551
              have p552 : 0 ≤ (x5_1 : Int) := of_decide_eq_true (by first | (with_reducible assumption) | assumption)
              have q552 : x5_1 < (l0.length : Int) := of_decide_eq_true (by first | (with_reducible assumption) | assumption)
              obtain ⟨ad552, A552_1, c552_1, A552_2, c552_2, e552, hx552_0, hx552_1, hx552_2, hl552_1, hi552_1, hl552_2, hi552_2⟩ := at_T42 HR0.out x5_1 p552 q552
              obtain rfl : ad551 = ad552 := (by injection e552)
              replace hx552_0 := (HB.out.cell (World.block_lt_of_cell? w _ hx552_0)).trans hx552_0
              replace hx552_1 := (HB.out.cell (World.block_lt_of_cell? w _ hx552_1)).trans hx552_1
              replace hx552_2 := (HB.out.cell (World.block_lt_of_cell? w _ hx552_2)).trans hx552_2
              have HR552_1 := Aside0.mk hi552_1
              have HC552_1 := Aside0.mk hl552_1
              clear hi552_1 hl552_1
              have HR552_2 := Aside0.mk hi552_2
              have HC552_2 := Aside0.mk hl552_2
              clear hi552_2 hl552_2
              replace p552 := eq_true p552
              replace q552 := eq_true q552
              have ea_ := Option.some.inj (hx551_1.symm.trans hx552_1)
              injection ea_ with ea_ en_ ec_
              subst ea_
              subst ec_
              clear en_
              have ea_ := Option.some.inj (hx551_2.symm.trans hx552_2)
              injection ea_ with ea_ en_ ec_
              subst ea_
              subst ec_
              clear en_
              go_wp2_with (first | ((with_reducible refine gate_callee (f := 64) rfl ?_); refine goesL_ (some 27) rfl rfl Try.func64 (by kernel_rfl) rfl #[.slice A551_1 ((rd_T42 l0 x5_1).f1).length c551_1, .int .i64 (wrap64 (x1_1 + 1))] rfl (by (try simp only [List.map_toArray, List.map_cons, List.map_nil]); first | done | rfl | (simp only [List.length_drop, List.length_take]; rfl)) ?_; (with_reducible refine (laws_heldUint64S.calls k1 _ _ ((rd_T42 l0 x5_1).f1) (wrap64 (x1_1 + 1)) t553 _ ?side1 ?side2 A6.out).mono ?_); (case side1 => repeat (first | exact (Kd.C_below HR552_1.out HB.out) | (with_reducible refine Kd.C_alloc ?_ _) | (with_reducible refine Kd.C_drewN ?_ _) | (with_reducible refine Kd.C_drew ?_))); (case side2 => exact HC552_1.out); rintro e w' ⟨rfl, ⟨nd, rfl⟩⟩; refine ⟨_, rfl, ?_⟩))
              go_ret
              exact ⟨by first | rfl | (simp [errW_none, errW_some] <;> rfl) | (simp [*, errW_none, errW_some] <;> rfl), by repeat (first | (with_reducible first | exact HB.out | apply below_alloc | apply pw_below_drewN | apply below_drew1) | exact HB.out)⟩
            · rw [if_neg c7] at H
              have c7b0 : decide (t553 < 0) = false := decide_eq_false c7
              clear c7
              replace H := Option.bind_eq_some_iff.mp H
              obtain ⟨t555, A80, H⟩ := H
              replace H : (if t555 < 0 then (some (-1)) else (laws_heldRecordS.l0 k1 l0 t555 (wrap64 (x5_1 + 1)))) = some r := H
              have A8 := Aside0.mk A80
              clear A80
              by_cases c9 : t555 < 0
              · rw [if_pos c9] at H
                have c9b0 : decide (t555 < 0) = true := decide_eq_true c9
                clear c9
                obtain rfl := Option.some.inj H
                have p551 : 0 ≤ (x5_1 : Int) := of_decide_eq_true (by first | (with_reducible assumption) | assumption)
                have q551 : x5_1 < (l0.length : Int) := of_decide_eq_true (by first | (with_reducible assumption) | assumption)
                obtain ⟨ad551, A551_1, c551_1, A551_2, c551_2, e551, hx551_0, hx551_1, hx551_2, hl551_1, hi551_1, hl551_2, hi551_2⟩ := at_T42 HR0.out x5_1 p551 q551
                cases e551
                replace hx551_0 := (HB.out.cell (World.block_lt_of_cell? w _ hx551_0)).trans hx551_0
                replace hx551_1 := (HB.out.cell (World.block_lt_of_cell? w _ hx551_1)).trans hx551_1
                replace hx551_2 := (HB.out.cell (World.block_lt_of_cell? w _ hx551_2)).trans hx551_2
                have HR551_1 := Aside0.mk hi551_1
                have HC551_1 := Aside0.mk hl551_1
                clear hi551_1 hl551_1
                have HR551_2 := Aside0.mk hi551_2
                have HC551_2 := Aside0.mk hl551_2
                clear hi551_2 hl551_2
                replace p551 := eq_true p551
                replace q551 := eq_true q551
                have p552 : 0 ≤ (x5_1 : Int) := of_decide_eq_true (by first | (with_reducible assumption) | assumption)
                have q552 : x5_1 < (l0.length : Int) := of_decide_eq_true (by first | (with_reducible assumption) | assumption)
                obtain ⟨ad552, A552_1, c552_1, A552_2, c552_2, e552, hx552_0, hx552_1, hx552_2, hl552_1, hi552_1, hl552_2, hi552_2⟩ := at_T42 HR0.out x5_1 p552 q552
                obtain rfl : ad551 = ad552 := (by injection e552)
                replace hx552_0 := (HB.out.cell (World.block_lt_of_cell? w _ hx552_0)).trans hx552_0
                replace hx552_1 := (HB.out.cell (World.block_lt_of_cell? w _ hx552_1)).trans hx552_1
                replace hx552_2 := (HB.out.cell (World.block_lt_of_cell? w _ hx552_2)).trans hx552_2
                have HR552_1 := Aside0.mk hi552_1
                have HC552_1 := Aside0.mk hl552_1
                clear hi552_1 hl552_1
                have HR552_2 := Aside0.mk hi552_2
                have HC552_2 := Aside0.mk hl552_2
                clear hi552_2 hl552_2
                replace p552 := eq_true p552
                replace q552 := eq_true q552
                have ea_ := Option.some.inj (hx551_1.symm.trans hx552_1)
                injection ea_ with ea_ en_ ec_
                subst ea_
                subst ec_
                clear en_
                have ea_ := Option.some.inj (hx551_2.symm.trans hx552_2)
                injection ea_ with ea_ en_ ec_
                subst ea_
                subst ec_
                clear en_
                go_wp2_with (first | ((with_reducible refine gate_callee (f := 64) rfl ?_); refine goesL_ (some 27) rfl rfl Try.func64 (by kernel_rfl) rfl #[.slice A551_1 ((rd_T42 l0 x5_1).f1).length c551_1, .int .i64 (wrap64 (x1_1 + 1))] rfl (by (try simp only [List.map_toArray, List.map_cons, List.map_nil]); first | done | rfl | (simp only [List.length_drop, List.length_take]; rfl)) ?_; (with_reducible refine (laws_heldUint64S.calls k1 _ _ ((rd_T42 l0 x5_1).f1) (wrap64 (x1_1 + 1)) t553 _ ?side1 ?side2 A6.out).mono ?_); (case side1 => repeat (first | exact (Kd.C_below HR552_1.out HB.out) | (with_reducible refine Kd.C_alloc ?_ _) | (with_reducible refine Kd.C_drewN ?_ _) | (with_reducible refine Kd.C_drew ?_))); (case side2 => exact HC552_1.out); rintro e w' ⟨rfl, ⟨nd, rfl⟩⟩; refine ⟨_, rfl, ?_⟩; have p554 : 0 ≤ (x5_1 : Int) := of_decide_eq_true (by first | (with_reducible assumption) | assumption); have q554 : x5_1 < (l0.length : Int) := of_decide_eq_true (by first | (with_reducible assumption) | assumption); obtain ⟨ad554, A554_1, c554_1, A554_2, c554_2, e554, hx554_0, hx554_1, hx554_2, hl554_1, hi554_1, hl554_2, hi554_2⟩ := at_T42 HR0.out x5_1 p554 q554; obtain rfl : ad551 = ad554 := (by injection e554); replace hx554_0 := (HB.out.cell (World.block_lt_of_cell? w _ hx554_0)).trans hx554_0; replace hx554_1 := (HB.out.cell (World.block_lt_of_cell? w _ hx554_1)).trans hx554_1; replace hx554_2 := (HB.out.cell (World.block_lt_of_cell? w _ hx554_2)).trans hx554_2; have HR554_1 := Aside0.mk hi554_1; have HC554_1 := Aside0.mk hl554_1; clear hi554_1 hl554_1; have HR554_2 := Aside0.mk hi554_2; have HC554_2 := Aside0.mk hl554_2; clear hi554_2 hl554_2; replace p554 := eq_true p554; replace q554 := eq_true q554; have ea_ := Option.some.inj (hx551_1.symm.trans hx554_1); injection ea_ with ea_ en_ ec_; subst ea_; subst ec_; clear en_; have ea_ := Option.some.inj (hx551_2.symm.trans hx554_2); injection ea_ with ea_ en_ ec_; subst ea_; subst ec_; clear en_) | ((with_reducible refine gate_callee (f := 65) rfl ?_); refine goesL_ (some 36) rfl rfl Try.func65 (by kernel_rfl) rfl #[.slice A551_2 ((rd_T42 l0 x5_1).f2).length c551_2, .int .i64 t553] rfl (by (try simp only [List.map_toArray, List.map_cons, List.map_nil]); first | done | rfl | (simp only [List.length_drop, List.length_take]; rfl)) ?_; (with_reducible refine (laws_heldStringS.calls k1 _ _ ((rd_T42 l0 x5_1).f2) t553 t555 _ ?side1 ?side2 A8.out).mono ?_); (case side1 => repeat (first | exact (Kd.C_below HR554_2.out (by repeat (first | (with_reducible first | exact HB.out | apply below_alloc | apply pw_below_drewN | apply below_drew1) | exact HB.out))) | (with_reducible refine Kd.C_alloc ?_ _) | (with_reducible refine Kd.C_drewN ?_ _) | (with_reducible refine Kd.C_drew ?_))); (case side2 => exact HC554_2.out); rintro e w10 ⟨rfl, hb⟩; refine ⟨_, rfl, ?_⟩; have n0_ := Aside0.mk (below_step (by repeat (first | (with_reducible first | exact HB.out | apply below_alloc | apply pw_below_drewN | apply below_drew1) | exact HB.out)) hb); clear HB; have HB := n0_; clear n0_; (try clear hb); (try clear hb2); (try clear hk); (try clear hi)))
                go_ret
                exact ⟨by first | rfl | (simp [errW_none, errW_some] <;> rfl) | (simp [*, errW_none, errW_some] <;> rfl), by repeat (first | (with_reducible first | exact HB.out | apply below_alloc | apply pw_below_drewN | apply below_drew1) | exact HB.out)⟩
              · rw [if_neg c9] at H
                have c9b0 : decide (t555 < 0) = false := decide_eq_false c9
                clear c9
                have H' := Aside0.mk H
                clear H
                have p551 : 0 ≤ (x5_1 : Int) := of_decide_eq_true (by first | (with_reducible assumption) | assumption)
                have q551 : x5_1 < (l0.length : Int) := of_decide_eq_true (by first | (with_reducible assumption) | assumption)
                obtain ⟨ad551, A551_1, c551_1, A551_2, c551_2, e551, hx551_0, hx551_1, hx551_2, hl551_1, hi551_1, hl551_2, hi551_2⟩ := at_T42 HR0.out x5_1 p551 q551
                cases e551
                replace hx551_0 := (HB.out.cell (World.block_lt_of_cell? w _ hx551_0)).trans hx551_0
                replace hx551_1 := (HB.out.cell (World.block_lt_of_cell? w _ hx551_1)).trans hx551_1
                replace hx551_2 := (HB.out.cell (World.block_lt_of_cell? w _ hx551_2)).trans hx551_2
                have HR551_1 := Aside0.mk hi551_1
                have HC551_1 := Aside0.mk hl551_1
                clear hi551_1 hl551_1
                have HR551_2 := Aside0.mk hi551_2
                have HC551_2 := Aside0.mk hl551_2
                clear hi551_2 hl551_2
                replace p551 := eq_true p551
                replace q551 := eq_true q551
                have p552 : 0 ≤ (x5_1 : Int) := of_decide_eq_true (by first | (with_reducible assumption) | assumption)
                have q552 : x5_1 < (l0.length : Int) := of_decide_eq_true (by first | (with_reducible assumption) | assumption)
                obtain ⟨ad552, A552_1, c552_1, A552_2, c552_2, e552, hx552_0, hx552_1, hx552_2, hl552_1, hi552_1, hl552_2, hi552_2⟩ := at_T42 HR0.out x5_1 p552 q552
                obtain rfl : ad551 = ad552 := (by injection e552)
                replace hx552_0 := (HB.out.cell (World.block_lt_of_cell? w _ hx552_0)).trans hx552_0
                replace hx552_1 := (HB.out.cell (World.block_lt_of_cell? w _ hx552_1)).trans hx552_1
                replace hx552_2 := (HB.out.cell (World.block_lt_of_cell? w _ hx552_2)).trans hx552_2
                have HR552_1 := Aside0.mk hi552_1
                have HC552_1 := Aside0.mk hl552_1
                clear hi552_1 hl552_1
                have HR552_2 := Aside0.mk hi552_2
                have HC552_2 := Aside0.mk hl552_2
                clear hi552_2 hl552_2
                replace p552 := eq_true p552
                replace q552 := eq_true q552
                have ea_ := Option.some.inj (hx551_1.symm.trans hx552_1)
                injection ea_ with ea_ en_ ec_
                subst ea_
                subst ec_
                clear en_
                have ea_ := Option.some.inj (hx551_2.symm.trans hx552_2)
                injection ea_ with ea_ en_ ec_
                subst ea_
                subst ec_
                clear en_
                go_wp2_with (first | ((with_reducible refine gate_callee (f := 64) rfl ?_); refine goesL_ (some 27) rfl rfl Try.func64 (by kernel_rfl) rfl #[.slice A551_1 ((rd_T42 l0 x5_1).f1).length c551_1, .int .i64 (wrap64 (x1_1 + 1))] rfl (by (try simp only [List.map_toArray, List.map_cons, List.map_nil]); first | done | rfl | (simp only [List.length_drop, List.length_take]; rfl)) ?_; (with_reducible refine (laws_heldUint64S.calls k1 _ _ ((rd_T42 l0 x5_1).f1) (wrap64 (x1_1 + 1)) t553 _ ?side1 ?side2 A6.out).mono ?_); (case side1 => repeat (first | exact (Kd.C_below HR552_1.out HB.out) | (with_reducible refine Kd.C_alloc ?_ _) | (with_reducible refine Kd.C_drewN ?_ _) | (with_reducible refine Kd.C_drew ?_))); (case side2 => exact HC552_1.out); rintro e w' ⟨rfl, ⟨nd, rfl⟩⟩; refine ⟨_, rfl, ?_⟩; have p554 : 0 ≤ (x5_1 : Int) := of_decide_eq_true (by first | (with_reducible assumption) | assumption); have q554 : x5_1 < (l0.length : Int) := of_decide_eq_true (by first | (with_reducible assumption) | assumption); obtain ⟨ad554, A554_1, c554_1, A554_2, c554_2, e554, hx554_0, hx554_1, hx554_2, hl554_1, hi554_1, hl554_2, hi554_2⟩ := at_T42 HR0.out x5_1 p554 q554; obtain rfl : ad551 = ad554 := (by injection e554); replace hx554_0 := (HB.out.cell (World.block_lt_of_cell? w _ hx554_0)).trans hx554_0; replace hx554_1 := (HB.out.cell (World.block_lt_of_cell? w _ hx554_1)).trans hx554_1; replace hx554_2 := (HB.out.cell (World.block_lt_of_cell? w _ hx554_2)).trans hx554_2; have HR554_1 := Aside0.mk hi554_1; have HC554_1 := Aside0.mk hl554_1; clear hi554_1 hl554_1; have HR554_2 := Aside0.mk hi554_2; have HC554_2 := Aside0.mk hl554_2; clear hi554_2 hl554_2; replace p554 := eq_true p554; replace q554 := eq_true q554; have ea_ := Option.some.inj (hx551_1.symm.trans hx554_1); injection ea_ with ea_ en_ ec_; subst ea_; subst ec_; clear en_; have ea_ := Option.some.inj (hx551_2.symm.trans hx554_2); injection ea_ with ea_ en_ ec_; subst ea_; subst ec_; clear en_) | ((with_reducible refine gate_callee (f := 65) rfl ?_); refine goesL_ (some 36) rfl rfl Try.func65 (by kernel_rfl) rfl #[.slice A551_2 ((rd_T42 l0 x5_1).f2).length c551_2, .int .i64 t553] rfl (by (try simp only [List.map_toArray, List.map_cons, List.map_nil]); first | done | rfl | (simp only [List.length_drop, List.length_take]; rfl)) ?_; (with_reducible refine (laws_heldStringS.calls k1 _ _ ((rd_T42 l0 x5_1).f2) t553 t555 _ ?side1 ?side2 A8.out).mono ?_); (case side1 => repeat (first | exact (Kd.C_below HR554_2.out (by repeat (first | (with_reducible first | exact HB.out | apply below_alloc | apply pw_below_drewN | apply below_drew1) | exact HB.out))) | (with_reducible refine Kd.C_alloc ?_ _) | (with_reducible refine Kd.C_drewN ?_ _) | (with_reducible refine Kd.C_drew ?_))); (case side2 => exact HC554_2.out); rintro e w11 ⟨rfl, hb⟩; refine ⟨_, rfl, ?_⟩; have n0_ := Aside0.mk (below_step (by repeat (first | (with_reducible first | exact HB.out | apply below_alloc | apply pw_below_drewN | apply below_drew1) | exact HB.out)) hb); clear HB; have HB := n0_; clear n0_; (try clear hb); (try clear hb2); (try clear hk); (try clear hi)))
                go_roundg k1
                case measure => have := HK1.out; omega
                case rel => exact ⟨(t555), (wrap64 (x5_1 + 1)), (by first | rfl | (simp; done) | (simp [*]; done)), (by first | rfl | (simp; done) | (simp [*]; done)), H', ⟨by have := HK1.out; omega⟩, ⟨by repeat (first | (with_reducible first | exact HB.out | apply below_alloc | apply pw_below_drewN | apply below_drew1) | exact HB.out)⟩⟩
          · rw [if_neg c5] at H
            have c5b0 : (((rd_T42 l0 x5_1).f0) == x1_1) = false := beq_eq_false_iff_ne.mpr c5
            have c5b1 : (((rd_T42 l0 x5_1).f0) != x1_1) = true := bne_iff_ne.mpr c5
            obtain rfl := Option.some.inj H
            have p551 : 0 ≤ (x5_1 : Int) := of_decide_eq_true (by first | (with_reducible assumption) | assumption)
            have q551 : x5_1 < (l0.length : Int) := of_decide_eq_true (by first | (with_reducible assumption) | assumption)
            obtain ⟨ad551, A551_1, c551_1, A551_2, c551_2, e551, hx551_0, hx551_1, hx551_2, hl551_1, hi551_1, hl551_2, hi551_2⟩ := at_T42 HR0.out x5_1 p551 q551
            cases e551
            replace hx551_0 := (HB.out.cell (World.block_lt_of_cell? w _ hx551_0)).trans hx551_0
            replace hx551_1 := (HB.out.cell (World.block_lt_of_cell? w _ hx551_1)).trans hx551_1
            replace hx551_2 := (HB.out.cell (World.block_lt_of_cell? w _ hx551_2)).trans hx551_2
            have HR551_1 := Aside0.mk hi551_1
            have HC551_1 := Aside0.mk hl551_1
            clear hi551_1 hl551_1
            have HR551_2 := Aside0.mk hi551_2
            have HC551_2 := Aside0.mk hl551_2
            clear hi551_2 hl551_2
            replace p551 := eq_true p551
            replace q551 := eq_true q551
            go_wp2
            go_ret
            exact ⟨by first | rfl | (simp [errW_none, errW_some] <;> rfl) | (simp [*, errW_none, errW_some] <;> rfl), by repeat (first | (with_reducible first | exact HB.out | apply below_alloc | apply pw_below_drewN | apply below_drew1) | exact HB.out)⟩
        · rw [if_neg c4] at H
          exact absurd H (by simp)
      · rw [if_neg c3] at H
        have c3b0 : decide (x5_1 < (l0.length : Int)) = false := decide_eq_false c3
        clear c3
        obtain rfl := Option.some.inj H
        go_wp2
        go_ret
        exact ⟨by first | rfl | (simp [errW_none, errW_some] <;> rfl) | (simp [*, errW_none, errW_some] <;> rfl), by repeat (first | (with_reducible first | exact HB.out | apply below_alloc | apply pw_below_drewN | apply below_drew1) | exact HB.out)⟩

end Go.Proofs.Ytgdebfaoohjikaa.F

namespace Go.Proofs.Ytgdebfaoohjikaa.F
open Go.RowKit Go.Proofs.YtgdebfaoohjikaaW.PrintWords Go.Proofs.YtgdebfaoohjikaaW.PrintLast Go.Proofs.YtgdebfaoohjikaaW.PrintMore
attribute [local go_sem] max2_int min2_int max_two min_two max_three min_three max_four min_four   -- for this text's walks alone
set_option linter.unusedVariables false
set_option linter.unusedSimpArgs false

/-! ### laws_markUint64S: function 61 -/
def laws_markUint64S.l0 : Nat → List Int → Int → Int → Option (Int × List Int)
  | 0, _, _, _ => none
  | k + 1, x0, x1, x5 => if x5 < (x0.length : Int) then (if 0 ≤ x5 then (laws_markUint64S.l0 k (x0.set (x5 : Int).toNat (IntKind.u64.wrap (x1))) (wrap64 (x1 + 1)) (wrap64 (x5 + 1))) else (none)) else (some (x1, x0))
def laws_markUint64S.f (k : Nat) (l0 : List Int) (a1 : Int) : Option (Int × List Int) := laws_markUint64S.l0 k l0 a1 0
theorem laws_markUint64S.mono_l : ∀ k, (∀ y0 y1 y2, LeO (laws_markUint64S.l0 k y0 y1 y2) (laws_markUint64S.l0 (k + 1) y0 y1 y2))
  | 0 => fun _ _ _ r h => by simp [laws_markUint64S.l0] at h
  | k + 1 => by
    have ih0 := laws_markUint64S.mono_l k
    · intro y0 y1 y2
      unfold laws_markUint64S.l0
      repeat' first
      | (with_reducible exact ih0 _ _ _)
      | (with_reducible exact LeO.refl _)
      | (with_reducible exact LeO.none _)
      | (with_reducible refine LeO.ite ?_ ?_)
      | (with_reducible refine LeO.bind ?_ (fun _ => ?_))
      | exact ih0 _ _ _
      | exact LeO.none _
      | refine LeO.ite ?_ ?_
      | refine LeO.bind ?_ (fun _ => ?_)
theorem laws_markUint64S.mono : ∀ a0 a1 k, LeO (laws_markUint64S.f k a0 a1) (laws_markUint64S.f (k + 1) a0 a1) := by
  intro a0 a1 k
  have ih0 := laws_markUint64S.mono_l k
  unfold laws_markUint64S.f
  repeat' first
      | (with_reducible exact ih0 _ _ _)
      | (with_reducible exact LeO.refl _)
      | (with_reducible exact LeO.none _)
      | (with_reducible refine LeO.ite ?_ ?_)
      | (with_reducible refine LeO.bind ?_ (fun _ => ?_))
      | exact ih0 _ _ _
      | exact LeO.none _
      | refine LeO.ite ?_ ?_
      | refine LeO.bind ?_ (fun _ => ?_)
set_option maxHeartbeats 8000000 in
set_option maxRecDepth 100000 in
theorem laws_markUint64S.calls (k : Nat) (P0_ : Nat → Prop) (u9000_ : Value) (l0 : List Int) (a1 : Int) (r1 : Int) (r2 : List Int) (w0 w : World) (hB : Below w0.heap.size w0 w) (ho0 : Kd.R (Kd.int .u64) 23 w w0.heap.size P0_ u9000_ l0) (h : laws_markUint64S.f k l0 a1 = some (r1, r2)) :
    Calls Try.prog 61 #[u9000_, .int .i64 a1] w fun e w' => e = .returned (.int .i64 r1) ∧ Kd.R (Kd.int .u64) 23 w' w0.heap.size (fun k_ => (P0_ k_ ∨ w.heap.size ≤ k_)) u9000_ r2 ∧ Below w0.heap.size w0 w' ∧ Kept w w' (fun k_ => P0_ k_) := by
  have HO0 := Aside0.mk (show Kd.R (Kd.int .u64) 23 w w0.heap.size (fun k_ => (P0_ k_ ∨ w.heap.size ≤ k_)) u9000_ l0 from Kd.R_mono ho0 (fun k_ hk => (.inl hk)))
  have HK := Aside0.mk (Kept.refl w (fun k_ => P0_ k_))
  have HW0 := Aside0.mk hB.size
  have HB := Aside0.mk hB
  clear hB
  have H : (laws_markUint64S.l0 k l0 a1 0) = some (r1, r2) := h
  clear h
  have H' := Aside0.mk H
  clear H
  go_enter Try.func61, Try.ntmps61
  go_wp2
  go_loopg [1, 5] k (fun kq v1 v5 w' => ∃ (x0_1 : List Int) (x1_1 : Int) (x5_1 : Int), v1 = .int .i64 x1_1 ∧ v5 = .int .i64 x5_1 ∧ Aside0 (laws_markUint64S.l0 kq x0_1 x1_1 x5_1 = some (r1, r2)) ∧ Aside0 (kq ≤ k) ∧ Aside0 (Kd.R (Kd.int .u64) 23 w' w0.heap.size (fun k_ => (P0_ k_ ∨ w.heap.size ≤ k_)) u9000_ x0_1) ∧ Aside0 (Kept w w' (fun k_ => P0_ k_)) ∧ Aside0 (Below w0.heap.size w0 w'))
  case atStart => exact ⟨(l0), (a1), (0), (by first | rfl | (simp; done) | (simp [*]; done)), (by first | rfl | (simp; done) | (simp [*]; done)), H', ⟨Nat.le_refl _⟩, ⟨by (with_reducible repeat (first | apply Kd.R_alloc | apply Kd.R_drewN | apply Kd.R_drew)); exact HO0.out⟩, ⟨by repeat (first | (with_reducible first | exact HK.out | apply Kept.alloc | apply Kept.drewN | apply Kept.drew) | exact HK.out)⟩, ⟨by repeat (first | (with_reducible first | exact HB.out | apply below_alloc | apply pw_below_drewN | apply below_drew1) | exact HB.out)⟩⟩
  case round =>
    clear H'
    try clear p2
    obtain ⟨x0_1, x1_1, x5_1, rfl, rfl, HA, HK1, HO_0, HK, HB⟩ := hrel
    cases gk with
    | zero => exact absurd HA.out (by simp [laws_markUint64S.l0])
    | succ k1 =>
      have H := HA.out
      clear HA
      simp only [laws_markUint64S.l0] at H
      by_cases c3 : x5_1 < (x0_1.length : Int)
      · rw [if_pos c3] at H
        have c3b0 : decide (x5_1 < (x0_1.length : Int)) = true := decide_eq_true c3
        clear c3
        by_cases c4 : 0 ≤ x5_1
        · rw [if_pos c4] at H
          have c4b0 : decide (0 ≤ x5_1) = true := decide_eq_true c4
          clear c4
          obtain ⟨y345, hy345⟩ : ∃ y_ : List Int, y_ = (x0_1.set (x5_1 : Int).toNat (IntKind.u64.wrap (x1_1))) := ⟨_, rfl⟩
          replace H : (laws_markUint64S.l0 k1 y345 (wrap64 (x1_1 + 1)) (wrap64 (x5_1 + 1))) = some (r1, r2) := by first | (rw [hy345]; with_reducible exact H) | (have H2_ := (Option.bind_some _ _).symm.trans H; rw [hy345]; with_reducible exact H2_) | (have H2_ := (Option.bind_some _ _).symm.trans H; with_reducible exact H2_) | with_reducible exact H | (rw [hy345]; exact H) | exact H
          have Ny345 := Aside0.mk hy345
          clear hy345
          have H' := Aside0.mk H
          clear H
          obtain ⟨Ao6, co6, eo6⟩ := Kd.R_slice HO_0.out
          subst eo6
          have p5 : 0 ≤ (x5_1 : Int) := of_decide_eq_true (by first | (with_reducible assumption) | assumption)
          have q5 : (x5_1 : Int) < ((x0_1.length : Int) : Int) := of_decide_eq_true (by first | (with_reducible assumption) | assumption)
          obtain ⟨go5, co5, eo5, gb5, gl5, cl5, HG5⟩ := Kd.R_form HO_0.out (by omega)
          (first | cases eo5 | (injection eo5 with ea_ en_ ec_; (first | subst ea_ | (injection ea_ with ea_; subst ea_)); subst ec_; clear en_))
          have GB5 := Aside0.mk gb5
          have GG5 := Aside0.mk HG5
          clear gb5 gl5 HG5
          have HMgo5 := Aside0.mk (show (P0_ go5 ∨ w.heap.size ≤ go5) from (HO_0.out.1 _ rfl))
          obtain ⟨hx5_0, hf5_0⟩ := Kd.R_celln 0 HO_0.out (x5_1 : Int) p5 q5
          replace p5 := eq_true p5
          replace q5 := eq_true q5
          have HP7 := Kd.R_putg HO_0.out (x5_1 : Int) (IntKind.u64.wrap (x1_1))
          go_wp2_with (first | ((with_reducible refine gate_store (t := 23) (p := 16) rfl ?_); refine store_event (t := 23) (p := 16) (v := ?vo_w8) (w1 := (wr.setCell ⟨go5, (x5_1 : Int).toNat, none⟩ (.int .u64 (IntKind.u64.wrap (x1_1))))) ?hg ?ho ?hn ?hr ?_; (case ho => rfl); (case hg => rfl); (case hn => rfl); (case hr => first | (go_simp; done) | (go_simp; rfl)); intro w8 hw; have hg : wr.grownBy w8 (some go5) := (by rw [hw]; exact HP7.2); have hp_ : Kd.R (Kd.int .u64) 23 w8 w0.heap.size (fun k_ => (P0_ k_ ∨ w.heap.size ≤ k_)) (.slice (some ⟨go5, 0, none⟩) x0_1.length co6) y345 := (by rw [hw, Ny345.out]; exact HP7.1); clear HP7; have n0_ := Aside0.mk (hp_); have n1_ := Aside0.mk ((by rw [hw]; exact below_set (HB.out) GB5.out : Below w0.heap.size w0 w8)); have n2_ := Aside0.mk (Kept.of_grown (S := (fun k_ => P0_ k_)) hg (by repeat (first | (with_reducible first | exact HK.out | apply Kept.alloc | apply Kept.drewN | apply Kept.drew) | exact HK.out)) (fun k_ e_ => (HO_0.out.1 k_ e_))); clear HO_0; clear HB; clear HK; have HO_0 := n0_; have HB := n1_; have HK := n2_; clear n0_ n1_ n2_; clear hg hw hp_))
          go_roundg k1
          case measure => have := HK1.out; omega
          case rel => exact ⟨(y345), (wrap64 (x1_1 + 1)), (wrap64 (x5_1 + 1)), (by first | rfl | (simp; done) | (simp [*]; done)), (by first | rfl | (simp; done) | (simp [*]; done)), H', ⟨by have := HK1.out; omega⟩, ⟨by (with_reducible repeat (first | apply Kd.R_alloc | apply Kd.R_drewN | apply Kd.R_drew)); exact HO_0.out⟩, ⟨by repeat (first | (with_reducible first | exact HK.out | apply Kept.alloc | apply Kept.drewN | apply Kept.drew) | exact HK.out)⟩, ⟨by repeat (first | (with_reducible first | exact HB.out | apply below_alloc | apply pw_below_drewN | apply below_drew1) | exact HB.out)⟩⟩
        · rw [if_neg c4] at H
          exact absurd H (by simp)
      · rw [if_neg c3] at H
        have c3b0 : decide (x5_1 < (x0_1.length : Int)) = false := decide_eq_false c3
        clear c3
        simp only [Option.some.injEq, Prod.mk.injEq] at H
        obtain ⟨rfl, rfl⟩ := H
        obtain ⟨Ao9, co9, eo9⟩ := Kd.R_slice HO_0.out
        subst eo9
        go_wp2
        go_ret
        exact ⟨by first | rfl | (simp [errW_none, errW_some] <;> rfl) | (simp [*, errW_none, errW_some] <;> rfl), by (with_reducible repeat (first | apply Kd.R_alloc | apply Kd.R_drewN | apply Kd.R_drew)); exact HO_0.out, by repeat (first | (with_reducible first | exact HB.out | apply below_alloc | apply pw_below_drewN | apply below_drew1) | exact HB.out), by repeat (first | (with_reducible first | exact HK.out | apply Kept.alloc | apply Kept.drewN | apply Kept.drew) | exact HK.out)⟩

end Go.Proofs.Ytgdebfaoohjikaa.F

namespace Go.Proofs.Ytgdebfaoohjikaa.F
open Go.RowKit Go.Proofs.YtgdebfaoohjikaaW.PrintWords Go.Proofs.YtgdebfaoohjikaaW.PrintLast Go.Proofs.YtgdebfaoohjikaaW.PrintMore
attribute [local go_sem] max2_int min2_int max_two min_two max_three min_three max_four min_four   -- for this text's walks alone
set_option linter.unusedVariables false
set_option linter.unusedSimpArgs false

/-! ### laws_markStringS: function 62 -/
def laws_markStringS.l0 : Nat → List ByteArray → Int → Int → Option (Int × List ByteArray)
  | 0, _, _, _ => none
  | k + 1, x0, x1, x5 => if x5 < (x0.length : Int) then ((laws_markText.f k x1).bind fun t349 => (if 0 ≤ x5 then (laws_markStringS.l0 k (x0.set (x5 : Int).toNat t349) (wrap64 (x1 + 1)) (wrap64 (x5 + 1))) else (none))) else (some (x1, x0))
def laws_markStringS.f (k : Nat) (l0 : List ByteArray) (a1 : Int) : Option (Int × List ByteArray) := laws_markStringS.l0 k l0 a1 0
theorem laws_markStringS.mono_l : ∀ k, (∀ y0 y1 y2, LeO (laws_markStringS.l0 k y0 y1 y2) (laws_markStringS.l0 (k + 1) y0 y1 y2))
  | 0 => fun _ _ _ r h => by simp [laws_markStringS.l0] at h
  | k + 1 => by
    have ih0 := laws_markStringS.mono_l k
    · intro y0 y1 y2
      unfold laws_markStringS.l0
      repeat' first
      | (with_reducible exact ih0 _ _ _)
      | (with_reducible exact laws_markText.mono _ _)
      | (with_reducible exact LeO.refl _)
      | (with_reducible exact LeO.none _)
      | (with_reducible refine LeO.ite ?_ ?_)
      | (with_reducible refine LeO.bind ?_ (fun _ => ?_))
      | exact ih0 _ _ _
      | exact laws_markText.mono _ _
      | exact LeO.none _
      | refine LeO.ite ?_ ?_
      | refine LeO.bind ?_ (fun _ => ?_)
theorem laws_markStringS.mono : ∀ a0 a1 k, LeO (laws_markStringS.f k a0 a1) (laws_markStringS.f (k + 1) a0 a1) := by
  intro a0 a1 k
  have ih0 := laws_markStringS.mono_l k
  unfold laws_markStringS.f
  repeat' first
      | (with_reducible exact ih0 _ _ _)
      | (with_reducible exact laws_markText.mono _ _)
      | (with_reducible exact LeO.refl _)
      | (with_reducible exact LeO.none _)
      | (with_reducible refine LeO.ite ?_ ?_)
      | (with_reducible refine LeO.bind ?_ (fun _ => ?_))
      | exact ih0 _ _ _
      | exact laws_markText.mono _ _
      | exact LeO.none _
      | refine LeO.ite ?_ ?_
      | refine LeO.bind ?_ (fun _ => ?_)
set_option maxHeartbeats 8000000 in
set_option maxRecDepth 100000 in
theorem laws_markStringS.calls (k : Nat) (P0_ : Nat → Prop) (u9000_ : Value) (l0 : List ByteArray) (a1 : Int) (r1 : Int) (r2 : List ByteArray) (w0 w : World) (hB : Below w0.heap.size w0 w) (ho0 : Kd.R Kd.string 9 w w0.heap.size P0_ u9000_ l0) (h : laws_markStringS.f k l0 a1 = some (r1, r2)) :
    Calls Try.prog 62 #[u9000_, .int .i64 a1] w fun e w' => e = .returned (.int .i64 r1) ∧ Kd.R Kd.string 9 w' w0.heap.size (fun k_ => (P0_ k_ ∨ w.heap.size ≤ k_)) u9000_ r2 ∧ Below w0.heap.size w0 w' ∧ Kept w w' (fun k_ => P0_ k_) := by
  have HO0 := Aside0.mk (show Kd.R Kd.string 9 w w0.heap.size (fun k_ => (P0_ k_ ∨ w.heap.size ≤ k_)) u9000_ l0 from Kd.R_mono ho0 (fun k_ hk => (.inl hk)))
  have HK := Aside0.mk (Kept.refl w (fun k_ => P0_ k_))
  have HW0 := Aside0.mk hB.size
  have HB := Aside0.mk hB
  clear hB
  have H : (laws_markStringS.l0 k l0 a1 0) = some (r1, r2) := h
  clear h
  have H' := Aside0.mk H
  clear H
  go_enter Try.func62, Try.ntmps62
  go_wp2
  go_loopg [1, 5] k (fun kq v1 v5 w' => ∃ (x0_1 : List ByteArray) (x1_1 : Int) (x5_1 : Int), v1 = .int .i64 x1_1 ∧ v5 = .int .i64 x5_1 ∧ Aside0 (laws_markStringS.l0 kq x0_1 x1_1 x5_1 = some (r1, r2)) ∧ Aside0 (kq ≤ k) ∧ Aside0 (Kd.R Kd.string 9 w' w0.heap.size (fun k_ => (P0_ k_ ∨ w.heap.size ≤ k_)) u9000_ x0_1) ∧ Aside0 (Kept w w' (fun k_ => P0_ k_)) ∧ Aside0 (Below w0.heap.size w0 w'))
  case atStart => exact ⟨(l0), (a1), (0), (by first | rfl | (simp; done) | (simp [*]; done)), (by first | rfl | (simp; done) | (simp [*]; done)), H', ⟨Nat.le_refl _⟩, ⟨by (with_reducible repeat (first | apply Kd.R_alloc | apply Kd.R_drewN | apply Kd.R_drew)); exact HO0.out⟩, ⟨by repeat (first | (with_reducible first | exact HK.out | apply Kept.alloc | apply Kept.drewN | apply Kept.drew) | exact HK.out)⟩, ⟨by repeat (first | (with_reducible first | exact HB.out | apply below_alloc | apply pw_below_drewN | apply below_drew1) | exact HB.out)⟩⟩
  case round =>
    clear H'
    try clear p2
    obtain ⟨x0_1, x1_1, x5_1, rfl, rfl, HA, HK1, HO_0, HK, HB⟩ := hrel
    cases gk with
    | zero => exact absurd HA.out (by simp [laws_markStringS.l0])
    | succ k1 =>
      have H := HA.out
      clear HA
      simp only [laws_markStringS.l0] at H
      by_cases c3 : x5_1 < (x0_1.length : Int)
      · rw [if_pos c3] at H
        have c3b0 : decide (x5_1 < (x0_1.length : Int)) = true := decide_eq_true c3
        clear c3
        replace H := Option.bind_eq_some_iff.mp H
        obtain ⟨t349, A40, H⟩ := H
        replace H : (if 0 ≤ x5_1 then (laws_markStringS.l0 k1 (x0_1.set (x5_1 : Int).toNat t349) (wrap64 (x1_1 + 1)) (wrap64 (x5_1 + 1))) else (none)) = some (r1, r2) := H
        have A4 := Aside0.mk A40
        clear A40
        by_cases c5 : 0 ≤ x5_1
        · rw [if_pos c5] at H
          have c5b0 : decide (0 ≤ x5_1) = true := decide_eq_true c5
          clear c5
          obtain ⟨y350, hy350⟩ : ∃ y_ : List ByteArray, y_ = (x0_1.set (x5_1 : Int).toNat t349) := ⟨_, rfl⟩
          replace H : (laws_markStringS.l0 k1 y350 (wrap64 (x1_1 + 1)) (wrap64 (x5_1 + 1))) = some (r1, r2) := by first | (rw [hy350]; with_reducible exact H) | (have H2_ := (Option.bind_some _ _).symm.trans H; rw [hy350]; with_reducible exact H2_) | (have H2_ := (Option.bind_some _ _).symm.trans H; with_reducible exact H2_) | with_reducible exact H | (rw [hy350]; exact H) | exact H
          have Ny350 := Aside0.mk hy350
          clear hy350
          have H' := Aside0.mk H
          clear H
          obtain ⟨Ao7, co7, eo7⟩ := Kd.R_slice HO_0.out
          subst eo7
          go_wp2_with (first | ((with_reducible refine gate_callee (f := 73) rfl ?_); refine goesL_ (some 15) rfl rfl Try.func73 (by kernel_rfl) rfl #[.int .i64 x1_1] rfl (by (try simp only [List.map_toArray, List.map_cons, List.map_nil]); first | done | rfl | (simp only [List.length_drop, List.length_take]; rfl)) ?_; (with_reducible refine (laws_markText.calls k1 x1_1 t349 _ A4.out).mono ?_); rintro e w8 ⟨rfl, hb⟩; refine ⟨_, rfl, ?_⟩; have n0_ := Aside0.mk (Kd.R_below (by (with_reducible repeat (first | apply Kd.R_alloc | apply Kd.R_drewN | apply Kd.R_drew)); exact HO_0.out) hb); have n1_ := Aside0.mk (Kept.below (S := (fun k_ => P0_ k_)) (by repeat (first | (with_reducible first | exact HK.out | apply Kept.alloc | apply Kept.drewN | apply Kept.drew) | exact HK.out)) hb); have n2_ := Aside0.mk (below_step (by repeat (first | (with_reducible first | exact HB.out | apply below_alloc | apply pw_below_drewN | apply below_drew1) | exact HB.out)) hb); clear HO_0; clear HK; clear HB; have HO_0 := n0_; have HK := n1_; have HB := n2_; clear n0_ n1_ n2_; (try clear hb); (try clear hb2); (try clear hk); (try clear hi); have p6 : 0 ≤ (x5_1 : Int) := of_decide_eq_true (by first | (with_reducible assumption) | assumption); have q6 : (x5_1 : Int) < ((x0_1.length : Int) : Int) := of_decide_eq_true (by first | (with_reducible assumption) | assumption); obtain ⟨go6, co6, eo6, gb6, gl6, cl6, HG6⟩ := Kd.R_form HO_0.out (by omega); (first | cases eo6 | (injection eo6 with ea_ en_ ec_; (first | subst ea_ | (injection ea_ with ea_; subst ea_)); subst ec_; clear en_)); have GB6 := Aside0.mk gb6; have GG6 := Aside0.mk HG6; clear gb6 gl6 HG6; have HMgo6 := Aside0.mk (show (P0_ go6 ∨ w.heap.size ≤ go6) from (HO_0.out.1 _ rfl)); obtain ⟨hx6_0, hf6_0⟩ := Kd.R_celln (⟨#[]⟩ : ByteArray) HO_0.out (x5_1 : Int) p6 q6; replace p6 := eq_true p6; replace q6 := eq_true q6; obtain ⟨hy9_, hz9_⟩ := Kd.R_celln (⟨#[]⟩ : ByteArray) HO_0.out (x5_1 : Int) (of_decide_eq_true (by first | (with_reducible assumption) | assumption)) (of_decide_eq_true (by first | (with_reducible assumption) | assumption)); have HP9 := Kd.R_putg HO_0.out (x5_1 : Int) t349) | ((with_reducible refine gate_store (t := 9) (p := 16) rfl ?_); refine store_event (t := 9) (p := 16) (v := ?vo_w10) (w1 := (w8.setCell ⟨go6, (x5_1 : Int).toNat, none⟩ (.string t349))) ?hg ?ho ?hn ?hr ?_; (case ho => rfl); (case hg => rfl); (case hn => rfl); (case hr => first | (go_simp; done) | (go_simp; rfl)); intro w10 hw; have hg : w8.grownBy w10 (some go6) := (by rw [hw]; exact HP9.2); have hp_ : Kd.R Kd.string 9 w10 w0.heap.size (fun k_ => (P0_ k_ ∨ w.heap.size ≤ k_)) (.slice (some ⟨go6, 0, none⟩) x0_1.length co7) y350 := (by rw [hw, Ny350.out]; exact HP9.1); clear HP9; have n0_ := Aside0.mk (hp_); have n1_ := Aside0.mk ((by rw [hw]; exact below_set (HB.out) GB6.out : Below w0.heap.size w0 w10)); have n2_ := Aside0.mk (Kept.of_grown (S := (fun k_ => P0_ k_)) hg (by repeat (first | (with_reducible first | exact HK.out | apply Kept.alloc | apply Kept.drewN | apply Kept.drew) | exact HK.out)) (fun k_ e_ => (HO_0.out.1 k_ e_))); clear HO_0; clear HB; clear HK; have HO_0 := n0_; have HB := n1_; have HK := n2_; clear n0_ n1_ n2_; clear hg hw hp_))
          go_roundg k1
          case measure => have := HK1.out; omega
          case rel => exact ⟨(y350), (wrap64 (x1_1 + 1)), (wrap64 (x5_1 + 1)), (by first | rfl | (simp; done) | (simp [*]; done)), (by first | rfl | (simp; done) | (simp [*]; done)), H', ⟨by have := HK1.out; omega⟩, ⟨by (with_reducible repeat (first | apply Kd.R_alloc | apply Kd.R_drewN | apply Kd.R_drew)); exact HO_0.out⟩, ⟨by repeat (first | (with_reducible first | exact HK.out | apply Kept.alloc | apply Kept.drewN | apply Kept.drew) | exact HK.out)⟩, ⟨by repeat (first | (with_reducible first | exact HB.out | apply below_alloc | apply pw_below_drewN | apply below_drew1) | exact HB.out)⟩⟩
        · rw [if_neg c5] at H
          exact absurd H (by simp)
      · rw [if_neg c3] at H
        have c3b0 : decide (x5_1 < (x0_1.length : Int)) = false := decide_eq_false c3
        clear c3
        simp only [Option.some.injEq, Prod.mk.injEq] at H
        obtain ⟨rfl, rfl⟩ := H
        obtain ⟨Ao11, co11, eo11⟩ := Kd.R_slice HO_0.out
        subst eo11
        go_wp2
        go_ret
        exact ⟨by first | rfl | (simp [errW_none, errW_some] <;> rfl) | (simp [*, errW_none, errW_some] <;> rfl), by (with_reducible repeat (first | apply Kd.R_alloc | apply Kd.R_drewN | apply Kd.R_drew)); exact HO_0.out, by repeat (first | (with_reducible first | exact HB.out | apply below_alloc | apply pw_below_drewN | apply below_drew1) | exact HB.out), by repeat (first | (with_reducible first | exact HK.out | apply Kept.alloc | apply Kept.drewN | apply Kept.drew) | exact HK.out)⟩

end Go.Proofs.Ytgdebfaoohjikaa.F

namespace Go.Proofs.Ytgdebfaoohjikaa.F
open Go.RowKit Go.Proofs.YtgdebfaoohjikaaW.PrintWords Go.Proofs.YtgdebfaoohjikaaW.PrintLast Go.Proofs.YtgdebfaoohjikaaW.PrintMore
set_option linter.unusedVariables false
set_option linter.unusedSimpArgs false
def laws_markRecordS.l0 : Nat → List S42 → Int → Int → Option (Int × List S42)
  | 0, _, _, _ => none
  | k + 1, x0, x1, x5 => if x5 < (x0.length : Int) then (if 0 ≤ x5 then ((laws_markUint64S.f k (rd_T42 x0 x5).f1 (wrap64 (x1 + 1))).bind fun b => ((laws_markStringS.f k (rd_T42 x0 x5).f2 b.1).bind fun c => laws_markRecordS.l0 k (x0.set x5.toNat ⟨x1, b.2, c.2⟩) c.1 (wrap64 (x5 + 1)))) else none) else some (x1, x0)
def laws_markRecordS.f (k : Nat) (l0 : List S42) (a1 : Int) : Option (Int × List S42) := laws_markRecordS.l0 k l0 a1 0
theorem laws_markRecordS.mono_l : ∀ k, (∀ y0 y1 y2, LeO (laws_markRecordS.l0 k y0 y1 y2) (laws_markRecordS.l0 (k + 1) y0 y1 y2))
  | 0 => fun _ _ _ r h => by simp [laws_markRecordS.l0] at h
  | k + 1 => by
    have ih0 := laws_markRecordS.mono_l k
    intro y0 y1 y2
    unfold laws_markRecordS.l0
    exact LeO.ite (LeO.ite (LeO.bind (laws_markUint64S.mono _ _ _) (fun _ => LeO.bind (laws_markStringS.mono _ _ _) (fun _ => ih0 _ _ _))) (LeO.none _)) (LeO.refl _)
theorem laws_markRecordS.mono : ∀ a0 a1 k, LeO (laws_markRecordS.f k a0 a1) (laws_markRecordS.f (k + 1) a0 a1) := fun a0 a1 k => laws_markRecordS.mono_l k _ _ _
/-- An element lent: where it lies, its cells, its blocks. -/
theorem S_lent {α : Type} {d : Kd α} {e base : Nat} {W : World} {ok : Nat → Prop} {v : Value} {xs : List α} (h : Kd.S d e W base ok v xs) (z : α) (i : Int) (h0 : 0 ≤ i) (h1 : i < xs.length) :
    ∃ (g cap : Nat) (oki : Nat → Prop) (c : List Value), v = .slice (some ⟨g, 0, none⟩) xs.length cap ∧ base ≤ g ∧ ok g ∧ c.length = d.sz ∧ d.M W base oki (xs.getD i.toNat z) c ∧ (∀ j u, c[j]? = some u → W.cell? ⟨g, i.toNat * d.sz + j, none⟩ = some u) ∧ (∀ j, W.frozen? ⟨g, i.toNat * d.sz + j, none⟩ = false) ∧ (∀ k, oki k → ok k ∧ k ≠ g) ∧ Kd.H d e W base ok v xs i oki c := by
  obtain ⟨g, cap, rfl, hg, _, _⟩ := Kd.S_form h (by omega)
  obtain ⟨oki, c, a1, a2, a3, a6, a4, a5⟩ := Kd.S_elem h z i h0 h1
  exact ⟨g, cap, oki, c, rfl, hg, (Kd.S_R h).1 g (by simp [Value.ownBlock]), a1, a2, a3, a6, a4, a5⟩
/-- A flat row that was written through its blocks is of these blocks. -/
theorem R_back {α : Type} {d : Kd α} {e base : Nat} {W W1 : World} {ok ok' : Nat → Prop} {v : Value} {xs ys : List α} (hE : d.E = []) (h : d.R e W base ok v xs) (h' : d.R e W1 base ok' v ys) : d.R e W1 base ok v ys :=
  Kd.R_mono (Kd.R_tight hE h') (fun k hk => h.1 k hk.symm)
/-- Two rows of different types lie in two blocks. -/
theorem R_two {α β : Type} {d : Kd α} {d' : Kd β} {e e' base base' : Nat} {W : World} {ok ok' : Nat → Prop} {v v' : Value} {xs : List α} {ys : List β} (h : d.R e W base ok v xs) (h' : d'.R e' W base' ok' v' ys) (hne : e ≠ e') : ∀ k, some k = v.ownBlock → ¬ some k = v'.ownBlock := by
  intro k hk hk'
  obtain ⟨c1, h1⟩ := Kd.R_typed h k hk.symm
  obtain ⟨c2, h2⟩ := Kd.R_typed h' k hk'.symm
  rw [h1] at h2
  injection h2 with h2
  injection h2 with _ h2
  exact hne h2
set_option maxHeartbeats 8000000 in
set_option maxRecDepth 100000 in
theorem laws_markRecordS.calls (k : Nat) (P0_ : Nat → Prop) (u9000_ : Value) (l0 : List S42) (a1 : Int) (r1 : Int) (r2 : List S42) (w0 w : World) (hB : Below w0.heap.size w0 w) (ho0 : Kd.S k42 42 w w0.heap.size P0_ u9000_ l0) (h : laws_markRecordS.f k l0 a1 = some (r1, r2)) :
    Calls Try.prog 40 #[u9000_, .int .i64 a1] w fun e w' => e = .returned (.int .i64 r1) ∧ Kd.S k42 42 w' w0.heap.size P0_ u9000_ r2 ∧ Below w0.heap.size w0 w' ∧ Kept w w' (fun k_ => P0_ k_) := by
  obtain ⟨A0, c0, rfl⟩ := Kd.S_slice ho0
  have HO0 := Aside0.mk ho0
  have HK := Aside0.mk (Kept.refl w (fun k_ => P0_ k_))
  have HB := Aside0.mk hB
  clear hB ho0
  have H' := Aside0.mk (show laws_markRecordS.l0 k l0 a1 0 = some (r1, r2) from h)
  clear h
  have hu42 := Try.underlying42
  go_enter Try.func40, Try.ntmps40
  go_wp2
  go_loopg [1, 5] k (fun kq v1 v5 w' => ∃ (x0 : List S42) (x1 x5 : Int), v1 = .int .i64 x1 ∧ v5 = .int .i64 x5 ∧ Aside0 (laws_markRecordS.l0 kq x0 x1 x5 = some (r1, r2)) ∧ Aside0 (kq ≤ k) ∧ Aside0 (Kd.S k42 42 w' w0.heap.size P0_ (.slice A0 l0.length c0) x0) ∧ Aside0 (Kept w w' (fun k_ => P0_ k_)) ∧ Aside0 (Below w0.heap.size w0 w'))
  case atStart => exact ⟨l0, a1, 0, by first | rfl | (simp; done), by first | rfl | (simp; done), H', ⟨Nat.le_refl _⟩, HO0, HK, HB⟩
  case round =>
    clear H' HO0 HK HB
    obtain ⟨x0, x1, x5, rfl, rfl, HA, HK1, HO, HK, HB⟩ := hrel
    cases gk with
    | zero => exact absurd HA.out (by simp [laws_markRecordS.l0])
    | succ k1 =>
      have H := HA.out
      clear HA
      have hl : l0.length = x0.length := (Kd.S_reads' HO.out).1
      simp only [laws_markRecordS.l0, ← hl] at H
      by_cases c3 : x5 < (l0.length : Int)
      · rw [if_pos c3] at H
        have q5 := decide_eq_true c3
        by_cases c4 : 0 ≤ x5
        · rw [if_pos c4] at H
          obtain ⟨⟨t1, t2⟩, A5, H⟩ := Option.bind_eq_some_iff.mp H
          obtain ⟨⟨t3, t4⟩, A7, H⟩ := Option.bind_eq_some_iff.mp H
          dsimp only at A7 H
          have H' := Aside0.mk H
          clear H
          obtain ⟨g, cap, oki, c, hv, hg, hok, hcl, hM, hcc, hfr, hoki, hH⟩ := S_lent HO.out z42 x5 c4 (by omega)
          have hM : k42.M wr w0.heap.size oki (rd_T42 x0 x5) c := hM
          generalize rd_T42 x0 x5 = y at A5 A7 hM
          have A6 := Aside0.mk A5
          have A8 := Aside0.mk A7
          clear A5 A7
          obtain ⟨v1, v2, rfl, hR1, hR2⟩ := k42_openM hM
          have hx0 : wr.cell? ⟨g, x5.toNat * 3, none⟩ = some (.int .i64 y.f0) := hcc 0 _ rfl
          have hf0 : wr.frozen? ⟨g, x5.toNat * 3, none⟩ = false := hfr 0
          have hil : x5.toNat < x0.length := by omega
          have hP := (Kd.S_seg (okg := fun _ => False) (seg := [.int .i64 x1]) (j := 0) (x' := (⟨x1, y.f1, y.f2⟩ : S42)) (Kd.H_mono (v := .slice (some ⟨g, 0, none⟩) x0.length cap) (hv ▸ hH) (fun k hk => ⟨hk, fun h => h⟩)) c4 (by omega) (show 0 + 1 ≤ 3 by decide) (k42_mkM _ _ _ (⟨x1, y.f1, y.f2⟩ : S42) hR1 hR2) (fun k hk => .inl hk) (fun k hk => hk.elim)).1
          have HP : Aside0 (Kd.S k42 42 (wr.setCell ⟨g, x5.toNat * 3, none⟩ (.int .i64 x1)) w0.heap.size P0_ (.slice (some ⟨g, 0, none⟩) x0.length cap) (x0.set x5.toNat (⟨x1, y.f1, y.f2⟩ : S42))) := ⟨hP⟩
          have HB2 := Aside0.mk (below_set (g := g) (j := x5.toNat * 3) (v := .int .i64 x1) HB.out hg)
          have HK2 := Aside0.mk (Kept.setCell (p := ⟨g, x5.toNat * 3, none⟩) HK.out (.inl hok) (.int .i64 x1))
          injection hv with e1 e2 e3
          subst e1
          subst e3
          have HIL := Aside0.mk hil
          have p6 := eq_true c4
          have q6 := eq_true c3
          have C4 := Aside0.mk c4
          have HL := Aside0.mk hl
          clear e2 hM hcc hfr hoki hH hcl hR1 hR2 hP hil HO HB HK hg hok hl
          go_wp2_with ((with_reducible refine gate_store (t := 3) (p := 16) rfl ?_); refine store_event (t := 3) (p := 16) (v := ?vo) (w1 := (wr.setCell ⟨g, x5.toNat * 3, none⟩ (.int .i64 x1))) ?hg ?ho ?hn ?hr ?_; (case ho => rfl); (case hg => rfl); (case hn => rfl); (case hr => first | (go_simp; done) | (go_simp; rfl)); intro w2 hw; rw [← hw] at HP HB2 HK2; clear hw hx0 hf0; obtain ⟨g2, cap2, oki, c, hv, hg, hok, hcl, hM, hcc, hfr, hoki, hH⟩ := S_lent HP.out z42 x5 C4.out (by rw [List.length_set]; exact (Int.toNat_lt C4.out).1 HIL.out); injection hv with e1 e2 e3; injection e1 with e1; injection e1 with e1; subst e1; clear e2 e3; rw [List.getD_eq_getElem?_getD, List.getElem?_set_self HIL.out, Option.getD_some] at hM; obtain ⟨v3, v4, rfl, hR1, hR2⟩ := k42_openM hM; have hx1 : w2.cell? ⟨g, x5.toNat * 3 + 1, none⟩ = some v3 := hcc 1 _ rfl; have hx2 : w2.cell? ⟨g, x5.toNat * 3 + 2, none⟩ = some v4 := hcc 2 _ rfl; have GR1 := Aside0.mk hR1; have GR2 := Aside0.mk hR2; have GH := Aside0.mk hH; have GI := Aside0.mk hoki; have GO := Aside0.mk hok; clear hM hcc hfr hoki hH hcl hR1 hR2 hg hok HP)
          have T1 := Kd.R_tight rfl GR1.out
          have T2 := Kd.R_tight rfl GR2.out
          refine (laws_markUint64S.calls k1 (fun k => some k = v3.ownBlock) v3 y.f1 _ t1 t2 w0 _ HB2.out T1 A6.out).mono ?_
          rintro e w3 ⟨rfl, hR1, hB1, hK1⟩
          have U1 := Aside0.mk (R_back rfl T1 hR1)
          have U2 := Aside0.mk (Kd.R_kept T2 hK1 (R_two T2 T1 (by decide)))
          have UH := Aside0.mk (Kd.H_kept GH.out hK1 (fun k hk hn hs => hn (GR1.out.1 k hs.symm)))
          have UK := Aside0.mk (HK2.out.then_ hK1 (fun k hk => .inl (GI.out k (GR1.out.1 k hk.symm)).1))
          have hx3 : w3.cell? ⟨g, x5.toNat * 3 + 2, none⟩ = some v4 := cell_kept hx2 hK1 (fun hs => (GI.out _ (GR1.out.1 _ hs.symm)).2 rfl)
          have UB := Aside0.mk hB1
          have NE1 := Aside0.mk (R_two T1 T2 (by decide))
          clear T1 T2 hR1 hB1 hK1 hx1 hx2 GH HK2 HB2
          go_wp2_with fail
          refine (laws_markStringS.calls k1 (fun k => some k = v4.ownBlock) v4 y.f2 _ t3 t4 w0 _ UB.out U2.out A8.out).mono ?_
          rintro e w4 ⟨rfl, hR2, hB1, hK1⟩
          have V2 := R_back rfl U2.out hR2
          have V1 := Kd.R_kept U1.out hK1 NE1.out
          have VH := Kd.H_kept UH.out hK1 (fun k hk hn hs => hn (GR2.out.1 k hs.symm))
          have N1 := Aside0.mk (Kd.H_back VH (okp := oki) (k42_mkM _ _ _ (⟨x1, t2, t4⟩ : S42) (Kd.R_mono V1 (fun k hk => GR1.out.1 k hk.symm)) (Kd.R_mono V2 (fun k hk => GR2.out.1 k hk.symm))) (fun _ h => h))
          rw [List.set_set] at N1
          have N2 := Aside0.mk (UK.out.then_ hK1 (fun k hk => .inl (GI.out k (GR2.out.1 k hk.symm)).1))
          have N3 := Aside0.mk hB1
          clear V1 V2 VH hR2 hB1 hK1 hx3 U1 U2 UH UK UB NE1 GR1 GR2 GI GO
          rw [HL.out.symm] at N1
          go_wp2
          go_roundg k1
          case measure => have := HK1.out; omega
          case rel => exact ⟨_, t3, _, rfl, by first | rfl | (simp; done), H', ⟨by have := HK1.out; omega⟩, N1, N2, N3⟩
        · rw [if_neg c4] at H
          exact absurd H (by simp)
      · rw [if_neg c3] at H
        have q5 := decide_eq_false c3
        simp only [Option.some.injEq, Prod.mk.injEq] at H
        obtain ⟨rfl, rfl⟩ := H
        clear hl c3
        go_wp2
        go_ret
        exact ⟨rfl, HO.out, HB.out, HK.out⟩
end Go.Proofs.Ytgdebfaoohjikaa.F

namespace Go.Proofs.Ytgdebfaoohjikaa.LW
set_option linter.unusedVariables false
set_option linter.unusedSimpArgs false
open Go.RowKit Go.Proofs.YtgdebfaoohjikaaW.PrintWords Go.Proofs.YtgdebfaoohjikaaW.PrintLast Go.Proofs.YtgdebfaoohjikaaW.PrintMore
structure It where
  P : World → Prop
  F : Nat → Prop
  mv : ∀ w w1 : World, (∀ k, F k → w1.heap[k]? = w.heap[k]?) → P w → P w1
def Its (w : World) (B n : Nat) : List It → Prop
  | [] => True
  | i :: r => (∀ k, i.F k → B ≤ k ∧ k < n) ∧ i.P w ∧ (∀ j, j ∈ r → ∀ k, i.F k → ¬ j.F k) ∧ Its w B n r
variable {w w0 w1 : World} {B B' n m g t e : Nat} {l : List It} {i : It} {cs : Array Value} {α : Type} {d : Kd α} {v : Value} {xs ys : List α} {F S ok : Nat → Prop}
theorem Its.mono (h : Its w B n l) (hB : B' ≤ B) (hn : n ≤ m) : Its w B' m l := by
  induction l with
  | nil => trivial
  | cons i r ih => exact ⟨fun k hk => ⟨Nat.le_trans hB (h.1 k hk).1, Nat.lt_of_lt_of_le (h.1 k hk).2 hn⟩, h.2.1, h.2.2.1, ih h.2.2.2⟩
theorem Its.all (h : Its w B n l) : ∀ j, j ∈ l → j.P w ∧ ∀ k, j.F k → B ≤ k ∧ k < n := by
  induction l with
  | nil => intro j hj; cases hj
  | cons i r ih =>
    intro j hj
    cases hj with
    | head => exact ⟨h.2.1, h.1⟩
    | tail _ hj => exact ih h.2.2.2 j hj
theorem Its.move (h : Its w B n l) (hm : ∀ j, j ∈ l → ∀ k, j.F k → w1.heap[k]? = w.heap[k]?) : Its w1 B n l := by
  induction l with
  | nil => trivial
  | cons i r ih => exact ⟨h.1, i.mv w w1 (hm i List.mem_cons_self) h.2.1, h.2.2.1, ih h.2.2.2 (fun j hj => hm j (List.mem_cons_of_mem _ hj))⟩
theorem Its.app {l' : List It} (h' : Its w B' n l') (h : Its w B B' l) (hB : B ≤ B') (hn : B' ≤ n) : Its w B n (l' ++ l) := by
  induction l' with
  | nil => exact h.mono (Nat.le_refl _) hn
  | cons i r ih =>
    refine ⟨fun k hk => ⟨Nat.le_trans hB (h'.1 k hk).1, (h'.1 k hk).2⟩, h'.2.1, fun j hj k hk => ?_, ih h'.2.2.2⟩
    rcases List.mem_append.1 hj with hj | hj
    · exact h'.2.2.1 j hj k hk
    · intro hf
      have h1 := (h'.1 k hk).1
      have h2 := ((h.all j hj).2 k hf).2
      omega
/-- One of them is written: the others stay. -/
theorem Its.write (h : Its w B n l) (i' : It) (hF : ∀ k, i'.F k → i.F k) (hP : i'.P w1) (hk : ∀ k, k < n → ¬ i.F k → w1.heap[k]? = w.heap[k]?) : ∀ q, l[q]? = some i → Its w1 B n (l.set q i') := by
  induction l with
  | nil => intro q hq; simp at hq
  | cons j r ih =>
    intro q hq
    cases q with
    | zero =>
      simp only [List.getElem?_cons_zero, Option.some.injEq] at hq
      subst hq
      exact ⟨fun k hk' => h.1 k (hF k hk'), hP, fun x hx k hk' => h.2.2.1 x hx k (hF k hk'), h.2.2.2.move (fun x hx k hk' => hk k ((h.2.2.2.all x hx).2 k hk').2 (fun hi => h.2.2.1 x hx k hi hk'))⟩
    | succ q =>
      rw [List.getElem?_cons_succ] at hq
      have hm := List.mem_of_getElem? hq
      refine ⟨h.1, j.mv w w1 (fun k hk' => hk k (h.1 k hk').2 (fun hi => h.2.2.1 i hm k hk' hi)) h.2.1, fun x hx k hk' => ?_, ih h.2.2.2 q hq⟩
      rcases List.mem_or_eq_of_mem_set hx with hx | rfl
      · exact h.2.2.1 x hx k hk'
      · exact fun hi => h.2.2.1 i hm k hk' (hF k hi)
/-- A variable in memory. -/
def box (g : Nat) (cs : Array Value) (t : Nat) : It := ⟨fun w => w.heap[g]? = some (.cells cs t (0, 0)), fun k => k = g, fun _ _ hk h => (hk g rfl).trans h⟩
/-- A row of the call's own. -/
def row {α : Type} (d : Kd α) (e B : Nat) (v : Value) (xs : List α) (F : Nat → Prop) : It := ⟨fun w => Kd.S d e w B F v xs, F, fun _ _ hk h => Kd.S_move h hk⟩
/-- What the law holds at w; what stood at its begin (w0) stands. -/
structure St (w0 w : World) (l : List It) : Prop where
  b : Below w0.heap.size w0 w
  i : Its w w0.heap.size w.heap.size l
theorem St.start (w : World) : St w w [] := ⟨Below.refl _ _, trivial⟩
theorem St.step (h : St w0 w l) (hb : Below w.heap.size w w1) : St w0 w1 l :=
  ⟨below_step h.b hb, (h.i.move (fun j hj k hk => hb.block k ((h.i.all j hj).2 k hk).2)).mono (Nat.le_refl _) hb.size⟩
theorem St.drew (h : St w0 w l) : St w0 w.drew l := h.step (below_drew (Below.refl _ _))
theorem St.add (h : St w0 w l) (hb : Below w.heap.size w w1) {l' : List It} (hn : Its w1 w.heap.size w1.heap.size l') : St w0 w1 (l' ++ l) :=
  ⟨below_step h.b hb, hn.app (h.i.move (fun j hj k hk => hb.block k ((h.i.all j hj).2 k hk).2)) h.b.size hb.size⟩
theorem St.box (h : St w0 w l) (hg : g = w.heap.size) (hx : w1.heap[g]? = some (.cells cs t (0, 0))) (hb : Below w.heap.size w w1) : St w0 w1 (box g cs t :: l) :=
  h.add hb (l' := [LW.box g cs t]) ⟨fun k hk => by have : k = g := hk; subst this; exact ⟨by omega, blk_lt hx⟩, hx, fun j hj => (List.not_mem_nil hj).elim, trivial⟩
theorem St.alloc (h : St w0 w l) (cs : Array Value) (t : Nat) (hg : g = w.heap.size) : St w0 (w.alloc (.cells cs t)) (LW.box g cs t :: l) := h.box hg (by subst hg; simpa using blk_new w (.cells cs t)) (below_alloc (Below.refl _ _) _)
theorem St.lt (h : St w0 w l) (q : Nat) (hq : l[q]? = some (LW.box g cs t)) : g < w.heap.size := blk_lt (h.i.all _ (List.mem_of_getElem? hq)).1
theorem S_between (h : Kd.S d e w1 w.heap.size ok v xs) (h0 : w0.heap.size ≤ w.heap.size) : Kd.S d e w1 w0.heap.size (fun k => w.heap.size ≤ k ∧ k < w1.heap.size) v xs := Kd.S_lower (Kd.S_mono (Kd.S_bound h) (fun k hk => ⟨hk.2.1, hk.2.2.1⟩)) h0
theorem St.row (h : St w0 w l) (hb : Below w.heap.size w w1) (ho : Kd.S d e w1 w.heap.size ok v xs) : St w0 w1 (row d e w0.heap.size v xs (fun k => w.heap.size ≤ k ∧ k < w1.heap.size) :: l) :=
  h.add hb (l' := [LW.row d e w0.heap.size v xs (fun k => w.heap.size ≤ k ∧ k < w1.heap.size)]) ⟨fun k hk => hk, S_between ho h.b.size, fun j hj => (List.not_mem_nil hj).elim, trivial⟩
/-- A flat row (its elements lead to nothing) is told so, too. -/
theorem S_flat (hE : d.E = []) (h : d.R e w B ok v xs) : Kd.S d e w B ok v xs := by
  obtain ⟨h0, inner, ho, hr⟩ := h
  refine ⟨fun _ => 0, h0, inner, by rw [List.length_zipIdx]; exact ho, by rw [List.length_zipIdx]; exact hr.1, fun j p hj => ?_⟩
  rw [List.getElem?_zipIdx, Nat.zero_add] at hj
  obtain ⟨x, hx, rfl⟩ := Option.map_eq_some_iff.1 hj
  refine d.M_mono (fun k hk => ?_) (d.M_bound (hr.2 j x hx))
  obtain ⟨_, _, _, q, hq, _⟩ := hk
  rw [hE] at hq
  cases hq
theorem St.rowR (h : St w0 w l) (hE : d.E = []) (hb : Below w.heap.size w w1) (ho : d.R e w1 w.heap.size ok v xs) : St w0 w1 (LW.row d e w0.heap.size v xs (fun k => w.heap.size ≤ k ∧ k < w1.heap.size) :: l) := h.row hb (S_flat hE ho)
/-- Two flat rows of different types that one call made. -/
theorem St.rows2 {β : Type} {d' : Kd β} {e' : Nat} {v' : Value} {ys : List β} {ok' : Nat → Prop} (h : St w0 w l) (hE : d.E = []) (hE' : d'.E = []) (hne : e ≠ e') (hb : Below w.heap.size w w1) (ho : d.R e w1 w.heap.size ok v xs) (ho' : d'.R e' w1 w.heap.size ok' v' ys) :
    St w0 w1 (LW.row d e w0.heap.size v xs (fun k => some k = v.ownBlock) :: LW.row d' e' w0.heap.size v' ys (fun k => some k = v'.ownBlock) :: l) :=
  h.add hb (l' := [_, _]) ⟨fun k hk => ⟨Kd.R_base ho k hk.symm, Kd.R_lt ho k hk.symm⟩, S_flat hE (Kd.R_lower (Kd.R_tight hE ho) h.b.size), fun j hj k hk hf => by
      rcases List.mem_singleton.1 hj with rfl
      obtain ⟨c1, h1⟩ := Kd.R_typed ho k hk.symm
      obtain ⟨c2, h2⟩ := Kd.R_typed ho' k (show v'.ownBlock = some k from Eq.symm hf)
      rw [h1] at h2
      injection h2 with h2
      injection h2 with _ h2
      exact hne h2, fun k hk => ⟨Kd.R_base ho' k hk.symm, Kd.R_lt ho' k hk.symm⟩, S_flat hE' (Kd.R_lower (Kd.R_tight hE' ho') h.b.size), fun j hj => (List.not_mem_nil hj).elim, trivial⟩
theorem setCell_size (w : World) (p : Addr) (u : Value) : (w.setCell p u).heap.size = w.heap.size := by simp [World.setCell]
/-- A store into a variable. -/
theorem St.set (h : St w0 w l) (q : Nat) (hq : l[q]? = some (LW.box g cs t)) (j : Nat) (u : Value) : St w0 (w.setCell ⟨g, j, none⟩ u) (l.set q (LW.box g (cs.setIfInBounds j u) t)) := by
  have hx := h.i.all _ (List.mem_of_getElem? hq)
  refine ⟨below_set h.b (hx.2 g rfl).1, ?_⟩
  rw [setCell_size]
  exact h.i.write (i := LW.box g cs t) (LW.box g (cs.setIfInBounds j u) t) (fun k hk => hk) (blk_set hx.1 j u) (fun k _ hk => Below.heap_setCell w ⟨g, j, none⟩ u k hk) q hq
theorem St.cell (h : St w0 w l) (q : Nat) (hq : l[q]? = some (LW.box g cs t)) (j : Nat) {u : Value} (hu : cs[j]? = some u) : w.cell? ⟨g, j, none⟩ = some u := (blk_cell (h.i.all _ (List.mem_of_getElem? hq)).1 j).trans hu
theorem St.frozen (h : St w0 w l) (q : Nat) (hq : l[q]? = some (LW.box g cs t)) (j : Nat) : w.frozen? ⟨g, j, none⟩ = false := blk_frozen (h.i.all _ (List.mem_of_getElem? hq)).1 j
theorem St.own (h : St w0 w l) (q : Nat) (hq : l[q]? = some (LW.row d e B v xs F)) : Kd.S d e w B F v xs := (h.i.all _ (List.mem_of_getElem? hq)).1
theorem St.reads {A : Option Addr} {m c : Nat} (h : St w0 w l) (q : Nat) (hq : l[q]? = some (LW.row d e B (.slice A m c) xs F)) : m = xs.length ∧ m ≤ c ∧ d.C w A xs.length xs := Kd.S_reads' (h.own q hq)
/-- A row has been written. -/
theorem St.write (h : St w0 w l) (q : Nat) (hq : l[q]? = some (LW.row d e w0.heap.size v xs F)) (hS : Kd.S d e w1 w0.heap.size F v ys) (hB : Below w0.heap.size w0 w1) (hk : Kept w w1 F) : St w0 w1 (l.set q (LW.row d e w0.heap.size v ys F)) := by
  have hx := h.i.all _ (List.mem_of_getElem? hq)
  exact ⟨hB, (h.i.write (i := LW.row d e w0.heap.size v xs F) (LW.row d e w0.heap.size v ys F) (fun k hk => hk) hS (fun k hlt hn => hk.2 k hlt hn) q hq).mono (Nat.le_refl _) hk.1⟩
theorem St.writeR (h : St w0 w l) (hE : d.E = []) (q : Nat) (hq : l[q]? = some (LW.row d e w0.heap.size v xs F)) (hR : d.R e w1 w0.heap.size ok v ys) (hB : Below w0.heap.size w0 w1) (hk : Kept w w1 F) : St w0 w1 (l.set q (LW.row d e w0.heap.size v ys F)) :=
  h.write q hq (S_flat hE (Kd.R_mono (Kd.R_tight hE hR) (fun k hk' => (Kd.S_R (h.own q hq)).1 k hk'.symm))) hB hk
end Go.Proofs.Ytgdebfaoohjikaa.LW

namespace Go.Proofs.Ytgdebfaoohjikaa.F
open Go.RowKit Go.Proofs.YtgdebfaoohjikaaW.PrintWords Go.Proofs.YtgdebfaoohjikaaW.PrintLast Go.Proofs.YtgdebfaoohjikaaW.PrintMore
open Go.Proofs.Ytgdebfaoohjikaa
set_option linter.unusedVariables false
set_option linter.unusedSimpArgs false
def laws_FnExactDecodeAll.f (k : Nat) (l0 : List Int) : Option Bool := (if (l0.length : Int) > 1048576 then some true else ((laws_toByteS.f k l0).bind fun p3 => ((spec_DecodeAll.f k p3).bind fun p11 => ((laws_toByteS.f k l0).bind fun p18 => ((impl_DecodeAll.f k p18).bind fun p26 => ((laws_eqRecordS.f k p26.1 p11.1).bind fun p33 => (if p33 = true then (if p26.2 = p11.2 then ((laws_toByteS.f k l0).bind fun p38 => ((laws_eqByteS.f k p18 p38).bind fun p45 => (if p45 = true then ((laws_markByteS.f k p18 1).bind fun p49 => (if p49.1 < 0 then none else ((laws_eqRecordS.f k p26.1 p11.1).bind fun p55 => (if p55 = true then (if p11.2 = p11.2 then ((laws_markRecordS.f k p26.1 1).bind fun p59 => ((laws_heldRecordS.f k p59.2 1).bind fun p64 => (if p64 < 0 then none else (if p64 = p59.1 then ((laws_toByteS.f k l0).bind fun p70 => ((impl_DecodeAll.f k p70).bind fun p78 => ((laws_eqRecordS.f k p78.1 p11.1).bind fun p85 => (if p85 = true then (if p78.2 = p11.2 then ((laws_heldRecordS.f k p59.2 1).bind fun p90 => (if p90 < 0 then none else (if p90 = p59.1 then (some true) else none))) else none) else none)))) else none)))) else none) else none)))) else none))) else none) else none)))))))
theorem laws_FnExactDecodeAll.mono : ∀ l0 k, LeO (laws_FnExactDecodeAll.f k l0) (laws_FnExactDecodeAll.f (k + 1) l0) := by
  intro l0 k
  unfold laws_FnExactDecodeAll.f
  repeat' first
  | (with_reducible exact laws_eqByteS.mono _ _ _)
  | (with_reducible exact laws_markByteS.mono _ _ _)
  | (with_reducible exact laws_toByteS.mono _ _)
  | (with_reducible exact laws_eqRecordS.mono _ _ _)
  | (with_reducible exact laws_markRecordS.mono _ _ _)
  | (with_reducible exact spec_DecodeAll.mono _ _)
  | (with_reducible exact impl_DecodeAll.mono _ _)
  | (with_reducible exact laws_heldRecordS.mono _ _ _)
  | (with_reducible exact LeO.refl _)
  | (with_reducible exact LeO.none _)
  | (with_reducible refine LeO.ite ?_ ?_)
  | (with_reducible refine LeO.bind ?_ (fun _ => ?_))
  | exact laws_eqByteS.mono _ _ _
  | exact laws_markByteS.mono _ _ _
  | exact laws_toByteS.mono _ _
  | exact laws_eqRecordS.mono _ _ _
  | exact laws_markRecordS.mono _ _ _
  | exact spec_DecodeAll.mono _ _
  | exact impl_DecodeAll.mono _ _
  | exact laws_heldRecordS.mono _ _ _
set_option maxHeartbeats 16000000 in
set_option maxRecDepth 100000 in
theorem laws_FnExactDecodeAll.calls (k : Nat) (A0 : Option Addr) (c0 : Nat) (l0 : List Int) (r : Bool) (w : World) (hr0 : Kd.C (Kd.int .u8) w A0 l0.length l0) (hc0 : l0.length ≤ c0) (h : laws_FnExactDecodeAll.f k l0 = some r) :
    Calls Try.prog 11 #[.slice A0 l0.length c0] w fun e w' => e = .returned (.bool r) ∧ Below w.heap.size w w' := by
  have HR0 := Aside0.mk hr0
  have HC0 := Aside0.mk hc0
  clear hr0 hc0
  have ST := Aside0.mk (LW.St.start w)
  unfold laws_FnExactDecodeAll.f at h
  by_cases c1 : (l0.length : Int) > 1048576
  · rw [if_pos c1] at h
    obtain rfl := Option.some.inj h
    have c1b : decide ((l0.length : Int) > 1048576) = true := decide_eq_true c1
    clear c1
    go_enter Try.func11, Try.ntmps11
    go_wp2
    go_ret
    exact ⟨rfl, by repeat (first | exact Below.refl _ _ | apply below_alloc)⟩
  rw [if_neg c1] at h
  have c1b : decide ((l0.length : Int) > 1048576) = false := decide_eq_false c1
  clear c1
  go_enter Try.func11, Try.ntmps11
  go_wp2_with fail
  replace h := Option.bind_eq_some_iff.mp h
  obtain ⟨t2, HA_, h⟩ := h
  try dsimp only at h
  replace HA_ := Aside0.mk HA_
  with_reducible refine (laws_toByteS.calls k _ _ l0 t2 _ (Kd.C_below HR0.out ST.out.b) HC0.out HA_.out).mono ?_
  rintro e w4 ⟨v5, rfl, ho6, hb⟩
  clear HA_
  obtain ⟨A7, c8, rfl⟩ := Kd.R_slice ho6
  replace ST := Aside0.mk (ST.out.rowR rfl hb ho6)
  clear hb ho6
  go_wp2_with fail
  replace h := Option.bind_eq_some_iff.mp h
  obtain ⟨⟨t9, t10⟩, HA_, h⟩ := h
  try dsimp only at h
  replace HA_ := Aside0.mk HA_
  with_reducible refine (spec_DecodeAll.calls k _ _ t2 t9 t10 _ (ST.out.reads 0 rfl).2.2 (ST.out.reads 0 rfl).2.1 HA_.out).mono ?_
  rintro e w12 ⟨v13, rfl, ho14, hb⟩
  clear HA_
  obtain ⟨A15, c16, rfl⟩ := Kd.S_slice ho14
  replace ST := Aside0.mk (ST.out.row hb ho14)
  clear hb ho14
  go_wp2_with fail
  replace h := Option.bind_eq_some_iff.mp h
  obtain ⟨t17, HA_, h⟩ := h
  try dsimp only at h
  replace HA_ := Aside0.mk HA_
  with_reducible refine (laws_toByteS.calls k _ _ l0 t17 _ (Kd.C_below HR0.out ST.out.b) HC0.out HA_.out).mono ?_
  rintro e w19 ⟨v20, rfl, ho21, hb⟩
  clear HA_
  obtain ⟨A22, c23, rfl⟩ := Kd.R_slice ho21
  replace ST := Aside0.mk (ST.out.rowR rfl hb ho21)
  clear hb ho21
  go_wp2_with fail
  replace h := Option.bind_eq_some_iff.mp h
  obtain ⟨⟨t24, t25⟩, HA_, h⟩ := h
  try dsimp only at h
  replace HA_ := Aside0.mk HA_
  with_reducible refine (impl_DecodeAll.calls k _ _ t17 t24 t25 _ (ST.out.reads 0 rfl).2.2 (ST.out.reads 0 rfl).2.1 HA_.out).mono ?_
  rintro e w27 ⟨v28, rfl, ho29, hb⟩
  clear HA_
  obtain ⟨A30, c31, rfl⟩ := Kd.S_slice ho29
  replace ST := Aside0.mk (ST.out.row hb ho29)
  clear hb ho29
  go_wp2_with fail
  replace h := Option.bind_eq_some_iff.mp h
  obtain ⟨t32, HA_, h⟩ := h
  try dsimp only at h
  replace HA_ := Aside0.mk HA_
  with_reducible refine (laws_eqRecordS.calls k _ _ t24 _ _ t9 t32 _ (ST.out.reads 0 rfl).2.2 (ST.out.reads 0 rfl).2.1 (ST.out.reads 2 rfl).2.2 (ST.out.reads 2 rfl).2.1 HA_.out).mono ?_
  rintro e w34 ⟨rfl, hb⟩
  clear HA_
  replace ST := Aside0.mk (ST.out.step hb)
  clear hb
  obtain rfl : t32 = true := by
    cases t32 with
    | true => rfl
    | false => exact absurd h (by simp)
  first | rw [if_pos rfl] at h | rw [if_pos trivial] at h
  have e35 : t25 = t10 := by
    refine Decidable.byContradiction fun e_ => ?_
    rw [if_neg e_] at h
    exact absurd h (by simp)
  rw [if_pos e35] at h
  obtain rfl : t10 = t25 := by first | exact e35 | exact e35.symm
  clear e35
  have hq36 : (t10 != t10) = false := bne_self_eq_false _
  go_wp2_with fail
  replace h := Option.bind_eq_some_iff.mp h
  obtain ⟨t37, HA_, h⟩ := h
  try dsimp only at h
  replace HA_ := Aside0.mk HA_
  with_reducible refine (laws_toByteS.calls k _ _ l0 t37 _ (Kd.C_below HR0.out ST.out.b) HC0.out HA_.out).mono ?_
  rintro e w39 ⟨v40, rfl, ho41, hb⟩
  clear HA_
  obtain ⟨A42, c43, rfl⟩ := Kd.R_slice ho41
  replace ST := Aside0.mk (ST.out.rowR rfl hb ho41)
  clear hb ho41
  go_wp2_with fail
  replace h := Option.bind_eq_some_iff.mp h
  obtain ⟨t44, HA_, h⟩ := h
  try dsimp only at h
  replace HA_ := Aside0.mk HA_
  with_reducible refine (laws_eqByteS.calls k _ _ t17 _ _ t37 t44 _ (ST.out.reads 2 rfl).2.2 (ST.out.reads 2 rfl).2.1 (ST.out.reads 0 rfl).2.2 (ST.out.reads 0 rfl).2.1 HA_.out).mono ?_
  rintro e w46 ⟨rfl, hb⟩
  clear HA_
  replace hb := Drawn0.below hb
  replace ST := Aside0.mk (ST.out.step hb)
  clear hb
  obtain rfl : t44 = true := by
    cases t44 with
    | true => rfl
    | false => exact absurd h (by simp)
  first | rw [if_pos rfl] at h | rw [if_pos trivial] at h
  go_wp2_with fail
  replace h := Option.bind_eq_some_iff.mp h
  obtain ⟨⟨t47, t48⟩, HA_, h⟩ := h
  try dsimp only at h
  replace HA_ := Aside0.mk HA_
  with_reducible refine (laws_markByteS.calls k _ _ t17 1 t47 t48 w _ ST.out.b (Kd.S_R (ST.out.own 2 rfl)) HA_.out).mono ?_
  rintro e w50 ⟨rfl, ho51, hb, hk⟩
  clear HA_
  replace ST := Aside0.mk (ST.out.writeR rfl 2 rfl ho51 hb hk)
  clear hb hk ho51
  have el52 := (ST.out.reads 2 rfl).1
  simp only [el52] at ST ⊢
  clear el52
  by_cases c53 : t47 < 0
  · rw [if_pos c53] at h
    exact absurd h (by simp)
  rw [if_neg c53] at h
  have c53b : decide (t47 < 0) = false := decide_eq_false c53
  clear c53
  go_wp2_with fail
  replace h := Option.bind_eq_some_iff.mp h
  obtain ⟨t54, HA_, h⟩ := h
  try dsimp only at h
  replace HA_ := Aside0.mk HA_
  with_reducible refine (laws_eqRecordS.calls k _ _ t24 _ _ t9 t54 _ (ST.out.reads 1 rfl).2.2 (ST.out.reads 1 rfl).2.1 (ST.out.reads 3 rfl).2.2 (ST.out.reads 3 rfl).2.1 HA_.out).mono ?_
  rintro e w56 ⟨rfl, hb⟩
  clear HA_
  replace ST := Aside0.mk (ST.out.step hb)
  clear hb
  obtain rfl : t54 = true := by
    cases t54 with
    | true => rfl
    | false => exact absurd h (by simp)
  first | rw [if_pos rfl] at h | rw [if_pos trivial] at h
  first | rw [if_pos rfl] at h | rw [if_pos trivial] at h
  go_wp2_with fail
  replace h := Option.bind_eq_some_iff.mp h
  obtain ⟨⟨t57, t58⟩, HA_, h⟩ := h
  try dsimp only at h
  replace HA_ := Aside0.mk HA_
  with_reducible refine (laws_markRecordS.calls k _ _ t24 1 t57 t58 w _ ST.out.b (ST.out.own 1 rfl) HA_.out).mono ?_
  rintro e w60 ⟨rfl, ho61, hb, hk⟩
  clear HA_
  replace ST := Aside0.mk (ST.out.write 1 rfl ho61 hb hk)
  clear hb hk ho61
  have el62 := (ST.out.reads 1 rfl).1
  simp only [el62] at ST ⊢
  clear el62
  go_wp2_with fail
  replace h := Option.bind_eq_some_iff.mp h
  obtain ⟨t63, HA_, h⟩ := h
  try dsimp only at h
  replace HA_ := Aside0.mk HA_
  with_reducible refine (laws_heldRecordS.calls k _ _ t58 1 t63 _ (ST.out.reads 1 rfl).2.2 (ST.out.reads 1 rfl).2.1 HA_.out).mono ?_
  rintro e w65 ⟨rfl, hb⟩
  clear HA_
  replace ST := Aside0.mk (ST.out.step hb)
  clear hb
  by_cases c66 : t63 < 0
  · rw [if_pos c66] at h
    exact absurd h (by simp)
  rw [if_neg c66] at h
  have c66b : decide (t63 < 0) = false := decide_eq_false c66
  clear c66
  have e67 : t63 = t57 := by
    refine Decidable.byContradiction fun e_ => ?_
    rw [if_neg e_] at h
    exact absurd h (by simp)
  rw [if_pos e67] at h
  obtain rfl : t57 = t63 := by first | exact e67 | exact e67.symm
  clear e67
  have hq68 : (t57 != t57) = false := bne_self_eq_false _
  go_wp2_with fail
  replace h := Option.bind_eq_some_iff.mp h
  obtain ⟨t69, HA_, h⟩ := h
  try dsimp only at h
  replace HA_ := Aside0.mk HA_
  with_reducible refine (laws_toByteS.calls k _ _ l0 t69 _ (Kd.C_below HR0.out ST.out.b) HC0.out HA_.out).mono ?_
  rintro e w71 ⟨v72, rfl, ho73, hb⟩
  clear HA_
  obtain ⟨A74, c75, rfl⟩ := Kd.R_slice ho73
  replace ST := Aside0.mk (ST.out.rowR rfl hb ho73)
  clear hb ho73
  go_wp2_with fail
  replace h := Option.bind_eq_some_iff.mp h
  obtain ⟨⟨t76, t77⟩, HA_, h⟩ := h
  try dsimp only at h
  replace HA_ := Aside0.mk HA_
  with_reducible refine (impl_DecodeAll.calls k _ _ t69 t76 t77 _ (ST.out.reads 0 rfl).2.2 (ST.out.reads 0 rfl).2.1 HA_.out).mono ?_
  rintro e w79 ⟨v80, rfl, ho81, hb⟩
  clear HA_
  obtain ⟨A82, c83, rfl⟩ := Kd.S_slice ho81
  replace ST := Aside0.mk (ST.out.row hb ho81)
  clear hb ho81
  go_wp2_with fail
  replace h := Option.bind_eq_some_iff.mp h
  obtain ⟨t84, HA_, h⟩ := h
  try dsimp only at h
  replace HA_ := Aside0.mk HA_
  with_reducible refine (laws_eqRecordS.calls k _ _ t76 _ _ t9 t84 _ (ST.out.reads 0 rfl).2.2 (ST.out.reads 0 rfl).2.1 (ST.out.reads 5 rfl).2.2 (ST.out.reads 5 rfl).2.1 HA_.out).mono ?_
  rintro e w86 ⟨rfl, hb⟩
  clear HA_
  replace ST := Aside0.mk (ST.out.step hb)
  clear hb
  obtain rfl : t84 = true := by
    cases t84 with
    | true => rfl
    | false => exact absurd h (by simp)
  first | rw [if_pos rfl] at h | rw [if_pos trivial] at h
  have e87 : t77 = t10 := by
    refine Decidable.byContradiction fun e_ => ?_
    rw [if_neg e_] at h
    exact absurd h (by simp)
  rw [if_pos e87] at h
  obtain rfl : t10 = t77 := by first | exact e87 | exact e87.symm
  clear e87
  have hq88 : (t10 != t10) = false := bne_self_eq_false _
  go_wp2_with fail
  replace h := Option.bind_eq_some_iff.mp h
  obtain ⟨t89, HA_, h⟩ := h
  try dsimp only at h
  replace HA_ := Aside0.mk HA_
  with_reducible refine (laws_heldRecordS.calls k _ _ t58 1 t89 _ (ST.out.reads 3 rfl).2.2 (ST.out.reads 3 rfl).2.1 HA_.out).mono ?_
  rintro e w91 ⟨rfl, hb⟩
  clear HA_
  replace ST := Aside0.mk (ST.out.step hb)
  clear hb
  by_cases c92 : t89 < 0
  · rw [if_pos c92] at h
    exact absurd h (by simp)
  rw [if_neg c92] at h
  have c92b : decide (t89 < 0) = false := decide_eq_false c92
  clear c92
  have e93 : t89 = t57 := by
    refine Decidable.byContradiction fun e_ => ?_
    rw [if_neg e_] at h
    exact absurd h (by simp)
  rw [if_pos e93] at h
  obtain rfl : t57 = t89 := by first | exact e93 | exact e93.symm
  clear e93
  have hq94 : (t57 != t57) = false := bne_self_eq_false _
  obtain rfl := Option.some.inj h
  go_wp2
  go_ret
  exact ⟨rfl, ST.out.b⟩
end Go.Proofs.Ytgdebfaoohjikaa.F

namespace Go.Proofs.Ytgdebfaoohjikaa.PK
set_option linter.unusedVariables false
set_option linter.unusedSimpArgs false
open Go.RowKit Go.Proofs.YtgdebfaoohjikaaW.PrintWords
theorem EvS {α : Type} {g : Nat → Option α} {r : α} (h : Ev (fun k => g (k + 1)) r) : Ev g r := by
  obtain ⟨K, h⟩ := h
  refine ⟨K + 1, fun k hk => ?_⟩
  obtain ⟨m, rfl⟩ : ∃ m, k = m + 1 := ⟨k - 1, by omega⟩
  exact h m (by omega)
theorem EvP {α : Type} {g : Nat → Option α} {r : α} (h : Ev g r) : Ev (fun k => g (k + 1)) r := by
  obtain ⟨K, h⟩ := h
  exact ⟨K, fun k hk => h (k + 1) (by omega)⟩
theorem EvB {α β : Type} {g : Nat → Option α} {f : Nat → α → Option β} {a : α} {r : β} (h : Ev g a) : Ev (fun k => (g k).bind (f k)) r ↔ Ev (fun k => f k a) r := by
  obtain ⟨K, h⟩ := h
  constructor
  · rintro ⟨K', h'⟩
    refine ⟨max K K', fun k hk => ?_⟩
    have h2 : (g k).bind (f k) = some r := h' k (by omega)
    rw [h k (by omega)] at h2
    exact h2
  · rintro ⟨K', h'⟩
    refine ⟨max K K', fun k hk => ?_⟩
    show (g k).bind (f k) = some r
    rw [h k (by omega)]
    exact h' k (by omega)
theorem EvN {α : Type} {r : α} : Ev (fun _ => some r) r := ⟨0, fun _ _ => rfl⟩
theorem EvE {α : Type} {g : Nat → Option α} {r : α} (h : Ev g r) : ∃ k, g k = some r := h.rounds
/-- Two answers of one function are one. -/
theorem EvU {α : Type} {g : Nat → Option α} {r s : α} (h : Ev g r) (h' : Ev g s) : r = s := by
  obtain ⟨K, h⟩ := h
  obtain ⟨K', h'⟩ := h'
  have := (h (max K K') (by omega)).symm.trans (h' (max K K') (by omega))
  exact Option.some.inj this
theorem w64 {x : Int} (h : -9223372036854775808 ≤ x) (h' : x ≤ 9223372036854775807) : wrap64 x = x := by
  unfold wrap64
  omega
theorem wf64 {x : Int} (h : (Lit.int .i64 x).wf = true) : -9223372036854775808 ≤ x ∧ x ≤ 9223372036854775807 := by
  simp only [Lit.wf, Bool.and_eq_true, decide_eq_true_eq] at h
  have h1 : IntKind.i64.min = -9223372036854775808 := by decide
  have h2 : IntKind.i64.max = 9223372036854775807 := by decide
  omega
/-- From the end down. -/
theorem up {P : Int → Prop} (n : Nat) (base : P n) (step : ∀ i : Nat, i < n → P ((i + 1 : Nat) : Int) → P (i : Int)) : ∀ i : Nat, i ≤ n → P (i : Int) := by
  intro i hi
  obtain ⟨d, hd⟩ : ∃ d, d + i = n := ⟨n - i, by omega⟩
  induction d generalizing i with
  | zero => have : i = n := by omega
            subst this
            exact base
  | succ d ih => exact step i (by omega) (ih (i + 1) (by omega) (by omega))
theorem up0 {P : Int → Prop} (n : Nat) (base : P n) (step : ∀ i : Nat, i < n → P ((i + 1 : Nat) : Int) → P (i : Int)) : P 0 := up n base step 0 (Nat.zero_le _)
theorem getD_nat {α : Type} (l : List α) (z : α) (i : Nat) (h : i < l.length) : l.getD ((i : Int).toNat) z = l[i] := by
  simp [List.getD_eq_getElem?_getD, List.getElem?_eq_getElem h]
theorem drop_at {α : Type} (l : List α) (i : Nat) (h : i < l.length) : l.drop i = l[i] :: l.drop (i + 1) := List.drop_eq_getElem_cons h
/-- Marks put into the elements of a list, one behind the other, and found there. -/
theorem marks {α : Type} (L : Nat → List α → Int → Int → Option (Int × List α)) (H : Nat → List α → Int → Int → Option Int) (B : Int) (hB : 0 ≤ B) (n : Nat) (N : Int)
    (endL : ∀ l a, l.length = n → Ev (fun k => L k l a n) (a, l)) (endH : ∀ l a, l.length = n → Ev (fun k => H k l a n) a)
    (step : ∀ (i : Nat) (l : List α) (a : Int), i < n → l.length = n → 0 ≤ a → a + B ≤ N → ∃ (e : α) (a1 : Int), a ≤ a1 ∧ a1 ≤ a + B ∧
      (∀ r, Ev (fun k => L k (l.set i e) a1 ((i + 1 : Nat) : Int)) r → Ev (fun k => L k l a i) r) ∧
      (∀ (l' : List α) r, l'.length = n → l'[i]? = some e → Ev (fun k => H k l' a1 ((i + 1 : Nat) : Int)) r → Ev (fun k => H k l' a i) r)) :
    ∀ (i : Nat), i ≤ n → ∀ (l : List α) (a : Int), l.length = n → 0 ≤ a → a + (n - i) * B ≤ N →
      ∃ (a' : Int) (l' : List α), Ev (fun k => L k l a i) (a', l') ∧ a ≤ a' ∧ a' ≤ a + (n - i) * B ∧ l'.length = n ∧ (∀ j, j < i → l'[j]? = l[j]?) ∧ Ev (fun k => H k l' a i) a' := by
  intro i hi
  obtain ⟨d, hd⟩ : ∃ d, d + i = n := ⟨n - i, by omega⟩
  induction d generalizing i with
  | zero =>
    intro l a hl h0 hN
    have : i = n := by omega
    subst this
    exact ⟨a, l, endL l a hl, Int.le_refl _, by rw [Int.sub_self, Int.zero_mul]; omega, hl, fun _ _ => rfl, endH l a hl⟩
  | succ d ih =>
    intro l a hl h0 hN
    have hni : ((n : Int) - i) * B = B + ((n : Int) - ((i + 1 : Nat) : Int)) * B := by
      rw [show (n : Int) - i = 1 + ((n : Int) - ((i + 1 : Nat) : Int)) by omega, Int.add_mul, Int.one_mul]
    have hnn : 0 ≤ ((n : Int) - ((i + 1 : Nat) : Int)) * B := Int.mul_nonneg (by omega) hB
    obtain ⟨e, a1, h1, h2, hL, hH⟩ := step i l a (by omega) hl h0 (by omega)
    obtain ⟨a', l', hev, h3, h4, h5, h6, h7⟩ := ih (i + 1) (by omega) (by omega) (l.set i e) a1 (by simpa using hl) (by omega) (by omega)
    refine ⟨a', l', hL _ hev, by omega, by omega, h5, fun j hj => ?_, hH l' a' h5 ?_ h7⟩
    · rw [h6 j (by omega), List.getElem?_set_ne (by omega)]
    · rw [h6 i (by omega), List.getElem?_set_self (by omega)]
end Go.Proofs.Ytgdebfaoohjikaa.PK

namespace Go.Proofs.Ytgdebfaoohjikaa.BY
set_option linter.unusedVariables false
set_option linter.unusedSimpArgs false
open Go.RowKit Go.Proofs.Ytgdebfaoohjikaa.F Go.Proofs.Ytgdebfaoohjikaa.PK Go.Proofs.YtgdebfaoohjikaaW.PrintWords Go.Proofs.YtgdebfaoohjikaaW.PrintLast
theorem rd_at (l : List Int) (i : Nat) (h : i < l.length) : rd l (i : Int) = l[i] := getD_nat l _ i h
theorem nxt (i n : Nat) (h : i < n) (hn : n ≤ 9223372036854775807) : wrap64 ((i : Int) + 1) = ((i + 1 : Nat) : Int) := by rw [w64 (by omega) (by omega)]; omega
theorem toByteS (l : List Int) (hl : l.length ≤ 1048576) : Ev (fun k => laws_toByteS.f k l) l := by
  have key := up (P := fun i => ∀ x : List Int, x.length = l.length → (∀ j : Nat, (j : Int) < i → x[j]? = l[j]?) → Ev (fun k => laws_toByteS.l0 k l x i) l) l.length
      (fun x h0 h1 => by
        have : x = l := List.ext_getElem? fun j => by
          by_cases hj : j < l.length
          · exact h1 j (by omega)
          · rw [List.getElem?_eq_none (by omega), List.getElem?_eq_none (by omega)]
        subst this
        exact EvS (by simp only [laws_toByteS.l0, Int.lt_irrefl, if_false]; exact EvN))
      (fun i hi ih x h0 h1 => by
        refine EvS ?_
        simp only [laws_toByteS.l0, rd_at l i hi, Option.bind_some, h0, Int.toNat_natCast, if_pos (show (i : Int) < (l.length : Int) by omega), if_pos (show 0 ≤ (i : Int) by omega), nxt i _ hi (by omega)]
        refine ih _ (by simpa using h0) fun j hj => ?_
        by_cases hji : j = i
        · subst hji
          rw [List.getElem?_set_self (by omega)]
          simp [List.getElem?_eq_getElem hi]
        · rw [List.getElem?_set_ne (by omega)]
          exact h1 j (by omega))
  have := key 0 (Nat.zero_le _) (List.replicate l.length 0) (by simp) (fun j hj => absurd hj (by omega))
  unfold laws_toByteS.f
  simp only [Int.toNat_natCast, if_pos (show 0 ≤ (l.length : Int) by omega), if_pos (show l.length ≤ 281474976710656 by omega)]
  exact this
theorem eqByteS (x : List Int) (hx : x.length ≤ 9223372036854775807) : Ev (fun k => laws_eqByteS.f k x x) true := by
  have key := up (P := fun i => Ev (fun k => laws_eqByteS.l0 k x x i) true) x.length
    (EvS (by simp only [laws_eqByteS.l0, Int.lt_irrefl, if_false]; exact EvN))
    (fun i hi ih => EvS (by simp only [laws_eqByteS.l0, if_true, Option.bind_some, if_pos (show (i : Int) < (x.length : Int) by omega), if_pos (show 0 ≤ (i : Int) by omega), nxt i _ hi hx]; exact ih))
  have := key 0 (Nat.zero_le _)
  unfold laws_eqByteS.f
  simp only [if_true]
  exact this
end Go.Proofs.Ytgdebfaoohjikaa.BY

namespace Go.Proofs.Ytgdebfaoohjikaa.VI
set_option linter.unusedVariables false
set_option linter.unusedSimpArgs false
open Go.RowKit Go.Proofs.Ytgdebfaoohjikaa.F Go.Proofs.Ytgdebfaoohjikaa.PK Go.Proofs.YtgdebfaoohjikaaW.PrintWords Go.Proofs.YtgdebfaoohjikaaW.PrintLast Go.Proofs.YtgdebfaoohjikaaW.PrintMore
/-- The bytes of a number. -/
def pv : Nat → Int → List Int
  | 0, x => [x]
  | n + 1, x => if x < 128 then [x] else (x % 128 + 128) :: pv n (x / 128)
/-- The number of bytes. -/
def dec : List Int → Int
  | [] => 0
  | b :: r => b % 128 + 128 * dec r
theorem dec_nonneg (l : List Int) : 0 ≤ dec l := by
  induction l with
  | nil => exact Int.le_refl _
  | cons b r ih => unfold dec; omega
theorem pow7 (n : Nat) : (128 : Int) ^ (n + 1) = 128 * 128 ^ n := by rw [Int.pow_succ, Int.mul_comm]
theorem pow7_pos (n : Nat) : 0 < (128 : Int) ^ n := Int.pow_pos (by omega)
theorem dec_lt (l : List Int) : dec l < 128 ^ l.length := by
  induction l with
  | nil => show (0 : Int) < 1; omega
  | cons b r ih =>
    rw [List.length_cons, pow7]
    unfold dec
    omega
theorem dec_append (l : List Int) (c : Int) : dec (l ++ [c]) = dec l + 128 ^ l.length * (c % 128) := by
  induction l with
  | nil => show c % 128 + 128 * 0 = 0 + 1 * (c % 128); omega
  | cons b r ih =>
    have e : dec (b :: r ++ [c]) = b % 128 + 128 * dec (r ++ [c]) := rfl
    have e2 : dec (b :: r) = b % 128 + 128 * dec r := rfl
    have e3 : (128 : Int) * (128 ^ r.length * (c % 128)) = 128 ^ (r.length + 1) * (c % 128) := by rw [pow7, Int.mul_assoc]
    rw [e, e2, ih, List.length_cons, Int.mul_add, e3]
    omega
theorem dec_pv (n : Nat) : ∀ x : Int, 0 ≤ x → x < 128 ^ (n + 1) → dec (pv n x) = x := by
  induction n with
  | zero =>
    intro x h0 h1
    rw [pow7] at h1
    show x % 128 + 128 * 0 = x
    have : (128 : Int) ^ 0 = 1 := rfl
    omega
  | succ n ih =>
    intro x h0 h1
    unfold pv
    by_cases h : x < 128
    · rw [if_pos h]
      show x % 128 + 128 * 0 = x
      omega
    · rw [if_neg h]
      show (x % 128 + 128) % 128 + 128 * dec (pv n (x / 128)) = x
      rw [pow7] at h1
      rw [ih (x / 128) (by omega) (by omega)]
      omega
theorem pv_pos (n : Nat) (x : Int) : 1 ≤ (pv n x).length := by
  cases n with
  | zero => exact Nat.le_refl _
  | succ n => unfold pv; split <;> simp
theorem pv_le (n : Nat) : ∀ x : Int, (pv n x).length ≤ n + 1 := by
  induction n with
  | zero => intro x; exact Nat.le_refl _
  | succ n ih =>
    intro x
    unfold pv
    split
    · simp
    · have := ih (x / 128)
      simp only [List.length_cons]
      omega
theorem pv_mono (n : Nat) : ∀ x y : Int, 0 ≤ x → x ≤ y → (pv n x).length ≤ (pv n y).length := by
  induction n with
  | zero => intro x y _ _; exact Nat.le_refl _
  | succ n ih =>
    intro x y h0 h
    unfold pv
    by_cases hx : x < 128
    · rw [if_pos hx]
      by_cases hy : y < 128
      · rw [if_pos hy]; exact Nat.le_refl _
      · rw [if_neg hy]
        have := pv_pos n (y / 128)
        simp only [List.length_cons, List.length_nil]
        omega
    · rw [if_neg hx, if_neg (by omega)]
      have := ih (x / 128) (y / 128) (by omega) (by omega)
      simp only [List.length_cons]
      omega
/-- A number's bytes: those that go on, and the last one, which isn't needless. -/
theorem pv_form (n : Nat) : ∀ x : Int, 0 ≤ x → x < 128 ^ (n + 1) → ∃ hs c, pv n x = hs ++ [c] ∧ (∀ b ∈ hs, 128 ≤ b ∧ b ≤ 255) ∧ 0 ≤ c ∧ c ≤ 127 ∧ (c = 0 → hs = []) := by
  induction n with
  | zero =>
    intro x h0 h1
    rw [pow7] at h1
    have : (128 : Int) ^ 0 = 1 := rfl
    exact ⟨[], x, rfl, by simp, h0, by omega, fun _ => rfl⟩
  | succ n ih =>
    intro x h0 h1
    unfold pv
    by_cases h : x < 128
    · rw [if_pos h]
      exact ⟨[], x, rfl, by simp, h0, by omega, fun _ => rfl⟩
    · rw [if_neg h]
      rw [pow7] at h1
      obtain ⟨hs, c, e, h2, h3, h4, h5⟩ := ih (x / 128) (by omega) (by omega)
      refine ⟨(x % 128 + 128) :: hs, c, by rw [e]; rfl, fun b hb => ?_, h3, h4, fun hc => ?_⟩
      · rcases List.mem_cons.1 hb with rfl | hb
        · omega
        · exact h2 b hb
      · exfalso
        have hd := dec_pv n (x / 128) (by omega) (by omega)
        rw [e, h5 hc, hc] at hd
        have hz : dec ([] ++ [0]) = 0 := rfl
        omega
theorem pv_dec (n : Nat) : ∀ (hs : List Int) (c : Int), hs.length ≤ n → (∀ b ∈ hs, 128 ≤ b ∧ b ≤ 255) → 0 ≤ c → c ≤ 127 → (c = 0 → hs = []) → pv n (dec (hs ++ [c])) = hs ++ [c] := by
  induction n with
  | zero =>
    intro hs c hl hb h0 h1 _
    have : hs = [] := List.eq_nil_of_length_eq_zero (by omega)
    subst this
    show [c % 128 + 128 * 0] = [c]
    congr 1
    omega
  | succ n ih =>
    intro hs c hl hb h0 h1 hz
    cases hs with
    | nil =>
      have e : dec ([] ++ [c]) = c := by show c % 128 + 128 * 0 = c; omega
      rw [e]
      unfold pv
      rw [if_pos (by omega)]
      rfl
    | cons b r =>
      have hbb := hb b (List.mem_cons_self ..)
      have e : dec (b :: r ++ [c]) = b % 128 + 128 * dec (r ++ [c]) := rfl
      have hc : c ≠ 0 := fun h => by have := hz h; cases this
      have hp : 1 ≤ dec (r ++ [c]) := by
        rw [dec_append]
        have h2 := dec_nonneg r
        have h3 := pow7_pos r.length
        have h4 : c % 128 = c := by omega
        rw [h4]
        have : 1 * 1 ≤ (128 : Int) ^ r.length * c := Int.mul_le_mul (by omega) (by omega) (by omega) (by omega)
        omega
      have hi := ih r c (by simp only [List.length_cons] at hl; omega) (fun b' hb' => hb b' (List.mem_cons_of_mem _ hb')) h0 h1 (fun h => absurd h hc)
      rw [e]
      unfold pv
      rw [if_neg (by omega), show (b % 128 + 128 * dec (r ++ [c])) % 128 + 128 = b by omega, show (b % 128 + 128 * dec (r ++ [c])) / 128 = dec (r ++ [c]) by omega, hi]
      rfl
theorem wu64 {x : Int} (h0 : 0 ≤ x) (h1 : x < 18446744073709551616) : IntKind.u64.wrap x = x := by rw [IntKind.wrap_u64]; omega
theorem p70 : (128 : Int) ^ 10 = 1180591620717411303424 := by decide
theorem p63 : (128 : Int) ^ 9 = 9223372036854775808 := by decide
/-- The two readings of what stands at a place. -/
def gv : Nat → List Int → Option (Int × Nat)
  | _, [] => none
  | k, b :: r => if 10 ≤ k then none else if k = 9 ∧ b > 1 then none else if b ≥ 128 then (gv (k + 1) r).map (fun p => (b % 128 + 128 * p.1, p.2 + 1)) else if b = 0 ∧ 0 < k then none else some (b, 1)
theorem gv_lead (hs : List Int) : ∀ (k : Nat) (c : Int) (tl : List Int), (∀ b ∈ hs, 128 ≤ b ∧ b ≤ 255) → 0 ≤ c → c ≤ 127 → k + hs.length ≤ 9 →
    gv k (hs ++ c :: tl) = if (k + hs.length = 9 ∧ c > 1) ∨ (c = 0 ∧ 0 < k + hs.length) then none else some (dec (hs ++ [c]), hs.length + 1) := by
  induction hs with
  | nil =>
    intro k c tl _ h0 h1 hk
    have e : dec ([] ++ [c]) = c := by show c % 128 + 128 * 0 = c; omega
    simp only [List.length_nil, Nat.add_zero] at hk ⊢
    show gv k (c :: tl) = _
    unfold gv
    rw [if_neg (by omega), e]
    by_cases h2 : k = 9 ∧ c > 1
    · rw [if_pos h2, if_pos (.inl h2)]
    · rw [if_neg h2, if_neg (by omega)]
      by_cases h3 : c = 0 ∧ 0 < k
      · rw [if_pos h3, if_pos (.inr h3)]
      · rw [if_neg h3, if_neg (by rintro (h | h); exact h2 h; exact h3 h)]
  | cons b r ih =>
    intro k c tl hb h0 h1 hk
    have hbb := hb b (List.mem_cons_self ..)
    simp only [List.length_cons] at hk ⊢
    show gv k (b :: (r ++ c :: tl)) = _
    unfold gv
    rw [if_neg (by omega), if_neg (by omega), if_pos (by omega), ih (k + 1) c tl (fun b' hb' => hb b' (List.mem_cons_of_mem _ hb')) h0 h1 (by omega)]
    rw [show k + 1 + r.length = k + (r.length + 1) by omega]
    split
    · rfl
    · rfl
theorem gv_all (hs : List Int) : ∀ k : Nat, (∀ b ∈ hs, 128 ≤ b) → gv k hs = none := by
  induction hs with
  | nil => intro k _; rfl
  | cons b r ih =>
    intro k hb
    have hbb := hb b (List.mem_cons_self ..)
    unfold gv
    by_cases h1 : 10 ≤ k
    · rw [if_pos h1]
    · rw [if_neg h1]
      by_cases h2 : k = 9 ∧ b > 1
      · rw [if_pos h2]
      · rw [if_neg h2, if_pos (by omega), ih (k + 1) (fun b' hb' => hb b' (List.mem_cons_of_mem _ hb'))]
        rfl
theorem gv_long (hs : List Int) : ∀ (k : Nat) (tl : List Int), (∀ b ∈ hs, 128 ≤ b) → 10 ≤ k + hs.length → gv k (hs ++ tl) = none := by
  induction hs with
  | nil =>
    intro k tl _ hk
    simp only [List.length_nil, Nat.add_zero] at hk
    cases tl with
    | nil => rfl
    | cons c tl => show gv k (c :: tl) = none; unfold gv; rw [if_pos hk]
  | cons b r ih =>
    intro k tl hb hk
    have hbb := hb b (List.mem_cons_self ..)
    simp only [List.length_cons] at hk
    show gv k (b :: (r ++ tl)) = none
    unfold gv
    by_cases h1 : 10 ≤ k
    · rw [if_pos h1]
    · rw [if_neg h1]
      by_cases h2 : k = 9 ∧ b > 1
      · rw [if_pos h2]
      · rw [if_neg h2, if_pos (by omega), ih (k + 1) tl (fun b' hb' => hb b' (List.mem_cons_of_mem _ hb')) (by omega)]
        rfl
/-- How many bytes go on. -/
theorem split_lead (l : List Int) : ∃ hs tl, l = hs ++ tl ∧ (∀ b ∈ hs, 128 ≤ b) ∧ (∀ c r, tl = c :: r → c ≤ 127) := by
  induction l with
  | nil => exact ⟨[], [], rfl, by simp, by simp⟩
  | cons b r ih =>
    by_cases h : 128 ≤ b
    · obtain ⟨hs, tl, e, h1, h2⟩ := ih
      exact ⟨b :: hs, tl, by rw [e]; rfl, fun b' hb' => by rcases List.mem_cons.1 hb' with rfl | hb'; exact h; exact h1 b' hb', h2⟩
    · exact ⟨[], b :: r, rfl, by simp, fun c r' e => by cases e; omega⟩
/-- Whether a number's bytes are these. -/
theorem pv_iff (hs : List Int) (c : Int) (hb : ∀ b ∈ hs, 128 ≤ b ∧ b ≤ 255) (h0 : 0 ≤ c) (h1 : c ≤ 127) (hl : hs.length ≤ 9) :
    pv 9 (dec (hs ++ [c]) % 18446744073709551616) = hs ++ [c] ↔ ¬ ((hs.length = 9 ∧ c > 1) ∨ (c = 0 ∧ 0 < hs.length)) := by
  have hlt := dec_lt hs
  have hap := dec_append hs c
  have hcm : c % 128 = c := by omega
  rw [hcm] at hap
  have hnn := dec_nonneg (hs ++ [c])
  have hd0 := dec_nonneg hs
  constructor
  · intro h
    have hd : dec (pv 9 (dec (hs ++ [c]) % 18446744073709551616)) = dec (hs ++ [c]) % 18446744073709551616 := dec_pv 9 _ (Int.emod_nonneg _ (by omega)) (by rw [p70]; omega)
    rw [h] at hd
    rintro (⟨h9, hc⟩ | ⟨hc, hp⟩)
    · rw [h9, p63] at hap
      omega
    · obtain ⟨hs', c', e, _, _, _, hz⟩ := pv_form 9 (dec (hs ++ [c]) % 18446744073709551616) (Int.emod_nonneg _ (by omega)) (by rw [p70]; omega)
      rw [h] at e
      have e2 := List.append_inj' e rfl
      have ec : c = c' := by have := e2.2; injection this
      have := hz (by omega)
      rw [← e2.1] at this
      rw [this] at hp
      simp at hp
  · intro h
    have hV : dec (hs ++ [c]) < 18446744073709551616 := by
      by_cases h9 : hs.length = 9
      · have : c ≤ 1 := by omega
        rw [h9, p63] at hap hlt
        omega
      · have h8 : (128 : Int) ^ hs.length ≤ 128 ^ 8 := by
          have : hs.length ≤ 8 := by omega
          exact_mod_cast Nat.pow_le_pow_right (by omega) this
        have p8 : (128 : Int) ^ 8 = 72057594037927936 := by decide
        have h3 : (128 : Int) ^ hs.length * c ≤ 72057594037927936 * 127 := Int.mul_le_mul (by omega) h1 h0 (by omega)
        omega
    rw [Int.emod_eq_of_lt hnn hV]
    refine pv_dec 9 hs c hl hb h0 h1 fun hc => ?_
    by_cases hp : 0 < hs.length
    · exact absurd (.inr ⟨hc, hp⟩) h
    · exact List.eq_nil_of_length_eq_zero (by omega)
end Go.Proofs.Ytgdebfaoohjikaa.VI

namespace Go.Proofs.Ytgdebfaoohjikaa.F
open Go.RowKit Go.Proofs.YtgdebfaoohjikaaW.PrintWords Go.Proofs.YtgdebfaoohjikaaW.PrintLast Go.Proofs.YtgdebfaoohjikaaW.PrintMore
attribute [local go_sem] max2_int min2_int max_two min_two max_three min_three max_four min_four   -- for this text's walks alone
set_option linter.unusedVariables false
set_option linter.unusedSimpArgs false

/-! ### impl_putVar: function 48 -/
def impl_putVar.l0 : Nat → Int → List Int → Option (List Int)
  | 0, _, _ => none
  | k + 1, x0, x3 => if x0 ≥ 128 then (if x3.length < 140737488355328 then (impl_putVar.l0 k (x0 / 128) (x3 ++ [Go.bits .or .u8 ((x0) % 256) 128])) else (none)) else (if x3.length < 140737488355328 then (some (x3 ++ [(x0) % 256])) else (none))
def impl_putVar.f (k : Nat) (a0 : Int) : Option (List Int) := impl_putVar.l0 k a0 (([] : List Int))
theorem impl_putVar.mono_l : ∀ k, (∀ y0 y1, LeO (impl_putVar.l0 k y0 y1) (impl_putVar.l0 (k + 1) y0 y1))
  | 0 => fun _ _ r h => by simp [impl_putVar.l0] at h
  | k + 1 => by
    have ih0 := impl_putVar.mono_l k
    · intro y0 y1
      unfold impl_putVar.l0
      repeat' first
      | (with_reducible exact ih0 _ _)
      | (with_reducible exact LeO.refl _)
      | (with_reducible exact LeO.none _)
      | (with_reducible refine LeO.ite ?_ ?_)
      | (with_reducible refine LeO.bind ?_ (fun _ => ?_))
      | exact ih0 _ _
      | exact LeO.none _
      | refine LeO.ite ?_ ?_
      | refine LeO.bind ?_ (fun _ => ?_)
theorem impl_putVar.mono : ∀ a0 k, LeO (impl_putVar.f k a0) (impl_putVar.f (k + 1) a0) := by
  intro a0 k
  have ih0 := impl_putVar.mono_l k
  unfold impl_putVar.f
  repeat' first
      | (with_reducible exact ih0 _ _)
      | (with_reducible exact LeO.refl _)
      | (with_reducible exact LeO.none _)
      | (with_reducible refine LeO.ite ?_ ?_)
      | (with_reducible refine LeO.bind ?_ (fun _ => ?_))
      | exact ih0 _ _
      | exact LeO.none _
      | refine LeO.ite ?_ ?_
      | refine LeO.bind ?_ (fun _ => ?_)
set_option maxHeartbeats 8000000 in
set_option maxRecDepth 100000 in
theorem impl_putVar.calls (k : Nat) (a0 : Int) (r : List Int) (w : World) (h : impl_putVar.f k a0 = some r) :
    Calls Try.prog 48 #[.int .u64 a0] w fun e w' => ∃ v0_ : Value, e = .returned (v0_) ∧ Kd.R (Kd.int .u8) 5 w' w.heap.size (fun _ => True) v0_ r ∧ Below w.heap.size w w' := by
  have HB := Aside0.mk (Below.refl w.heap.size w)
  have H : (impl_putVar.l0 k a0 (([] : List Int))) = some r := h
  clear h
  obtain ⟨y110, hy110⟩ : ∃ y_ : List Int, y_ = (([] : List Int)) := ⟨_, rfl⟩
  replace H : (impl_putVar.l0 k a0 y110) = some r := by first | (rw [hy110]; with_reducible exact H) | (have H2_ := (Option.bind_some _ _).symm.trans H; rw [hy110]; with_reducible exact H2_) | (have H2_ := (Option.bind_some _ _).symm.trans H; with_reducible exact H2_) | with_reducible exact H | (rw [hy110]; exact H) | exact H
  have Ny110 := Aside0.mk hy110
  clear hy110
  have H' := Aside0.mk H
  clear H
  go_enter Try.func48, Try.ntmps48
  go_wp2_with (first | ((with_reducible refine gate_dst (N := 4) rfl ?_); refine Kd.R_lit (Kd.int .u8) _ 5 ?hg (N := 4) ?hd (xs := ([] : List Int)) (inner := []) (ok := fun _ => True) (okp := fun _ => True) ?hr ?hp (fun _ hk => hk) trivial (Below.refl _ _) (Nat.le_refl _) (by simp) ?_; (case hd => rfl); (case hg => rfl); (case hr => first | (go_simp; done) | (go_simp; rfl)); (case hp => exact (Reps.none _ _)); intro v111 w2 ho3 hb hg_ hnew_; clear hg_ hnew_; (first | rw [← Ny110.out] at ho3 | (simp only [Int.reduceToNat] at ho3; rw [← Ny110.out] at ho3)); have n0_ := Aside0.mk (Kd.R_lower ho3 (below_size (by repeat (first | (with_reducible first | exact HB.out | apply below_alloc | apply pw_below_drewN | apply below_drew1) | exact HB.out)))); have n1_ := Aside0.mk (below_step (by repeat (first | (with_reducible first | exact HB.out | apply below_alloc | apply pw_below_drewN | apply below_drew1) | exact HB.out)) hb); clear HB; have HO112 := n0_; have HB := n1_; clear n0_ n1_; clear hb ho3))
  go_loopg [0, 3] k (fun kq v0 v3 w' => ∃ (x0_1 : Int) (x3_1 : List Int), v0 = .int .u64 x0_1 ∧ Aside0 (impl_putVar.l0 kq x0_1 x3_1 = some r) ∧ Aside0 (kq ≤ k) ∧ Aside0 (Kd.R (Kd.int .u8) 5 w' w.heap.size (fun _ => True) v3 x3_1) ∧ Aside0 (Below w.heap.size w w'))
  case atStart => exact ⟨(a0), (y110), (by first | rfl | (simp; done) | (simp [*]; done)), H', ⟨Nat.le_refl _⟩, ⟨by (with_reducible repeat (first | apply Kd.R_alloc | apply Kd.R_drewN | apply Kd.R_drew)); exact HO112.out⟩, ⟨by repeat (first | (with_reducible first | exact HB.out | apply below_alloc | apply pw_below_drewN | apply below_drew1) | exact HB.out)⟩⟩
  case round =>
    clear H'
    try clear p2
    obtain ⟨x0_1, x3_1, rfl, HA, HK1, HO_3, HB⟩ := hrel
    cases gk with
    | zero => exact absurd HA.out (by simp [impl_putVar.l0])
    | succ k1 =>
      have H := HA.out
      clear HA
      simp only [impl_putVar.l0] at H
      by_cases c4 : x0_1 ≥ 128
      · rw [if_pos c4] at H
        have c4b0 : decide (128 ≤ x0_1) = true := decide_eq_true c4
        clear c4
        by_cases c5 : x3_1.length < 140737488355328
        · rw [if_pos c5] at H
          have LMc5 := Aside0.mk c5
          clear c5
          obtain ⟨y113, hy113⟩ : ∃ y_ : List Int, y_ = (x3_1 ++ [Go.bits .or .u8 ((x0_1) % 256) 128]) := ⟨_, rfl⟩
          replace H : (impl_putVar.l0 k1 (x0_1 / 128) y113) = some r := by first | (rw [hy113]; with_reducible exact H) | (have H2_ := (Option.bind_some _ _).symm.trans H; rw [hy113]; with_reducible exact H2_) | (have H2_ := (Option.bind_some _ _).symm.trans H; with_reducible exact H2_) | with_reducible exact H | (rw [hy113]; exact H) | exact H
          have Ny113 := Aside0.mk hy113
          clear hy113
          have H' := Aside0.mk H
          clear H
          go_wp2_with (first | ((with_reducible refine gate_builtin (b := .append) (xs := #[.tmp 7, .tmp 11]) rfl ?_); at_builtin; refine Kd.R_append (Kd.int .u8) (w0 := w) w.heap.size rfl (.tmp 7) (.tmp 11) 24 5 (.int .u8 0) 1 rfl Try.underlying24 info5 rfl (by decide) (by omega) u3 x3_1 (Go.bits .or .u8 ((x0_1) % 256) 128) [.int .u8 (Go.bits .or .u8 ((x0_1) % 256) 128)] (fun _ => True) (fun _ => False) rfl rfl ?aP (fun _ hk => hk.elim) ?aF ?aO ?aB ?aS ?aL ?_; (case aP => exact rfl); (case aB => exact (by repeat (first | (with_reducible first | exact HB.out | apply below_alloc | apply pw_below_drewN | apply below_drew1) | exact HB.out))); (case aF => exact (fun _ _ => trivial)); (case aO => exact (by (with_reducible repeat (first | apply Kd.R_alloc | apply Kd.R_drewN | apply Kd.R_drew)); exact HO_3.out)); (case aS => exact (below_size (by repeat (first | (with_reducible first | exact HB.out | apply below_alloc | apply pw_below_drewN | apply below_drew1) | exact HB.out)))); (case aL => have := LMc5.out; omega); intro v114 w6 ho hb hg hat; rw [← Ny113.out] at ho; have n0_ := Aside0.mk (hb); have n1_ := Aside0.mk (ho); clear HB; clear HO_3; have HB := n0_; have HO115 := n1_; clear n0_ n1_; clear ho hb hg hat))
          go_roundg k1
          case measure => have := HK1.out; omega
          case rel => exact ⟨(x0_1 / 128), (y113), (by first | rfl | (simp; done) | (simp [*]; done)), H', ⟨by have := HK1.out; omega⟩, ⟨by (with_reducible repeat (first | apply Kd.R_alloc | apply Kd.R_drewN | apply Kd.R_drew)); exact HO115.out⟩, ⟨by repeat (first | (with_reducible first | exact HB.out | apply below_alloc | apply pw_below_drewN | apply below_drew1) | exact HB.out)⟩⟩
        · rw [if_neg c5] at H
          exact absurd H (by simp)
      · rw [if_neg c4] at H
        have c4b0 : decide (128 ≤ x0_1) = false := decide_eq_false c4
        clear c4
        by_cases c7 : x3_1.length < 140737488355328
        · rw [if_pos c7] at H
          have LMc7 := Aside0.mk c7
          clear c7
          obtain ⟨y116, hy116⟩ : ∃ y_ : List Int, y_ = (x3_1 ++ [(x0_1) % 256]) := ⟨_, rfl⟩
          replace H : (some y116) = some r := by first | (rw [hy116]; with_reducible exact H) | (have H2_ := (Option.bind_some _ _).symm.trans H; rw [hy116]; with_reducible exact H2_) | (have H2_ := (Option.bind_some _ _).symm.trans H; with_reducible exact H2_) | with_reducible exact H | (rw [hy116]; exact H) | exact H
          have Ny116 := Aside0.mk hy116
          clear hy116
          obtain rfl := Option.some.inj H
          go_wp2_with (first | ((with_reducible refine gate_builtin (b := .append) (xs := #[.tmp 15, .tmp 18]) rfl ?_); at_builtin; refine Kd.R_append (Kd.int .u8) (w0 := w) w.heap.size rfl (.tmp 15) (.tmp 18) 24 5 (.int .u8 0) 1 rfl Try.underlying24 info5 rfl (by decide) (by omega) u3 x3_1 ((x0_1) % 256) [.int .u8 ((x0_1) % 256)] (fun _ => True) (fun _ => False) rfl rfl ?aP (fun _ hk => hk.elim) ?aF ?aO ?aB ?aS ?aL ?_; (case aP => exact rfl); (case aB => exact (by repeat (first | (with_reducible first | exact HB.out | apply below_alloc | apply pw_below_drewN | apply below_drew1) | exact HB.out))); (case aF => exact (fun _ _ => trivial)); (case aO => exact (by (with_reducible repeat (first | apply Kd.R_alloc | apply Kd.R_drewN | apply Kd.R_drew)); exact HO_3.out)); (case aS => exact (below_size (by repeat (first | (with_reducible first | exact HB.out | apply below_alloc | apply pw_below_drewN | apply below_drew1) | exact HB.out)))); (case aL => have := LMc7.out; omega); intro v117 w8 ho hb hg hat; rw [← Ny116.out] at ho; have n0_ := Aside0.mk (hb); have n1_ := Aside0.mk (ho); clear HB; clear HO_3; have HB := n0_; have HO118 := n1_; clear n0_ n1_; clear ho hb hg hat))
          go_ret
          exact ⟨_, by first | rfl | (simp [errW_none, errW_some] <;> rfl) | (simp [*, errW_none, errW_some] <;> rfl), by (with_reducible repeat (first | apply Kd.R_alloc | apply Kd.R_drewN | apply Kd.R_drew)); exact HO118.out, by repeat (first | (with_reducible first | exact HB.out | apply below_alloc | apply pw_below_drewN | apply below_drew1) | exact HB.out)⟩
        · rw [if_neg c7] at H
          exact absurd H (by simp)

end Go.Proofs.Ytgdebfaoohjikaa.F

namespace Go.Proofs.Ytgdebfaoohjikaa.F
open Go.RowKit Go.Proofs.YtgdebfaoohjikaaW.PrintWords Go.Proofs.YtgdebfaoohjikaaW.PrintLast Go.Proofs.YtgdebfaoohjikaaW.PrintMore
attribute [local go_sem] max2_int min2_int max_two min_two max_three min_three max_four min_four   -- for this text's walks alone
set_option linter.unusedVariables false
set_option linter.unusedSimpArgs false

/-! ### impl_PutVar: function 14 -/
def impl_PutVar.f (k : Nat) (a0 : Int) : Option (List Int) := (impl_putVar.f k a0).bind fun t119 => (some t119)
theorem impl_PutVar.mono : ∀ a0 k, LeO (impl_PutVar.f k a0) (impl_PutVar.f (k + 1) a0) := by
  intro a0 k
  unfold impl_PutVar.f
  repeat' first
      | (with_reducible exact impl_putVar.mono _ _)
      | (with_reducible exact LeO.refl _)
      | (with_reducible exact LeO.none _)
      | (with_reducible refine LeO.ite ?_ ?_)
      | (with_reducible refine LeO.bind ?_ (fun _ => ?_))
      | exact impl_putVar.mono _ _
      | exact LeO.none _
      | refine LeO.ite ?_ ?_
      | refine LeO.bind ?_ (fun _ => ?_)
set_option maxHeartbeats 8000000 in
set_option maxRecDepth 100000 in
theorem impl_PutVar.calls (k : Nat) (a0 : Int) (r : List Int) (w : World) (h : impl_PutVar.f k a0 = some r) :
    Calls Try.prog 14 #[.int .u64 a0] w fun e w' => ∃ v0_ : Value, e = .returned (v0_) ∧ Kd.R (Kd.int .u8) 5 w' w.heap.size (fun _ => True) v0_ r ∧ Below w.heap.size w w' := by
  have HB := Aside0.mk (Below.refl w.heap.size w)
  have H : ((impl_putVar.f k a0).bind fun t119 => (some t119)) = some r := h
  clear h
  replace H := Option.bind_eq_some_iff.mp H
  obtain ⟨t119, A20, H⟩ := H
  replace H : (some t119) = some r := H
  have A2 := Aside0.mk A20
  clear A20
  obtain rfl := Option.some.inj H
  go_enter Try.func14, Try.ntmps14
  go_wp2_with (first | ((with_reducible refine gate_callee (f := 48) rfl ?_); refine goesL_ (some 4) rfl rfl Try.func48 (by kernel_rfl) rfl #[.int .u64 a0] rfl (by (try simp only [List.map_toArray, List.map_cons, List.map_nil]); first | done | rfl | (simp only [List.length_drop, List.length_take]; rfl)) ?_; (with_reducible refine (impl_putVar.calls k a0 t119 _ A2.out).mono ?_); rintro e w3 ⟨v120, rfl, ho0, hb⟩; refine ⟨_, rfl, ?_⟩; have n0_ := Aside0.mk (Kd.R_lower ho0 (below_size (by repeat (first | (with_reducible first | exact HB.out | apply below_alloc | apply pw_below_drewN | apply below_drew1) | exact HB.out)))); have n1_ := Aside0.mk (below_step (by repeat (first | (with_reducible first | exact HB.out | apply below_alloc | apply pw_below_drewN | apply below_drew1) | exact HB.out)) hb); clear HB; have HO121 := n0_; have HB := n1_; clear n0_ n1_; (try clear hb); (try clear hb2); (try clear hk); (try clear hi); (try clear ho0)))
  go_ret
  exact ⟨_, by first | rfl | (simp [errW_none, errW_some] <;> rfl) | (simp [*, errW_none, errW_some] <;> rfl), by (with_reducible repeat (first | apply Kd.R_alloc | apply Kd.R_drewN | apply Kd.R_drew)); exact HO121.out, by repeat (first | (with_reducible first | exact HB.out | apply below_alloc | apply pw_below_drewN | apply below_drew1) | exact HB.out)⟩

end Go.Proofs.Ytgdebfaoohjikaa.F
