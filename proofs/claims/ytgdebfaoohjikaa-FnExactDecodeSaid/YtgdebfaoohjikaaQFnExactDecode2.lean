/- Merged texts below the law FnExactDecode: Go functions as Lean functions, their contracts, and plain lemmas. -/
import Derived.Test.YtgdebfaoohjikaaQFnExactDecode1
import Derived.Shelf.Abstract
namespace Go.Proofs.Ytgdebfaoohjikaa.F
open Go.RowKit Go.Proofs.YtgdebfaoohjikaaW.PrintWords Go.Proofs.YtgdebfaoohjikaaW.PrintLast Go.Proofs.YtgdebfaoohjikaaW.PrintMore
attribute [local go_sem] max2_int min2_int max_two min_two max_three min_three max_four min_four   -- for this text's walks alone
set_option linter.unusedVariables false
set_option linter.unusedSimpArgs false

/-! ### spec_Decode: function 32 -/
mutual
def spec_Decode.j0 : Nat → List Int → Bool → Option (Int × List Int × List ByteArray × Bool)
  | 0, _, _ => none
  | k + 1, x0, x27 => if x27 = true then (some (0, ([] : List Int), ([] : List ByteArray), false)) else (if 0 < (x0.length : Int) then (spec_Decode.l0 k x0 2 0 (wrap64 (rd x0 0)) ([] : List Int)) else (none))
def spec_Decode.l0 : Nat → List Int → Int → Int → Int → List Int → Option (Int × List Int × List ByteArray × Bool)
  | 0, _, _, _, _, _ => none
  | k + 1, x0, x5, x6, x373000, x373001 => if 1 < (x0.length : Int) then (if x6 < (wrap64 (rd x0 1)) then ((spec_GetVar.f k x0 x5).bind fun bt374 => (if bt374.2.2 = true then (if x373001.length < 17592186044416 then (spec_Decode.l0 k x0 bt374.2.1 (wrap64 (x6 + 1)) x373000 (x373001 ++ [bt374.1])) else (none)) else (some (0, ([] : List Int), ([] : List ByteArray), false)))) else (if x5 ≥ (x0.length : Int) then (some (0, ([] : List Int), ([] : List ByteArray), false)) else (if 0 ≤ x5 then (if x5 < (x0.length : Int) then (spec_Decode.l1 k x0 (wrap64 (x5 + 1)) (wrap64 (rd x0 x5)) 0 x373000 x373001 ([] : List ByteArray)) else (none)) else (none)))) else (none)
def spec_Decode.l1 : Nat → List Int → Int → Int → Int → Int → List Int → List ByteArray → Option (Int × List Int × List ByteArray × Bool)
  | 0, _, _, _, _, _, _, _ => none
  | k + 1, x0, x5, x10, x11, x373000, x373001, x373002 => if x11 < x10 then (if x5 ≥ (x0.length : Int) then (some (0, ([] : List Int), ([] : List ByteArray), false)) else (if 0 ≤ x5 then (if x5 < (x0.length : Int) then (if (wrap64 (rd x0 x5)) > (wrap64 ((wrap64 ((x0.length : Int) - x5)) - 1)) then (some (0, ([] : List Int), ([] : List ByteArray), false)) else (if 0 ≤ (wrap64 (x5 + 1)) then (if (wrap64 (x5 + 1)) ≤ (wrap64 ((wrap64 (x5 + 1)) + (wrap64 (rd x0 x5)))) then (if (wrap64 ((wrap64 (x5 + 1)) + (wrap64 (rd x0 x5)))) ≤ (x0.length : Int) then (if x373002.length < 8796093022208 then (spec_Decode.l1 k x0 (wrap64 ((wrap64 (x5 + 1)) + (wrap64 (rd x0 x5)))) x10 (wrap64 (x11 + 1)) x373000 x373001 (x373002 ++ [strOfNums ((x0.take ((wrap64 ((wrap64 (x5 + 1)) + (wrap64 (rd x0 x5)))) : Int).toNat).drop ((wrap64 (x5 + 1)) : Int).toNat)])) else (none)) else (none)) else (none)) else (none))) else (none)) else (none))) else (if x5 = (x0.length : Int) then ((spec_RecordOk.f k x373000 x373001 x373002).bind fun t387 => (if t387 = true then (some (x373000, x373001, x373002, true)) else (some (0, ([] : List Int), ([] : List ByteArray), false)))) else (some (0, ([] : List Int), ([] : List ByteArray), false)))
end
def spec_Decode.f (k : Nat) (l0 : List Int) : Option (Int × List Int × List ByteArray × Bool) := if (l0.length : Int) < 3 then (spec_Decode.j0 k l0 true) else (if (l0.length : Int) > 4000 then (spec_Decode.j0 k l0 true) else (if 1 < (l0.length : Int) then (spec_Decode.j0 k l0 (decide ((wrap64 (rd l0 1)) > 24))) else (none)))
theorem spec_Decode.mono_l : ∀ k, (∀ y0 y1, LeO (spec_Decode.j0 k y0 y1) (spec_Decode.j0 (k + 1) y0 y1)) ∧ (∀ y0 y1 y2 y3 y4, LeO (spec_Decode.l0 k y0 y1 y2 y3 y4) (spec_Decode.l0 (k + 1) y0 y1 y2 y3 y4)) ∧ (∀ y0 y1 y2 y3 y4 y5 y6, LeO (spec_Decode.l1 k y0 y1 y2 y3 y4 y5 y6) (spec_Decode.l1 (k + 1) y0 y1 y2 y3 y4 y5 y6))
  | 0 => ⟨fun _ _ r h => by simp [spec_Decode.j0] at h, fun _ _ _ _ _ r h => by simp [spec_Decode.l0] at h, fun _ _ _ _ _ _ _ r h => by simp [spec_Decode.l1] at h⟩
  | k + 1 => by
    obtain ⟨ih0, ih1, ih2⟩ := spec_Decode.mono_l k
    refine ⟨?_, ?_, ?_⟩
    · intro y0 y1
      unfold spec_Decode.j0
      repeat' first
      | (with_reducible exact ih0 _ _)
      | (with_reducible exact ih1 _ _ _ _ _)
      | (with_reducible exact ih2 _ _ _ _ _ _ _)
      | (with_reducible exact spec_GetVar.mono _ _ _)
      | (with_reducible exact spec_RecordOk.mono _ _ _ _)
      | (with_reducible exact LeO.refl _)
      | (with_reducible exact LeO.none _)
      | (with_reducible refine LeO.ite ?_ ?_)
      | (with_reducible refine LeO.bind ?_ (fun _ => ?_))
      | exact ih0 _ _
      | exact ih1 _ _ _ _ _
      | exact ih2 _ _ _ _ _ _ _
      | exact spec_GetVar.mono _ _ _
      | exact spec_RecordOk.mono _ _ _ _
      | exact LeO.none _
      | refine LeO.ite ?_ ?_
      | refine LeO.bind ?_ (fun _ => ?_)
    · intro y0 y1 y2 y3 y4
      unfold spec_Decode.l0
      repeat' first
      | (with_reducible exact ih0 _ _)
      | (with_reducible exact ih1 _ _ _ _ _)
      | (with_reducible exact ih2 _ _ _ _ _ _ _)
      | (with_reducible exact spec_GetVar.mono _ _ _)
      | (with_reducible exact spec_RecordOk.mono _ _ _ _)
      | (with_reducible exact LeO.refl _)
      | (with_reducible exact LeO.none _)
      | (with_reducible refine LeO.ite ?_ ?_)
      | (with_reducible refine LeO.bind ?_ (fun _ => ?_))
      | exact ih0 _ _
      | exact ih1 _ _ _ _ _
      | exact ih2 _ _ _ _ _ _ _
      | exact spec_GetVar.mono _ _ _
      | exact spec_RecordOk.mono _ _ _ _
      | exact LeO.none _
      | refine LeO.ite ?_ ?_
      | refine LeO.bind ?_ (fun _ => ?_)
    · intro y0 y1 y2 y3 y4 y5 y6
      unfold spec_Decode.l1
      repeat' first
      | (with_reducible exact ih0 _ _)
      | (with_reducible exact ih1 _ _ _ _ _)
      | (with_reducible exact ih2 _ _ _ _ _ _ _)
      | (with_reducible exact spec_GetVar.mono _ _ _)
      | (with_reducible exact spec_RecordOk.mono _ _ _ _)
      | (with_reducible exact LeO.refl _)
      | (with_reducible exact LeO.none _)
      | (with_reducible refine LeO.ite ?_ ?_)
      | (with_reducible refine LeO.bind ?_ (fun _ => ?_))
      | exact ih0 _ _
      | exact ih1 _ _ _ _ _
      | exact ih2 _ _ _ _ _ _ _
      | exact spec_GetVar.mono _ _ _
      | exact spec_RecordOk.mono _ _ _ _
      | exact LeO.none _
      | refine LeO.ite ?_ ?_
      | refine LeO.bind ?_ (fun _ => ?_)
theorem spec_Decode.mono : ∀ a0 k, LeO (spec_Decode.f k a0) (spec_Decode.f (k + 1) a0) := by
  intro a0 k
  obtain ⟨ih0, ih1, ih2⟩ := spec_Decode.mono_l k
  unfold spec_Decode.f
  repeat' first
      | (with_reducible exact ih0 _ _)
      | (with_reducible exact ih1 _ _ _ _ _)
      | (with_reducible exact ih2 _ _ _ _ _ _ _)
      | (with_reducible exact spec_GetVar.mono _ _ _)
      | (with_reducible exact spec_RecordOk.mono _ _ _ _)
      | (with_reducible exact LeO.refl _)
      | (with_reducible exact LeO.none _)
      | (with_reducible refine LeO.ite ?_ ?_)
      | (with_reducible refine LeO.bind ?_ (fun _ => ?_))
      | exact ih0 _ _
      | exact ih1 _ _ _ _ _
      | exact ih2 _ _ _ _ _ _ _
      | exact spec_GetVar.mono _ _ _
      | exact spec_RecordOk.mono _ _ _ _
      | exact LeO.none _
      | refine LeO.ite ?_ ?_
      | refine LeO.bind ?_ (fun _ => ?_)
def spec_Decode.T23 : Bool × List (List Nat × List Nat) := (true, [([], []), ([0], [0]), ([], []), ([], []), ([3], [3]), ([], []), ([5], [5]), ([], []), ([6, 7], [6, 7]), ([2, 4, 8], [2, 4, 8]), ([9], [9]), ([10], [10]), ([1, 11], [1, 11]), ([0, 1, 2, 3, 4, 5, 6, 7, 8, 9, 10, 11, 12], []), ([13, 12, 12, 0, 1, 2, 3, 4, 5, 6, 7, 8, 9, 10, 11, 12], [12, 13])])
def spec_Decode.B23 : List Nat := [0, 1, 0, 0, 8, 0, 32, 0, 224, 508, 1020, 2044, 4095, 8191, 16383]
theorem spec_Decode.tab23 : rtab .any (opsOf Try.f32 23) = spec_Decode.T23 := by kernel_rfl
theorem spec_Decode.bits23 : waitsOk spec_Decode.T23.2 spec_Decode.B23 = true := by kernel_rfl
set_option maxHeartbeats 8000000 in
set_option maxRecDepth 100000 in
theorem spec_Decode.calls (k : Nat) (A0 : Option Addr) (c0 : Nat) (l0 : List Int) (r1 : Int) (r2 : List Int) (r3 : List ByteArray) (r4 : Bool) (w : World) (hr0 : Kd.C (Kd.int .u8) w A0 l0.length l0) (hc0 : l0.length ≤ c0) (h : spec_Decode.f k l0 = some (r1, r2, r3, r4)) :
    Calls Try.prog 32 #[.slice A0 l0.length c0] w fun e w' => ∃ v1_ v2_ : Value, e = .returned (.tuple #[.agg #[.int .i64 r1, v1_, v2_], .bool r4]) ∧ Kd.R (Kd.int .u64) 23 w' w.heap.size (fun _ => True) v1_ r2 ∧ Kd.R Kd.string 9 w' w.heap.size (fun _ => True) v2_ r3 ∧ Below w.heap.size w w' := by
  have hu42 := Try.underlying42
  have HR0 := Aside0.mk hr0
  have HC0 := Aside0.mk hc0
  clear hr0 hc0
  have HB := Aside0.mk (Below.refl w.heap.size w)
  have H : (if (l0.length : Int) < 3 then (spec_Decode.j0 k l0 true) else (if (l0.length : Int) > 4000 then (spec_Decode.j0 k l0 true) else (if 1 < (l0.length : Int) then (spec_Decode.j0 k l0 (decide ((wrap64 (rd l0 1)) > 24))) else (none)))) = some (r1, r2, r3, r4) := h
  clear h
  have HC2 := Aside0.mk H
  clear H
  go_enter Try.func32, Try.ntmps32
  go_upto_region 1 with (first | ((with_reducible refine gate_dst (N := 2) rfl ?_); (try (refine gate_guard (by rfl) ?_; dsimp only)); refine box_event ?hg (N := 2) ?hd (cs := #[.int .i64 0, .slice none 0 0, .slice none 0 0]) (t := 42) ?hr ?_; (case hd => rfl); (case hg => rfl); (case hr => first | (go_simp; done) | (go_simp; rfl)); intro gb369 hg w3 hbox hb; have n0_ := Aside0.mk (below_step (by repeat (first | (with_reducible first | exact HB.out | apply below_alloc | apply pw_below_drewN | apply below_drew1) | exact HB.out)) hb); have n1_ := Aside0.mk (hbox); have n2_ := Aside0.mk ((by rw [hg]; exact (below_size (by repeat (first | (with_reducible first | exact HB.out | apply below_alloc | apply pw_below_drewN | apply below_drew1) | exact HB.out))) : w.heap.size ≤ gb369)); have n3_ := Aside0.mk ((by rw [hg]; exact (below_size (by repeat (first | (with_reducible first | exact HB.out | apply below_alloc | apply pw_below_drewN | apply below_drew1) | exact HB.out))) : w.heap.size ≤ gb369)); clear HB; have HB := n0_; have BK369 := n1_; have GW369 := n2_; have GE369 := n3_; clear n0_ n1_ n2_ n3_; clear hb hbox hg))
  (try simp only [Act.put, List.setIfInBounds_toArray, List.set_cons_zero, List.set_cons_succ])
  go_cut [27] (fun v27 wc => ∃ (kq : Nat) (x27_1 : Bool), v27 = .bool x27_1 ∧ Aside0 (spec_Decode.j0 kq l0 x27_1 = some (r1, r2, r3, r4)) ∧ Aside0 (kq ≤ k) ∧ Aside0 (wc.heap[gb369]? = some (.cells #[.int .i64 0, (.slice none 0 0), (.slice none 0 0)] 42 (0, 0))) ∧ Aside0 (Below w.heap.size w wc))
  case first =>
    have H := HC2.out
    clear HC2
    by_cases c4 : (l0.length : Int) < 3
    · rw [if_pos c4] at H
      have c4b0 : decide ((l0.length : Int) < 3) = true := decide_eq_true c4
      have c4b1 : decide (l0.length < 3) = true := decide_eq_true (by omega)
      clear c4
      (first | rw [c4b0] | (simp only [i64_w, i32_w]; rw [c4b0]) | skip)
      have H' := Aside0.mk H
      clear H
      go_wp2
      go_meet
      case rel => exact ⟨_, (true), (by first | rfl | (simp; done) | (simp [*]; done)), H', ⟨by first | omega | exact Nat.le_refl _⟩, ⟨by (with_reducible repeat (first | refine blk_drewN ?_ _ | refine blk_drew ?_ | refine blk_alloc ?_ _)); exact BK369.out⟩, ⟨by repeat (first | (with_reducible first | exact HB.out | apply below_alloc | apply pw_below_drewN | apply below_drew1 | refine below_set ?_ GE369.out) | exact HB.out)⟩⟩
    · rw [if_neg c4] at H
      have c4b0 : decide ((l0.length : Int) < 3) = false := decide_eq_false c4
      have c4b1 : decide (l0.length < 3) = false := decide_eq_false (by omega)
      clear c4
      (first | rw [c4b0] | (simp only [i64_w, i32_w]; rw [c4b0]) | skip)
      by_cases c5 : (l0.length : Int) > 4000
      · rw [if_pos c5] at H
        have c5b0 : decide (4000 < (l0.length : Int)) = true := decide_eq_true c5
        have c5b1 : decide (4000 < l0.length) = true := decide_eq_true (by omega)
        clear c5
        have H' := Aside0.mk H
        clear H
        go_wp2
        go_meet
        case rel => exact ⟨_, (true), (by first | rfl | (simp; done) | (simp [*]; done)), H', ⟨by first | omega | exact Nat.le_refl _⟩, ⟨by (with_reducible repeat (first | refine blk_drewN ?_ _ | refine blk_drew ?_ | refine blk_alloc ?_ _)); exact BK369.out⟩, ⟨by repeat (first | (with_reducible first | exact HB.out | apply below_alloc | apply pw_below_drewN | apply below_drew1 | refine below_set ?_ GE369.out) | exact HB.out)⟩⟩
      · rw [if_neg c5] at H
        have c5b0 : decide (4000 < (l0.length : Int)) = false := decide_eq_false c5
        have c5b1 : decide (4000 < l0.length) = false := decide_eq_false (by omega)
        clear c5
        by_cases c6 : 1 < (l0.length : Int)
        · rw [if_pos c6] at H
          have c6b0 : decide (1 < (l0.length : Int)) = true := decide_eq_true c6
          have c6b1 : decide (1 < l0.length) = true := decide_eq_true (by omega)
          clear c6
          have H' := Aside0.mk H
          clear H
          have p370 : 0 ≤ (1 : Int) := (by omega)
          have q370 : 1 < (l0.length : Int) := of_decide_eq_true (by first | (with_reducible assumption) | assumption)
          obtain ⟨ad370, e370, hx370_0⟩ := Kd.at_int HR0.out 1 p370 q370
          cases e370
          (try simp only [show (1 : Int).toNat = 1 from rfl, Nat.reduceMul, Nat.reduceEqDiff, Go.Addr.add, ↓reduceIte] at hx370_0)
          have qi370 : (1 < l0.length) = True := eq_true (by omega)
          (try rw [show ((1 : Int)).toNat = 1 from rfl] at hx370_0)
          replace hx370_0 := (HB.out.cell (World.block_lt_of_cell? w _ hx370_0)).trans hx370_0
          replace p370 := eq_true p370
          replace q370 := eq_true q370
          go_wp2
          go_meet
          case rel => exact ⟨_, (decide ((wrap64 (rd l0 1)) > 24)), (by first | rfl | (simp; done) | (simp [*]; done)), H', ⟨by first | omega | exact Nat.le_refl _⟩, ⟨by (with_reducible repeat (first | refine blk_drewN ?_ _ | refine blk_drew ?_ | refine blk_alloc ?_ _)); exact BK369.out⟩, ⟨by repeat (first | (with_reducible first | exact HB.out | apply below_alloc | apply pw_below_drewN | apply below_drew1 | refine below_set ?_ GE369.out) | exact HB.out)⟩⟩
        · rw [if_neg c6] at H
          exact absurd H (by simp)
  case rest =>
    clear HC2
    try clear p2
    try clear c3
    try clear p3
    try clear q3
    try clear hx3
    try clear qi3
    try clear c4
    try clear c4b0
    try clear c4b1
    try clear c5
    try clear c5b0
    try clear c5b1
    try clear c6
    try clear c6b0
    try clear c6b1
    try clear p6
    try clear hx370_0
    try clear p370
    try clear q370
    obtain ⟨kq, x27_1, rfl, HA, HJ1, BK369, HB⟩ := hcut
    cases kq with
    | zero => exact absurd HA.out (by simp [spec_Decode.j0])
    | succ kj1 =>
      have H := HA.out
      clear HA
      simp only [spec_Decode.j0] at H
      by_cases c7 : x27_1 = true
      · subst c7
        have H1 : (some (0, ([] : List Int), ([] : List ByteArray), false)) = some (r1, r2, r3, r4) := by rw [if_pos rfl] at H; exact H
        clear H
        have H := H1
        clear H1
        simp only [Option.some.injEq, Prod.mk.injEq] at H
        obtain ⟨rfl, rfl, rfl, rfl⟩ := H
        have hcz8_0 : wc.cell? ⟨gb369, 0, none⟩ = some (.int .i64 0) := (blk_cell BK369.out 0).trans rfl
        have hcz8_1 : wc.cell? ⟨gb369, 1, none⟩ = some (.slice none 0 0) := (blk_cell BK369.out 1).trans rfl
        have hcz8_2 : wc.cell? ⟨gb369, 2, none⟩ = some (.slice none 0 0) := (blk_cell BK369.out 2).trans rfl
        have hfz8_0 := blk_frozen BK369.out 0
        have hfz8_1 := blk_frozen BK369.out 1
        have hfz8_2 := blk_frozen BK369.out 2
        go_wp2
        refine bodyPost_ret (results_ct rfl _ _ gb369 42 #[.int .i64 0, .slice none 0 0, .slice none 0 0] (0, 0) _ rfl (by (with_reducible repeat (first | refine blk_drewN ?_ _ | refine blk_drew ?_ | refine blk_alloc ?_ _)); refine blk_put (cs := #[.int .i64 0, .slice none 0 0, .slice none 0 0]) ?_ 2 _ rfl; (with_reducible repeat (first | refine blk_drewN ?_ _ | refine blk_drew ?_ | refine blk_alloc ?_ _)); refine blk_put (cs := #[.int .i64 0, .slice none 0 0, .slice none 0 0]) ?_ 1 _ rfl; (with_reducible repeat (first | refine blk_drewN ?_ _ | refine blk_drew ?_ | refine blk_alloc ?_ _)); refine blk_put (cs := #[.int .i64 0, .slice none 0 0, .slice none 0 0]) ?_ 0 _ rfl; (with_reducible repeat (first | refine blk_drewN ?_ _ | refine blk_drew ?_ | refine blk_alloc ?_ _)); exact BK369.out) Try.underlying42 rfl (by kernel_rfl)) rfl ?_
        exact ⟨_, _, by first | rfl | (simp [errW_none, errW_some] <;> rfl) | (simp [*, errW_none, errW_some] <;> rfl), by first | exact Kd.R_nil _ _ _ _ _ | exact Kd.N_nil _ _ _ _ _ | exact Kd.V_nil _ _ _ _ _ | exact Kd.Q_nil _ _ _ _ _ | exact Kd.S_nil _ _ _ _ _, by first | exact Kd.R_nil _ _ _ _ _ | exact Kd.N_nil _ _ _ _ _ | exact Kd.V_nil _ _ _ _ _ | exact Kd.Q_nil _ _ _ _ _ | exact Kd.S_nil _ _ _ _ _, by repeat (first | (with_reducible first | exact HB.out | apply below_alloc | apply pw_below_drewN | apply below_drew1 | refine below_set ?_ GE369.out) | exact HB.out)⟩
      · replace c7 := Bool.eq_false_iff.mpr c7
        subst c7
        have H1 : (if 0 < (l0.length : Int) then (spec_Decode.l0 kj1 l0 2 0 (wrap64 (rd l0 0)) ([] : List Int)) else (none)) = some (r1, r2, r3, r4) := by rw [if_neg (show ¬ (false = true) by decide)] at H; exact H
        clear H
        have H := H1
        clear H1
        by_cases c9 : 0 < (l0.length : Int)
        · rw [if_pos c9] at H
          have c9b0 : decide (0 < (l0.length : Int)) = true := decide_eq_true c9
          have c9b1 : decide (0 < l0.length) = true := decide_eq_true (by omega)
          clear c9
          have H' := Aside0.mk H
          clear H
          have p371 : 0 ≤ (0 : Int) := (by omega)
          have q371 : 0 < (l0.length : Int) := of_decide_eq_true (by first | (with_reducible assumption) | assumption)
          obtain ⟨ad371, e371, hx371_0⟩ := Kd.at_int HR0.out 0 p371 q371
          cases e371
          have qi371 : (0 < l0.length) = True := eq_true (by omega)
          (try rw [show ((0 : Int)).toNat = 0 from rfl] at hx371_0)
          (try rw [Addr.add_zero'] at hx371_0)
          replace hx371_0 := (HB.out.cell (World.block_lt_of_cell? w _ hx371_0)).trans hx371_0
          replace p371 := eq_true p371
          replace q371 := eq_true q371
          go_wp2_with (first | ((with_reducible refine gate_dst (N := 4) rfl ?_); (try (refine gate_guard (by rfl) ?_; dsimp only)); refine box_event ?hg (N := 4) ?hd (cs := #[.int .i64 0, .slice none 0 0, .slice none 0 0]) (t := 42) ?hr ?_; (case hd => rfl); (case hg => rfl); (case hr => first | (go_simp; done) | (go_simp; rfl)); intro gb372 hg w10 hbox hb; have n0_ := Aside0.mk (blk_below (g := gb369) (o := .cells #[.int .i64 0, .slice none 0 0, .slice none 0 0] 42 (0, 0)) (by (with_reducible repeat (first | refine blk_drewN ?_ _ | refine blk_drew ?_ | refine blk_alloc ?_ _)); exact BK369.out) hb); have n1_ := Aside0.mk (below_step (by repeat (first | (with_reducible first | exact HB.out | apply below_alloc | apply pw_below_drewN | apply below_drew1 | refine below_set ?_ GE369.out) | exact HB.out)) hb); have n2_ := Aside0.mk (hbox); have n3_ := Aside0.mk ((by rw [hg]; exact (below_size (by repeat (first | (with_reducible first | exact HB.out | apply below_alloc | apply pw_below_drewN | apply below_drew1 | refine below_set ?_ GE369.out) | exact HB.out))) : w.heap.size ≤ gb372)); have n4_ := Aside0.mk ((by rw [hg]; exact (below_size (by repeat (first | (with_reducible first | exact HB.out | apply below_alloc | apply pw_below_drewN | apply below_drew1 | refine below_set ?_ GE369.out) | exact HB.out))) : w.heap.size ≤ gb372)); have n5_ := Aside0.mk ((by rw [hg]; exact Nat.ne_of_lt (blk_lt (g := gb369) (o := .cells #[.int .i64 0, .slice none 0 0, .slice none 0 0] 42 (0, 0)) (by (with_reducible repeat (first | refine blk_drewN ?_ _ | refine blk_drew ?_ | refine blk_alloc ?_ _)); exact BK369.out)) : gb369 ≠ gb372)); have n6_ := Aside0.mk ((by rw [hg]; exact Nat.ne_of_gt (blk_lt (g := gb369) (o := .cells #[.int .i64 0, .slice none 0 0, .slice none 0 0] 42 (0, 0)) (by (with_reducible repeat (first | refine blk_drewN ?_ _ | refine blk_drew ?_ | refine blk_alloc ?_ _)); exact BK369.out)) : gb372 ≠ gb369)); clear BK369; clear HB; have BK369 := n0_; have HB := n1_; have BK372 := n2_; have GW372 := n3_; have GE372 := n4_; have NB369_372 := n5_; have NB372_369 := n6_; clear n0_ n1_ n2_ n3_ n4_ n5_ n6_; clear hb hbox hg; have hnb11 := NB372_369.out; have hnc11 := NB369_372.out; have hcz12_0 : w10.cell? ⟨gb372, 0, none⟩ = some (.int .i64 0) := (blk_cell BK372.out 0).trans rfl; have hcz12_1 : w10.cell? ⟨gb372, 1, none⟩ = some (.slice none 0 0) := (blk_cell BK372.out 1).trans rfl; have hcz12_2 : w10.cell? ⟨gb372, 2, none⟩ = some (.slice none 0 0) := (blk_cell BK372.out 2).trans rfl; have hfz12_0 := blk_frozen BK372.out 0; have hfz12_1 := blk_frozen BK372.out 1; have hfz12_2 := blk_frozen BK372.out 2))
          go_loopg [5, 6] kj1 (fun kq v5 v6 w' => ∃ (x5_2 : Int) (x6_2 : Int) (x370000_2 : Int) (x373001_2 : List Int) (u373001 : Value), v5 = .int .i64 x5_2 ∧ v6 = .int .i64 x6_2 ∧ Aside0 (spec_Decode.l0 kq l0 x5_2 x6_2 (wrap64 (rd l0 0)) x373001_2 = some (r1, r2, r3, r4)) ∧ Aside0 (kq ≤ kj1) ∧ Aside0 (Kd.R (Kd.int .u64) 23 w' w.heap.size (fun _ => True) u373001 x373001_2) ∧ Aside0 (w'.heap[gb369]? = some (.cells #[.int .i64 x370000_2, (.slice none 0 0), (.slice none 0 0)] 42 (0, 0))) ∧ Aside0 (w'.heap[gb372]? = some (.cells #[.int .i64 (wrap64 (rd l0 0)), u373001, (.slice none 0 0)] 42 (0, 0))) ∧ Aside0 (Below w.heap.size w w'))
          case atStart => exact ⟨(2), (0), (0), (([] : List Int)), (.slice none 0 0), (by first | rfl | (simp; done) | (simp [*]; done)), (by first | rfl | (simp; done) | (simp [*]; done)), H', ⟨Nat.le_refl _⟩, ⟨by first | exact Kd.R_nil _ _ _ _ _ | exact Kd.N_nil _ _ _ _ _ | exact Kd.V_nil _ _ _ _ _ | exact Kd.Q_nil _ _ _ _ _ | exact Kd.S_nil _ _ _ _ _⟩, ⟨by (with_reducible repeat (first | refine blk_drewN ?_ _ | refine blk_drew ?_ | refine blk_alloc ?_ _)); refine blk_far ?_ NB369_372.out _; (with_reducible repeat (first | refine blk_drewN ?_ _ | refine blk_drew ?_ | refine blk_alloc ?_ _)); refine blk_far ?_ NB369_372.out _; (with_reducible repeat (first | refine blk_drewN ?_ _ | refine blk_drew ?_ | refine blk_alloc ?_ _)); refine blk_far ?_ NB369_372.out _; (with_reducible repeat (first | refine blk_drewN ?_ _ | refine blk_drew ?_ | refine blk_alloc ?_ _)); exact BK369.out⟩, ⟨by (with_reducible repeat (first | refine blk_drewN ?_ _ | refine blk_drew ?_ | refine blk_alloc ?_ _)); refine blk_put (cs := #[.int .i64 (wrap64 (rd l0 0)), .slice none 0 0, .slice none 0 0]) ?_ 2 _ rfl; (with_reducible repeat (first | refine blk_drewN ?_ _ | refine blk_drew ?_ | refine blk_alloc ?_ _)); refine blk_put (cs := #[.int .i64 (wrap64 (rd l0 0)), .slice none 0 0, .slice none 0 0]) ?_ 1 _ rfl; (with_reducible repeat (first | refine blk_drewN ?_ _ | refine blk_drew ?_ | refine blk_alloc ?_ _)); refine blk_put (cs := #[.int .i64 0, .slice none 0 0, .slice none 0 0]) ?_ 0 _ rfl; (with_reducible repeat (first | refine blk_drewN ?_ _ | refine blk_drew ?_ | refine blk_alloc ?_ _)); exact BK372.out⟩, ⟨by repeat (first | (with_reducible first | exact HB.out | apply below_alloc | apply pw_below_drewN | apply below_drew1 | refine below_set ?_ GE369.out | refine below_set ?_ GE372.out) | exact HB.out)⟩⟩
          case round =>
            clear H'
            try clear c1
            try clear p2
            try clear c3
            try clear p3
            try clear q3
            try clear hx3
            try clear qi3
            try clear c4
            try clear c4b0
            try clear c4b1
            try clear c5
            try clear c5b0
            try clear c5b1
            try clear c6
            try clear c6b0
            try clear c6b1
            try clear p6
            try clear c7
            try clear c9
            try clear c9b0
            try clear c9b1
            try clear c11
            try clear hcz12_0
            try clear hcz12_1
            try clear hcz12_2
            try clear hcz8_0
            try clear hcz8_1
            try clear hcz8_2
            try clear hfz12_0
            try clear hfz12_1
            try clear hfz12_2
            try clear hfz8_0
            try clear hfz8_1
            try clear hfz8_2
            try clear hx370_0
            try clear hx371_0
            try clear p2
            try clear p3
            try clear p370
            try clear p371
            try clear p6
            try clear q3
            try clear q370
            try clear q371
            obtain ⟨x5_2, x6_2, x370000_2, x373001_2, u373001, rfl, rfl, HA, HK2, HO_373001, BK369, BK372, HB⟩ := hrel
            cases gk with
            | zero => exact absurd HA.out (by simp [spec_Decode.l0])
            | succ k2 =>
              have H := HA.out
              clear HA
              simp only [spec_Decode.l0] at H
              by_cases c13 : 1 < (l0.length : Int)
              · rw [if_pos c13] at H
                have c13b0 : decide (1 < (l0.length : Int)) = true := decide_eq_true c13
                have c13b1 : decide (1 < l0.length) = true := decide_eq_true (by omega)
                clear c13
                by_cases c14 : x6_2 < (wrap64 (rd l0 1))
                · rw [if_pos c14] at H
                  have c14b0 : decide (x6_2 < (wrap64 (rd l0 1))) = true := decide_eq_true c14
                  clear c14
                  replace H := Option.bind_eq_some_iff.mp H
                  obtain ⟨⟨t374, t375, t376⟩, A150, H⟩ := H
                  replace H : (if t376 = true then (if x373001_2.length < 17592186044416 then (spec_Decode.l0 k2 l0 t375 (wrap64 (x6_2 + 1)) (wrap64 (rd l0 0)) (x373001_2 ++ [t374])) else (none)) else (some (0, ([] : List Int), ([] : List ByteArray), false))) = some (r1, r2, r3, r4) := H
                  have A15 := Aside0.mk A150
                  clear A150
                  by_cases c16 : t376 = true
                  · subst c16
                    have H1 : (if x373001_2.length < 17592186044416 then (spec_Decode.l0 k2 l0 t375 (wrap64 (x6_2 + 1)) (wrap64 (rd l0 0)) (x373001_2 ++ [t374])) else (none)) = some (r1, r2, r3, r4) := by rw [if_pos rfl] at H; exact H
                    clear H
                    have H := H1
                    clear H1
                    by_cases c17 : x373001_2.length < 17592186044416
                    · rw [if_pos c17] at H
                      have LMc17 := Aside0.mk c17
                      clear c17
                      obtain ⟨y377, hy377⟩ : ∃ y_ : List Int, y_ = (x373001_2 ++ [t374]) := ⟨_, rfl⟩
                      replace H : (spec_Decode.l0 k2 l0 t375 (wrap64 (x6_2 + 1)) (wrap64 (rd l0 0)) y377) = some (r1, r2, r3, r4) := by first | (rw [hy377]; with_reducible exact H) | (have H2_ := (Option.bind_some _ _).symm.trans H; rw [hy377]; with_reducible exact H2_) | (have H2_ := (Option.bind_some _ _).symm.trans H; with_reducible exact H2_) | with_reducible exact H | (rw [hy377]; exact H) | exact H
                      have Ny377 := Aside0.mk hy377
                      clear hy377
                      have H' := Aside0.mk H
                      clear H
                      have p373 : 0 ≤ (1 : Int) := (by omega)
                      have q373 : 1 < (l0.length : Int) := of_decide_eq_true (by first | (with_reducible assumption) | assumption)
                      obtain ⟨ad373, e373, hx373_0⟩ := Kd.at_int HR0.out 1 p373 q373
                      obtain rfl : ad371 = ad373 := (by injection e373)
                      (try simp only [show (1 : Int).toNat = 1 from rfl, Nat.reduceMul, Nat.reduceEqDiff, Go.Addr.add, ↓reduceIte] at hx373_0)
                      have qi373 : (1 < l0.length) = True := eq_true (by omega)
                      (try rw [show ((1 : Int)).toNat = 1 from rfl] at hx373_0)
                      replace hx373_0 := (HB.out.cell (World.block_lt_of_cell? w _ hx373_0)).trans hx373_0
                      replace p373 := eq_true p373
                      replace q373 := eq_true q373
                      go_wp2_with (first | ((with_reducible refine gate_callee (f := 18) rfl ?_); refine goesL_ (some 45) rfl rfl Try.func18 (by kernel_rfl) rfl #[.slice (some ad371) l0.length c0, .int .i64 x5_2] rfl (by (try simp only [List.map_toArray, List.map_cons, List.map_nil]); first | done | rfl | (simp only [List.length_drop, List.length_take]; rfl)) ?_; (with_reducible refine (spec_GetVar.calls k2 _ _ l0 x5_2 t374 t375 true _ ?side1 ?side2 A15.out).mono ?_); (case side1 => repeat (first | exact (Kd.C_below HR0.out HB.out) | (with_reducible refine Kd.C_alloc ?_ _) | (with_reducible refine Kd.C_drewN ?_ _) | (with_reducible refine Kd.C_drew ?_))); (case side2 => exact HC0.out); rintro e w18 ⟨rfl, hb⟩; refine ⟨_, rfl, ?_⟩; have n0_ := Aside0.mk (Kd.R_below (by (with_reducible repeat (first | apply Kd.R_alloc | apply Kd.R_drewN | apply Kd.R_drew)); exact HO_373001.out) hb); have n1_ := Aside0.mk (blk_below (g := gb369) (o := .cells #[.int .i64 x370000_2, .slice none 0 0, .slice none 0 0] 42 (0, 0)) (by (with_reducible repeat (first | refine blk_drewN ?_ _ | refine blk_drew ?_ | refine blk_alloc ?_ _)); exact BK369.out) hb); have n2_ := Aside0.mk (blk_below (g := gb372) (o := .cells #[.int .i64 (wrap64 (rd l0 0)), u373001, .slice none 0 0] 42 (0, 0)) (by (with_reducible repeat (first | refine blk_drewN ?_ _ | refine blk_drew ?_ | refine blk_alloc ?_ _)); exact BK372.out) hb); have n3_ := Aside0.mk (below_step (by repeat (first | (with_reducible first | exact HB.out | apply below_alloc | apply pw_below_drewN | apply below_drew1 | refine below_set ?_ GE369.out | refine below_set ?_ GE372.out) | exact HB.out)) hb); clear HO_373001; clear BK369; clear BK372; clear HB; have HO_373001 := n0_; have BK369 := n1_; have BK372 := n2_; have HB := n3_; clear n0_ n1_ n2_ n3_; (try clear hb); (try clear hb2); (try clear hk); (try clear hi); have hnb19 := NB372_369.out; have hnc19 := NB369_372.out; have hcz20_0 : w18.cell? ⟨gb372, 0, none⟩ = some (.int .i64 (wrap64 (rd l0 0))) := (blk_cell BK372.out 0).trans rfl; have hcz20_1 : w18.cell? ⟨gb372, 1, none⟩ = some (u373001) := (blk_cell BK372.out 1).trans rfl; have hcz20_2 : w18.cell? ⟨gb372, 2, none⟩ = some (.slice none 0 0) := (blk_cell BK372.out 2).trans rfl; have hfz20_0 := blk_frozen BK372.out 0; have hfz20_1 := blk_frozen BK372.out 1; have hfz20_2 := blk_frozen BK372.out 2) | ((with_reducible refine gate_builtin (b := .append) (xs := #[.tmp 53, .tmp 55]) rfl ?_); (try (refine gate_guard (by rfl) ?_; dsimp only)); at_builtin; refine Kd.R_append (Kd.int .u64) (w0 := w) w.heap.size rfl (.tmp 53) (.tmp 55) 36 23 (.int .u64 0) 8 rfl Try.underlying36 info23 rfl (by decide) (by omega) u373001 x373001_2 t374 [.int .u64 t374] (fun _ => True) (fun _ => False) rfl rfl ?aP (fun _ hk => hk.elim) ?aF ?aO ?aB ?aS ?aL ?_; (case aP => exact rfl); (case aB => exact (by repeat (first | (with_reducible first | exact HB.out | apply below_alloc | apply pw_below_drewN | apply below_drew1 | refine below_set ?_ GE369.out | refine below_set ?_ GE372.out) | exact HB.out))); (case aF => exact (fun _ _ => trivial)); (case aO => exact (by (with_reducible repeat (first | apply Kd.R_alloc | apply Kd.R_drewN | apply Kd.R_drew)); exact HO_373001.out)); (case aS => exact (below_size (by repeat (first | (with_reducible first | exact HB.out | apply below_alloc | apply pw_below_drewN | apply below_drew1 | refine below_set ?_ GE369.out | refine below_set ?_ GE372.out) | exact HB.out)))); (case aL => have := LMc17.out; omega); intro v378 w21 ho hb hg hat; rw [← Ny377.out] at ho; have n0_ := Aside0.mk (blk_grown (g := gb369) (o := .cells #[.int .i64 x370000_2, .slice none 0 0, .slice none 0 0] 42 (0, 0)) (by (with_reducible repeat (first | refine blk_drewN ?_ _ | refine blk_drew ?_ | refine blk_alloc ?_ _)); exact BK369.out) hg (Kd.R_ne HO_373001.out BK369.out (by decide))); have n1_ := Aside0.mk (blk_grown (g := gb372) (o := .cells #[.int .i64 (wrap64 (rd l0 0)), u373001, .slice none 0 0] 42 (0, 0)) (by (with_reducible repeat (first | refine blk_drewN ?_ _ | refine blk_drew ?_ | refine blk_alloc ?_ _)); exact BK372.out) hg (Kd.R_ne HO_373001.out BK372.out (by decide))); have n2_ := Aside0.mk (hb); have n3_ := Aside0.mk (ho); clear BK369; clear BK372; clear HB; clear HO_373001; have BK369 := n0_; have BK372 := n1_; have HB := n2_; have HO379 := n3_; clear n0_ n1_ n2_ n3_; clear ho hb hg hat; obtain ⟨Ao22, co22, eo22⟩ := Kd.R_slice HO379.out; subst eo22; have hcz23_0 : w21.cell? ⟨gb372, 0, none⟩ = some (.int .i64 (wrap64 (rd l0 0))) := (blk_cell BK372.out 0).trans rfl; have hcz23_1 : w21.cell? ⟨gb372, 1, none⟩ = some (u373001) := (blk_cell BK372.out 1).trans rfl; have hcz23_2 : w21.cell? ⟨gb372, 2, none⟩ = some (.slice none 0 0) := (blk_cell BK372.out 2).trans rfl; have hfz23_0 := blk_frozen BK372.out 0; have hfz23_1 := blk_frozen BK372.out 1; have hfz23_2 := blk_frozen BK372.out 2))
                      go_roundg k2
                      case measure => have := HJ1.out; have := HK2.out; omega
                      case rel => exact ⟨(t375), (wrap64 (x6_2 + 1)), (x370000_2), (y377), (.slice Ao22 y377.length co22), (by first | rfl | (simp; done) | (simp [*]; done)), (by first | rfl | (simp; done) | (simp [*]; done)), H', ⟨by have := HJ1.out; have := HK2.out; omega⟩, ⟨by (with_reducible repeat (first | apply Kd.R_alloc | apply Kd.R_drewN | apply Kd.R_drew)); exact Kd.R_mono (Kd.R_far (p := ⟨gb372, 1, none⟩) (Kd.R_types HO379.out BK372.out (by decide)) (fun _ hk => hk.2) (.slice Ao22 y377.length co22)) (fun _ hk => trivial)⟩, ⟨by (with_reducible repeat (first | refine blk_drewN ?_ _ | refine blk_drew ?_ | refine blk_alloc ?_ _)); refine blk_far ?_ NB369_372.out _; (with_reducible repeat (first | refine blk_drewN ?_ _ | refine blk_drew ?_ | refine blk_alloc ?_ _)); exact BK369.out⟩, ⟨by (with_reducible repeat (first | refine blk_drewN ?_ _ | refine blk_drew ?_ | refine blk_alloc ?_ _)); refine blk_put (cs := #[.int .i64 (wrap64 (rd l0 0)), u373001, .slice none 0 0]) ?_ 1 _ rfl; (with_reducible repeat (first | refine blk_drewN ?_ _ | refine blk_drew ?_ | refine blk_alloc ?_ _)); exact BK372.out⟩, ⟨by repeat (first | (with_reducible first | exact HB.out | apply below_alloc | apply pw_below_drewN | apply below_drew1 | refine below_set ?_ GE369.out | refine below_set ?_ GE372.out) | exact HB.out)⟩⟩
                    · rw [if_neg c17] at H
                      exact absurd H (by simp)
                  · replace c16 := Bool.eq_false_iff.mpr c16
                    subst c16
                    have H1 : (some (0, ([] : List Int), ([] : List ByteArray), false)) = some (r1, r2, r3, r4) := by rw [if_neg (show ¬ (false = true) by decide)] at H; exact H
                    clear H
                    have H := H1
                    clear H1
                    simp only [Option.some.injEq, Prod.mk.injEq] at H
                    obtain ⟨rfl, rfl, rfl, rfl⟩ := H
                    have p373 : 0 ≤ (1 : Int) := (by omega)
                    have q373 : 1 < (l0.length : Int) := of_decide_eq_true (by first | (with_reducible assumption) | assumption)
                    obtain ⟨ad373, e373, hx373_0⟩ := Kd.at_int HR0.out 1 p373 q373
                    obtain rfl : ad371 = ad373 := (by injection e373)
                    (try simp only [show (1 : Int).toNat = 1 from rfl, Nat.reduceMul, Nat.reduceEqDiff, Go.Addr.add, ↓reduceIte] at hx373_0)
                    have qi373 : (1 < l0.length) = True := eq_true (by omega)
                    (try rw [show ((1 : Int)).toNat = 1 from rfl] at hx373_0)
                    replace hx373_0 := (HB.out.cell (World.block_lt_of_cell? w _ hx373_0)).trans hx373_0
                    replace p373 := eq_true p373
                    replace q373 := eq_true q373
                    go_wp2_with (first | ((with_reducible refine gate_callee (f := 18) rfl ?_); refine goesL_ (some 45) rfl rfl Try.func18 (by kernel_rfl) rfl #[.slice (some ad371) l0.length c0, .int .i64 x5_2] rfl (by (try simp only [List.map_toArray, List.map_cons, List.map_nil]); first | done | rfl | (simp only [List.length_drop, List.length_take]; rfl)) ?_; (with_reducible refine (spec_GetVar.calls k2 _ _ l0 x5_2 t374 t375 false _ ?side1 ?side2 A15.out).mono ?_); (case side1 => repeat (first | exact (Kd.C_below HR0.out HB.out) | (with_reducible refine Kd.C_alloc ?_ _) | (with_reducible refine Kd.C_drewN ?_ _) | (with_reducible refine Kd.C_drew ?_))); (case side2 => exact HC0.out); rintro e w24 ⟨rfl, hb⟩; refine ⟨_, rfl, ?_⟩; have n0_ := Aside0.mk (Kd.R_below (by (with_reducible repeat (first | apply Kd.R_alloc | apply Kd.R_drewN | apply Kd.R_drew)); exact HO_373001.out) hb); have n1_ := Aside0.mk (blk_below (g := gb369) (o := .cells #[.int .i64 x370000_2, .slice none 0 0, .slice none 0 0] 42 (0, 0)) (by (with_reducible repeat (first | refine blk_drewN ?_ _ | refine blk_drew ?_ | refine blk_alloc ?_ _)); exact BK369.out) hb); have n2_ := Aside0.mk (blk_below (g := gb372) (o := .cells #[.int .i64 (wrap64 (rd l0 0)), u373001, .slice none 0 0] 42 (0, 0)) (by (with_reducible repeat (first | refine blk_drewN ?_ _ | refine blk_drew ?_ | refine blk_alloc ?_ _)); exact BK372.out) hb); have n3_ := Aside0.mk (below_step (by repeat (first | (with_reducible first | exact HB.out | apply below_alloc | apply pw_below_drewN | apply below_drew1 | refine below_set ?_ GE369.out | refine below_set ?_ GE372.out) | exact HB.out)) hb); clear HO_373001; clear BK369; clear BK372; clear HB; have HO_373001 := n0_; have BK369 := n1_; have BK372 := n2_; have HB := n3_; clear n0_ n1_ n2_ n3_; (try clear hb); (try clear hb2); (try clear hk); (try clear hi); have hnb25 := NB369_372.out; have hnc25 := NB372_369.out; have hcz26_0 : w24.cell? ⟨gb369, 0, none⟩ = some (.int .i64 x370000_2) := (blk_cell BK369.out 0).trans rfl; have hcz26_1 : w24.cell? ⟨gb369, 1, none⟩ = some (.slice none 0 0) := (blk_cell BK369.out 1).trans rfl; have hcz26_2 : w24.cell? ⟨gb369, 2, none⟩ = some (.slice none 0 0) := (blk_cell BK369.out 2).trans rfl; have hfz26_0 := blk_frozen BK369.out 0; have hfz26_1 := blk_frozen BK369.out 1; have hfz26_2 := blk_frozen BK369.out 2))
                    refine bodyPost_ret (results_ct rfl _ _ gb369 42 #[.int .i64 0, .slice none 0 0, .slice none 0 0] (0, 0) _ rfl (by (with_reducible repeat (first | refine blk_drewN ?_ _ | refine blk_drew ?_ | refine blk_alloc ?_ _)); refine blk_put (cs := #[.int .i64 0, .slice none 0 0, .slice none 0 0]) ?_ 2 _ rfl; (with_reducible repeat (first | refine blk_drewN ?_ _ | refine blk_drew ?_ | refine blk_alloc ?_ _)); refine blk_put (cs := #[.int .i64 0, .slice none 0 0, .slice none 0 0]) ?_ 1 _ rfl; (with_reducible repeat (first | refine blk_drewN ?_ _ | refine blk_drew ?_ | refine blk_alloc ?_ _)); refine blk_put (cs := #[.int .i64 x370000_2, .slice none 0 0, .slice none 0 0]) ?_ 0 _ rfl; (with_reducible repeat (first | refine blk_drewN ?_ _ | refine blk_drew ?_ | refine blk_alloc ?_ _)); exact BK369.out) Try.underlying42 rfl (by kernel_rfl)) rfl ?_
                    exact ⟨_, _, by first | rfl | (simp [errW_none, errW_some] <;> rfl) | (simp [*, errW_none, errW_some] <;> rfl), by first | exact Kd.R_nil _ _ _ _ _ | exact Kd.N_nil _ _ _ _ _ | exact Kd.V_nil _ _ _ _ _ | exact Kd.Q_nil _ _ _ _ _ | exact Kd.S_nil _ _ _ _ _, by first | exact Kd.R_nil _ _ _ _ _ | exact Kd.N_nil _ _ _ _ _ | exact Kd.V_nil _ _ _ _ _ | exact Kd.Q_nil _ _ _ _ _ | exact Kd.S_nil _ _ _ _ _, by repeat (first | (with_reducible first | exact HB.out | apply below_alloc | apply pw_below_drewN | apply below_drew1 | refine below_set ?_ GE369.out | refine below_set ?_ GE372.out) | exact HB.out)⟩
                · rw [if_neg c14] at H
                  have c14b0 : decide (x6_2 < (wrap64 (rd l0 1))) = false := decide_eq_false c14
                  clear c14
                  by_cases c27 : x5_2 ≥ (l0.length : Int)
                  · rw [if_pos c27] at H
                    have c27b0 : decide ((l0.length : Int) ≤ x5_2) = true := decide_eq_true c27
                    clear c27
                    simp only [Option.some.injEq, Prod.mk.injEq] at H
                    obtain ⟨rfl, rfl, rfl, rfl⟩ := H
                    have p373 : 0 ≤ (1 : Int) := (by omega)
                    have q373 : 1 < (l0.length : Int) := of_decide_eq_true (by first | (with_reducible assumption) | assumption)
                    obtain ⟨ad373, e373, hx373_0⟩ := Kd.at_int HR0.out 1 p373 q373
                    obtain rfl : ad371 = ad373 := (by injection e373)
                    (try simp only [show (1 : Int).toNat = 1 from rfl, Nat.reduceMul, Nat.reduceEqDiff, Go.Addr.add, ↓reduceIte] at hx373_0)
                    have qi373 : (1 < l0.length) = True := eq_true (by omega)
                    (try rw [show ((1 : Int)).toNat = 1 from rfl] at hx373_0)
                    replace hx373_0 := (HB.out.cell (World.block_lt_of_cell? w _ hx373_0)).trans hx373_0
                    replace p373 := eq_true p373
                    replace q373 := eq_true q373
                    have hnb28 := NB369_372.out
                    have hnc28 := NB372_369.out
                    have hcz29_0 : wr.cell? ⟨gb369, 0, none⟩ = some (.int .i64 x370000_2) := (blk_cell BK369.out 0).trans rfl
                    have hcz29_1 : wr.cell? ⟨gb369, 1, none⟩ = some (.slice none 0 0) := (blk_cell BK369.out 1).trans rfl
                    have hcz29_2 : wr.cell? ⟨gb369, 2, none⟩ = some (.slice none 0 0) := (blk_cell BK369.out 2).trans rfl
                    have hfz29_0 := blk_frozen BK369.out 0
                    have hfz29_1 := blk_frozen BK369.out 1
                    have hfz29_2 := blk_frozen BK369.out 2
                    go_wp2
                    refine bodyPost_ret (results_ct rfl _ _ gb369 42 #[.int .i64 0, .slice none 0 0, .slice none 0 0] (0, 0) _ rfl (by (with_reducible repeat (first | refine blk_drewN ?_ _ | refine blk_drew ?_ | refine blk_alloc ?_ _)); refine blk_put (cs := #[.int .i64 0, .slice none 0 0, .slice none 0 0]) ?_ 2 _ rfl; (with_reducible repeat (first | refine blk_drewN ?_ _ | refine blk_drew ?_ | refine blk_alloc ?_ _)); refine blk_put (cs := #[.int .i64 0, .slice none 0 0, .slice none 0 0]) ?_ 1 _ rfl; (with_reducible repeat (first | refine blk_drewN ?_ _ | refine blk_drew ?_ | refine blk_alloc ?_ _)); refine blk_put (cs := #[.int .i64 x370000_2, .slice none 0 0, .slice none 0 0]) ?_ 0 _ rfl; (with_reducible repeat (first | refine blk_drewN ?_ _ | refine blk_drew ?_ | refine blk_alloc ?_ _)); exact BK369.out) Try.underlying42 rfl (by kernel_rfl)) rfl ?_
                    exact ⟨_, _, by first | rfl | (simp [errW_none, errW_some] <;> rfl) | (simp [*, errW_none, errW_some] <;> rfl), by first | exact Kd.R_nil _ _ _ _ _ | exact Kd.N_nil _ _ _ _ _ | exact Kd.V_nil _ _ _ _ _ | exact Kd.Q_nil _ _ _ _ _ | exact Kd.S_nil _ _ _ _ _, by first | exact Kd.R_nil _ _ _ _ _ | exact Kd.N_nil _ _ _ _ _ | exact Kd.V_nil _ _ _ _ _ | exact Kd.Q_nil _ _ _ _ _ | exact Kd.S_nil _ _ _ _ _, by repeat (first | (with_reducible first | exact HB.out | apply below_alloc | apply pw_below_drewN | apply below_drew1 | refine below_set ?_ GE369.out | refine below_set ?_ GE372.out) | exact HB.out)⟩
                  · rw [if_neg c27] at H
                    have c27b0 : decide ((l0.length : Int) ≤ x5_2) = false := decide_eq_false c27
                    clear c27
                    by_cases c30 : 0 ≤ x5_2
                    · rw [if_pos c30] at H
                      have c30b0 : decide (0 ≤ x5_2) = true := decide_eq_true c30
                      clear c30
                      by_cases c31 : x5_2 < (l0.length : Int)
                      · rw [if_pos c31] at H
                        have c31b0 : decide (x5_2 < (l0.length : Int)) = true := decide_eq_true c31
                        clear c31
                        have H' := Aside0.mk H
                        clear H
                        have p373 : 0 ≤ (1 : Int) := (by omega)
                        have q373 : 1 < (l0.length : Int) := of_decide_eq_true (by first | (with_reducible assumption) | assumption)
                        obtain ⟨ad373, e373, hx373_0⟩ := Kd.at_int HR0.out 1 p373 q373
                        obtain rfl : ad371 = ad373 := (by injection e373)
                        (try simp only [show (1 : Int).toNat = 1 from rfl, Nat.reduceMul, Nat.reduceEqDiff, Go.Addr.add, ↓reduceIte] at hx373_0)
                        have qi373 : (1 < l0.length) = True := eq_true (by omega)
                        (try rw [show ((1 : Int)).toNat = 1 from rfl] at hx373_0)
                        replace hx373_0 := (HB.out.cell (World.block_lt_of_cell? w _ hx373_0)).trans hx373_0
                        replace p373 := eq_true p373
                        replace q373 := eq_true q373
                        have p380 : 0 ≤ (x5_2 : Int) := of_decide_eq_true (by first | (with_reducible assumption) | assumption)
                        have q380 : x5_2 < (l0.length : Int) := of_decide_eq_true (by first | (with_reducible assumption) | assumption)
                        obtain ⟨ad380, e380, hx380_0⟩ := Kd.at_int HR0.out x5_2 p380 q380
                        obtain rfl : ad371 = ad380 := (by injection e380)
                        replace hx380_0 := (HB.out.cell (World.block_lt_of_cell? w _ hx380_0)).trans hx380_0
                        replace p380 := eq_true p380
                        replace q380 := eq_true q380
                        go_wp2
                        go_loopg [5, 11] k2 (fun kq v5 v11 w' => ∃ (x5_3 : Int) (x11_3 : Int) (x370000_3 : Int) (x373002_3 : List ByteArray) (u373002 : Value), v5 = .int .i64 x5_3 ∧ v11 = .int .i64 x11_3 ∧ Aside0 (spec_Decode.l1 kq l0 x5_3 (wrap64 (rd l0 x5_2)) x11_3 (wrap64 (rd l0 0)) x373001_2 x373002_3 = some (r1, r2, r3, r4)) ∧ Aside0 (kq ≤ k2) ∧ Aside0 (Kd.R (Kd.int .u64) 23 w' w.heap.size (fun _ => True) u373001 x373001_2) ∧ Aside0 (Kd.R Kd.string 9 w' w.heap.size (fun _ => True) u373002 x373002_3) ∧ Aside0 (w'.heap[gb369]? = some (.cells #[.int .i64 x370000_3, (.slice none 0 0), (.slice none 0 0)] 42 (0, 0))) ∧ Aside0 (w'.heap[gb372]? = some (.cells #[.int .i64 (wrap64 (rd l0 0)), u373001, u373002] 42 (0, 0))) ∧ Aside0 (Below w.heap.size w w'))
                        case atStart => exact ⟨(wrap64 (x5_2 + 1)), (0), (x370000_2), (([] : List ByteArray)), (.slice none 0 0), (by first | rfl | (simp; done) | (simp [*]; done)), (by first | rfl | (simp; done) | (simp [*]; done)), H', ⟨Nat.le_refl _⟩, ⟨by (with_reducible repeat (first | apply Kd.R_alloc | apply Kd.R_drewN | apply Kd.R_drew)); exact HO_373001.out⟩, ⟨by first | exact Kd.R_nil _ _ _ _ _ | exact Kd.N_nil _ _ _ _ _ | exact Kd.V_nil _ _ _ _ _ | exact Kd.Q_nil _ _ _ _ _ | exact Kd.S_nil _ _ _ _ _⟩, ⟨by (with_reducible repeat (first | refine blk_drewN ?_ _ | refine blk_drew ?_ | refine blk_alloc ?_ _)); exact BK369.out⟩, ⟨by (with_reducible repeat (first | refine blk_drewN ?_ _ | refine blk_drew ?_ | refine blk_alloc ?_ _)); exact BK372.out⟩, ⟨by repeat (first | (with_reducible first | exact HB.out | apply below_alloc | apply pw_below_drewN | apply below_drew1 | refine below_set ?_ GE369.out | refine below_set ?_ GE372.out) | exact HB.out)⟩⟩
                        case round =>
                          clear H'
                          try clear c1
                          try clear c2
                          try clear p2
                          try clear c3
                          try clear p3
                          try clear q3
                          try clear hx3
                          try clear qi3
                          try clear c4
                          try clear c4b0
                          try clear c4b1
                          try clear c5
                          try clear c5b0
                          try clear c5b1
                          try clear c6
                          try clear c6b0
                          try clear c6b1
                          try clear p6
                          try clear c7
                          try clear c9
                          try clear c9b0
                          try clear c9b1
                          try clear c11
                          try clear c13
                          try clear c13b0
                          try clear c13b1
                          try clear c14
                          try clear c14b0
                          try clear c16
                          try clear c17
                          try clear c18
                          try clear c19
                          try clear c25
                          try clear c27
                          try clear c27b0
                          try clear c28
                          try clear c30
                          try clear c30b0
                          try clear c31
                          try clear c31b0
                          try clear hcz12_0
                          try clear hcz12_1
                          try clear hcz12_2
                          try clear hcz20_0
                          try clear hcz20_1
                          try clear hcz20_2
                          try clear hcz23_0
                          try clear hcz23_1
                          try clear hcz23_2
                          try clear hcz26_0
                          try clear hcz26_1
                          try clear hcz26_2
                          try clear hcz29_0
                          try clear hcz29_1
                          try clear hcz29_2
                          try clear hcz8_0
                          try clear hcz8_1
                          try clear hcz8_2
                          try clear hfz12_0
                          try clear hfz12_1
                          try clear hfz12_2
                          try clear hfz20_0
                          try clear hfz20_1
                          try clear hfz20_2
                          try clear hfz23_0
                          try clear hfz23_1
                          try clear hfz23_2
                          try clear hfz26_0
                          try clear hfz26_1
                          try clear hfz26_2
                          try clear hfz29_0
                          try clear hfz29_1
                          try clear hfz29_2
                          try clear hfz8_0
                          try clear hfz8_1
                          try clear hfz8_2
                          try clear hx370_0
                          try clear hx371_0
                          try clear hx373_0
                          try clear hx380_0
                          try clear p2
                          try clear p3
                          try clear p370
                          try clear p371
                          try clear p373
                          try clear p380
                          try clear p6
                          try clear q3
                          try clear q370
                          try clear q371
                          try clear q373
                          try clear q380
                          obtain ⟨x5_3, x11_3, x370000_3, x373002_3, u373002, rfl, rfl, HA, HK3, HO_373001, HO_373002, BK369, BK372, HB⟩ := hrel
                          cases gk with
                          | zero => exact absurd HA.out (by simp [spec_Decode.l1])
                          | succ k3 =>
                            have H := HA.out
                            clear HA
                            simp only [spec_Decode.l1] at H
                            by_cases c32 : x11_3 < (wrap64 (rd l0 x5_2))
                            · rw [if_pos c32] at H
                              have c32b0 : decide (x11_3 < (wrap64 (rd l0 x5_2))) = true := decide_eq_true c32
                              clear c32
                              by_cases c33 : x5_3 ≥ (l0.length : Int)
                              · rw [if_pos c33] at H
                                have c33b0 : decide ((l0.length : Int) ≤ x5_3) = true := decide_eq_true c33
                                clear c33
                                simp only [Option.some.injEq, Prod.mk.injEq] at H
                                obtain ⟨rfl, rfl, rfl, rfl⟩ := H
                                have hnb34 := NB369_372.out
                                have hnc34 := NB372_369.out
                                have hcz35_0 : wr.cell? ⟨gb369, 0, none⟩ = some (.int .i64 x370000_3) := (blk_cell BK369.out 0).trans rfl
                                have hcz35_1 : wr.cell? ⟨gb369, 1, none⟩ = some (.slice none 0 0) := (blk_cell BK369.out 1).trans rfl
                                have hcz35_2 : wr.cell? ⟨gb369, 2, none⟩ = some (.slice none 0 0) := (blk_cell BK369.out 2).trans rfl
                                have hfz35_0 := blk_frozen BK369.out 0
                                have hfz35_1 := blk_frozen BK369.out 1
                                have hfz35_2 := blk_frozen BK369.out 2
                                go_wp2
                                refine bodyPost_ret (results_ct rfl _ _ gb369 42 #[.int .i64 0, .slice none 0 0, .slice none 0 0] (0, 0) _ rfl (by (with_reducible repeat (first | refine blk_drewN ?_ _ | refine blk_drew ?_ | refine blk_alloc ?_ _)); refine blk_put (cs := #[.int .i64 0, .slice none 0 0, .slice none 0 0]) ?_ 2 _ rfl; (with_reducible repeat (first | refine blk_drewN ?_ _ | refine blk_drew ?_ | refine blk_alloc ?_ _)); refine blk_put (cs := #[.int .i64 0, .slice none 0 0, .slice none 0 0]) ?_ 1 _ rfl; (with_reducible repeat (first | refine blk_drewN ?_ _ | refine blk_drew ?_ | refine blk_alloc ?_ _)); refine blk_put (cs := #[.int .i64 x370000_3, .slice none 0 0, .slice none 0 0]) ?_ 0 _ rfl; (with_reducible repeat (first | refine blk_drewN ?_ _ | refine blk_drew ?_ | refine blk_alloc ?_ _)); exact BK369.out) Try.underlying42 rfl (by kernel_rfl)) rfl ?_
                                exact ⟨_, _, by first | rfl | (simp [errW_none, errW_some] <;> rfl) | (simp [*, errW_none, errW_some] <;> rfl), by first | exact Kd.R_nil _ _ _ _ _ | exact Kd.N_nil _ _ _ _ _ | exact Kd.V_nil _ _ _ _ _ | exact Kd.Q_nil _ _ _ _ _ | exact Kd.S_nil _ _ _ _ _, by first | exact Kd.R_nil _ _ _ _ _ | exact Kd.N_nil _ _ _ _ _ | exact Kd.V_nil _ _ _ _ _ | exact Kd.Q_nil _ _ _ _ _ | exact Kd.S_nil _ _ _ _ _, by repeat (first | (with_reducible first | exact HB.out | apply below_alloc | apply pw_below_drewN | apply below_drew1 | refine below_set ?_ GE369.out | refine below_set ?_ GE372.out) | exact HB.out)⟩
                              · rw [if_neg c33] at H
                                have c33b0 : decide ((l0.length : Int) ≤ x5_3) = false := decide_eq_false c33
                                clear c33
                                by_cases c36 : 0 ≤ x5_3
                                · rw [if_pos c36] at H
                                  have c36b0 : decide (0 ≤ x5_3) = true := decide_eq_true c36
                                  clear c36
                                  by_cases c37 : x5_3 < (l0.length : Int)
                                  · rw [if_pos c37] at H
                                    have c37b0 : decide (x5_3 < (l0.length : Int)) = true := decide_eq_true c37
                                    clear c37
                                    by_cases c38 : (wrap64 (rd l0 x5_3)) > (wrap64 ((wrap64 ((l0.length : Int) - x5_3)) - 1))
                                    · rw [if_pos c38] at H
                                      have c38b0 : decide ((wrap64 ((wrap64 ((l0.length : Int) - x5_3)) - 1)) < (wrap64 (rd l0 x5_3))) = true := decide_eq_true c38
                                      clear c38
                                      simp only [Option.some.injEq, Prod.mk.injEq] at H
                                      obtain ⟨rfl, rfl, rfl, rfl⟩ := H
                                      have p381 : 0 ≤ (x5_3 : Int) := of_decide_eq_true (by first | (with_reducible assumption) | assumption)
                                      have q381 : x5_3 < (l0.length : Int) := of_decide_eq_true (by first | (with_reducible assumption) | assumption)
                                      obtain ⟨ad381, e381, hx381_0⟩ := Kd.at_int HR0.out x5_3 p381 q381
                                      obtain rfl : ad371 = ad381 := (by injection e381)
                                      replace hx381_0 := (HB.out.cell (World.block_lt_of_cell? w _ hx381_0)).trans hx381_0
                                      replace p381 := eq_true p381
                                      replace q381 := eq_true q381
                                      have hnb39 := NB369_372.out
                                      have hnc39 := NB372_369.out
                                      have hcz40_0 : wr.cell? ⟨gb369, 0, none⟩ = some (.int .i64 x370000_3) := (blk_cell BK369.out 0).trans rfl
                                      have hcz40_1 : wr.cell? ⟨gb369, 1, none⟩ = some (.slice none 0 0) := (blk_cell BK369.out 1).trans rfl
                                      have hcz40_2 : wr.cell? ⟨gb369, 2, none⟩ = some (.slice none 0 0) := (blk_cell BK369.out 2).trans rfl
                                      have hfz40_0 := blk_frozen BK369.out 0
                                      have hfz40_1 := blk_frozen BK369.out 1
                                      have hfz40_2 := blk_frozen BK369.out 2
                                      go_wp2
                                      refine bodyPost_ret (results_ct rfl _ _ gb369 42 #[.int .i64 0, .slice none 0 0, .slice none 0 0] (0, 0) _ rfl (by (with_reducible repeat (first | refine blk_drewN ?_ _ | refine blk_drew ?_ | refine blk_alloc ?_ _)); refine blk_put (cs := #[.int .i64 0, .slice none 0 0, .slice none 0 0]) ?_ 2 _ rfl; (with_reducible repeat (first | refine blk_drewN ?_ _ | refine blk_drew ?_ | refine blk_alloc ?_ _)); refine blk_put (cs := #[.int .i64 0, .slice none 0 0, .slice none 0 0]) ?_ 1 _ rfl; (with_reducible repeat (first | refine blk_drewN ?_ _ | refine blk_drew ?_ | refine blk_alloc ?_ _)); refine blk_put (cs := #[.int .i64 x370000_3, .slice none 0 0, .slice none 0 0]) ?_ 0 _ rfl; (with_reducible repeat (first | refine blk_drewN ?_ _ | refine blk_drew ?_ | refine blk_alloc ?_ _)); exact BK369.out) Try.underlying42 rfl (by kernel_rfl)) rfl ?_
                                      exact ⟨_, _, by first | rfl | (simp [errW_none, errW_some] <;> rfl) | (simp [*, errW_none, errW_some] <;> rfl), by first | exact Kd.R_nil _ _ _ _ _ | exact Kd.N_nil _ _ _ _ _ | exact Kd.V_nil _ _ _ _ _ | exact Kd.Q_nil _ _ _ _ _ | exact Kd.S_nil _ _ _ _ _, by first | exact Kd.R_nil _ _ _ _ _ | exact Kd.N_nil _ _ _ _ _ | exact Kd.V_nil _ _ _ _ _ | exact Kd.Q_nil _ _ _ _ _ | exact Kd.S_nil _ _ _ _ _, by repeat (first | (with_reducible first | exact HB.out | apply below_alloc | apply pw_below_drewN | apply below_drew1 | refine below_set ?_ GE369.out | refine below_set ?_ GE372.out) | exact HB.out)⟩
                                    · rw [if_neg c38] at H
                                      have c38b0 : decide ((wrap64 ((wrap64 ((l0.length : Int) - x5_3)) - 1)) < (wrap64 (rd l0 x5_3))) = false := decide_eq_false c38
                                      clear c38
                                      obtain ⟨ji41, hji41⟩ : ∃ j_ : Int, (wrap64 (x5_3 + 1)) = j_ := ⟨_, rfl⟩
                                      replace H : (if 0 ≤ (ji41) then (if (ji41) ≤ (wrap64 ((ji41) + (wrap64 (rd l0 x5_3)))) then (if (wrap64 ((ji41) + (wrap64 (rd l0 x5_3)))) ≤ (l0.length : Int) then (if x373002_3.length < 8796093022208 then (spec_Decode.l1 k3 l0 (wrap64 ((ji41) + (wrap64 (rd l0 x5_3)))) (wrap64 (rd l0 x5_2)) (wrap64 (x11_3 + 1)) (wrap64 (rd l0 0)) x373001_2 (x373002_3 ++ [strOfNums ((l0.take ((wrap64 ((ji41) + (wrap64 (rd l0 x5_3)))) : Int).toNat).drop ((ji41) : Int).toNat)])) else (none)) else (none)) else (none)) else (none)) = some (r1, r2, r3, r4) := by first | (rw [hji41] at H; exact H) | (simp only [hji41] at H ⊢; exact H)
                                      have hji41w : (IntKind.i64.wrap (x5_3 + 1)) = ji41 := (i64_w _).trans hji41
                                      by_cases c42 : 0 ≤ (ji41)
                                      · rw [if_pos c42] at H
                                        have c42b0 := eq_true c42
                                        have c42b1 : decide (0 ≤ (ji41)) = true := decide_eq_true c42
                                        clear c42
                                        by_cases c43 : (ji41) ≤ (wrap64 ((ji41) + (wrap64 (rd l0 x5_3))))
                                        · rw [if_pos c43] at H
                                          have c43b0 := eq_true c43
                                          have c43b1 : decide ((ji41) ≤ (wrap64 ((ji41) + (wrap64 (rd l0 x5_3))))) = true := decide_eq_true c43
                                          by_cases c44 : (wrap64 ((ji41) + (wrap64 (rd l0 x5_3)))) ≤ (l0.length : Int)
                                          · rw [if_pos c44] at H
                                            have c44b0 := eq_true c44
                                            have c44b1 : decide ((wrap64 ((ji41) + (wrap64 (rd l0 x5_3)))) ≤ (l0.length : Int)) = true := decide_eq_true c44
                                            by_cases c45 : x373002_3.length < 8796093022208
                                            · rw [if_pos c45] at H
                                              have LMc45 := Aside0.mk c45
                                              clear c45
                                              obtain ⟨y384, hy384⟩ : ∃ y_ : List ByteArray, y_ = (x373002_3 ++ [strOfNums ((l0.take ((wrap64 ((ji41) + (wrap64 (rd l0 x5_3)))) : Int).toNat).drop ((ji41) : Int).toNat)]) := ⟨_, rfl⟩
                                              replace H : (spec_Decode.l1 k3 l0 (wrap64 ((ji41) + (wrap64 (rd l0 x5_3)))) (wrap64 (rd l0 x5_2)) (wrap64 (x11_3 + 1)) (wrap64 (rd l0 0)) x373001_2 y384) = some (r1, r2, r3, r4) := by first | (rw [hy384]; with_reducible exact H) | (have H2_ := (Option.bind_some _ _).symm.trans H; rw [hy384]; with_reducible exact H2_) | (have H2_ := (Option.bind_some _ _).symm.trans H; with_reducible exact H2_) | with_reducible exact H | (rw [hy384]; exact H) | exact H
                                              have Ny384 := Aside0.mk hy384
                                              clear hy384
                                              have H' := Aside0.mk H
                                              clear H
                                              have p381 : 0 ≤ (x5_3 : Int) := of_decide_eq_true (by first | (with_reducible assumption) | assumption)
                                              have q381 : x5_3 < (l0.length : Int) := of_decide_eq_true (by first | (with_reducible assumption) | assumption)
                                              obtain ⟨ad381, e381, hx381_0⟩ := Kd.at_int HR0.out x5_3 p381 q381
                                              obtain rfl : ad371 = ad381 := (by injection e381)
                                              replace hx381_0 := (HB.out.cell (World.block_lt_of_cell? w _ hx381_0)).trans hx381_0
                                              replace p381 := eq_true p381
                                              replace q381 := eq_true q381
                                              have p382 : 0 ≤ (x5_3 : Int) := of_decide_eq_true (by first | (with_reducible assumption) | assumption)
                                              have q382 : x5_3 < (l0.length : Int) := of_decide_eq_true (by first | (with_reducible assumption) | assumption)
                                              obtain ⟨ad382, e382, hx382_0⟩ := Kd.at_int HR0.out x5_3 p382 q382
                                              obtain rfl : ad371 = ad382 := (by injection e382)
                                              replace hx382_0 := (HB.out.cell (World.block_lt_of_cell? w _ hx382_0)).trans hx382_0
                                              replace p382 := eq_true p382
                                              replace q382 := eq_true q382
                                              try go_wp2
                                              have n0_ := Aside0.mk (Kd.R_drew HO_373001.out)
                                              have n1_ := Aside0.mk (Kd.R_drew HO_373002.out)
                                              have n2_ := Aside0.mk (blk_drew BK369.out)
                                              have n3_ := Aside0.mk (blk_drew BK372.out)
                                              have n4_ := Aside0.mk (below_drew1 HB.out)
                                              clear HO_373001
                                              clear HO_373002
                                              clear BK369
                                              clear BK372
                                              clear HB
                                              have HO_373001 := n0_
                                              have HO_373002 := n1_
                                              have BK369 := n2_
                                              have BK372 := n3_
                                              have HB := n4_
                                              clear n0_ n1_ n2_ n3_ n4_
                                              obtain ⟨i047, hi047, _, hsz47, _⟩ := info_parts info5
                                              obtain ⟨A47, hcut47, hA47, hC47⟩ := print_mid_of (P := Try.prog) (Value.int .u8) 0 24 5 .i64 .i64 Try.underlying24 hi047 hsz47 (some ad371) c0 l0 (ji41) (wrap64 ((ji41) + (wrap64 (rd l0 x5_3)))) (of_decide_eq_true (by first | (with_reducible assumption) | assumption)) (by first | omega | exact of_decide_eq_true (by first | (with_reducible assumption) | assumption)) (of_decide_eq_true (by first | (with_reducible assumption) | assumption)) HC0.out
                                              have HR383 := Aside0.mk (Kd.C_of_reads (h1 := fun _ => rfl) (hA47 _ (Kd.reads_of_C HR0.out)))
                                              have HC383 := Aside0.mk hC47
                                              clear hA47 hC47 hi047 hsz47
                                              have hcv48 := Kd.C_string (P := Try.prog) (A := A47) (c := (c0 - (ji41).toNat)) Try.underlying24 Try.underlying5 Try.underlying9 (Kd.C_below HR383.out HB.out)
                                              have hcv48s := hcv48
                                              try simp only [show ((l0.take ((wrap64 ((ji41) + (wrap64 (rd l0 x5_3)))) : Int).toNat).drop ((ji41) : Int).toNat).length = ((wrap64 ((ji41) + (wrap64 (rd l0 x5_3)))) : Int).toNat - ((ji41) : Int).toNat from by have h_ : ((wrap64 ((ji41) + (wrap64 (rd l0 x5_3)))) : Int) ≤ (l0.length : Int) := of_decide_eq_true (by first | (with_reducible assumption) | assumption); rw [List.length_drop, List.length_take]; omega] at hcv48s
                                              have hcv49 := fun (nq_ : Nat) => Kd.C_string (P := Try.prog) (A := A47) (c := (c0 - (ji41).toNat)) Try.underlying24 Try.underlying5 Try.underlying9 (Kd.C_drewN (Kd.C_below HR383.out HB.out) nq_)
                                              have hcv49s := hcv49
                                              try simp only [show ((l0.take ((wrap64 ((ji41) + (wrap64 (rd l0 x5_3)))) : Int).toNat).drop ((ji41) : Int).toNat).length = ((wrap64 ((ji41) + (wrap64 (rd l0 x5_3)))) : Int).toNat - ((ji41) : Int).toNat from by have h_ : ((wrap64 ((ji41) + (wrap64 (rd l0 x5_3)))) : Int) ≤ (l0.length : Int) := of_decide_eq_true (by first | (with_reducible assumption) | assumption); rw [List.length_drop, List.length_take]; omega] at hcv49s
                                              refine start_ (n := 15) (S := fun w' => w'.cell? ⟨gb372, 0, none⟩ = some (.int .i64 (wrap64 (rd l0 0))) ∧ w'.cell? ⟨gb372, 1, none⟩ = some (u373001) ∧ w'.cell? ⟨gb372, 2, none⟩ = some (u373002) ∧ (convert 24 9 (.slice A47 (((wrap64 ((ji41) + (wrap64 (rd l0 x5_3)))) : Int).toNat - ((ji41) : Int).toNat) ((c0 - (ji41).toNat)))).run Try.prog w' = .ok (.string (strOfNums ((l0.take ((wrap64 ((ji41) + (wrap64 (rd l0 x5_3)))) : Int).toNat).drop ((ji41) : Int).toNat))) w') (ds := [14]) #[false, false, false, false, false, false, false, false, false, false, false, false, false, false, false] (by kernel_rfl) rfl rfl ⟨(blk_cell BK372.out 0).trans rfl, (blk_cell BK372.out 1).trans rfl, (blk_cell BK372.out 2).trans rfl, (by have hq_ := fun (W_ : World) (hb_ : Below w.heap.size w W_) => Kd.C_string (P := Try.prog) (A := A47) (c := (c0 - (ji41).toNat)) Try.underlying24 Try.underlying5 Try.underlying9 (Kd.C_below HR383.out hb_); simp only [show ((l0.take ((wrap64 ((ji41) + (wrap64 (rd l0 x5_3)))) : Int).toNat).drop ((ji41) : Int).toNat).length = ((wrap64 ((ji41) + (wrap64 (rd l0 x5_3)))) : Int).toNat - ((ji41) : Int).toNat from by have h_ : ((wrap64 ((ji41) + (wrap64 (rd l0 x5_3)))) : Int) ≤ (l0.length : Int) := of_decide_eq_true (by first | (with_reducible assumption) | assumption); rw [List.length_drop, List.length_take]; omega] at hq_; exact hq_ _ (by repeat (first | (with_reducible first | exact HB.out | apply below_alloc | apply pw_below_drewN | apply below_drew1) | exact HB.out)))⟩ (fun hHeld => ?_); refine with_tabW spec_Decode.tab23 spec_Decode.bits23 (fun HT_ HW_ => ?_)
                                              generalize wr.drew = w46 at HO_373001 HO_373002 BK369 BK372 HB HR383 hHeld ⊢
                                              refine pure_ (i := 0) (N := some 99) (v := ?_) (a' := ?_) #[true, false, false, false, false, false, false, false, false, false, false, false, false, false, false] rfl rfl (any_of HT_.out (by kernel_rfl)) (fun _ _ _ h => h) (Or.inl ⟨by rfl, ?_⟩) ?_ ?_
                                              rotate_left
                                              · intro w'
                                                go_simp
                                                with_reducible rfl
                                              rotate_left
                                              · simp only [Act.put, List.setIfInBounds_toArray, List.set_cons_zero, List.set_cons_succ, i64_w, i32_w]
                                                rfl
                                              refine pure_ (i := 2) (N := some 101) (v := ?_) (a' := ?_) #[true, false, true, false, false, false, false, false, false, false, false, false, false, false, false] rfl rfl (any_of HT_.out (by kernel_rfl)) (fun _ _ _ h => h) (Or.inl ⟨by rfl, ?_⟩) ?_ ?_
                                              rotate_left
                                              · intro w'
                                                go_simp
                                                with_reducible rfl
                                              rotate_left
                                              · simp only [Act.put, List.setIfInBounds_toArray, List.set_cons_zero, List.set_cons_succ, i64_w, i32_w]
                                                rfl
                                              refine pure_ (i := 3) (N := some 102) (v := ?_) (a' := ?_) #[true, false, true, true, false, false, false, false, false, false, false, false, false, false, false] rfl rfl (any_of HT_.out (by kernel_rfl)) (fun _ _ _ h => h) (Or.inl ⟨by rfl, ?_⟩) ?_ ?_
                                              rotate_left
                                              · intro w'
                                                go_simp
                                                with_reducible rfl
                                              rotate_left
                                              · simp only [Act.put, List.setIfInBounds_toArray, List.set_cons_zero, List.set_cons_succ, i64_w, i32_w]
                                                rfl
                                              refine pure_ (i := 4) (N := some 103) (v := ?_) (a' := ?_) #[true, false, true, true, true, false, false, false, false, false, false, false, false, false, false] rfl rfl (any_of HT_.out (by kernel_rfl)) (fun _ _ _ h => h) (Or.inl ⟨by rfl, ?_⟩) ?_ ?_
                                              rotate_left
                                              · intro w'
                                                go_simp
                                                with_reducible rfl
                                              rotate_left
                                              · simp only [Act.put, List.setIfInBounds_toArray, List.set_cons_zero, List.set_cons_succ, i64_w, i32_w]
                                                rfl
                                              refine pure_ (i := 5) (N := some 104) (v := ?_) (a' := ?_) #[true, false, true, true, true, true, false, false, false, false, false, false, false, false, false] rfl rfl (any_of HT_.out (by kernel_rfl)) (fun _ _ _ h => h) (Or.inl ⟨by rfl, ?_⟩) ?_ ?_
                                              rotate_left
                                              · intro w'
                                                go_simp
                                                with_reducible rfl
                                              rotate_left
                                              · simp only [Act.put, List.setIfInBounds_toArray, List.set_cons_zero, List.set_cons_succ, i64_w, i32_w]
                                                rfl
                                              refine pure_ (i := 6) (N := some 105) (v := ?_) (a' := ?_) #[true, false, true, true, true, true, true, false, false, false, false, false, false, false, false] rfl rfl (any_of HT_.out (by kernel_rfl)) (fun _ _ _ h => h) (Or.inl ⟨by rfl, ?_⟩) ?_ ?_
                                              rotate_left
                                              · intro w'
                                                go_simp
                                                with_reducible rfl
                                              rotate_left
                                              · simp only [Act.put, List.setIfInBounds_toArray, List.set_cons_zero, List.set_cons_succ, i64_w, i32_w]
                                                rfl
                                              refine pure_ (i := 7) (N := some 106) (v := ?_) (a' := ?_) #[true, false, true, true, true, true, true, true, false, false, false, false, false, false, false] rfl rfl (any_of HT_.out (by kernel_rfl)) (fun _ _ _ h => h) (Or.inl ⟨by rfl, ?_⟩) ?_ ?_
                                              rotate_left
                                              · intro w'
                                                go_simp
                                                with_reducible rfl
                                              rotate_left
                                              · simp only [Act.put, List.setIfInBounds_toArray, List.set_cons_zero, List.set_cons_succ, i64_w, i32_w]
                                                rfl
                                              refine pure_ (i := 8) (N := some 107) (v := ?_) (a' := ?_) #[true, false, true, true, true, true, true, true, true, false, false, false, false, false, false] rfl rfl (any_of HT_.out (by kernel_rfl)) (fun _ _ _ h => h) (Or.inl ⟨by rfl, ?_⟩) ?_ ?_
                                              rotate_left
                                              · intro w'
                                                go_simp
                                                with_reducible rfl
                                              rotate_left
                                              · simp only [Act.put, List.setIfInBounds_toArray, List.set_cons_zero, List.set_cons_succ, i64_w, i32_w]
                                                rfl
                                              refine pure_ (i := 9) (N := some 108) (v := ?_) (a' := ?_) #[true, false, true, true, true, true, true, true, true, true, false, false, false, false, false] rfl rfl (any_of HT_.out (by kernel_rfl)) (fun _ _ _ h => h) (Or.inl ⟨by rfl, ?_⟩) ?_ ?_
                                              rotate_left
                                              · intro w'
                                                go_simp
                                                with_reducible rfl
                                              rotate_left
                                              · simp only [Act.put, List.setIfInBounds_toArray, List.set_cons_zero, List.set_cons_succ, i64_w, i32_w]
                                                rfl
                                              refine take_ (i := 10) (N := some 109) (v := ?_) (a' := ?_) #[true, false, true, true, true, true, true, true, true, true, true, false, false, false, false] rfl rfl (take_ofW HT_.out HW_.out (by kernel_rfl)) (fun _ _ _ h => h) (Or.inl ⟨by rfl, ?_⟩) hHeld ?_ ?_
                                              rotate_left
                                              · rintro w' ⟨s0, s1, s2, s3⟩
                                                go_simp
                                                with_reducible rfl
                                              rotate_left
                                              · simp only [Act.put, List.setIfInBounds_toArray, List.set_cons_zero, List.set_cons_succ, i64_w, i32_w]
                                                rfl
                                              refine take_ (i := 1) (N := some 100) (v := ?_) (a' := ?_) #[true, true, true, true, true, true, true, true, true, true, true, false, false, false, false] rfl rfl (take_ofW HT_.out HW_.out (by kernel_rfl)) (fun _ _ _ h => h) (Or.inl ⟨by rfl, ?_⟩) hHeld ?_ ?_
                                              rotate_left
                                              · rintro w' ⟨s0, s1, s2, s3⟩
                                                go_simp
                                                with_reducible rfl
                                              rotate_left
                                              · simp only [Act.put, List.setIfInBounds_toArray, List.set_cons_zero, List.set_cons_succ, i64_w, i32_w]
                                                rfl
                                              refine one_ (i := 11) (N := some 110) #[true, true, true, true, true, true, true, true, true, true, true, true, false, false, false] rfl rfl (one_of HT_.out (by kernel_rfl)) (by decide) (fun K hK => ?_)
                                              refine value_ (w1 := ?_) (v := ?_) (by rfl) rfl ?_ ?_
                                              rotate_left 2
                                              · go_simp
                                                constructor
                                                · rfl
                                                · rfl
                                              refine hK.out _ _ ⟨(blk_cell (blk_alloc BK372.out _) 0).trans rfl, (blk_cell (blk_alloc BK372.out _) 1).trans rfl, (blk_cell (blk_alloc BK372.out _) 2).trans rfl, (by have hq_ := fun (W_ : World) (hb_ : Below w.heap.size w W_) => Kd.C_string (P := Try.prog) (A := A47) (c := (c0 - (ji41).toNat)) Try.underlying24 Try.underlying5 Try.underlying9 (Kd.C_below HR383.out hb_); simp only [show ((l0.take ((wrap64 ((ji41) + (wrap64 (rd l0 x5_3)))) : Int).toNat).drop ((ji41) : Int).toNat).length = ((wrap64 ((ji41) + (wrap64 (rd l0 x5_3)))) : Int).toNat - ((ji41) : Int).toNat from by have h_ : ((wrap64 ((ji41) + (wrap64 (rd l0 x5_3)))) : Int) ≤ (l0.length : Int) := of_decide_eq_true (by first | (with_reducible assumption) | assumption); rw [List.length_drop, List.length_take]; omega] at hq_; exact hq_ _ (by repeat (first | (with_reducible first | exact HB.out | apply below_alloc | apply pw_below_drewN | apply below_drew1) | exact HB.out)))⟩ (fun hHeld => ?_)
                                              clear hK K
                                              refine norm_ (a' := ?_) ?_ ?_
                                              rotate_left
                                              · show Act.put _ (some 110) _ = _
                                                simp only [Act.put, List.setIfInBounds_toArray, List.set_cons_zero, List.set_cons_succ, i64_w, i32_w]
                                                rfl
                                              refine one_ (i := 12) (N := some 111) #[true, true, true, true, true, true, true, true, true, true, true, true, true, false, false] rfl rfl (one_of HT_.out (by kernel_rfl)) (by decide) (fun K hK => ?_)
                                              refine Kd.R_append_step Kd.string (w0 := w) w.heap.size (by rfl) (.tmp 100) (.tmp 110) 37 9 (.string ⟨#[]⟩) 16 rfl Try.underlying37 info9 rfl (by decide) (by omega) u373002 x373002_3 (strOfNums ((l0.take ((wrap64 ((ji41) + (wrap64 (rd l0 x5_3)))) : Int).toNat).drop ((ji41) : Int).toNat)) [.string (strOfNums ((l0.take ((wrap64 ((ji41) + (wrap64 (rd l0 x5_3)))) : Int).toNat).drop ((ji41) : Int).toNat))] (fun _ => True) (fun _ => False) rfl rfl ?aP (fun _ hk => hk.elim) ?aF ?aO ?aB ?aS ?aL ?_
                                              (case aP => exact rfl)
                                              (case aB => exact (by repeat (first | (with_reducible first | exact HB.out | apply below_alloc | apply pw_below_drewN | apply below_drew1 | refine below_set ?_ GE369.out | refine below_set ?_ GE372.out) | exact HB.out)))
                                              (case aF => exact (fun _ _ => trivial))
                                              (case aO => exact (by (with_reducible repeat (first | apply Kd.R_alloc | apply Kd.R_drewN | apply Kd.R_drew)); exact HO_373002.out))
                                              (case aS => exact (below_size (by repeat (first | (with_reducible first | exact HB.out | apply below_alloc | apply pw_below_drewN | apply below_drew1 | refine below_set ?_ GE369.out | refine below_set ?_ GE372.out) | exact HB.out))))
                                              (case aL => have := LMc45.out; omega)
                                              intro v385 w50 ho hb hg hat
                                              rw [← Ny384.out] at ho
                                              have n0_ := Aside0.mk (Kd.R_over' (by (with_reducible repeat (first | apply Kd.R_alloc | apply Kd.R_drewN | apply Kd.R_drew)); exact HO_373001.out) (Kd.R_typed (by (with_reducible repeat (first | apply Kd.R_alloc | apply Kd.R_drewN | apply Kd.R_drew)); exact HO_373002.out)) (by decide) hg)
                                              have n1_ := Aside0.mk (blk_grown (g := gb369) (o := .cells #[.int .i64 x370000_3, .slice none 0 0, .slice none 0 0] 42 (0, 0)) (by (with_reducible repeat (first | refine blk_drewN ?_ _ | refine blk_drew ?_ | refine blk_alloc ?_ _)); exact BK369.out) hg (Kd.R_ne HO_373002.out BK369.out (by decide)))
                                              have n2_ := Aside0.mk (blk_grown (g := gb372) (o := .cells #[.int .i64 (wrap64 (rd l0 0)), u373001, u373002] 42 (0, 0)) (by (with_reducible repeat (first | refine blk_drewN ?_ _ | refine blk_drew ?_ | refine blk_alloc ?_ _)); exact BK372.out) hg (Kd.R_ne HO_373002.out BK372.out (by decide)))
                                              have n3_ := Aside0.mk (hb)
                                              have n4_ := Aside0.mk (ho)
                                              clear HO_373001
                                              clear BK369
                                              clear BK372
                                              clear HB
                                              clear HO_373002
                                              have HO_373001 := n0_
                                              have BK369 := n1_
                                              have BK372 := n2_
                                              have HB := n3_
                                              have HO386 := n4_
                                              clear n0_ n1_ n2_ n3_ n4_
                                              clear ho hb hg hat
                                              obtain ⟨Ao51, co51, eo51⟩ := Kd.R_slice HO386.out
                                              (first | subst eo51 | (injection eo51 with f1_ f2_ f3_; have f4_ := f1_.symm; have f5_ := f3_.symm; clear f1_ f2_ f3_; subst f4_; subst f5_))
                                              refine hK.out _ _ ⟨(blk_cell BK372.out 0).trans rfl, (blk_cell BK372.out 1).trans rfl, (blk_cell BK372.out 2).trans rfl, (by have hq_ := fun (W_ : World) (hb_ : Below w.heap.size w W_) => Kd.C_string (P := Try.prog) (A := A47) (c := (c0 - (ji41).toNat)) Try.underlying24 Try.underlying5 Try.underlying9 (Kd.C_below HR383.out hb_); simp only [show ((l0.take ((wrap64 ((ji41) + (wrap64 (rd l0 x5_3)))) : Int).toNat).drop ((ji41) : Int).toNat).length = ((wrap64 ((ji41) + (wrap64 (rd l0 x5_3)))) : Int).toNat - ((ji41) : Int).toNat from by have h_ : ((wrap64 ((ji41) + (wrap64 (rd l0 x5_3)))) : Int) ≤ (l0.length : Int) := of_decide_eq_true (by first | (with_reducible assumption) | assumption); rw [List.length_drop, List.length_take]; omega] at hq_; exact hq_ _ (by repeat (first | (with_reducible first | exact HB.out | apply below_alloc | apply pw_below_drewN | apply below_drew1) | exact HB.out)))⟩ (fun hHeld => ?_)
                                              clear hK K
                                              refine norm_ (a' := ?_) ?_ ?_
                                              rotate_left
                                              · show Act.put _ (some 111) _ = _
                                                simp only [Act.put, List.setIfInBounds_toArray, List.set_cons_zero, List.set_cons_succ, i64_w, i32_w]
                                                rfl
                                              refine pure_ (i := 13) (N := some 112) (v := ?_) (a' := ?_) #[true, true, true, true, true, true, true, true, true, true, true, true, true, true, false] rfl rfl (any_of HT_.out (by kernel_rfl)) (fun _ _ _ h => h) (Or.inl ⟨by rfl, ?_⟩) ?_ ?_
                                              rotate_left
                                              · intro w'
                                                go_simp
                                                with_reducible rfl
                                              rotate_left
                                              · simp only [Act.put, List.setIfInBounds_toArray, List.set_cons_zero, List.set_cons_succ, i64_w, i32_w]
                                                rfl
                                              refine last_ (i := 14) (N := none) #[true, true, true, true, true, true, true, true, true, true, true, true, true, true, true] rfl rfl (one_of HT_.out (by kernel_rfl)) (by decide) (fun K hK => ?_)
                                              have hs52 : w50.cell? ⟨gb372, 2, none⟩ = some (u373002) := (blk_cell BK372.out 2).trans rfl
                                              have hfs52 := blk_frozen BK372.out 2
                                              have hns52_0 := NB369_372.out
                                              have hms52_0 := NB372_369.out
                                              refine skip_ (w1 := ?_) (by rfl) rfl ?_ ?_
                                              rotate_left
                                              · go_simp
                                                rfl
                                              refine hK.out _ _ ?_
                                              clear hK K
                                              refine done_ (done_of HT_.out (by kernel_rfl)) ?_
                                              try go_wp2
                                              go_roundg k3
                                              case measure => have := HJ1.out; have := HK2.out; have := HK3.out; omega
                                              case rel => exact ⟨(wrap64 ((ji41) + (wrap64 (rd l0 x5_3)))), (wrap64 (x11_3 + 1)), (x370000_3), (y384), (.slice Ao51 y384.length co51), (by first | rfl | (simp; done) | (simp only [← hji41] <;> (first | rfl | simp)) | (simp [*]; done)), (by first | rfl | (simp; done) | (simp [*]; done)), (by first | exact H' | (simp only [hji41]; exact H')), ⟨by have := HJ1.out; have := HK2.out; have := HK3.out; omega⟩, ⟨by (with_reducible repeat (first | apply Kd.R_alloc | apply Kd.R_drewN | apply Kd.R_drew)); exact Kd.R_mono (Kd.R_far (p := ⟨gb372, 2, none⟩) (Kd.R_types HO_373001.out BK372.out (by decide)) (fun _ hk => hk.2) (.slice Ao51 y384.length co51)) (fun _ hk => trivial)⟩, ⟨by (with_reducible repeat (first | apply Kd.R_alloc | apply Kd.R_drewN | apply Kd.R_drew)); exact Kd.R_mono (Kd.R_far (p := ⟨gb372, 2, none⟩) (Kd.R_types HO386.out BK372.out (by decide)) (fun _ hk => hk.2) (.slice Ao51 y384.length co51)) (fun _ hk => trivial)⟩, ⟨by (with_reducible repeat (first | refine blk_drewN ?_ _ | refine blk_drew ?_ | refine blk_alloc ?_ _)); refine blk_far ?_ NB369_372.out _; (with_reducible repeat (first | refine blk_drewN ?_ _ | refine blk_drew ?_ | refine blk_alloc ?_ _)); exact BK369.out⟩, ⟨by (with_reducible repeat (first | refine blk_drewN ?_ _ | refine blk_drew ?_ | refine blk_alloc ?_ _)); refine blk_put (cs := #[.int .i64 (wrap64 (rd l0 0)), u373001, u373002]) ?_ 2 _ rfl; (with_reducible repeat (first | refine blk_drewN ?_ _ | refine blk_drew ?_ | refine blk_alloc ?_ _)); exact BK372.out⟩, ⟨by repeat (first | (with_reducible first | exact HB.out | apply below_alloc | apply pw_below_drewN | apply below_drew1 | refine below_set ?_ GE369.out | refine below_set ?_ GE372.out) | exact HB.out)⟩⟩
                                            · rw [if_neg c45] at H
                                              exact absurd H (by simp)
                                          · rw [if_neg c44] at H
                                            exact absurd H (by simp)
                                        · rw [if_neg c43] at H
                                          exact absurd H (by simp)
                                      · rw [if_neg c42] at H
                                        exact absurd H (by simp)
                                  · rw [if_neg c37] at H
                                    exact absurd H (by simp)
                                · rw [if_neg c36] at H
                                  exact absurd H (by simp)
                            · rw [if_neg c32] at H
                              have c32b0 : decide (x11_3 < (wrap64 (rd l0 x5_2))) = false := decide_eq_false c32
                              clear c32
                              by_cases c53 : x5_3 = (l0.length : Int)
                              · rw [if_pos c53] at H
                                have c53b0 : (x5_3 == (l0.length : Int)) = true := beq_iff_eq.mpr c53
                                have c53b1 : (x5_3 != (l0.length : Int)) = false := bne_eq_false_iff_eq.mpr c53
                                clear c53
                                replace H := Option.bind_eq_some_iff.mp H
                                obtain ⟨t387, A540, H⟩ := H
                                replace H : (if t387 = true then (some ((wrap64 (rd l0 0)), x373001_2, x373002_3, true)) else (some (0, ([] : List Int), ([] : List ByteArray), false))) = some (r1, r2, r3, r4) := H
                                have A54 := Aside0.mk A540
                                clear A540
                                by_cases c55 : t387 = true
                                · subst c55
                                  have H1 : (some ((wrap64 (rd l0 0)), x373001_2, x373002_3, true)) = some (r1, r2, r3, r4) := by rw [if_pos rfl] at H; exact H
                                  clear H
                                  have H := H1
                                  clear H1
                                  simp only [Option.some.injEq, Prod.mk.injEq] at H
                                  obtain ⟨rfl, rfl, rfl, rfl⟩ := H
                                  have hnb56 := NB372_369.out
                                  have hnc56 := NB369_372.out
                                  have hcz57_0 : wr.cell? ⟨gb372, 0, none⟩ = some (.int .i64 (wrap64 (rd l0 0))) := (blk_cell BK372.out 0).trans rfl
                                  have hcz57_1 : wr.cell? ⟨gb372, 1, none⟩ = some (u373001) := (blk_cell BK372.out 1).trans rfl
                                  have hcz57_2 : wr.cell? ⟨gb372, 2, none⟩ = some (u373002) := (blk_cell BK372.out 2).trans rfl
                                  have hfz57_0 := blk_frozen BK372.out 0
                                  have hfz57_1 := blk_frozen BK372.out 1
                                  have hfz57_2 := blk_frozen BK372.out 2
                                  obtain ⟨Ao58, co58, eo58⟩ := Kd.R_slice HO_373001.out
                                  subst eo58
                                  obtain ⟨Ao59, co59, eo59⟩ := Kd.R_slice HO_373002.out
                                  subst eo59
                                  go_wp2_with (first | (go_at_call 25; (with_reducible refine (spec_RecordOk.calls k3 (wrap64 (rd l0 0)) _ _ x373001_2 _ _ x373002_3 true _ ?side1 ?side2 ?side3 ?side4 A54.out).mono ?_); (case side1 => repeat (first | exact (Kd.R_reads' HO_373001.out).2.2 | (with_reducible refine Kd.C_alloc ?_ _) | (with_reducible refine Kd.C_drewN ?_ _) | (with_reducible refine Kd.C_drew ?_))); (case side2 => exact (Kd.R_reads' HO_373001.out).2.1); (case side3 => repeat (first | exact (Kd.R_reads' HO_373002.out).2.2 | (with_reducible refine Kd.C_alloc ?_ _) | (with_reducible refine Kd.C_drewN ?_ _) | (with_reducible refine Kd.C_drew ?_))); (case side4 => exact (Kd.R_reads' HO_373002.out).2.1); rintro e w60 ⟨rfl, hb⟩; have n0_ := Aside0.mk (Kd.R_below (by (with_reducible repeat (first | apply Kd.R_alloc | apply Kd.R_drewN | apply Kd.R_drew)); exact HO_373001.out) hb); have n1_ := Aside0.mk (Kd.R_below (by (with_reducible repeat (first | apply Kd.R_alloc | apply Kd.R_drewN | apply Kd.R_drew)); exact HO_373002.out) hb); have n2_ := Aside0.mk (blk_below (g := gb369) (o := .cells #[.int .i64 x370000_3, .slice none 0 0, .slice none 0 0] 42 (0, 0)) (by (with_reducible repeat (first | refine blk_drewN ?_ _ | refine blk_drew ?_ | refine blk_alloc ?_ _)); exact BK369.out) hb); have n3_ := Aside0.mk (blk_below (g := gb372) (o := .cells #[.int .i64 (wrap64 (rd l0 0)), .slice Ao58 x373001_2.length co58, .slice Ao59 x373002_3.length co59] 42 (0, 0)) (by (with_reducible repeat (first | refine blk_drewN ?_ _ | refine blk_drew ?_ | refine blk_alloc ?_ _)); exact BK372.out) hb); have n4_ := Aside0.mk (below_step (by repeat (first | (with_reducible first | exact HB.out | apply below_alloc | apply pw_below_drewN | apply below_drew1 | refine below_set ?_ GE369.out | refine below_set ?_ GE372.out) | exact HB.out)) hb); clear HO_373001; clear HO_373002; clear BK369; clear BK372; clear HB; have HO_373001 := n0_; have HO_373002 := n1_; have BK369 := n2_; have BK372 := n3_; have HB := n4_; clear n0_ n1_ n2_ n3_ n4_; (try clear hb); (try clear hb2); (try clear hk); (try clear hi); have hcz61_0 : w60.cell? ⟨gb372, 0, none⟩ = some (.int .i64 (wrap64 (rd l0 0))) := (blk_cell BK372.out 0).trans rfl; have hcz61_1 : w60.cell? ⟨gb372, 1, none⟩ = some (.slice Ao58 x373001_2.length co58) := (blk_cell BK372.out 1).trans rfl; have hcz61_2 : w60.cell? ⟨gb372, 2, none⟩ = some (.slice Ao59 x373002_3.length co59) := (blk_cell BK372.out 2).trans rfl; have hfz61_0 := blk_frozen BK372.out 0; have hfz61_1 := blk_frozen BK372.out 1; have hfz61_2 := blk_frozen BK372.out 2; have hcz62_0 : w60.cell? ⟨gb369, 0, none⟩ = some (.int .i64 x370000_3) := (blk_cell BK369.out 0).trans rfl; have hcz62_1 : w60.cell? ⟨gb369, 1, none⟩ = some (.slice none 0 0) := (blk_cell BK369.out 1).trans rfl; have hcz62_2 : w60.cell? ⟨gb369, 2, none⟩ = some (.slice none 0 0) := (blk_cell BK369.out 2).trans rfl; have hfz62_0 := blk_frozen BK369.out 0; have hfz62_1 := blk_frozen BK369.out 1; have hfz62_2 := blk_frozen BK369.out 2))
                                  refine bodyPost_ret (results_ct rfl _ _ gb369 42 #[.int .i64 (wrap64 (rd l0 0)), .slice Ao58 x373001_2.length co58, .slice Ao59 x373002_3.length co59] (0, 0) _ rfl (by (with_reducible repeat (first | refine blk_drewN ?_ _ | refine blk_drew ?_ | refine blk_alloc ?_ _)); refine blk_put (cs := #[.int .i64 (wrap64 (rd l0 0)), .slice Ao58 x373001_2.length co58, .slice none 0 0]) ?_ 2 _ rfl; (with_reducible repeat (first | refine blk_drewN ?_ _ | refine blk_drew ?_ | refine blk_alloc ?_ _)); refine blk_put (cs := #[.int .i64 (wrap64 (rd l0 0)), .slice none 0 0, .slice none 0 0]) ?_ 1 _ rfl; (with_reducible repeat (first | refine blk_drewN ?_ _ | refine blk_drew ?_ | refine blk_alloc ?_ _)); refine blk_put (cs := #[.int .i64 x370000_3, .slice none 0 0, .slice none 0 0]) ?_ 0 _ rfl; (with_reducible repeat (first | refine blk_drewN ?_ _ | refine blk_drew ?_ | refine blk_alloc ?_ _)); exact BK369.out) Try.underlying42 rfl (by kernel_rfl)) rfl ?_
                                  exact ⟨_, _, by first | rfl | (simp [errW_none, errW_some] <;> rfl) | (simp [*, errW_none, errW_some] <;> rfl), by (with_reducible repeat (first | apply Kd.R_alloc | apply Kd.R_drewN | apply Kd.R_drew)); exact Kd.R_mono (Kd.R_far (p := ⟨gb369, 2, none⟩) (Kd.R_far (p := ⟨gb369, 1, none⟩) (Kd.R_far (p := ⟨gb369, 0, none⟩) (Kd.R_types HO_373001.out BK369.out (by decide)) (fun _ hk => hk.2) (.int .i64 (wrap64 (rd l0 0)))) (fun _ hk => hk.2) (.slice Ao58 x373001_2.length co58)) (fun _ hk => hk.2) (.slice Ao59 x373002_3.length co59)) (fun _ hk => trivial), by (with_reducible repeat (first | apply Kd.R_alloc | apply Kd.R_drewN | apply Kd.R_drew)); exact Kd.R_mono (Kd.R_far (p := ⟨gb369, 2, none⟩) (Kd.R_far (p := ⟨gb369, 1, none⟩) (Kd.R_far (p := ⟨gb369, 0, none⟩) (Kd.R_types HO_373002.out BK369.out (by decide)) (fun _ hk => hk.2) (.int .i64 (wrap64 (rd l0 0)))) (fun _ hk => hk.2) (.slice Ao58 x373001_2.length co58)) (fun _ hk => hk.2) (.slice Ao59 x373002_3.length co59)) (fun _ hk => trivial), by repeat (first | (with_reducible first | exact HB.out | apply below_alloc | apply pw_below_drewN | apply below_drew1 | refine below_set ?_ GE369.out | refine below_set ?_ GE372.out) | exact HB.out)⟩
                                · replace c55 := Bool.eq_false_iff.mpr c55
                                  subst c55
                                  have H1 : (some (0, ([] : List Int), ([] : List ByteArray), false)) = some (r1, r2, r3, r4) := by rw [if_neg (show ¬ (false = true) by decide)] at H; exact H
                                  clear H
                                  have H := H1
                                  clear H1
                                  simp only [Option.some.injEq, Prod.mk.injEq] at H
                                  obtain ⟨rfl, rfl, rfl, rfl⟩ := H
                                  have hnb63 := NB372_369.out
                                  have hnc63 := NB369_372.out
                                  have hcz64_0 : wr.cell? ⟨gb372, 0, none⟩ = some (.int .i64 (wrap64 (rd l0 0))) := (blk_cell BK372.out 0).trans rfl
                                  have hcz64_1 : wr.cell? ⟨gb372, 1, none⟩ = some (u373001) := (blk_cell BK372.out 1).trans rfl
                                  have hcz64_2 : wr.cell? ⟨gb372, 2, none⟩ = some (u373002) := (blk_cell BK372.out 2).trans rfl
                                  have hfz64_0 := blk_frozen BK372.out 0
                                  have hfz64_1 := blk_frozen BK372.out 1
                                  have hfz64_2 := blk_frozen BK372.out 2
                                  obtain ⟨Ao65, co65, eo65⟩ := Kd.R_slice HO_373001.out
                                  subst eo65
                                  obtain ⟨Ao66, co66, eo66⟩ := Kd.R_slice HO_373002.out
                                  subst eo66
                                  go_wp2_with (first | (go_at_call 25; (with_reducible refine (spec_RecordOk.calls k3 (wrap64 (rd l0 0)) _ _ x373001_2 _ _ x373002_3 false _ ?side1 ?side2 ?side3 ?side4 A54.out).mono ?_); (case side1 => repeat (first | exact (Kd.R_reads' HO_373001.out).2.2 | (with_reducible refine Kd.C_alloc ?_ _) | (with_reducible refine Kd.C_drewN ?_ _) | (with_reducible refine Kd.C_drew ?_))); (case side2 => exact (Kd.R_reads' HO_373001.out).2.1); (case side3 => repeat (first | exact (Kd.R_reads' HO_373002.out).2.2 | (with_reducible refine Kd.C_alloc ?_ _) | (with_reducible refine Kd.C_drewN ?_ _) | (with_reducible refine Kd.C_drew ?_))); (case side4 => exact (Kd.R_reads' HO_373002.out).2.1); rintro e w67 ⟨rfl, hb⟩; have n0_ := Aside0.mk (Kd.R_below (by (with_reducible repeat (first | apply Kd.R_alloc | apply Kd.R_drewN | apply Kd.R_drew)); exact HO_373001.out) hb); have n1_ := Aside0.mk (Kd.R_below (by (with_reducible repeat (first | apply Kd.R_alloc | apply Kd.R_drewN | apply Kd.R_drew)); exact HO_373002.out) hb); have n2_ := Aside0.mk (blk_below (g := gb369) (o := .cells #[.int .i64 x370000_3, .slice none 0 0, .slice none 0 0] 42 (0, 0)) (by (with_reducible repeat (first | refine blk_drewN ?_ _ | refine blk_drew ?_ | refine blk_alloc ?_ _)); exact BK369.out) hb); have n3_ := Aside0.mk (blk_below (g := gb372) (o := .cells #[.int .i64 (wrap64 (rd l0 0)), .slice Ao65 x373001_2.length co65, .slice Ao66 x373002_3.length co66] 42 (0, 0)) (by (with_reducible repeat (first | refine blk_drewN ?_ _ | refine blk_drew ?_ | refine blk_alloc ?_ _)); exact BK372.out) hb); have n4_ := Aside0.mk (below_step (by repeat (first | (with_reducible first | exact HB.out | apply below_alloc | apply pw_below_drewN | apply below_drew1 | refine below_set ?_ GE369.out | refine below_set ?_ GE372.out) | exact HB.out)) hb); clear HO_373001; clear HO_373002; clear BK369; clear BK372; clear HB; have HO_373001 := n0_; have HO_373002 := n1_; have BK369 := n2_; have BK372 := n3_; have HB := n4_; clear n0_ n1_ n2_ n3_ n4_; (try clear hb); (try clear hb2); (try clear hk); (try clear hi); have hcz68_0 : w67.cell? ⟨gb369, 0, none⟩ = some (.int .i64 x370000_3) := (blk_cell BK369.out 0).trans rfl; have hcz68_1 : w67.cell? ⟨gb369, 1, none⟩ = some (.slice none 0 0) := (blk_cell BK369.out 1).trans rfl; have hcz68_2 : w67.cell? ⟨gb369, 2, none⟩ = some (.slice none 0 0) := (blk_cell BK369.out 2).trans rfl; have hfz68_0 := blk_frozen BK369.out 0; have hfz68_1 := blk_frozen BK369.out 1; have hfz68_2 := blk_frozen BK369.out 2))
                                  refine bodyPost_ret (results_ct rfl _ _ gb369 42 #[.int .i64 0, .slice none 0 0, .slice none 0 0] (0, 0) _ rfl (by (with_reducible repeat (first | refine blk_drewN ?_ _ | refine blk_drew ?_ | refine blk_alloc ?_ _)); refine blk_put (cs := #[.int .i64 0, .slice none 0 0, .slice none 0 0]) ?_ 2 _ rfl; (with_reducible repeat (first | refine blk_drewN ?_ _ | refine blk_drew ?_ | refine blk_alloc ?_ _)); refine blk_put (cs := #[.int .i64 0, .slice none 0 0, .slice none 0 0]) ?_ 1 _ rfl; (with_reducible repeat (first | refine blk_drewN ?_ _ | refine blk_drew ?_ | refine blk_alloc ?_ _)); refine blk_put (cs := #[.int .i64 x370000_3, .slice none 0 0, .slice none 0 0]) ?_ 0 _ rfl; (with_reducible repeat (first | refine blk_drewN ?_ _ | refine blk_drew ?_ | refine blk_alloc ?_ _)); exact BK369.out) Try.underlying42 rfl (by kernel_rfl)) rfl ?_
                                  exact ⟨_, _, by first | rfl | (simp [errW_none, errW_some] <;> rfl) | (simp [*, errW_none, errW_some] <;> rfl), by first | exact Kd.R_nil _ _ _ _ _ | exact Kd.N_nil _ _ _ _ _ | exact Kd.V_nil _ _ _ _ _ | exact Kd.Q_nil _ _ _ _ _ | exact Kd.S_nil _ _ _ _ _, by first | exact Kd.R_nil _ _ _ _ _ | exact Kd.N_nil _ _ _ _ _ | exact Kd.V_nil _ _ _ _ _ | exact Kd.Q_nil _ _ _ _ _ | exact Kd.S_nil _ _ _ _ _, by repeat (first | (with_reducible first | exact HB.out | apply below_alloc | apply pw_below_drewN | apply below_drew1 | refine below_set ?_ GE369.out | refine below_set ?_ GE372.out) | exact HB.out)⟩
                              · rw [if_neg c53] at H
                                have c53b0 : (x5_3 == (l0.length : Int)) = false := beq_eq_false_iff_ne.mpr c53
                                have c53b1 : (x5_3 != (l0.length : Int)) = true := bne_iff_ne.mpr c53
                                simp only [Option.some.injEq, Prod.mk.injEq] at H
                                obtain ⟨rfl, rfl, rfl, rfl⟩ := H
                                have hnb69 := NB369_372.out
                                have hnc69 := NB372_369.out
                                have hcz70_0 : wr.cell? ⟨gb369, 0, none⟩ = some (.int .i64 x370000_3) := (blk_cell BK369.out 0).trans rfl
                                have hcz70_1 : wr.cell? ⟨gb369, 1, none⟩ = some (.slice none 0 0) := (blk_cell BK369.out 1).trans rfl
                                have hcz70_2 : wr.cell? ⟨gb369, 2, none⟩ = some (.slice none 0 0) := (blk_cell BK369.out 2).trans rfl
                                have hfz70_0 := blk_frozen BK369.out 0
                                have hfz70_1 := blk_frozen BK369.out 1
                                have hfz70_2 := blk_frozen BK369.out 2
                                go_wp2
                                refine bodyPost_ret (results_ct rfl _ _ gb369 42 #[.int .i64 0, .slice none 0 0, .slice none 0 0] (0, 0) _ rfl (by (with_reducible repeat (first | refine blk_drewN ?_ _ | refine blk_drew ?_ | refine blk_alloc ?_ _)); refine blk_put (cs := #[.int .i64 0, .slice none 0 0, .slice none 0 0]) ?_ 2 _ rfl; (with_reducible repeat (first | refine blk_drewN ?_ _ | refine blk_drew ?_ | refine blk_alloc ?_ _)); refine blk_put (cs := #[.int .i64 0, .slice none 0 0, .slice none 0 0]) ?_ 1 _ rfl; (with_reducible repeat (first | refine blk_drewN ?_ _ | refine blk_drew ?_ | refine blk_alloc ?_ _)); refine blk_put (cs := #[.int .i64 x370000_3, .slice none 0 0, .slice none 0 0]) ?_ 0 _ rfl; (with_reducible repeat (first | refine blk_drewN ?_ _ | refine blk_drew ?_ | refine blk_alloc ?_ _)); exact BK369.out) Try.underlying42 rfl (by kernel_rfl)) rfl ?_
                                exact ⟨_, _, by first | rfl | (simp [errW_none, errW_some] <;> rfl) | (simp [*, errW_none, errW_some] <;> rfl), by first | exact Kd.R_nil _ _ _ _ _ | exact Kd.N_nil _ _ _ _ _ | exact Kd.V_nil _ _ _ _ _ | exact Kd.Q_nil _ _ _ _ _ | exact Kd.S_nil _ _ _ _ _, by first | exact Kd.R_nil _ _ _ _ _ | exact Kd.N_nil _ _ _ _ _ | exact Kd.V_nil _ _ _ _ _ | exact Kd.Q_nil _ _ _ _ _ | exact Kd.S_nil _ _ _ _ _, by repeat (first | (with_reducible first | exact HB.out | apply below_alloc | apply pw_below_drewN | apply below_drew1 | refine below_set ?_ GE369.out | refine below_set ?_ GE372.out) | exact HB.out)⟩
                      · rw [if_neg c31] at H
                        exact absurd H (by simp)
                    · rw [if_neg c30] at H
                      exact absurd H (by simp)
              · rw [if_neg c13] at H
                exact absurd H (by simp)
        · rw [if_neg c9] at H
          exact absurd H (by simp)

end Go.Proofs.Ytgdebfaoohjikaa.F

namespace Go.Proofs.Ytgdebfaoohjikaa.F
open Go.RowKit Go.Proofs.YtgdebfaoohjikaaW.PrintWords Go.Proofs.YtgdebfaoohjikaaW.PrintLast Go.Proofs.YtgdebfaoohjikaaW.PrintMore
attribute [local go_sem] max2_int min2_int max_two min_two max_three min_three max_four min_four   -- for this text's walks alone
set_option linter.unusedVariables false
set_option linter.unusedSimpArgs false

/-! ### impl_getVar: function 51 -/
mutual
def impl_getVar.l0 : Nat → List Int → Int → Int → Int → Option (Int × Int × Bool)
  | 0, _, _, _, _ => none
  | k + 1, x0, x1, x7, x8 => if x8 < 10 then (impl_getVar.j1 k x0 x1 x7 x8 (decide ((wrap64 (x1 + x8)) < (x0.length : Int)))) else (impl_getVar.j1 k x0 x1 x7 x8 false)
def impl_getVar.j1 : Nat → List Int → Int → Int → Int → Bool → Option (Int × Int × Bool)
  | 0, _, _, _, _, _ => none
  | k + 1, x0, x1, x7, x8, x19 => if x19 = true then (if 0 ≤ (wrap64 (x1 + x8)) then (if (wrap64 (x1 + x8)) < (x0.length : Int) then (if x8 = 9 then (impl_getVar.j2 k x0 x1 x7 x8 (rd x0 (wrap64 (x1 + x8))) (decide ((rd x0 (wrap64 (x1 + x8))) > 1))) else (impl_getVar.j2 k x0 x1 x7 x8 (rd x0 (wrap64 (x1 + x8))) false)) else (none)) else (none)) else (some (0, 0, false))
def impl_getVar.j2 : Nat → List Int → Int → Int → Int → Int → Bool → Option (Int × Int × Bool)
  | 0, _, _, _, _, _, _ => none
  | k + 1, x0, x1, x7, x8, x9, x33 => if x33 = true then (some (0, 0, false)) else (if 0 ≤ (wrap64 (7 * x8)) then (if x9 ≥ 128 then (impl_getVar.l0 k x0 x1 (Go.bits .or .u64 x7 (shl .u64 (IntKind.u64.wrap (Go.bits .and .u8 x9 127)) (wrap64 (7 * x8)))) (wrap64 (x8 + 1))) else (if x9 = 0 then (if x8 > 0 then (some (0, 0, false)) else (some (Go.bits .or .u64 x7 (shl .u64 (IntKind.u64.wrap (Go.bits .and .u8 x9 127)) (wrap64 (7 * x8))), wrap64 ((wrap64 (x1 + x8)) + 1), true))) else (some (Go.bits .or .u64 x7 (shl .u64 (IntKind.u64.wrap (Go.bits .and .u8 x9 127)) (wrap64 (7 * x8))), wrap64 ((wrap64 (x1 + x8)) + 1), true)))) else (none))
end
def impl_getVar.f (k : Nat) (l0 : List Int) (a1 : Int) : Option (Int × Int × Bool) := impl_getVar.l0 k l0 a1 0 0
theorem impl_getVar.mono_l : ∀ k, (∀ y0 y1 y2 y3, LeO (impl_getVar.l0 k y0 y1 y2 y3) (impl_getVar.l0 (k + 1) y0 y1 y2 y3)) ∧ (∀ y0 y1 y2 y3 y4, LeO (impl_getVar.j1 k y0 y1 y2 y3 y4) (impl_getVar.j1 (k + 1) y0 y1 y2 y3 y4)) ∧ (∀ y0 y1 y2 y3 y4 y5, LeO (impl_getVar.j2 k y0 y1 y2 y3 y4 y5) (impl_getVar.j2 (k + 1) y0 y1 y2 y3 y4 y5))
  | 0 => ⟨fun _ _ _ _ r h => by simp [impl_getVar.l0] at h, fun _ _ _ _ _ r h => by simp [impl_getVar.j1] at h, fun _ _ _ _ _ _ r h => by simp [impl_getVar.j2] at h⟩
  | k + 1 => by
    obtain ⟨ih0, ih1, ih2⟩ := impl_getVar.mono_l k
    refine ⟨?_, ?_, ?_⟩
    · intro y0 y1 y2 y3
      unfold impl_getVar.l0
      repeat' first
      | (with_reducible exact ih0 _ _ _ _)
      | (with_reducible exact ih1 _ _ _ _ _)
      | (with_reducible exact ih2 _ _ _ _ _ _)
      | (with_reducible exact LeO.refl _)
      | (with_reducible exact LeO.none _)
      | (with_reducible refine LeO.ite ?_ ?_)
      | (with_reducible refine LeO.bind ?_ (fun _ => ?_))
      | exact ih0 _ _ _ _
      | exact ih1 _ _ _ _ _
      | exact ih2 _ _ _ _ _ _
      | exact LeO.none _
      | refine LeO.ite ?_ ?_
      | refine LeO.bind ?_ (fun _ => ?_)
    · intro y0 y1 y2 y3 y4
      unfold impl_getVar.j1
      repeat' first
      | (with_reducible exact ih0 _ _ _ _)
      | (with_reducible exact ih1 _ _ _ _ _)
      | (with_reducible exact ih2 _ _ _ _ _ _)
      | (with_reducible exact LeO.refl _)
      | (with_reducible exact LeO.none _)
      | (with_reducible refine LeO.ite ?_ ?_)
      | (with_reducible refine LeO.bind ?_ (fun _ => ?_))
      | exact ih0 _ _ _ _
      | exact ih1 _ _ _ _ _
      | exact ih2 _ _ _ _ _ _
      | exact LeO.none _
      | refine LeO.ite ?_ ?_
      | refine LeO.bind ?_ (fun _ => ?_)
    · intro y0 y1 y2 y3 y4 y5
      unfold impl_getVar.j2
      repeat' first
      | (with_reducible exact ih0 _ _ _ _)
      | (with_reducible exact ih1 _ _ _ _ _)
      | (with_reducible exact ih2 _ _ _ _ _ _)
      | (with_reducible exact LeO.refl _)
      | (with_reducible exact LeO.none _)
      | (with_reducible refine LeO.ite ?_ ?_)
      | (with_reducible refine LeO.bind ?_ (fun _ => ?_))
      | exact ih0 _ _ _ _
      | exact ih1 _ _ _ _ _
      | exact ih2 _ _ _ _ _ _
      | exact LeO.none _
      | refine LeO.ite ?_ ?_
      | refine LeO.bind ?_ (fun _ => ?_)
theorem impl_getVar.mono : ∀ a0 a1 k, LeO (impl_getVar.f k a0 a1) (impl_getVar.f (k + 1) a0 a1) := by
  intro a0 a1 k
  obtain ⟨ih0, ih1, ih2⟩ := impl_getVar.mono_l k
  unfold impl_getVar.f
  repeat' first
      | (with_reducible exact ih0 _ _ _ _)
      | (with_reducible exact ih1 _ _ _ _ _)
      | (with_reducible exact ih2 _ _ _ _ _ _)
      | (with_reducible exact LeO.refl _)
      | (with_reducible exact LeO.none _)
      | (with_reducible refine LeO.ite ?_ ?_)
      | (with_reducible refine LeO.bind ?_ (fun _ => ?_))
      | exact ih0 _ _ _ _
      | exact ih1 _ _ _ _ _
      | exact ih2 _ _ _ _ _ _
      | exact LeO.none _
      | refine LeO.ite ?_ ?_
      | refine LeO.bind ?_ (fun _ => ?_)
set_option maxHeartbeats 8000000 in
set_option maxRecDepth 100000 in
theorem impl_getVar.calls (k : Nat) (A0 : Option Addr) (c0 : Nat) (l0 : List Int) (a1 : Int) (r1 : Int) (r2 : Int) (r3 : Bool) (w : World) (hr0 : Kd.C (Kd.int .u8) w A0 l0.length l0) (hc0 : l0.length ≤ c0) (h : impl_getVar.f k l0 a1 = some (r1, r2, r3)) :
    Calls Try.prog 51 #[.slice A0 l0.length c0, .int .i64 a1] w fun e w' => e = .returned (.tuple #[.int .u64 r1, .int .i64 r2, .bool r3]) ∧ Drawn0 w w' := by
  have HR0 := Aside0.mk hr0
  have HC0 := Aside0.mk hc0
  clear hr0 hc0
  have H : (impl_getVar.l0 k l0 a1 0 0) = some (r1, r2, r3) := h
  clear h
  have H' := Aside0.mk H
  clear H
  go_enter Try.func51, Try.ntmps51
  go_wp2
  go_loopg [7, 8] k (fun kq v7 v8 w' => ∃ (x7_1 : Int) (x8_1 : Int), v7 = .int .u64 x7_1 ∧ v8 = .int .i64 x8_1 ∧ Aside0 (impl_getVar.l0 kq l0 a1 x7_1 x8_1 = some (r1, r2, r3)) ∧ Aside0 (kq ≤ k) ∧ Drawn0 w w')
  case atStart => exact ⟨(0), (0), (by first | rfl | (simp; done) | (simp [*]; done)), (by first | rfl | (simp; done) | (simp [*]; done)), H', ⟨Nat.le_refl _⟩, by repeat (first | exact Drawn0.refl _ | apply Drawn0.step)⟩
  case round =>
    clear H'
    try clear p2
    obtain ⟨x7_1, x8_1, rfl, rfl, HA, HK1, ⟨m1, rfl⟩⟩ := hrel
    cases gk with
    | zero => exact absurd HA.out (by simp [impl_getVar.l0])
    | succ k1 =>
      have H := HA.out
      clear HA
      simp only [impl_getVar.l0] at H
      have HC3 := Aside0.mk H
      clear H
      go_upto_region 3 with (fail)
      go_cut [19] (fun v19 wc => ∃ (kq : Nat) (x19_2 : Bool), v19 = .bool x19_2 ∧ Aside0 (impl_getVar.j1 kq l0 a1 x7_1 x8_1 x19_2 = some (r1, r2, r3)) ∧ Aside0 (kq ≤ k1) ∧ Drawn0 w wc)
      case first =>
        have H := HC3.out
        clear HC3
        by_cases c4 : x8_1 < 10
        · rw [if_pos c4] at H
          have c4b0 : decide (x8_1 < 10) = true := decide_eq_true c4
          clear c4
          (first | rw [c4b0] | (simp only [i64_w, i32_w]; rw [c4b0]) | skip)
          have H' := Aside0.mk H
          clear H
          go_wp2
          go_meet
          case rel => exact ⟨_, (decide ((wrap64 (a1 + x8_1)) < (l0.length : Int))), (by first | rfl | (simp; done) | (simp [*]; done)), H', ⟨by have := HK1.out; first | omega | exact Nat.le_refl _⟩, by repeat (first | exact Drawn0.refl _ | apply Drawn0.step)⟩
        · rw [if_neg c4] at H
          have c4b0 : decide (x8_1 < 10) = false := decide_eq_false c4
          clear c4
          (first | rw [c4b0] | (simp only [i64_w, i32_w]; rw [c4b0]) | skip)
          have H' := Aside0.mk H
          clear H
          go_wp2
          go_meet
          case rel => exact ⟨_, (false), (by first | rfl | (simp; done) | (simp [*]; done)), H', ⟨by have := HK1.out; first | omega | exact Nat.le_refl _⟩, by repeat (first | exact Drawn0.refl _ | apply Drawn0.step)⟩
      case rest =>
        clear HC3
        try clear p2
        try clear c4
        try clear c4b0
        try clear p2
        obtain ⟨kq, x19_2, rfl, HA, HJ2, ⟨mc2, rfl⟩⟩ := hcut
        cases kq with
        | zero => exact absurd HA.out (by simp [impl_getVar.j1])
        | succ kj2 =>
          have H := HA.out
          clear HA
          simp only [impl_getVar.j1] at H
          by_cases c5 : x19_2 = true
          · subst c5
            have H1 : (if 0 ≤ (wrap64 (a1 + x8_1)) then (if (wrap64 (a1 + x8_1)) < (l0.length : Int) then (if x8_1 = 9 then (impl_getVar.j2 kj2 l0 a1 x7_1 x8_1 (rd l0 (wrap64 (a1 + x8_1))) (decide ((rd l0 (wrap64 (a1 + x8_1))) > 1))) else (impl_getVar.j2 kj2 l0 a1 x7_1 x8_1 (rd l0 (wrap64 (a1 + x8_1))) false)) else (none)) else (none)) = some (r1, r2, r3) := by rw [if_pos rfl] at H; exact H
            clear H
            have H := H1
            clear H1
            obtain ⟨ji6, hji6⟩ : ∃ j_ : Int, (wrap64 (a1 + x8_1)) = j_ := ⟨_, rfl⟩
            replace H : (if 0 ≤ (ji6) then (if (ji6) < (l0.length : Int) then (if x8_1 = 9 then (impl_getVar.j2 kj2 l0 a1 x7_1 x8_1 (rd l0 (ji6)) (decide ((rd l0 (ji6)) > 1))) else (impl_getVar.j2 kj2 l0 a1 x7_1 x8_1 (rd l0 (ji6)) false)) else (none)) else (none)) = some (r1, r2, r3) := by first | (rw [hji6] at H; exact H) | (simp only [hji6] at H ⊢; exact H)
            have hji6w : (IntKind.i64.wrap (a1 + x8_1)) = ji6 := (i64_w _).trans hji6
            by_cases c7 : 0 ≤ (ji6)
            · rw [if_pos c7] at H
              have c7b0 : decide (0 ≤ (ji6)) = true := decide_eq_true c7
              clear c7
              by_cases c8 : (ji6) < (l0.length : Int)
              · rw [if_pos c8] at H
                have c8b0 : decide ((ji6) < (l0.length : Int)) = true := decide_eq_true c8
                clear c8
                have HC9 := Aside0.mk H
                clear H
                have p156 : 0 ≤ ((ji6) : Int) := of_decide_eq_true (by first | (with_reducible assumption) | assumption)
                have q156 : (ji6) < (l0.length : Int) := of_decide_eq_true (by first | (with_reducible assumption) | assumption)
                obtain ⟨ad156, e156, hx156_0⟩ := Kd.at_int HR0.out (ji6) p156 q156
                cases e156
                replace p156 := eq_true p156
                replace q156 := eq_true q156
                go_upto_region 6 with (fail)
                go_cut [33] (fun v33 wc => ∃ (kq : Nat) (x33_8 : Bool), v33 = .bool x33_8 ∧ Aside0 (impl_getVar.j2 kq l0 a1 x7_1 x8_1 (rd l0 (ji6)) x33_8 = some (r1, r2, r3)) ∧ Aside0 (kq ≤ kj2) ∧ Drawn0 w wc)
                case first =>
                  have H := HC9.out
                  clear HC9
                  by_cases c10 : x8_1 = 9
                  · rw [if_pos c10] at H
                    have c10b0 : (x8_1 == 9) = true := beq_iff_eq.mpr c10
                    have c10b1 : (x8_1 != 9) = false := bne_eq_false_iff_eq.mpr c10
                    clear c10
                    (first | rw [c10b0] | (simp only [i64_w, i32_w]; rw [c10b0]) | skip)
                    have H' := Aside0.mk H
                    clear H
                    go_wp2
                    go_meet
                    case rel => exact ⟨_, (decide ((rd l0 (ji6)) > 1)), (by first | rfl | (simp; done) | (simp only [← hji6] <;> (first | rfl | simp)) | (simp [*]; done)), (by first | exact H' | (simp only [hji6]; exact H')), ⟨by have := HK1.out; have := HJ2.out; first | omega | exact Nat.le_refl _⟩, by repeat (first | exact Drawn0.refl _ | apply Drawn0.step)⟩
                  · rw [if_neg c10] at H
                    have c10b0 : (x8_1 == 9) = false := beq_eq_false_iff_ne.mpr c10
                    have c10b1 : (x8_1 != 9) = true := bne_iff_ne.mpr c10
                    (first | rw [c10b0] | (simp only [i64_w, i32_w]; rw [c10b0]) | skip)
                    have H' := Aside0.mk H
                    clear H
                    go_wp2
                    go_meet
                    case rel => exact ⟨_, (false), (by first | rfl | (simp; done) | (simp [*]; done)), H', ⟨by have := HK1.out; have := HJ2.out; first | omega | exact Nat.le_refl _⟩, by repeat (first | exact Drawn0.refl _ | apply Drawn0.step)⟩
                case rest =>
                  clear HC9
                  try clear c1
                  try clear p1
                  try clear q1
                  try clear hx1
                  try clear c2
                  try clear p2
                  try clear c4
                  try clear c4b0
                  try clear c5
                  try clear p6
                  try clear c7
                  try clear c7b0
                  try clear c8
                  try clear c8b0
                  try clear c10
                  try clear c10b0
                  try clear c10b1
                  try clear hx156_0
                  try clear p156
                  try clear p2
                  try clear q156
                  obtain ⟨kq, x33_8, rfl, HA, HJ8, ⟨mc8, rfl⟩⟩ := hcut
                  cases kq with
                  | zero => exact absurd HA.out (by simp [impl_getVar.j2])
                  | succ kj8 =>
                    have H := HA.out
                    clear HA
                    simp only [impl_getVar.j2] at H
                    by_cases c11 : x33_8 = true
                    · subst c11
                      have H1 : (some (0, 0, false)) = some (r1, r2, r3) := by rw [if_pos rfl] at H; exact H
                      clear H
                      have H := H1
                      clear H1
                      simp only [Option.some.injEq, Prod.mk.injEq] at H
                      obtain ⟨rfl, rfl, rfl⟩ := H
                      go_wp2
                      go_ret3
                      exact ⟨by first | rfl | (simp; done) | (simp only [← hji6] <;> (first | rfl | simp)) | (simp [*]; done), by repeat (first | exact Drawn0.refl _ | apply Drawn0.step)⟩
                    · replace c11 := Bool.eq_false_iff.mpr c11
                      subst c11
                      have H1 : (if 0 ≤ (wrap64 (7 * x8_1)) then (if (rd l0 (ji6)) ≥ 128 then (impl_getVar.l0 kj8 l0 a1 (Go.bits .or .u64 x7_1 (shl .u64 (IntKind.u64.wrap (Go.bits .and .u8 (rd l0 (ji6)) 127)) (wrap64 (7 * x8_1)))) (wrap64 (x8_1 + 1))) else (if (rd l0 (ji6)) = 0 then (if x8_1 > 0 then (some (0, 0, false)) else (some (Go.bits .or .u64 x7_1 (shl .u64 (IntKind.u64.wrap (Go.bits .and .u8 (rd l0 (ji6)) 127)) (wrap64 (7 * x8_1))), wrap64 ((wrap64 (a1 + x8_1)) + 1), true))) else (some (Go.bits .or .u64 x7_1 (shl .u64 (IntKind.u64.wrap (Go.bits .and .u8 (rd l0 (ji6)) 127)) (wrap64 (7 * x8_1))), wrap64 ((wrap64 (a1 + x8_1)) + 1), true)))) else (none)) = some (r1, r2, r3) := by rw [if_neg (show ¬ (false = true) by decide)] at H; exact H
                      clear H
                      have H := H1
                      clear H1
                      obtain ⟨ji12, hji12⟩ : ∃ j_ : Int, (wrap64 (7 * x8_1)) = j_ := ⟨_, rfl⟩
                      replace H : (if 0 ≤ (ji12) then (if (rd l0 (ji6)) ≥ 128 then (impl_getVar.l0 kj8 l0 a1 (Go.bits .or .u64 x7_1 (shl .u64 (IntKind.u64.wrap (Go.bits .and .u8 (rd l0 (ji6)) 127)) (ji12))) (wrap64 (x8_1 + 1))) else (if (rd l0 (ji6)) = 0 then (if x8_1 > 0 then (some (0, 0, false)) else (some (Go.bits .or .u64 x7_1 (shl .u64 (IntKind.u64.wrap (Go.bits .and .u8 (rd l0 (ji6)) 127)) (ji12)), wrap64 ((wrap64 (a1 + x8_1)) + 1), true))) else (some (Go.bits .or .u64 x7_1 (shl .u64 (IntKind.u64.wrap (Go.bits .and .u8 (rd l0 (ji6)) 127)) (ji12)), wrap64 ((wrap64 (a1 + x8_1)) + 1), true)))) else (none)) = some (r1, r2, r3) := by first | (rw [hji12] at H; exact H) | (simp only [hji12] at H ⊢; exact H)
                      have hji12w : (IntKind.i64.wrap (7 * x8_1)) = ji12 := (i64_w _).trans hji12
                      by_cases c13 : 0 ≤ (ji12)
                      · rw [if_pos c13] at H
                        have c13b0 := eq_true c13
                        have c13b1 : decide (0 ≤ (ji12)) = true := decide_eq_true c13
                        clear c13
                        obtain ⟨ji14, hji14⟩ : ∃ j_ : Int, (shl .u64 (IntKind.u64.wrap (Go.bits .and .u8 (rd l0 (ji6)) 127)) (ji12)) = j_ := ⟨_, rfl⟩
                        replace H : (if (rd l0 (ji6)) ≥ 128 then (impl_getVar.l0 kj8 l0 a1 (Go.bits .or .u64 x7_1 (ji14)) (wrap64 (x8_1 + 1))) else (if (rd l0 (ji6)) = 0 then (if x8_1 > 0 then (some (0, 0, false)) else (some (Go.bits .or .u64 x7_1 (ji14), wrap64 ((wrap64 (a1 + x8_1)) + 1), true))) else (some (Go.bits .or .u64 x7_1 (ji14), wrap64 ((wrap64 (a1 + x8_1)) + 1), true)))) = some (r1, r2, r3) := by first | (rw [hji14] at H; exact H) | (simp only [hji14] at H ⊢; exact H)
                        have hji14_ : (IntKind.u64.wrap ((IntKind.u64.wrap (Go.bits .and .u8 (rd l0 (ji6)) 127)) * 2 ^ min (ji12).toNat 64)) = ji14 := hji14
                        have hji14z : (ji12) ≤ 64 → (IntKind.u64.wrap ((IntKind.u64.wrap (Go.bits .and .u8 (rd l0 (ji6)) 127)) * 2 ^ (ji12).toNat)) = ji14 := shl_small hji14
                        by_cases c15 : (rd l0 (ji6)) ≥ 128
                        · rw [if_pos c15] at H
                          have c15b0 : decide (128 ≤ (rd l0 (ji6))) = true := decide_eq_true c15
                          clear c15
                          have H' := Aside0.mk H
                          clear H
                          go_wp2
                          go_roundg kj8
                          case measure => have := HK1.out; have := HJ2.out; have := HJ8.out; omega
                          case rel => exact ⟨(Go.bits .or .u64 x7_1 (ji14)), (wrap64 (x8_1 + 1)), (by first | rfl | (simp; done) | (simp only [← hji14] <;> (first | rfl | simp)) | (simp [*]; done)), (by first | rfl | (simp; done) | (simp [*]; done)), (by first | exact H' | (simp only [hji14]; exact H')), ⟨by have := HK1.out; have := HJ2.out; have := HJ8.out; omega⟩, by repeat (first | exact Drawn0.refl _ | apply Drawn0.step)⟩
                        · rw [if_neg c15] at H
                          have c15b0 : decide (128 ≤ (rd l0 (ji6))) = false := decide_eq_false c15
                          clear c15
                          by_cases c16 : (rd l0 (ji6)) = 0
                          · rw [if_pos c16] at H
                            have c16b0 : ((rd l0 (ji6)) == 0) = true := beq_iff_eq.mpr c16
                            have c16b1 : ((rd l0 (ji6)) != 0) = false := bne_eq_false_iff_eq.mpr c16
                            clear c16
                            by_cases c17 : x8_1 > 0
                            · rw [if_pos c17] at H
                              have c17b0 : decide (0 < x8_1) = true := decide_eq_true c17
                              clear c17
                              simp only [Option.some.injEq, Prod.mk.injEq] at H
                              obtain ⟨rfl, rfl, rfl⟩ := H
                              go_wp2
                              go_ret3
                              exact ⟨by first | rfl | (simp; done) | (simp only [← hji6, ← hji12, ← hji14] <;> (first | rfl | simp)) | (simp [*]; done), by repeat (first | exact Drawn0.refl _ | apply Drawn0.step)⟩
                            · rw [if_neg c17] at H
                              have c17b0 : decide (0 < x8_1) = false := decide_eq_false c17
                              clear c17
                              simp only [Option.some.injEq, Prod.mk.injEq] at H
                              obtain ⟨rfl, rfl, rfl⟩ := H
                              go_wp2
                              go_ret3
                              exact ⟨by first | rfl | (simp; done) | (simp only [← hji6, ← hji12, ← hji14] <;> (first | rfl | simp)) | (simp [*]; done), by repeat (first | exact Drawn0.refl _ | apply Drawn0.step)⟩
                          · rw [if_neg c16] at H
                            have c16b0 : ((rd l0 (ji6)) == 0) = false := beq_eq_false_iff_ne.mpr c16
                            have c16b1 : ((rd l0 (ji6)) != 0) = true := bne_iff_ne.mpr c16
                            simp only [Option.some.injEq, Prod.mk.injEq] at H
                            obtain ⟨rfl, rfl, rfl⟩ := H
                            go_wp2
                            go_ret3
                            exact ⟨by first | rfl | (simp; done) | (simp only [← hji6, ← hji12, ← hji14] <;> (first | rfl | simp)) | (simp [*]; done), by repeat (first | exact Drawn0.refl _ | apply Drawn0.step)⟩
                      · rw [if_neg c13] at H
                        exact absurd H (by simp)
              · rw [if_neg c8] at H
                exact absurd H (by simp)
            · rw [if_neg c7] at H
              exact absurd H (by simp)
          · replace c5 := Bool.eq_false_iff.mpr c5
            subst c5
            have H1 : (some (0, 0, false)) = some (r1, r2, r3) := by rw [if_neg (show ¬ (false = true) by decide)] at H; exact H
            clear H
            have H := H1
            clear H1
            simp only [Option.some.injEq, Prod.mk.injEq] at H
            obtain ⟨rfl, rfl, rfl⟩ := H
            go_wp2
            go_ret3
            exact ⟨by first | rfl | (simp; done) | (simp [*]; done), by repeat (first | exact Drawn0.refl _ | apply Drawn0.step)⟩

end Go.Proofs.Ytgdebfaoohjikaa.F

namespace Go.Proofs.Ytgdebfaoohjikaa.F
open Go.RowKit Go.Proofs.YtgdebfaoohjikaaW.PrintWords Go.Proofs.YtgdebfaoohjikaaW.PrintLast Go.Proofs.YtgdebfaoohjikaaW.PrintMore
set_option linter.unusedVariables false
set_option linter.unusedSimpArgs false
def PredD (g : Nat) (lb : Array Value) (p : ByteArray → Bool) (w : World) : Prop := ∀ (n : Nat) (x : ByteArray), Calls Try.prog g (#[.string x] ++ lb) (w.drewN n) fun e w' => e = .returned (.bool (p x)) ∧ ∃ q, w' = w.drewN q
/-- The place of the first number of a kind, from a place on; else minus one. -/
def idxM (p : ByteArray → Bool) : List ByteArray → Int → Int
  | [], _ => -1
  | x :: t, i => if p x = true then i else idxM p t (i + 1)
theorem idxM_any (p : ByteArray → Bool) : ∀ (l : List ByteArray) (i : Int), 0 ≤ i → decide (idxM p l i ≥ 0) = l.any p := by
  intro l
  induction l with
  | nil => intro i _; rfl
  | cons x t ih =>
    intro i hi
    unfold idxM
    cases h : p x with
    | true => simp [h, hi]
    | false => simp only [Bool.false_eq_true, if_false, List.any_cons, h, Bool.false_or]; exact ih _ (by omega)
set_option maxHeartbeats 4000000 in
theorem indexFunc.calls (g : Nat) (lb : Array Value) (p : ByteArray → Bool) (eg : ∀ args w, (callFunc g args).run Try.prog w = .ok (.enter g args) w) (A : Option Addr) (c : Nat) (l : List ByteArray) (w : World) (hr : Kd.C Kd.string w A l.length l) (hl : l.length ≤ 9223372036854775807) (hp : PredD g lb p w) :
    Calls Try.prog 78 #[.slice A l.length c, .func (.func g) #[] lb] w fun e w' => e = .returned (.int .i64 (idxM p l 0)) ∧ ∃ q, w' = w.drewN q := by
  have HR0 := Aside0.mk hr
  clear hr
  have HP := Aside0.mk hp
  clear hp
  go_enter Try.func78, Try.ntmps78
  go_wp2
  go_loopg [5, 8] l.length (fun gg _ v8 w' => ∃ kk m : Nat, kk ≤ l.length ∧ l.length - kk ≤ gg ∧ v8 = .int .i64 kk ∧ w' = w.drewN m ∧ Aside0 (idxM p (l.drop kk) kk = idxM p l 0))
  case atStart => exact ⟨0, 0, Nat.zero_le _, by omega, rfl, rfl, ⟨rfl⟩⟩
  case round =>
    obtain ⟨kk, m1, hkk, hg, rfl, rfl, HA⟩ := hrel
    by_cases hlt : kk < l.length
    · have hltz : (kk : Int) < (l.length : Int) := by omega
      obtain ⟨ad, e, hx⟩ := Kd.at_string HR0.out (kk : Int) (by omega) (by omega)
      cases e
      rw [Int.toNat_natCast] at hx
      have hrd : rdOf ByteArray.empty l (kk : Int) = l[kk] := by simp [rdOf, List.getD_eq_getElem?_getD, List.getElem?_eq_getElem hlt]
      have hA := HA.out
      rw [List.drop_eq_getElem_cons hlt] at hA
      rw [hrd] at hx
      clear HA hrd
      generalize l[kk] = y at hx hA
      have hcall := fun q => HP.out q y
      cases hq : p y with
      | true =>
        simp only [idxM, hq, if_true] at hA
        rw [hq] at hcall
        have HA := Aside0.mk hA
        clear hA
        go_wp2_with (go_at_fn g; refine (hcall _).mono ?_; rintro e w' ⟨rfl, q', rfl⟩)
        go_ret
        exact ⟨by rw [← HA.out]; rfl, _, rfl⟩
      | false =>
        simp only [idxM, hq, Bool.false_eq_true, if_false] at hA
        rw [hq] at hcall
        have HA := Aside0.mk hA
        clear hA
        go_wp2_with (go_at_fn g; refine (hcall _).mono ?_; rintro e w' ⟨rfl, q', rfl⟩)
        go_roundg (l.length - (kk + 1))
        case measure => omega
        case rel => exact ⟨kk + 1, _, by omega, by omega, by go_num, rfl, ⟨by have := HA.out; simpa using this⟩⟩
    · have hltz : ¬ (kk : Int) < (l.length : Int) := by omega
      have : kk = l.length := by omega
      subst this
      go_wp2
      go_ret
      refine ⟨?_, m1, rfl⟩
      rw [← HA.out, List.drop_length]
      rfl
set_option maxHeartbeats 4000000 in
theorem containsFunc.calls (g : Nat) (lb : Array Value) (p : ByteArray → Bool) (eg : ∀ args w, (callFunc g args).run Try.prog w = .ok (.enter g args) w) (A : Option Addr) (c : Nat) (l : List ByteArray) (w : World) (hr : Kd.C Kd.string w A l.length l) (hl : l.length ≤ 9223372036854775807) (hp : PredD g lb p w) :
    Calls Try.prog 70 #[.slice A l.length c, .func (.func g) #[] lb] w fun e w' => e = .returned (.bool (l.any p)) ∧ ∃ q, w' = w.drewN q := by
  have hcall := indexFunc.calls g lb p eg A c l w hr hl hp
  rw [← idxM_any p l 0 (by omega)]
  clear hr hp
  go_enter Try.func70, Try.ntmps70
  have e6 : ∀ args w, (callFunc 78 args).run Try.prog w = .ok (.enter 78 args) w := enters_of Try.func78 (by kernel_rfl) rfl
  go_wp2_with (go_at_fn 78; refine hcall.mono ?_; rintro e w' ⟨rfl, q, rfl⟩)
  go_ret
  exact ⟨rfl, q, rfl⟩
theorem isRecord1.pred (w : World) : PredD 71 #[] (fun x => decide ((x.size : Int) > 40)) w := by
  intro n x
  go_enter Try.func71, Try.ntmps71
  go_wp2
  go_ret
  exact ⟨by simp, n, rfl⟩
/-- Whether a word is too long. -/
def impl_isRecord_long.f (l : List ByteArray) : Option Bool := if l.length ≤ 9223372036854775807 then some (l.any fun x => decide ((x.size : Int) > 40)) else none
theorem impl_isRecord_long.calls (A : Option Addr) (c : Nat) (l : List ByteArray) (r : Bool) (w : World) (hr : Kd.C Kd.string w A l.length l) (hc : l.length ≤ c) (h : impl_isRecord_long.f l = some r) :
    Calls Try.prog 70 #[.slice A l.length c, .func (.func 71) #[] #[]] w fun e w' => e = .returned (.bool r) ∧ Drawn0 w w' := by
  unfold impl_isRecord_long.f at h
  split at h
  · rename_i hl
    obtain rfl := Option.some.inj h
    refine (containsFunc.calls 71 _ _ (enters_of Try.func71 (by kernel_rfl) rfl) A c l w hr hl (isRecord1.pred w)).mono ?_
    rintro e w' ⟨rfl, q, rfl⟩
    exact ⟨rfl, ⟨q, rfl⟩⟩
  · exact absurd h (by simp)
end Go.Proofs.Ytgdebfaoohjikaa.F

namespace Go.Proofs.Ytgdebfaoohjikaa.F
open Go.RowKit Go.Proofs.YtgdebfaoohjikaaW.PrintWords Go.Proofs.YtgdebfaoohjikaaW.PrintLast Go.Proofs.YtgdebfaoohjikaaW.PrintMore
attribute [local go_sem] max2_int min2_int max_two min_two max_three min_three max_four min_four   -- for this text's walks alone
set_option linter.unusedVariables false
set_option linter.unusedSimpArgs false

/-! ### impl_isRecord: function 56 -/
def impl_isRecord.f (a0_0 : Int) (l0_1 : List Int) (l0_2 : List ByteArray) : Option (Bool) := if a0_0 ≥ 0 then (if a0_0 ≤ 250 then (if (l0_1.length : Int) ≤ 24 then (if (l0_2.length : Int) ≤ 6 then ((impl_isRecord_long.f l0_2).bind fun t251 => (some (!t251))) else (some false)) else (some false)) else (some false)) else (some false)
set_option maxHeartbeats 8000000 in
set_option maxRecDepth 100000 in
theorem impl_isRecord.calls (a0_0 : Int) (A0_1 : Option Addr) (c0_1 : Nat) (l0_1 : List Int) (A0_2 : Option Addr) (c0_2 : Nat) (l0_2 : List ByteArray) (r : Bool) (w : World) (hr0_1 : Kd.C (Kd.int .u64) w A0_1 l0_1.length l0_1) (hc0_1 : l0_1.length ≤ c0_1) (hr0_2 : Kd.C Kd.string w A0_2 l0_2.length l0_2) (hc0_2 : l0_2.length ≤ c0_2) (h : impl_isRecord.f a0_0 l0_1 l0_2 = some r) :
    Calls Try.prog 56 #[.agg #[.int .i64 a0_0, .slice A0_1 l0_1.length c0_1, .slice A0_2 l0_2.length c0_2]] w fun e w' => e = .returned (.bool r) ∧ Below w.heap.size w w' := by
  have hu42 := Try.underlying42
  have HR0_1 := Aside0.mk hr0_1
  have HC0_1 := Aside0.mk hc0_1
  clear hr0_1 hc0_1
  have HR0_2 := Aside0.mk hr0_2
  have HC0_2 := Aside0.mk hc0_2
  clear hr0_2 hc0_2
  have HB := Aside0.mk (Below.refl w.heap.size w)
  have H : (if a0_0 ≥ 0 then (if a0_0 ≤ 250 then (if (l0_1.length : Int) ≤ 24 then (if (l0_2.length : Int) ≤ 6 then ((impl_isRecord_long.f l0_2).bind fun t251 => (some (!t251))) else (some false)) else (some false)) else (some false)) else (some false)) = some r := h
  clear h
  by_cases c2 : a0_0 ≥ 0
  · rw [if_pos c2] at H
    have c2b0 : decide (0 ≤ a0_0) = true := decide_eq_true c2
    clear c2
    by_cases c3 : a0_0 ≤ 250
    · rw [if_pos c3] at H
      have c3b0 : decide (a0_0 ≤ 250) = true := decide_eq_true c3
      clear c3
      by_cases c4 : (l0_1.length : Int) ≤ 24
      · rw [if_pos c4] at H
        have c4b0 : decide ((l0_1.length : Int) ≤ 24) = true := decide_eq_true c4
        have c4b1 : decide (l0_1.length ≤ 24) = true := decide_eq_true (by omega)
        clear c4
        by_cases c5 : (l0_2.length : Int) ≤ 6
        · rw [if_pos c5] at H
          have c5b0 : decide ((l0_2.length : Int) ≤ 6) = true := decide_eq_true c5
          have c5b1 : decide (l0_2.length ≤ 6) = true := decide_eq_true (by omega)
          clear c5
          replace H := Option.bind_eq_some_iff.mp H
          obtain ⟨t251, A60, H⟩ := H
          replace H : (some (!t251)) = some r := H
          have A6 := Aside0.mk A60
          clear A60
          obtain rfl := Option.some.inj H
          go_enter Try.func56, Try.ntmps56
          go_wp2_with (first | ((with_reducible refine gate_dst (N := 1) rfl ?_); (try (refine gate_guard (by rfl) ?_; dsimp only)); refine box_event ?hg (N := 1) ?hd (cs := #[.int .i64 a0_0, .slice A0_1 l0_1.length c0_1, .slice A0_2 l0_2.length c0_2]) (t := 42) ?hr ?_; (case hd => rfl); (case hg => rfl); (case hr => first | (go_simp; done) | (go_simp; rfl)); intro gb250 hg w7 hbox hb; have n0_ := Aside0.mk (below_step (by repeat (first | (with_reducible first | exact HB.out | apply below_alloc | apply pw_below_drewN | apply below_drew1) | exact HB.out)) hb); have n1_ := Aside0.mk (hbox); have n2_ := Aside0.mk ((by rw [hg]; exact (below_size (by repeat (first | (with_reducible first | exact HB.out | apply below_alloc | apply pw_below_drewN | apply below_drew1) | exact HB.out))) : w.heap.size ≤ gb250)); have n3_ := Aside0.mk ((by rw [hg]; exact (below_size (by repeat (first | (with_reducible first | exact HB.out | apply below_alloc | apply pw_below_drewN | apply below_drew1) | exact HB.out))) : w.heap.size ≤ gb250)); clear HB; have HB := n0_; have BK250 := n1_; have GW250 := n2_; have GE250 := n3_; clear n0_ n1_ n2_ n3_; clear hb hbox hg; have hcz8_0 : w7.cell? ⟨gb250, 0, none⟩ = some (.int .i64 a0_0) := (blk_cell BK250.out 0).trans rfl; have hcz8_1 : w7.cell? ⟨gb250, 1, none⟩ = some (.slice A0_1 l0_1.length c0_1) := (blk_cell BK250.out 1).trans rfl; have hcz8_2 : w7.cell? ⟨gb250, 2, none⟩ = some (.slice A0_2 l0_2.length c0_2) := (blk_cell BK250.out 2).trans rfl; have hfz8_0 := blk_frozen BK250.out 0; have hfz8_1 := blk_frozen BK250.out 1; have hfz8_2 := blk_frozen BK250.out 2) | (go_at_call 70; (with_reducible refine (impl_isRecord_long.calls _ _ l0_2 t251 _ ?side1 ?side2 A6.out).mono ?_); (case side1 => repeat (first | exact (Kd.C_below HR0_2.out HB.out) | (with_reducible refine Kd.C_alloc ?_ _) | (with_reducible refine Kd.C_drewN ?_ _) | (with_reducible refine Kd.C_drew ?_))); (case side2 => exact HC0_2.out); rintro e w' ⟨rfl, ⟨nd, rfl⟩⟩))
          go_ret
          exact ⟨by first | rfl | (simp [errW_none, errW_some] <;> rfl) | (simp [*, errW_none, errW_some] <;> rfl), by repeat (first | (with_reducible first | exact HB.out | apply below_alloc | apply pw_below_drewN | apply below_drew1 | refine below_set ?_ GE250.out) | exact HB.out)⟩
        · rw [if_neg c5] at H
          have c5b0 : decide ((l0_2.length : Int) ≤ 6) = false := decide_eq_false c5
          have c5b1 : decide (l0_2.length ≤ 6) = false := decide_eq_false (by omega)
          clear c5
          obtain rfl := Option.some.inj H
          go_enter Try.func56, Try.ntmps56
          go_wp2_with (first | ((with_reducible refine gate_dst (N := 1) rfl ?_); (try (refine gate_guard (by rfl) ?_; dsimp only)); refine box_event ?hg (N := 1) ?hd (cs := #[.int .i64 a0_0, .slice A0_1 l0_1.length c0_1, .slice A0_2 l0_2.length c0_2]) (t := 42) ?hr ?_; (case hd => rfl); (case hg => rfl); (case hr => first | (go_simp; done) | (go_simp; rfl)); intro gb250 hg w9 hbox hb; have n0_ := Aside0.mk (below_step (by repeat (first | (with_reducible first | exact HB.out | apply below_alloc | apply pw_below_drewN | apply below_drew1) | exact HB.out)) hb); have n1_ := Aside0.mk (hbox); have n2_ := Aside0.mk ((by rw [hg]; exact (below_size (by repeat (first | (with_reducible first | exact HB.out | apply below_alloc | apply pw_below_drewN | apply below_drew1) | exact HB.out))) : w.heap.size ≤ gb250)); have n3_ := Aside0.mk ((by rw [hg]; exact (below_size (by repeat (first | (with_reducible first | exact HB.out | apply below_alloc | apply pw_below_drewN | apply below_drew1) | exact HB.out))) : w.heap.size ≤ gb250)); clear HB; have HB := n0_; have BK250 := n1_; have GW250 := n2_; have GE250 := n3_; clear n0_ n1_ n2_ n3_; clear hb hbox hg; have hcz10_0 : w9.cell? ⟨gb250, 0, none⟩ = some (.int .i64 a0_0) := (blk_cell BK250.out 0).trans rfl; have hcz10_1 : w9.cell? ⟨gb250, 1, none⟩ = some (.slice A0_1 l0_1.length c0_1) := (blk_cell BK250.out 1).trans rfl; have hcz10_2 : w9.cell? ⟨gb250, 2, none⟩ = some (.slice A0_2 l0_2.length c0_2) := (blk_cell BK250.out 2).trans rfl; have hfz10_0 := blk_frozen BK250.out 0; have hfz10_1 := blk_frozen BK250.out 1; have hfz10_2 := blk_frozen BK250.out 2))
          go_ret
          exact ⟨by first | rfl | (simp [errW_none, errW_some] <;> rfl) | (simp [*, errW_none, errW_some] <;> rfl), by repeat (first | (with_reducible first | exact HB.out | apply below_alloc | apply pw_below_drewN | apply below_drew1 | refine below_set ?_ GE250.out) | exact HB.out)⟩
      · rw [if_neg c4] at H
        have c4b0 : decide ((l0_1.length : Int) ≤ 24) = false := decide_eq_false c4
        have c4b1 : decide (l0_1.length ≤ 24) = false := decide_eq_false (by omega)
        clear c4
        obtain rfl := Option.some.inj H
        go_enter Try.func56, Try.ntmps56
        go_wp2_with (first | ((with_reducible refine gate_dst (N := 1) rfl ?_); (try (refine gate_guard (by rfl) ?_; dsimp only)); refine box_event ?hg (N := 1) ?hd (cs := #[.int .i64 a0_0, .slice A0_1 l0_1.length c0_1, .slice A0_2 l0_2.length c0_2]) (t := 42) ?hr ?_; (case hd => rfl); (case hg => rfl); (case hr => first | (go_simp; done) | (go_simp; rfl)); intro gb250 hg w11 hbox hb; have n0_ := Aside0.mk (below_step (by repeat (first | (with_reducible first | exact HB.out | apply below_alloc | apply pw_below_drewN | apply below_drew1) | exact HB.out)) hb); have n1_ := Aside0.mk (hbox); have n2_ := Aside0.mk ((by rw [hg]; exact (below_size (by repeat (first | (with_reducible first | exact HB.out | apply below_alloc | apply pw_below_drewN | apply below_drew1) | exact HB.out))) : w.heap.size ≤ gb250)); have n3_ := Aside0.mk ((by rw [hg]; exact (below_size (by repeat (first | (with_reducible first | exact HB.out | apply below_alloc | apply pw_below_drewN | apply below_drew1) | exact HB.out))) : w.heap.size ≤ gb250)); clear HB; have HB := n0_; have BK250 := n1_; have GW250 := n2_; have GE250 := n3_; clear n0_ n1_ n2_ n3_; clear hb hbox hg; have hcz12_0 : w11.cell? ⟨gb250, 0, none⟩ = some (.int .i64 a0_0) := (blk_cell BK250.out 0).trans rfl; have hcz12_1 : w11.cell? ⟨gb250, 1, none⟩ = some (.slice A0_1 l0_1.length c0_1) := (blk_cell BK250.out 1).trans rfl; have hcz12_2 : w11.cell? ⟨gb250, 2, none⟩ = some (.slice A0_2 l0_2.length c0_2) := (blk_cell BK250.out 2).trans rfl; have hfz12_0 := blk_frozen BK250.out 0; have hfz12_1 := blk_frozen BK250.out 1; have hfz12_2 := blk_frozen BK250.out 2))
        go_ret
        exact ⟨by first | rfl | (simp [errW_none, errW_some] <;> rfl) | (simp [*, errW_none, errW_some] <;> rfl), by repeat (first | (with_reducible first | exact HB.out | apply below_alloc | apply pw_below_drewN | apply below_drew1 | refine below_set ?_ GE250.out) | exact HB.out)⟩
    · rw [if_neg c3] at H
      have c3b0 : decide (a0_0 ≤ 250) = false := decide_eq_false c3
      clear c3
      obtain rfl := Option.some.inj H
      go_enter Try.func56, Try.ntmps56
      go_wp2_with (first | ((with_reducible refine gate_dst (N := 1) rfl ?_); (try (refine gate_guard (by rfl) ?_; dsimp only)); refine box_event ?hg (N := 1) ?hd (cs := #[.int .i64 a0_0, .slice A0_1 l0_1.length c0_1, .slice A0_2 l0_2.length c0_2]) (t := 42) ?hr ?_; (case hd => rfl); (case hg => rfl); (case hr => first | (go_simp; done) | (go_simp; rfl)); intro gb250 hg w13 hbox hb; have n0_ := Aside0.mk (below_step (by repeat (first | (with_reducible first | exact HB.out | apply below_alloc | apply pw_below_drewN | apply below_drew1) | exact HB.out)) hb); have n1_ := Aside0.mk (hbox); have n2_ := Aside0.mk ((by rw [hg]; exact (below_size (by repeat (first | (with_reducible first | exact HB.out | apply below_alloc | apply pw_below_drewN | apply below_drew1) | exact HB.out))) : w.heap.size ≤ gb250)); have n3_ := Aside0.mk ((by rw [hg]; exact (below_size (by repeat (first | (with_reducible first | exact HB.out | apply below_alloc | apply pw_below_drewN | apply below_drew1) | exact HB.out))) : w.heap.size ≤ gb250)); clear HB; have HB := n0_; have BK250 := n1_; have GW250 := n2_; have GE250 := n3_; clear n0_ n1_ n2_ n3_; clear hb hbox hg; have hcz14_0 : w13.cell? ⟨gb250, 0, none⟩ = some (.int .i64 a0_0) := (blk_cell BK250.out 0).trans rfl; have hcz14_1 : w13.cell? ⟨gb250, 1, none⟩ = some (.slice A0_1 l0_1.length c0_1) := (blk_cell BK250.out 1).trans rfl; have hcz14_2 : w13.cell? ⟨gb250, 2, none⟩ = some (.slice A0_2 l0_2.length c0_2) := (blk_cell BK250.out 2).trans rfl; have hfz14_0 := blk_frozen BK250.out 0; have hfz14_1 := blk_frozen BK250.out 1; have hfz14_2 := blk_frozen BK250.out 2))
      go_ret
      exact ⟨by first | rfl | (simp [errW_none, errW_some] <;> rfl) | (simp [*, errW_none, errW_some] <;> rfl), by repeat (first | (with_reducible first | exact HB.out | apply below_alloc | apply pw_below_drewN | apply below_drew1 | refine below_set ?_ GE250.out) | exact HB.out)⟩
  · rw [if_neg c2] at H
    have c2b0 : decide (0 ≤ a0_0) = false := decide_eq_false c2
    clear c2
    obtain rfl := Option.some.inj H
    go_enter Try.func56, Try.ntmps56
    go_wp2_with (first | ((with_reducible refine gate_dst (N := 1) rfl ?_); (try (refine gate_guard (by rfl) ?_; dsimp only)); refine box_event ?hg (N := 1) ?hd (cs := #[.int .i64 a0_0, .slice A0_1 l0_1.length c0_1, .slice A0_2 l0_2.length c0_2]) (t := 42) ?hr ?_; (case hd => rfl); (case hg => rfl); (case hr => first | (go_simp; done) | (go_simp; rfl)); intro gb250 hg w15 hbox hb; have n0_ := Aside0.mk (below_step (by repeat (first | (with_reducible first | exact HB.out | apply below_alloc | apply pw_below_drewN | apply below_drew1) | exact HB.out)) hb); have n1_ := Aside0.mk (hbox); have n2_ := Aside0.mk ((by rw [hg]; exact (below_size (by repeat (first | (with_reducible first | exact HB.out | apply below_alloc | apply pw_below_drewN | apply below_drew1) | exact HB.out))) : w.heap.size ≤ gb250)); have n3_ := Aside0.mk ((by rw [hg]; exact (below_size (by repeat (first | (with_reducible first | exact HB.out | apply below_alloc | apply pw_below_drewN | apply below_drew1) | exact HB.out))) : w.heap.size ≤ gb250)); clear HB; have HB := n0_; have BK250 := n1_; have GW250 := n2_; have GE250 := n3_; clear n0_ n1_ n2_ n3_; clear hb hbox hg; have hcz16_0 : w15.cell? ⟨gb250, 0, none⟩ = some (.int .i64 a0_0) := (blk_cell BK250.out 0).trans rfl; have hcz16_1 : w15.cell? ⟨gb250, 1, none⟩ = some (.slice A0_1 l0_1.length c0_1) := (blk_cell BK250.out 1).trans rfl; have hcz16_2 : w15.cell? ⟨gb250, 2, none⟩ = some (.slice A0_2 l0_2.length c0_2) := (blk_cell BK250.out 2).trans rfl; have hfz16_0 := blk_frozen BK250.out 0; have hfz16_1 := blk_frozen BK250.out 1; have hfz16_2 := blk_frozen BK250.out 2))
    go_ret
    exact ⟨by first | rfl | (simp [errW_none, errW_some] <;> rfl) | (simp [*, errW_none, errW_some] <;> rfl), by repeat (first | (with_reducible first | exact HB.out | apply below_alloc | apply pw_below_drewN | apply below_drew1 | refine below_set ?_ GE250.out) | exact HB.out)⟩

end Go.Proofs.Ytgdebfaoohjikaa.F

namespace Go.Proofs.Ytgdebfaoohjikaa.F
open Go.RowKit Go.Proofs.YtgdebfaoohjikaaW.PrintWords Go.Proofs.YtgdebfaoohjikaaW.PrintLast Go.Proofs.YtgdebfaoohjikaaW.PrintMore
attribute [local go_sem] max2_int min2_int max_two min_two max_three min_three max_four min_four   -- for this text's walks alone
set_option linter.unusedVariables false
set_option linter.unusedSimpArgs false

/-! ### impl_decode: function 63 -/
mutual
def impl_decode.j0 : Nat → List Int → Bool → Option (Int × List Int × List ByteArray × Bool)
  | 0, _, _ => none
  | k + 1, x0, x24 => if x24 = true then (some (0, ([] : List Int), ([] : List ByteArray), false)) else (if 0 < (x0.length : Int) then (if 1 < (x0.length : Int) then (impl_decode.l0 k x0 2 (rd x0 1) 0 (wrap64 (rd x0 0)) ([] : List Int)) else (none)) else (none))
def impl_decode.l0 : Nat → List Int → Int → Int → Int → Int → List Int → Option (Int × List Int × List ByteArray × Bool)
  | 0, _, _, _, _, _, _ => none
  | k + 1, x0, x5, x33, x34, x392000, x392001 => if x34 < x33 then ((impl_getVar.f k x0 x5).bind fun bt393 => (if bt393.2.2 = true then (if x392001.length < 17592186044416 then (impl_decode.l0 k x0 bt393.2.1 x33 ((x34 + 1) % 256) x392000 (x392001 ++ [bt393.1])) else (none)) else (some (0, ([] : List Int), ([] : List ByteArray), false)))) else (if x5 ≥ (x0.length : Int) then (some (0, ([] : List Int), ([] : List ByteArray), false)) else (if 0 ≤ x5 then (if x5 < (x0.length : Int) then (impl_decode.l1 k x0 (wrap64 (x5 + 1)) (wrap64 (rd x0 x5)) 0 x392000 x392001 ([] : List ByteArray)) else (none)) else (none)))
def impl_decode.l1 : Nat → List Int → Int → Int → Int → Int → List Int → List ByteArray → Option (Int × List Int × List ByteArray × Bool)
  | 0, _, _, _, _, _, _, _ => none
  | k + 1, x0, x5, x66, x67, x392000, x392001, x392002 => if x67 < x66 then (if x5 ≥ (x0.length : Int) then (some (0, ([] : List Int), ([] : List ByteArray), false)) else (if 0 ≤ x5 then (if x5 < (x0.length : Int) then (if (wrap64 ((wrap64 (x5 + 1)) + (wrap64 (rd x0 x5)))) > (x0.length : Int) then (some (0, ([] : List Int), ([] : List ByteArray), false)) else (if 0 ≤ (wrap64 (x5 + 1)) then (if (wrap64 (x5 + 1)) ≤ (wrap64 ((wrap64 (x5 + 1)) + (wrap64 (rd x0 x5)))) then (if (wrap64 ((wrap64 (x5 + 1)) + (wrap64 (rd x0 x5)))) ≤ (x0.length : Int) then (if x392002.length < 8796093022208 then (impl_decode.l1 k x0 (wrap64 ((wrap64 (x5 + 1)) + (wrap64 (rd x0 x5)))) x66 (wrap64 (x67 + 1)) x392000 x392001 (x392002 ++ [strOfNums ((x0.take ((wrap64 ((wrap64 (x5 + 1)) + (wrap64 (rd x0 x5)))) : Int).toNat).drop ((wrap64 (x5 + 1)) : Int).toNat)])) else (none)) else (none)) else (none)) else (none))) else (none)) else (none))) else (if x5 = (x0.length : Int) then ((impl_isRecord.f x392000 x392001 x392002).bind fun t406 => (if t406 = true then (some (x392000, x392001, x392002, true)) else (some (0, ([] : List Int), ([] : List ByteArray), false)))) else (some (0, ([] : List Int), ([] : List ByteArray), false)))
end
def impl_decode.f (k : Nat) (l0 : List Int) : Option (Int × List Int × List ByteArray × Bool) := if (l0.length : Int) < 3 then (impl_decode.j0 k l0 true) else (if (l0.length : Int) > 4000 then (impl_decode.j0 k l0 true) else (if 1 < (l0.length : Int) then (impl_decode.j0 k l0 (decide ((rd l0 1) > 24))) else (none)))
theorem impl_decode.mono_l : ∀ k, (∀ y0 y1, LeO (impl_decode.j0 k y0 y1) (impl_decode.j0 (k + 1) y0 y1)) ∧ (∀ y0 y1 y2 y3 y4 y5, LeO (impl_decode.l0 k y0 y1 y2 y3 y4 y5) (impl_decode.l0 (k + 1) y0 y1 y2 y3 y4 y5)) ∧ (∀ y0 y1 y2 y3 y4 y5 y6, LeO (impl_decode.l1 k y0 y1 y2 y3 y4 y5 y6) (impl_decode.l1 (k + 1) y0 y1 y2 y3 y4 y5 y6))
  | 0 => ⟨fun _ _ r h => by simp [impl_decode.j0] at h, fun _ _ _ _ _ _ r h => by simp [impl_decode.l0] at h, fun _ _ _ _ _ _ _ r h => by simp [impl_decode.l1] at h⟩
  | k + 1 => by
    obtain ⟨ih0, ih1, ih2⟩ := impl_decode.mono_l k
    refine ⟨?_, ?_, ?_⟩
    · intro y0 y1
      unfold impl_decode.j0
      repeat' first
      | (with_reducible exact ih0 _ _)
      | (with_reducible exact ih1 _ _ _ _ _ _)
      | (with_reducible exact ih2 _ _ _ _ _ _ _)
      | (with_reducible exact impl_getVar.mono _ _ _)
      | (with_reducible exact LeO.refl _)
      | (with_reducible exact LeO.none _)
      | (with_reducible refine LeO.ite ?_ ?_)
      | (with_reducible refine LeO.bind ?_ (fun _ => ?_))
      | exact ih0 _ _
      | exact ih1 _ _ _ _ _ _
      | exact ih2 _ _ _ _ _ _ _
      | exact impl_getVar.mono _ _ _
      | exact LeO.none _
      | refine LeO.ite ?_ ?_
      | refine LeO.bind ?_ (fun _ => ?_)
    · intro y0 y1 y2 y3 y4 y5
      unfold impl_decode.l0
      repeat' first
      | (with_reducible exact ih0 _ _)
      | (with_reducible exact ih1 _ _ _ _ _ _)
      | (with_reducible exact ih2 _ _ _ _ _ _ _)
      | (with_reducible exact impl_getVar.mono _ _ _)
      | (with_reducible exact LeO.refl _)
      | (with_reducible exact LeO.none _)
      | (with_reducible refine LeO.ite ?_ ?_)
      | (with_reducible refine LeO.bind ?_ (fun _ => ?_))
      | exact ih0 _ _
      | exact ih1 _ _ _ _ _ _
      | exact ih2 _ _ _ _ _ _ _
      | exact impl_getVar.mono _ _ _
      | exact LeO.none _
      | refine LeO.ite ?_ ?_
      | refine LeO.bind ?_ (fun _ => ?_)
    · intro y0 y1 y2 y3 y4 y5 y6
      unfold impl_decode.l1
      repeat' first
      | (with_reducible exact ih0 _ _)
      | (with_reducible exact ih1 _ _ _ _ _ _)
      | (with_reducible exact ih2 _ _ _ _ _ _ _)
      | (with_reducible exact impl_getVar.mono _ _ _)
      | (with_reducible exact LeO.refl _)
      | (with_reducible exact LeO.none _)
      | (with_reducible refine LeO.ite ?_ ?_)
      | (with_reducible refine LeO.bind ?_ (fun _ => ?_))
      | exact ih0 _ _
      | exact ih1 _ _ _ _ _ _
      | exact ih2 _ _ _ _ _ _ _
      | exact impl_getVar.mono _ _ _
      | exact LeO.none _
      | refine LeO.ite ?_ ?_
      | refine LeO.bind ?_ (fun _ => ?_)
theorem impl_decode.mono : ∀ a0 k, LeO (impl_decode.f k a0) (impl_decode.f (k + 1) a0) := by
  intro a0 k
  obtain ⟨ih0, ih1, ih2⟩ := impl_decode.mono_l k
  unfold impl_decode.f
  repeat' first
      | (with_reducible exact ih0 _ _)
      | (with_reducible exact ih1 _ _ _ _ _ _)
      | (with_reducible exact ih2 _ _ _ _ _ _ _)
      | (with_reducible exact impl_getVar.mono _ _ _)
      | (with_reducible exact LeO.refl _)
      | (with_reducible exact LeO.none _)
      | (with_reducible refine LeO.ite ?_ ?_)
      | (with_reducible refine LeO.bind ?_ (fun _ => ?_))
      | exact ih0 _ _
      | exact ih1 _ _ _ _ _ _
      | exact ih2 _ _ _ _ _ _ _
      | exact impl_getVar.mono _ _ _
      | exact LeO.none _
      | refine LeO.ite ?_ ?_
      | refine LeO.bind ?_ (fun _ => ?_)
def impl_decode.T22 : Bool × List (List Nat × List Nat) := (true, [([], []), ([0], [0]), ([], []), ([], []), ([3], [3]), ([], []), ([2, 4, 5], [2, 4, 5]), ([6], [6]), ([7], [7]), ([1, 8], [1, 8]), ([0, 1, 2, 3, 4, 5, 6, 7, 8, 9], []), ([10, 9, 9, 0, 1, 2, 3, 4, 5, 6, 7, 8, 9], [9, 10])])
def impl_decode.B22 : List Nat := [0, 1, 0, 0, 8, 0, 60, 124, 252, 511, 1023, 2047]
theorem impl_decode.tab22 : rtab .any (opsOf Try.f63 22) = impl_decode.T22 := by kernel_rfl
theorem impl_decode.bits22 : waitsOk impl_decode.T22.2 impl_decode.B22 = true := by kernel_rfl
set_option maxHeartbeats 8000000 in
set_option maxRecDepth 100000 in
theorem impl_decode.calls (k : Nat) (A0 : Option Addr) (c0 : Nat) (l0 : List Int) (r1 : Int) (r2 : List Int) (r3 : List ByteArray) (r4 : Bool) (w : World) (hr0 : Kd.C (Kd.int .u8) w A0 l0.length l0) (hc0 : l0.length ≤ c0) (h : impl_decode.f k l0 = some (r1, r2, r3, r4)) :
    Calls Try.prog 63 #[.slice A0 l0.length c0] w fun e w' => ∃ v1_ v2_ : Value, e = .returned (.tuple #[.agg #[.int .i64 r1, v1_, v2_], .bool r4]) ∧ Kd.R (Kd.int .u64) 23 w' w.heap.size (fun _ => True) v1_ r2 ∧ Kd.R Kd.string 9 w' w.heap.size (fun _ => True) v2_ r3 ∧ Below w.heap.size w w' := by
  have hu42 := Try.underlying42
  have HR0 := Aside0.mk hr0
  have HC0 := Aside0.mk hc0
  clear hr0 hc0
  have HB := Aside0.mk (Below.refl w.heap.size w)
  have H : (if (l0.length : Int) < 3 then (impl_decode.j0 k l0 true) else (if (l0.length : Int) > 4000 then (impl_decode.j0 k l0 true) else (if 1 < (l0.length : Int) then (impl_decode.j0 k l0 (decide ((rd l0 1) > 24))) else (none)))) = some (r1, r2, r3, r4) := h
  clear h
  have HC2 := Aside0.mk H
  clear H
  go_enter Try.func63, Try.ntmps63
  go_upto_region 1 with (first | ((with_reducible refine gate_dst (N := 2) rfl ?_); (try (refine gate_guard (by rfl) ?_; dsimp only)); refine box_event ?hg (N := 2) ?hd (cs := #[.int .i64 0, .slice none 0 0, .slice none 0 0]) (t := 42) ?hr ?_; (case hd => rfl); (case hg => rfl); (case hr => first | (go_simp; done) | (go_simp; rfl)); intro gb388 hg w3 hbox hb; have n0_ := Aside0.mk (below_step (by repeat (first | (with_reducible first | exact HB.out | apply below_alloc | apply pw_below_drewN | apply below_drew1) | exact HB.out)) hb); have n1_ := Aside0.mk (hbox); have n2_ := Aside0.mk ((by rw [hg]; exact (below_size (by repeat (first | (with_reducible first | exact HB.out | apply below_alloc | apply pw_below_drewN | apply below_drew1) | exact HB.out))) : w.heap.size ≤ gb388)); have n3_ := Aside0.mk ((by rw [hg]; exact (below_size (by repeat (first | (with_reducible first | exact HB.out | apply below_alloc | apply pw_below_drewN | apply below_drew1) | exact HB.out))) : w.heap.size ≤ gb388)); clear HB; have HB := n0_; have BK388 := n1_; have GW388 := n2_; have GE388 := n3_; clear n0_ n1_ n2_ n3_; clear hb hbox hg))
  (try simp only [Act.put, List.setIfInBounds_toArray, List.set_cons_zero, List.set_cons_succ])
  go_cut [24] (fun v24 wc => ∃ (kq : Nat) (x24_1 : Bool), v24 = .bool x24_1 ∧ Aside0 (impl_decode.j0 kq l0 x24_1 = some (r1, r2, r3, r4)) ∧ Aside0 (kq ≤ k) ∧ Aside0 (wc.heap[gb388]? = some (.cells #[.int .i64 0, (.slice none 0 0), (.slice none 0 0)] 42 (0, 0))) ∧ Aside0 (Below w.heap.size w wc))
  case first =>
    have H := HC2.out
    clear HC2
    by_cases c4 : (l0.length : Int) < 3
    · rw [if_pos c4] at H
      have c4b0 : decide ((l0.length : Int) < 3) = true := decide_eq_true c4
      have c4b1 : decide (l0.length < 3) = true := decide_eq_true (by omega)
      clear c4
      (first | rw [c4b0] | (simp only [i64_w, i32_w]; rw [c4b0]) | skip)
      have H' := Aside0.mk H
      clear H
      go_wp2
      go_meet
      case rel => exact ⟨_, (true), (by first | rfl | (simp; done) | (simp [*]; done)), H', ⟨by first | omega | exact Nat.le_refl _⟩, ⟨by (with_reducible repeat (first | refine blk_drewN ?_ _ | refine blk_drew ?_ | refine blk_alloc ?_ _)); exact BK388.out⟩, ⟨by repeat (first | (with_reducible first | exact HB.out | apply below_alloc | apply pw_below_drewN | apply below_drew1 | refine below_set ?_ GE388.out) | exact HB.out)⟩⟩
    · rw [if_neg c4] at H
      have c4b0 : decide ((l0.length : Int) < 3) = false := decide_eq_false c4
      have c4b1 : decide (l0.length < 3) = false := decide_eq_false (by omega)
      clear c4
      (first | rw [c4b0] | (simp only [i64_w, i32_w]; rw [c4b0]) | skip)
      by_cases c5 : (l0.length : Int) > 4000
      · rw [if_pos c5] at H
        have c5b0 : decide (4000 < (l0.length : Int)) = true := decide_eq_true c5
        have c5b1 : decide (4000 < l0.length) = true := decide_eq_true (by omega)
        clear c5
        have H' := Aside0.mk H
        clear H
        go_wp2
        go_meet
        case rel => exact ⟨_, (true), (by first | rfl | (simp; done) | (simp [*]; done)), H', ⟨by first | omega | exact Nat.le_refl _⟩, ⟨by (with_reducible repeat (first | refine blk_drewN ?_ _ | refine blk_drew ?_ | refine blk_alloc ?_ _)); exact BK388.out⟩, ⟨by repeat (first | (with_reducible first | exact HB.out | apply below_alloc | apply pw_below_drewN | apply below_drew1 | refine below_set ?_ GE388.out) | exact HB.out)⟩⟩
      · rw [if_neg c5] at H
        have c5b0 : decide (4000 < (l0.length : Int)) = false := decide_eq_false c5
        have c5b1 : decide (4000 < l0.length) = false := decide_eq_false (by omega)
        clear c5
        by_cases c6 : 1 < (l0.length : Int)
        · rw [if_pos c6] at H
          have c6b0 : decide (1 < (l0.length : Int)) = true := decide_eq_true c6
          have c6b1 : decide (1 < l0.length) = true := decide_eq_true (by omega)
          clear c6
          have H' := Aside0.mk H
          clear H
          have p389 : 0 ≤ (1 : Int) := (by omega)
          have q389 : 1 < (l0.length : Int) := of_decide_eq_true (by first | (with_reducible assumption) | assumption)
          obtain ⟨ad389, e389, hx389_0⟩ := Kd.at_int HR0.out 1 p389 q389
          cases e389
          (try simp only [show (1 : Int).toNat = 1 from rfl, Nat.reduceMul, Nat.reduceEqDiff, Go.Addr.add, ↓reduceIte] at hx389_0)
          have qi389 : (1 < l0.length) = True := eq_true (by omega)
          (try rw [show ((1 : Int)).toNat = 1 from rfl] at hx389_0)
          replace hx389_0 := (HB.out.cell (World.block_lt_of_cell? w _ hx389_0)).trans hx389_0
          replace p389 := eq_true p389
          replace q389 := eq_true q389
          go_wp2
          go_meet
          case rel => exact ⟨_, (decide ((rd l0 1) > 24)), (by first | rfl | (simp; done) | (simp [*]; done)), H', ⟨by first | omega | exact Nat.le_refl _⟩, ⟨by (with_reducible repeat (first | refine blk_drewN ?_ _ | refine blk_drew ?_ | refine blk_alloc ?_ _)); exact BK388.out⟩, ⟨by repeat (first | (with_reducible first | exact HB.out | apply below_alloc | apply pw_below_drewN | apply below_drew1 | refine below_set ?_ GE388.out) | exact HB.out)⟩⟩
        · rw [if_neg c6] at H
          exact absurd H (by simp)
  case rest =>
    clear HC2
    try clear p2
    try clear p3
    try clear q3
    try clear hx3
    try clear qi3
    try clear c4
    try clear c4b0
    try clear c4b1
    try clear c5
    try clear c5b0
    try clear c5b1
    try clear c6
    try clear c6b0
    try clear c6b1
    try clear hx389_0
    try clear p389
    try clear q389
    obtain ⟨kq, x24_1, rfl, HA, HJ1, BK388, HB⟩ := hcut
    cases kq with
    | zero => exact absurd HA.out (by simp [impl_decode.j0])
    | succ kj1 =>
      have H := HA.out
      clear HA
      simp only [impl_decode.j0] at H
      by_cases c7 : x24_1 = true
      · subst c7
        have H1 : (some (0, ([] : List Int), ([] : List ByteArray), false)) = some (r1, r2, r3, r4) := by rw [if_pos rfl] at H; exact H
        clear H
        have H := H1
        clear H1
        simp only [Option.some.injEq, Prod.mk.injEq] at H
        obtain ⟨rfl, rfl, rfl, rfl⟩ := H
        have hcz8_0 : wc.cell? ⟨gb388, 0, none⟩ = some (.int .i64 0) := (blk_cell BK388.out 0).trans rfl
        have hcz8_1 : wc.cell? ⟨gb388, 1, none⟩ = some (.slice none 0 0) := (blk_cell BK388.out 1).trans rfl
        have hcz8_2 : wc.cell? ⟨gb388, 2, none⟩ = some (.slice none 0 0) := (blk_cell BK388.out 2).trans rfl
        have hfz8_0 := blk_frozen BK388.out 0
        have hfz8_1 := blk_frozen BK388.out 1
        have hfz8_2 := blk_frozen BK388.out 2
        go_wp2
        refine bodyPost_ret (results_ct rfl _ _ gb388 42 #[.int .i64 0, .slice none 0 0, .slice none 0 0] (0, 0) _ rfl (by (with_reducible repeat (first | refine blk_drewN ?_ _ | refine blk_drew ?_ | refine blk_alloc ?_ _)); refine blk_put (cs := #[.int .i64 0, .slice none 0 0, .slice none 0 0]) ?_ 2 _ rfl; (with_reducible repeat (first | refine blk_drewN ?_ _ | refine blk_drew ?_ | refine blk_alloc ?_ _)); refine blk_put (cs := #[.int .i64 0, .slice none 0 0, .slice none 0 0]) ?_ 1 _ rfl; (with_reducible repeat (first | refine blk_drewN ?_ _ | refine blk_drew ?_ | refine blk_alloc ?_ _)); refine blk_put (cs := #[.int .i64 0, .slice none 0 0, .slice none 0 0]) ?_ 0 _ rfl; (with_reducible repeat (first | refine blk_drewN ?_ _ | refine blk_drew ?_ | refine blk_alloc ?_ _)); exact BK388.out) Try.underlying42 rfl (by kernel_rfl)) rfl ?_
        exact ⟨_, _, by first | rfl | (simp [errW_none, errW_some] <;> rfl) | (simp [*, errW_none, errW_some] <;> rfl), by first | exact Kd.R_nil _ _ _ _ _ | exact Kd.N_nil _ _ _ _ _ | exact Kd.V_nil _ _ _ _ _ | exact Kd.Q_nil _ _ _ _ _ | exact Kd.S_nil _ _ _ _ _, by first | exact Kd.R_nil _ _ _ _ _ | exact Kd.N_nil _ _ _ _ _ | exact Kd.V_nil _ _ _ _ _ | exact Kd.Q_nil _ _ _ _ _ | exact Kd.S_nil _ _ _ _ _, by repeat (first | (with_reducible first | exact HB.out | apply below_alloc | apply pw_below_drewN | apply below_drew1 | refine below_set ?_ GE388.out) | exact HB.out)⟩
      · replace c7 := Bool.eq_false_iff.mpr c7
        subst c7
        have H1 : (if 0 < (l0.length : Int) then (if 1 < (l0.length : Int) then (impl_decode.l0 kj1 l0 2 (rd l0 1) 0 (wrap64 (rd l0 0)) ([] : List Int)) else (none)) else (none)) = some (r1, r2, r3, r4) := by rw [if_neg (show ¬ (false = true) by decide)] at H; exact H
        clear H
        have H := H1
        clear H1
        by_cases c9 : 0 < (l0.length : Int)
        · rw [if_pos c9] at H
          have c9b0 : decide (0 < (l0.length : Int)) = true := decide_eq_true c9
          have c9b1 : decide (0 < l0.length) = true := decide_eq_true (by omega)
          clear c9
          by_cases c10 : 1 < (l0.length : Int)
          · rw [if_pos c10] at H
            have c10b0 : decide (1 < (l0.length : Int)) = true := decide_eq_true c10
            have c10b1 : decide (1 < l0.length) = true := decide_eq_true (by omega)
            clear c10
            have H' := Aside0.mk H
            clear H
            have p390 : 0 ≤ (0 : Int) := (by omega)
            have q390 : 0 < (l0.length : Int) := of_decide_eq_true (by first | (with_reducible assumption) | assumption)
            obtain ⟨ad390, e390, hx390_0⟩ := Kd.at_int HR0.out 0 p390 q390
            cases e390
            have qi390 : (0 < l0.length) = True := eq_true (by omega)
            (try rw [show ((0 : Int)).toNat = 0 from rfl] at hx390_0)
            (try rw [Addr.add_zero'] at hx390_0)
            replace hx390_0 := (HB.out.cell (World.block_lt_of_cell? w _ hx390_0)).trans hx390_0
            replace p390 := eq_true p390
            replace q390 := eq_true q390
            go_wp2_with (first | ((with_reducible refine gate_dst (N := 4) rfl ?_); (try (refine gate_guard (by rfl) ?_; dsimp only)); refine box_event ?hg (N := 4) ?hd (cs := #[.int .i64 0, .slice none 0 0, .slice none 0 0]) (t := 42) ?hr ?_; (case hd => rfl); (case hg => rfl); (case hr => first | (go_simp; done) | (go_simp; rfl)); intro gb391 hg w11 hbox hb; have n0_ := Aside0.mk (blk_below (g := gb388) (o := .cells #[.int .i64 0, .slice none 0 0, .slice none 0 0] 42 (0, 0)) (by (with_reducible repeat (first | refine blk_drewN ?_ _ | refine blk_drew ?_ | refine blk_alloc ?_ _)); exact BK388.out) hb); have n1_ := Aside0.mk (below_step (by repeat (first | (with_reducible first | exact HB.out | apply below_alloc | apply pw_below_drewN | apply below_drew1 | refine below_set ?_ GE388.out) | exact HB.out)) hb); have n2_ := Aside0.mk (hbox); have n3_ := Aside0.mk ((by rw [hg]; exact (below_size (by repeat (first | (with_reducible first | exact HB.out | apply below_alloc | apply pw_below_drewN | apply below_drew1 | refine below_set ?_ GE388.out) | exact HB.out))) : w.heap.size ≤ gb391)); have n4_ := Aside0.mk ((by rw [hg]; exact (below_size (by repeat (first | (with_reducible first | exact HB.out | apply below_alloc | apply pw_below_drewN | apply below_drew1 | refine below_set ?_ GE388.out) | exact HB.out))) : w.heap.size ≤ gb391)); have n5_ := Aside0.mk ((by rw [hg]; exact Nat.ne_of_lt (blk_lt (g := gb388) (o := .cells #[.int .i64 0, .slice none 0 0, .slice none 0 0] 42 (0, 0)) (by (with_reducible repeat (first | refine blk_drewN ?_ _ | refine blk_drew ?_ | refine blk_alloc ?_ _)); exact BK388.out)) : gb388 ≠ gb391)); have n6_ := Aside0.mk ((by rw [hg]; exact Nat.ne_of_gt (blk_lt (g := gb388) (o := .cells #[.int .i64 0, .slice none 0 0, .slice none 0 0] 42 (0, 0)) (by (with_reducible repeat (first | refine blk_drewN ?_ _ | refine blk_drew ?_ | refine blk_alloc ?_ _)); exact BK388.out)) : gb391 ≠ gb388)); clear BK388; clear HB; have BK388 := n0_; have HB := n1_; have BK391 := n2_; have GW391 := n3_; have GE391 := n4_; have NB388_391 := n5_; have NB391_388 := n6_; clear n0_ n1_ n2_ n3_ n4_ n5_ n6_; clear hb hbox hg; have hnb12 := NB391_388.out; have hnc12 := NB388_391.out; have hcz13_0 : w11.cell? ⟨gb391, 0, none⟩ = some (.int .i64 0) := (blk_cell BK391.out 0).trans rfl; have hcz13_1 : w11.cell? ⟨gb391, 1, none⟩ = some (.slice none 0 0) := (blk_cell BK391.out 1).trans rfl; have hcz13_2 : w11.cell? ⟨gb391, 2, none⟩ = some (.slice none 0 0) := (blk_cell BK391.out 2).trans rfl; have hfz13_0 := blk_frozen BK391.out 0; have hfz13_1 := blk_frozen BK391.out 1; have hfz13_2 := blk_frozen BK391.out 2; have p392 : 0 ≤ (1 : Int) := (by omega); have q392 : 1 < (l0.length : Int) := of_decide_eq_true (by first | (with_reducible assumption) | assumption); obtain ⟨ad392, e392, hx392_0⟩ := Kd.at_int HR0.out 1 p392 q392; obtain rfl : ad390 = ad392 := (by injection e392); (try simp only [show (1 : Int).toNat = 1 from rfl, Nat.reduceMul, Nat.reduceEqDiff, Go.Addr.add, ↓reduceIte] at hx392_0); have qi392 : (1 < l0.length) = True := eq_true (by omega); (try rw [show ((1 : Int)).toNat = 1 from rfl] at hx392_0); have hn392_0 : ad390.block ≠ gb391 := Nat.ne_of_lt (Nat.lt_of_lt_of_le (by have := World.block_lt_of_cell? _ _ hx392_0; first | rwa [add_block] at this | exact this) GW391.out); have hn392_1 : ad390.block ≠ gb391 := Nat.ne_of_lt (Nat.lt_of_lt_of_le (by have := World.block_lt_of_cell? _ _ hx392_0; first | rwa [add_block] at this | exact this) GW391.out); have hn392_2 : ad390.block ≠ gb391 := Nat.ne_of_lt (Nat.lt_of_lt_of_le (by have := World.block_lt_of_cell? _ _ hx392_0; first | rwa [add_block] at this | exact this) GW391.out); replace hx392_0 := (HB.out.cell (World.block_lt_of_cell? w _ hx392_0)).trans hx392_0; replace hx392_0 := (cell_far (p := ⟨gb391, 0, none⟩) (by first | (rw [add_block]; exact hn392_0) | (show (Addr.add _ _).block ≠ _; rw [add_block]; exact hn392_0) | exact hn392_0) (.int .i64 (wrap64 (rd l0 0)))).trans hx392_0; replace hx392_0 := (cell_far (p := ⟨gb391, 1, none⟩) (by first | (rw [add_block]; exact hn392_1) | (show (Addr.add _ _).block ≠ _; rw [add_block]; exact hn392_1) | exact hn392_1) (.slice none 0 0)).trans hx392_0; replace hx392_0 := (cell_far (p := ⟨gb391, 2, none⟩) (by first | (rw [add_block]; exact hn392_2) | (show (Addr.add _ _).block ≠ _; rw [add_block]; exact hn392_2) | exact hn392_2) (.slice none 0 0)).trans hx392_0; clear hn392_0; clear hn392_1; clear hn392_2; replace p392 := eq_true p392; replace q392 := eq_true q392))
            go_loopg [5, 34] kj1 (fun kq v5 v34 w' => ∃ (x5_2 : Int) (x34_2 : Int) (x389000_2 : Int) (x392001_2 : List Int) (u392001 : Value), v5 = .int .i64 x5_2 ∧ v34 = .int .u8 x34_2 ∧ Aside0 (impl_decode.l0 kq l0 x5_2 (rd l0 1) x34_2 (wrap64 (rd l0 0)) x392001_2 = some (r1, r2, r3, r4)) ∧ Aside0 (kq ≤ kj1) ∧ Aside0 (Kd.R (Kd.int .u64) 23 w' w.heap.size (fun _ => True) u392001 x392001_2) ∧ Aside0 (w'.heap[gb388]? = some (.cells #[.int .i64 x389000_2, (.slice none 0 0), (.slice none 0 0)] 42 (0, 0))) ∧ Aside0 (w'.heap[gb391]? = some (.cells #[.int .i64 (wrap64 (rd l0 0)), u392001, (.slice none 0 0)] 42 (0, 0))) ∧ Aside0 (Below w.heap.size w w'))
            case atStart => exact ⟨(2), (0), (0), (([] : List Int)), (.slice none 0 0), (by first | rfl | (simp; done) | (simp [*]; done)), (by first | rfl | (simp; done) | (simp [*]; done)), H', ⟨Nat.le_refl _⟩, ⟨by first | exact Kd.R_nil _ _ _ _ _ | exact Kd.N_nil _ _ _ _ _ | exact Kd.V_nil _ _ _ _ _ | exact Kd.Q_nil _ _ _ _ _ | exact Kd.S_nil _ _ _ _ _⟩, ⟨by (with_reducible repeat (first | refine blk_drewN ?_ _ | refine blk_drew ?_ | refine blk_alloc ?_ _)); refine blk_far ?_ NB388_391.out _; (with_reducible repeat (first | refine blk_drewN ?_ _ | refine blk_drew ?_ | refine blk_alloc ?_ _)); refine blk_far ?_ NB388_391.out _; (with_reducible repeat (first | refine blk_drewN ?_ _ | refine blk_drew ?_ | refine blk_alloc ?_ _)); refine blk_far ?_ NB388_391.out _; (with_reducible repeat (first | refine blk_drewN ?_ _ | refine blk_drew ?_ | refine blk_alloc ?_ _)); exact BK388.out⟩, ⟨by (with_reducible repeat (first | refine blk_drewN ?_ _ | refine blk_drew ?_ | refine blk_alloc ?_ _)); refine blk_put (cs := #[.int .i64 (wrap64 (rd l0 0)), .slice none 0 0, .slice none 0 0]) ?_ 2 _ rfl; (with_reducible repeat (first | refine blk_drewN ?_ _ | refine blk_drew ?_ | refine blk_alloc ?_ _)); refine blk_put (cs := #[.int .i64 (wrap64 (rd l0 0)), .slice none 0 0, .slice none 0 0]) ?_ 1 _ rfl; (with_reducible repeat (first | refine blk_drewN ?_ _ | refine blk_drew ?_ | refine blk_alloc ?_ _)); refine blk_put (cs := #[.int .i64 0, .slice none 0 0, .slice none 0 0]) ?_ 0 _ rfl; (with_reducible repeat (first | refine blk_drewN ?_ _ | refine blk_drew ?_ | refine blk_alloc ?_ _)); exact BK391.out⟩, ⟨by repeat (first | (with_reducible first | exact HB.out | apply below_alloc | apply pw_below_drewN | apply below_drew1 | refine below_set ?_ GE388.out | refine below_set ?_ GE391.out) | exact HB.out)⟩⟩
            case round =>
              clear H'
              try clear c1
              try clear p2
              try clear p3
              try clear q3
              try clear hx3
              try clear qi3
              try clear c4
              try clear c4b0
              try clear c4b1
              try clear c5
              try clear c5b0
              try clear c5b1
              try clear c6
              try clear c6b0
              try clear c6b1
              try clear p6
              try clear c7
              try clear c9
              try clear c9b0
              try clear c9b1
              try clear c10
              try clear c10b0
              try clear c10b1
              try clear c12
              try clear hcz13_0
              try clear hcz13_1
              try clear hcz13_2
              try clear hcz8_0
              try clear hcz8_1
              try clear hcz8_2
              try clear hfz13_0
              try clear hfz13_1
              try clear hfz13_2
              try clear hfz8_0
              try clear hfz8_1
              try clear hfz8_2
              try clear hx389_0
              try clear hx390_0
              try clear hx392_0
              try clear p2
              try clear p3
              try clear p389
              try clear p390
              try clear p392
              try clear q3
              try clear q389
              try clear q390
              try clear q392
              obtain ⟨x5_2, x34_2, x389000_2, x392001_2, u392001, rfl, rfl, HA, HK2, HO_392001, BK388, BK391, HB⟩ := hrel
              cases gk with
              | zero => exact absurd HA.out (by simp [impl_decode.l0])
              | succ k2 =>
                have H := HA.out
                clear HA
                simp only [impl_decode.l0] at H
                by_cases c14 : x34_2 < (rd l0 1)
                · rw [if_pos c14] at H
                  have c14b0 : decide (x34_2 < (rd l0 1)) = true := decide_eq_true c14
                  clear c14
                  replace H := Option.bind_eq_some_iff.mp H
                  obtain ⟨⟨t393, t394, t395⟩, A150, H⟩ := H
                  replace H : (if t395 = true then (if x392001_2.length < 17592186044416 then (impl_decode.l0 k2 l0 t394 (rd l0 1) ((x34_2 + 1) % 256) (wrap64 (rd l0 0)) (x392001_2 ++ [t393])) else (none)) else (some (0, ([] : List Int), ([] : List ByteArray), false))) = some (r1, r2, r3, r4) := H
                  have A15 := Aside0.mk A150
                  clear A150
                  by_cases c16 : t395 = true
                  · subst c16
                    have H1 : (if x392001_2.length < 17592186044416 then (impl_decode.l0 k2 l0 t394 (rd l0 1) ((x34_2 + 1) % 256) (wrap64 (rd l0 0)) (x392001_2 ++ [t393])) else (none)) = some (r1, r2, r3, r4) := by rw [if_pos rfl] at H; exact H
                    clear H
                    have H := H1
                    clear H1
                    by_cases c17 : x392001_2.length < 17592186044416
                    · rw [if_pos c17] at H
                      have LMc17 := Aside0.mk c17
                      clear c17
                      obtain ⟨y396, hy396⟩ : ∃ y_ : List Int, y_ = (x392001_2 ++ [t393]) := ⟨_, rfl⟩
                      replace H : (impl_decode.l0 k2 l0 t394 (rd l0 1) ((x34_2 + 1) % 256) (wrap64 (rd l0 0)) y396) = some (r1, r2, r3, r4) := by first | (rw [hy396]; with_reducible exact H) | (have H2_ := (Option.bind_some _ _).symm.trans H; rw [hy396]; with_reducible exact H2_) | (have H2_ := (Option.bind_some _ _).symm.trans H; with_reducible exact H2_) | with_reducible exact H | (rw [hy396]; exact H) | exact H
                      have Ny396 := Aside0.mk hy396
                      clear hy396
                      have H' := Aside0.mk H
                      clear H
                      go_wp2_with (first | ((with_reducible refine gate_callee (f := 51) rfl ?_); refine goesL_ (some 39) rfl rfl Try.func51 (by kernel_rfl) rfl #[.slice (some ad390) l0.length c0, .int .i64 x5_2] rfl (by (try simp only [List.map_toArray, List.map_cons, List.map_nil]); first | done | rfl | (simp only [List.length_drop, List.length_take]; rfl)) ?_; (with_reducible refine (impl_getVar.calls k2 _ _ l0 x5_2 t393 t394 true _ ?side1 ?side2 A15.out).mono ?_); (case side1 => repeat (first | exact (Kd.C_below HR0.out HB.out) | (with_reducible refine Kd.C_alloc ?_ _) | (with_reducible refine Kd.C_drewN ?_ _) | (with_reducible refine Kd.C_drew ?_))); (case side2 => exact HC0.out); rintro e w' ⟨rfl, ⟨nd, rfl⟩⟩; refine ⟨_, rfl, ?_⟩; (try (rw [drewN_self wr]; generalize hq_ : World.drewN wr _ = wr; have n0_ : Aside0 (Kd.R (Kd.int .u64) 23 wr w.heap.size (fun _ => True) u392001 x392001_2) := ⟨by rw [← hq_]; exact (by (with_reducible repeat (first | apply Kd.R_alloc | apply Kd.R_drewN | apply Kd.R_drew)); exact HO_392001.out)⟩; have n1_ : Aside0 (wr.heap[gb388]? = some (.cells #[.int .i64 x389000_2, .slice none 0 0, .slice none 0 0] 42 (0, 0))) := ⟨by rw [← hq_]; exact (by (with_reducible repeat (first | refine blk_drewN ?_ _ | refine blk_drew ?_ | refine blk_alloc ?_ _)); exact BK388.out)⟩; have n2_ : Aside0 (wr.heap[gb391]? = some (.cells #[.int .i64 (wrap64 (rd l0 0)), u392001, .slice none 0 0] 42 (0, 0))) := ⟨by rw [← hq_]; exact (by (with_reducible repeat (first | refine blk_drewN ?_ _ | refine blk_drew ?_ | refine blk_alloc ?_ _)); exact BK391.out)⟩; have n3_ : Aside0 (Below w.heap.size w wr) := ⟨by rw [← hq_]; exact (by repeat (first | (with_reducible first | exact HB.out | apply below_alloc | apply pw_below_drewN | apply below_drew1 | refine below_set ?_ GE388.out | refine below_set ?_ GE391.out) | exact HB.out))⟩; clear HO_392001 BK388 BK391 HB hq_; have HO_392001 := n0_; have BK388 := n1_; have BK391 := n2_; have HB := n3_; clear n0_ n1_ n2_ n3_)); have hnb18 := NB391_388.out; have hnc18 := NB388_391.out; have hcz19_0 : wr.cell? ⟨gb391, 0, none⟩ = some (.int .i64 (wrap64 (rd l0 0))) := (blk_cell BK391.out 0).trans rfl; have hcz19_1 : wr.cell? ⟨gb391, 1, none⟩ = some (u392001) := (blk_cell BK391.out 1).trans rfl; have hcz19_2 : wr.cell? ⟨gb391, 2, none⟩ = some (.slice none 0 0) := (blk_cell BK391.out 2).trans rfl; have hfz19_0 := blk_frozen BK391.out 0; have hfz19_1 := blk_frozen BK391.out 1; have hfz19_2 := blk_frozen BK391.out 2) | ((with_reducible refine gate_builtin (b := .append) (xs := #[.tmp 47, .tmp 49]) rfl ?_); (try (refine gate_guard (by rfl) ?_; dsimp only)); at_builtin; refine Kd.R_append (Kd.int .u64) (w0 := w) w.heap.size rfl (.tmp 47) (.tmp 49) 36 23 (.int .u64 0) 8 rfl Try.underlying36 info23 rfl (by decide) (by omega) u392001 x392001_2 t393 [.int .u64 t393] (fun _ => True) (fun _ => False) rfl rfl ?aP (fun _ hk => hk.elim) ?aF ?aO ?aB ?aS ?aL ?_; (case aP => exact rfl); (case aB => exact (by repeat (first | (with_reducible first | exact HB.out | apply below_alloc | apply pw_below_drewN | apply below_drew1 | refine below_set ?_ GE388.out | refine below_set ?_ GE391.out) | exact HB.out))); (case aF => exact (fun _ _ => trivial)); (case aO => exact (by (with_reducible repeat (first | apply Kd.R_alloc | apply Kd.R_drewN | apply Kd.R_drew)); exact HO_392001.out)); (case aS => exact (below_size (by repeat (first | (with_reducible first | exact HB.out | apply below_alloc | apply pw_below_drewN | apply below_drew1 | refine below_set ?_ GE388.out | refine below_set ?_ GE391.out) | exact HB.out)))); (case aL => have := LMc17.out; omega); intro v397 w20 ho hb hg hat; rw [← Ny396.out] at ho; have n0_ := Aside0.mk (blk_grown (g := gb388) (o := .cells #[.int .i64 x389000_2, .slice none 0 0, .slice none 0 0] 42 (0, 0)) (by (with_reducible repeat (first | refine blk_drewN ?_ _ | refine blk_drew ?_ | refine blk_alloc ?_ _)); exact BK388.out) hg (Kd.R_ne HO_392001.out BK388.out (by decide))); have n1_ := Aside0.mk (blk_grown (g := gb391) (o := .cells #[.int .i64 (wrap64 (rd l0 0)), u392001, .slice none 0 0] 42 (0, 0)) (by (with_reducible repeat (first | refine blk_drewN ?_ _ | refine blk_drew ?_ | refine blk_alloc ?_ _)); exact BK391.out) hg (Kd.R_ne HO_392001.out BK391.out (by decide))); have n2_ := Aside0.mk (hb); have n3_ := Aside0.mk (ho); clear BK388; clear BK391; clear HB; clear HO_392001; have BK388 := n0_; have BK391 := n1_; have HB := n2_; have HO398 := n3_; clear n0_ n1_ n2_ n3_; clear ho hb hg hat; obtain ⟨Ao21, co21, eo21⟩ := Kd.R_slice HO398.out; subst eo21; have hcz22_0 : w20.cell? ⟨gb391, 0, none⟩ = some (.int .i64 (wrap64 (rd l0 0))) := (blk_cell BK391.out 0).trans rfl; have hcz22_1 : w20.cell? ⟨gb391, 1, none⟩ = some (u392001) := (blk_cell BK391.out 1).trans rfl; have hcz22_2 : w20.cell? ⟨gb391, 2, none⟩ = some (.slice none 0 0) := (blk_cell BK391.out 2).trans rfl; have hfz22_0 := blk_frozen BK391.out 0; have hfz22_1 := blk_frozen BK391.out 1; have hfz22_2 := blk_frozen BK391.out 2))
                      go_roundg k2
                      case measure => have := HJ1.out; have := HK2.out; omega
                      case rel => exact ⟨(t394), ((x34_2 + 1) % 256), (x389000_2), (y396), (.slice Ao21 y396.length co21), (by first | rfl | (simp; done) | (simp [*]; done)), (by first | rfl | (simp; done) | (simp [*]; done)), H', ⟨by have := HJ1.out; have := HK2.out; omega⟩, ⟨by (with_reducible repeat (first | apply Kd.R_alloc | apply Kd.R_drewN | apply Kd.R_drew)); exact Kd.R_mono (Kd.R_far (p := ⟨gb391, 1, none⟩) (Kd.R_types HO398.out BK391.out (by decide)) (fun _ hk => hk.2) (.slice Ao21 y396.length co21)) (fun _ hk => trivial)⟩, ⟨by (with_reducible repeat (first | refine blk_drewN ?_ _ | refine blk_drew ?_ | refine blk_alloc ?_ _)); refine blk_far ?_ NB388_391.out _; (with_reducible repeat (first | refine blk_drewN ?_ _ | refine blk_drew ?_ | refine blk_alloc ?_ _)); exact BK388.out⟩, ⟨by (with_reducible repeat (first | refine blk_drewN ?_ _ | refine blk_drew ?_ | refine blk_alloc ?_ _)); refine blk_put (cs := #[.int .i64 (wrap64 (rd l0 0)), u392001, .slice none 0 0]) ?_ 1 _ rfl; (with_reducible repeat (first | refine blk_drewN ?_ _ | refine blk_drew ?_ | refine blk_alloc ?_ _)); exact BK391.out⟩, ⟨by repeat (first | (with_reducible first | exact HB.out | apply below_alloc | apply pw_below_drewN | apply below_drew1 | refine below_set ?_ GE388.out | refine below_set ?_ GE391.out) | exact HB.out)⟩⟩
                    · rw [if_neg c17] at H
                      exact absurd H (by simp)
                  · replace c16 := Bool.eq_false_iff.mpr c16
                    subst c16
                    have H1 : (some (0, ([] : List Int), ([] : List ByteArray), false)) = some (r1, r2, r3, r4) := by rw [if_neg (show ¬ (false = true) by decide)] at H; exact H
                    clear H
                    have H := H1
                    clear H1
                    simp only [Option.some.injEq, Prod.mk.injEq] at H
                    obtain ⟨rfl, rfl, rfl, rfl⟩ := H
                    go_wp2_with (first | ((with_reducible refine gate_callee (f := 51) rfl ?_); refine goesL_ (some 39) rfl rfl Try.func51 (by kernel_rfl) rfl #[.slice (some ad390) l0.length c0, .int .i64 x5_2] rfl (by (try simp only [List.map_toArray, List.map_cons, List.map_nil]); first | done | rfl | (simp only [List.length_drop, List.length_take]; rfl)) ?_; (with_reducible refine (impl_getVar.calls k2 _ _ l0 x5_2 t393 t394 false _ ?side1 ?side2 A15.out).mono ?_); (case side1 => repeat (first | exact (Kd.C_below HR0.out HB.out) | (with_reducible refine Kd.C_alloc ?_ _) | (with_reducible refine Kd.C_drewN ?_ _) | (with_reducible refine Kd.C_drew ?_))); (case side2 => exact HC0.out); rintro e w' ⟨rfl, ⟨nd, rfl⟩⟩; refine ⟨_, rfl, ?_⟩; (try (rw [drewN_self wr]; generalize hq_ : World.drewN wr _ = wr; have n0_ : Aside0 (Kd.R (Kd.int .u64) 23 wr w.heap.size (fun _ => True) u392001 x392001_2) := ⟨by rw [← hq_]; exact (by (with_reducible repeat (first | apply Kd.R_alloc | apply Kd.R_drewN | apply Kd.R_drew)); exact HO_392001.out)⟩; have n1_ : Aside0 (wr.heap[gb388]? = some (.cells #[.int .i64 x389000_2, .slice none 0 0, .slice none 0 0] 42 (0, 0))) := ⟨by rw [← hq_]; exact (by (with_reducible repeat (first | refine blk_drewN ?_ _ | refine blk_drew ?_ | refine blk_alloc ?_ _)); exact BK388.out)⟩; have n2_ : Aside0 (wr.heap[gb391]? = some (.cells #[.int .i64 (wrap64 (rd l0 0)), u392001, .slice none 0 0] 42 (0, 0))) := ⟨by rw [← hq_]; exact (by (with_reducible repeat (first | refine blk_drewN ?_ _ | refine blk_drew ?_ | refine blk_alloc ?_ _)); exact BK391.out)⟩; have n3_ : Aside0 (Below w.heap.size w wr) := ⟨by rw [← hq_]; exact (by repeat (first | (with_reducible first | exact HB.out | apply below_alloc | apply pw_below_drewN | apply below_drew1 | refine below_set ?_ GE388.out | refine below_set ?_ GE391.out) | exact HB.out))⟩; clear HO_392001 BK388 BK391 HB hq_; have HO_392001 := n0_; have BK388 := n1_; have BK391 := n2_; have HB := n3_; clear n0_ n1_ n2_ n3_)); have hnb23 := NB388_391.out; have hnc23 := NB391_388.out; have hcz24_0 : wr.cell? ⟨gb388, 0, none⟩ = some (.int .i64 x389000_2) := (blk_cell BK388.out 0).trans rfl; have hcz24_1 : wr.cell? ⟨gb388, 1, none⟩ = some (.slice none 0 0) := (blk_cell BK388.out 1).trans rfl; have hcz24_2 : wr.cell? ⟨gb388, 2, none⟩ = some (.slice none 0 0) := (blk_cell BK388.out 2).trans rfl; have hfz24_0 := blk_frozen BK388.out 0; have hfz24_1 := blk_frozen BK388.out 1; have hfz24_2 := blk_frozen BK388.out 2))
                    refine bodyPost_ret (results_ct rfl _ _ gb388 42 #[.int .i64 0, .slice none 0 0, .slice none 0 0] (0, 0) _ rfl (by (with_reducible repeat (first | refine blk_drewN ?_ _ | refine blk_drew ?_ | refine blk_alloc ?_ _)); refine blk_put (cs := #[.int .i64 0, .slice none 0 0, .slice none 0 0]) ?_ 2 _ rfl; (with_reducible repeat (first | refine blk_drewN ?_ _ | refine blk_drew ?_ | refine blk_alloc ?_ _)); refine blk_put (cs := #[.int .i64 0, .slice none 0 0, .slice none 0 0]) ?_ 1 _ rfl; (with_reducible repeat (first | refine blk_drewN ?_ _ | refine blk_drew ?_ | refine blk_alloc ?_ _)); refine blk_put (cs := #[.int .i64 x389000_2, .slice none 0 0, .slice none 0 0]) ?_ 0 _ rfl; (with_reducible repeat (first | refine blk_drewN ?_ _ | refine blk_drew ?_ | refine blk_alloc ?_ _)); exact BK388.out) Try.underlying42 rfl (by kernel_rfl)) rfl ?_
                    exact ⟨_, _, by first | rfl | (simp [errW_none, errW_some] <;> rfl) | (simp [*, errW_none, errW_some] <;> rfl), by first | exact Kd.R_nil _ _ _ _ _ | exact Kd.N_nil _ _ _ _ _ | exact Kd.V_nil _ _ _ _ _ | exact Kd.Q_nil _ _ _ _ _ | exact Kd.S_nil _ _ _ _ _, by first | exact Kd.R_nil _ _ _ _ _ | exact Kd.N_nil _ _ _ _ _ | exact Kd.V_nil _ _ _ _ _ | exact Kd.Q_nil _ _ _ _ _ | exact Kd.S_nil _ _ _ _ _, by repeat (first | (with_reducible first | exact HB.out | apply below_alloc | apply pw_below_drewN | apply below_drew1 | refine below_set ?_ GE388.out | refine below_set ?_ GE391.out) | exact HB.out)⟩
                · rw [if_neg c14] at H
                  have c14b0 : decide (x34_2 < (rd l0 1)) = false := decide_eq_false c14
                  clear c14
                  by_cases c25 : x5_2 ≥ (l0.length : Int)
                  · rw [if_pos c25] at H
                    have c25b0 : decide ((l0.length : Int) ≤ x5_2) = true := decide_eq_true c25
                    clear c25
                    simp only [Option.some.injEq, Prod.mk.injEq] at H
                    obtain ⟨rfl, rfl, rfl, rfl⟩ := H
                    have hnb26 := NB388_391.out
                    have hnc26 := NB391_388.out
                    have hcz27_0 : wr.cell? ⟨gb388, 0, none⟩ = some (.int .i64 x389000_2) := (blk_cell BK388.out 0).trans rfl
                    have hcz27_1 : wr.cell? ⟨gb388, 1, none⟩ = some (.slice none 0 0) := (blk_cell BK388.out 1).trans rfl
                    have hcz27_2 : wr.cell? ⟨gb388, 2, none⟩ = some (.slice none 0 0) := (blk_cell BK388.out 2).trans rfl
                    have hfz27_0 := blk_frozen BK388.out 0
                    have hfz27_1 := blk_frozen BK388.out 1
                    have hfz27_2 := blk_frozen BK388.out 2
                    go_wp2
                    refine bodyPost_ret (results_ct rfl _ _ gb388 42 #[.int .i64 0, .slice none 0 0, .slice none 0 0] (0, 0) _ rfl (by (with_reducible repeat (first | refine blk_drewN ?_ _ | refine blk_drew ?_ | refine blk_alloc ?_ _)); refine blk_put (cs := #[.int .i64 0, .slice none 0 0, .slice none 0 0]) ?_ 2 _ rfl; (with_reducible repeat (first | refine blk_drewN ?_ _ | refine blk_drew ?_ | refine blk_alloc ?_ _)); refine blk_put (cs := #[.int .i64 0, .slice none 0 0, .slice none 0 0]) ?_ 1 _ rfl; (with_reducible repeat (first | refine blk_drewN ?_ _ | refine blk_drew ?_ | refine blk_alloc ?_ _)); refine blk_put (cs := #[.int .i64 x389000_2, .slice none 0 0, .slice none 0 0]) ?_ 0 _ rfl; (with_reducible repeat (first | refine blk_drewN ?_ _ | refine blk_drew ?_ | refine blk_alloc ?_ _)); exact BK388.out) Try.underlying42 rfl (by kernel_rfl)) rfl ?_
                    exact ⟨_, _, by first | rfl | (simp [errW_none, errW_some] <;> rfl) | (simp [*, errW_none, errW_some] <;> rfl), by first | exact Kd.R_nil _ _ _ _ _ | exact Kd.N_nil _ _ _ _ _ | exact Kd.V_nil _ _ _ _ _ | exact Kd.Q_nil _ _ _ _ _ | exact Kd.S_nil _ _ _ _ _, by first | exact Kd.R_nil _ _ _ _ _ | exact Kd.N_nil _ _ _ _ _ | exact Kd.V_nil _ _ _ _ _ | exact Kd.Q_nil _ _ _ _ _ | exact Kd.S_nil _ _ _ _ _, by repeat (first | (with_reducible first | exact HB.out | apply below_alloc | apply pw_below_drewN | apply below_drew1 | refine below_set ?_ GE388.out | refine below_set ?_ GE391.out) | exact HB.out)⟩
                  · rw [if_neg c25] at H
                    have c25b0 : decide ((l0.length : Int) ≤ x5_2) = false := decide_eq_false c25
                    clear c25
                    by_cases c28 : 0 ≤ x5_2
                    · rw [if_pos c28] at H
                      have c28b0 : decide (0 ≤ x5_2) = true := decide_eq_true c28
                      clear c28
                      by_cases c29 : x5_2 < (l0.length : Int)
                      · rw [if_pos c29] at H
                        have c29b0 : decide (x5_2 < (l0.length : Int)) = true := decide_eq_true c29
                        clear c29
                        have H' := Aside0.mk H
                        clear H
                        have p399 : 0 ≤ (x5_2 : Int) := of_decide_eq_true (by first | (with_reducible assumption) | assumption)
                        have q399 : x5_2 < (l0.length : Int) := of_decide_eq_true (by first | (with_reducible assumption) | assumption)
                        obtain ⟨ad399, e399, hx399_0⟩ := Kd.at_int HR0.out x5_2 p399 q399
                        obtain rfl : ad390 = ad399 := (by injection e399)
                        replace hx399_0 := (HB.out.cell (World.block_lt_of_cell? w _ hx399_0)).trans hx399_0
                        replace p399 := eq_true p399
                        replace q399 := eq_true q399
                        go_wp2
                        go_loopg [5, 67] k2 (fun kq v5 v67 w' => ∃ (x5_3 : Int) (x67_3 : Int) (x389000_3 : Int) (x392002_3 : List ByteArray) (u392002 : Value), v5 = .int .i64 x5_3 ∧ v67 = .int .i64 x67_3 ∧ Aside0 (impl_decode.l1 kq l0 x5_3 (wrap64 (rd l0 x5_2)) x67_3 (wrap64 (rd l0 0)) x392001_2 x392002_3 = some (r1, r2, r3, r4)) ∧ Aside0 (kq ≤ k2) ∧ Aside0 (Kd.R (Kd.int .u64) 23 w' w.heap.size (fun _ => True) u392001 x392001_2) ∧ Aside0 (Kd.R Kd.string 9 w' w.heap.size (fun _ => True) u392002 x392002_3) ∧ Aside0 (w'.heap[gb388]? = some (.cells #[.int .i64 x389000_3, (.slice none 0 0), (.slice none 0 0)] 42 (0, 0))) ∧ Aside0 (w'.heap[gb391]? = some (.cells #[.int .i64 (wrap64 (rd l0 0)), u392001, u392002] 42 (0, 0))) ∧ Aside0 (Below w.heap.size w w'))
                        case atStart => exact ⟨(wrap64 (x5_2 + 1)), (0), (x389000_2), (([] : List ByteArray)), (.slice none 0 0), (by first | rfl | (simp; done) | (simp [*]; done)), (by first | rfl | (simp; done) | (simp [*]; done)), H', ⟨Nat.le_refl _⟩, ⟨by (with_reducible repeat (first | apply Kd.R_alloc | apply Kd.R_drewN | apply Kd.R_drew)); exact HO_392001.out⟩, ⟨by first | exact Kd.R_nil _ _ _ _ _ | exact Kd.N_nil _ _ _ _ _ | exact Kd.V_nil _ _ _ _ _ | exact Kd.Q_nil _ _ _ _ _ | exact Kd.S_nil _ _ _ _ _⟩, ⟨by (with_reducible repeat (first | refine blk_drewN ?_ _ | refine blk_drew ?_ | refine blk_alloc ?_ _)); exact BK388.out⟩, ⟨by (with_reducible repeat (first | refine blk_drewN ?_ _ | refine blk_drew ?_ | refine blk_alloc ?_ _)); exact BK391.out⟩, ⟨by repeat (first | (with_reducible first | exact HB.out | apply below_alloc | apply pw_below_drewN | apply below_drew1 | refine below_set ?_ GE388.out | refine below_set ?_ GE391.out) | exact HB.out)⟩⟩
                        case round =>
                          clear H'
                          try clear c1
                          try clear c2
                          try clear p2
                          try clear p3
                          try clear q3
                          try clear hx3
                          try clear qi3
                          try clear c4
                          try clear c4b0
                          try clear c4b1
                          try clear c5
                          try clear c5b0
                          try clear c5b1
                          try clear c6
                          try clear c6b0
                          try clear c6b1
                          try clear p6
                          try clear c7
                          try clear c9
                          try clear c9b0
                          try clear c9b1
                          try clear c10
                          try clear c10b0
                          try clear c10b1
                          try clear c12
                          try clear c14
                          try clear c14b0
                          try clear c16
                          try clear c17
                          try clear c18
                          try clear c23
                          try clear c25
                          try clear c25b0
                          try clear c26
                          try clear c28
                          try clear c28b0
                          try clear c29
                          try clear c29b0
                          try clear hcz13_0
                          try clear hcz13_1
                          try clear hcz13_2
                          try clear hcz19_0
                          try clear hcz19_1
                          try clear hcz19_2
                          try clear hcz22_0
                          try clear hcz22_1
                          try clear hcz22_2
                          try clear hcz24_0
                          try clear hcz24_1
                          try clear hcz24_2
                          try clear hcz27_0
                          try clear hcz27_1
                          try clear hcz27_2
                          try clear hcz8_0
                          try clear hcz8_1
                          try clear hcz8_2
                          try clear hfz13_0
                          try clear hfz13_1
                          try clear hfz13_2
                          try clear hfz19_0
                          try clear hfz19_1
                          try clear hfz19_2
                          try clear hfz22_0
                          try clear hfz22_1
                          try clear hfz22_2
                          try clear hfz24_0
                          try clear hfz24_1
                          try clear hfz24_2
                          try clear hfz27_0
                          try clear hfz27_1
                          try clear hfz27_2
                          try clear hfz8_0
                          try clear hfz8_1
                          try clear hfz8_2
                          try clear hx389_0
                          try clear hx390_0
                          try clear hx392_0
                          try clear hx399_0
                          try clear p2
                          try clear p3
                          try clear p389
                          try clear p390
                          try clear p392
                          try clear p399
                          try clear p6
                          try clear q3
                          try clear q389
                          try clear q390
                          try clear q392
                          try clear q399
                          obtain ⟨x5_3, x67_3, x389000_3, x392002_3, u392002, rfl, rfl, HA, HK3, HO_392001, HO_392002, BK388, BK391, HB⟩ := hrel
                          cases gk with
                          | zero => exact absurd HA.out (by simp [impl_decode.l1])
                          | succ k3 =>
                            have H := HA.out
                            clear HA
                            simp only [impl_decode.l1] at H
                            by_cases c30 : x67_3 < (wrap64 (rd l0 x5_2))
                            · rw [if_pos c30] at H
                              have c30b0 : decide (x67_3 < (wrap64 (rd l0 x5_2))) = true := decide_eq_true c30
                              clear c30
                              by_cases c31 : x5_3 ≥ (l0.length : Int)
                              · rw [if_pos c31] at H
                                have c31b0 : decide ((l0.length : Int) ≤ x5_3) = true := decide_eq_true c31
                                clear c31
                                simp only [Option.some.injEq, Prod.mk.injEq] at H
                                obtain ⟨rfl, rfl, rfl, rfl⟩ := H
                                have hnb32 := NB388_391.out
                                have hnc32 := NB391_388.out
                                have hcz33_0 : wr.cell? ⟨gb388, 0, none⟩ = some (.int .i64 x389000_3) := (blk_cell BK388.out 0).trans rfl
                                have hcz33_1 : wr.cell? ⟨gb388, 1, none⟩ = some (.slice none 0 0) := (blk_cell BK388.out 1).trans rfl
                                have hcz33_2 : wr.cell? ⟨gb388, 2, none⟩ = some (.slice none 0 0) := (blk_cell BK388.out 2).trans rfl
                                have hfz33_0 := blk_frozen BK388.out 0
                                have hfz33_1 := blk_frozen BK388.out 1
                                have hfz33_2 := blk_frozen BK388.out 2
                                go_wp2
                                refine bodyPost_ret (results_ct rfl _ _ gb388 42 #[.int .i64 0, .slice none 0 0, .slice none 0 0] (0, 0) _ rfl (by (with_reducible repeat (first | refine blk_drewN ?_ _ | refine blk_drew ?_ | refine blk_alloc ?_ _)); refine blk_put (cs := #[.int .i64 0, .slice none 0 0, .slice none 0 0]) ?_ 2 _ rfl; (with_reducible repeat (first | refine blk_drewN ?_ _ | refine blk_drew ?_ | refine blk_alloc ?_ _)); refine blk_put (cs := #[.int .i64 0, .slice none 0 0, .slice none 0 0]) ?_ 1 _ rfl; (with_reducible repeat (first | refine blk_drewN ?_ _ | refine blk_drew ?_ | refine blk_alloc ?_ _)); refine blk_put (cs := #[.int .i64 x389000_3, .slice none 0 0, .slice none 0 0]) ?_ 0 _ rfl; (with_reducible repeat (first | refine blk_drewN ?_ _ | refine blk_drew ?_ | refine blk_alloc ?_ _)); exact BK388.out) Try.underlying42 rfl (by kernel_rfl)) rfl ?_
                                exact ⟨_, _, by first | rfl | (simp [errW_none, errW_some] <;> rfl) | (simp [*, errW_none, errW_some] <;> rfl), by first | exact Kd.R_nil _ _ _ _ _ | exact Kd.N_nil _ _ _ _ _ | exact Kd.V_nil _ _ _ _ _ | exact Kd.Q_nil _ _ _ _ _ | exact Kd.S_nil _ _ _ _ _, by first | exact Kd.R_nil _ _ _ _ _ | exact Kd.N_nil _ _ _ _ _ | exact Kd.V_nil _ _ _ _ _ | exact Kd.Q_nil _ _ _ _ _ | exact Kd.S_nil _ _ _ _ _, by repeat (first | (with_reducible first | exact HB.out | apply below_alloc | apply pw_below_drewN | apply below_drew1 | refine below_set ?_ GE388.out | refine below_set ?_ GE391.out) | exact HB.out)⟩
                              · rw [if_neg c31] at H
                                have c31b0 : decide ((l0.length : Int) ≤ x5_3) = false := decide_eq_false c31
                                clear c31
                                by_cases c34 : 0 ≤ x5_3
                                · rw [if_pos c34] at H
                                  have c34b0 : decide (0 ≤ x5_3) = true := decide_eq_true c34
                                  clear c34
                                  by_cases c35 : x5_3 < (l0.length : Int)
                                  · rw [if_pos c35] at H
                                    have c35b0 : decide (x5_3 < (l0.length : Int)) = true := decide_eq_true c35
                                    clear c35
                                    by_cases c36 : (wrap64 ((wrap64 (x5_3 + 1)) + (wrap64 (rd l0 x5_3)))) > (l0.length : Int)
                                    · rw [if_pos c36] at H
                                      have c36b0 : decide ((l0.length : Int) < (wrap64 ((wrap64 (x5_3 + 1)) + (wrap64 (rd l0 x5_3))))) = true := decide_eq_true c36
                                      clear c36
                                      simp only [Option.some.injEq, Prod.mk.injEq] at H
                                      obtain ⟨rfl, rfl, rfl, rfl⟩ := H
                                      have p400 : 0 ≤ (x5_3 : Int) := of_decide_eq_true (by first | (with_reducible assumption) | assumption)
                                      have q400 : x5_3 < (l0.length : Int) := of_decide_eq_true (by first | (with_reducible assumption) | assumption)
                                      obtain ⟨ad400, e400, hx400_0⟩ := Kd.at_int HR0.out x5_3 p400 q400
                                      obtain rfl : ad390 = ad400 := (by injection e400)
                                      replace hx400_0 := (HB.out.cell (World.block_lt_of_cell? w _ hx400_0)).trans hx400_0
                                      replace p400 := eq_true p400
                                      replace q400 := eq_true q400
                                      have hnb37 := NB388_391.out
                                      have hnc37 := NB391_388.out
                                      have hcz38_0 : wr.cell? ⟨gb388, 0, none⟩ = some (.int .i64 x389000_3) := (blk_cell BK388.out 0).trans rfl
                                      have hcz38_1 : wr.cell? ⟨gb388, 1, none⟩ = some (.slice none 0 0) := (blk_cell BK388.out 1).trans rfl
                                      have hcz38_2 : wr.cell? ⟨gb388, 2, none⟩ = some (.slice none 0 0) := (blk_cell BK388.out 2).trans rfl
                                      have hfz38_0 := blk_frozen BK388.out 0
                                      have hfz38_1 := blk_frozen BK388.out 1
                                      have hfz38_2 := blk_frozen BK388.out 2
                                      go_wp2
                                      refine bodyPost_ret (results_ct rfl _ _ gb388 42 #[.int .i64 0, .slice none 0 0, .slice none 0 0] (0, 0) _ rfl (by (with_reducible repeat (first | refine blk_drewN ?_ _ | refine blk_drew ?_ | refine blk_alloc ?_ _)); refine blk_put (cs := #[.int .i64 0, .slice none 0 0, .slice none 0 0]) ?_ 2 _ rfl; (with_reducible repeat (first | refine blk_drewN ?_ _ | refine blk_drew ?_ | refine blk_alloc ?_ _)); refine blk_put (cs := #[.int .i64 0, .slice none 0 0, .slice none 0 0]) ?_ 1 _ rfl; (with_reducible repeat (first | refine blk_drewN ?_ _ | refine blk_drew ?_ | refine blk_alloc ?_ _)); refine blk_put (cs := #[.int .i64 x389000_3, .slice none 0 0, .slice none 0 0]) ?_ 0 _ rfl; (with_reducible repeat (first | refine blk_drewN ?_ _ | refine blk_drew ?_ | refine blk_alloc ?_ _)); exact BK388.out) Try.underlying42 rfl (by kernel_rfl)) rfl ?_
                                      exact ⟨_, _, by first | rfl | (simp [errW_none, errW_some] <;> rfl) | (simp [*, errW_none, errW_some] <;> rfl), by first | exact Kd.R_nil _ _ _ _ _ | exact Kd.N_nil _ _ _ _ _ | exact Kd.V_nil _ _ _ _ _ | exact Kd.Q_nil _ _ _ _ _ | exact Kd.S_nil _ _ _ _ _, by first | exact Kd.R_nil _ _ _ _ _ | exact Kd.N_nil _ _ _ _ _ | exact Kd.V_nil _ _ _ _ _ | exact Kd.Q_nil _ _ _ _ _ | exact Kd.S_nil _ _ _ _ _, by repeat (first | (with_reducible first | exact HB.out | apply below_alloc | apply pw_below_drewN | apply below_drew1 | refine below_set ?_ GE388.out | refine below_set ?_ GE391.out) | exact HB.out)⟩
                                    · rw [if_neg c36] at H
                                      have c36b0 : decide ((l0.length : Int) < (wrap64 ((wrap64 (x5_3 + 1)) + (wrap64 (rd l0 x5_3))))) = false := decide_eq_false c36
                                      clear c36
                                      obtain ⟨ji39, hji39⟩ : ∃ j_ : Int, (wrap64 (x5_3 + 1)) = j_ := ⟨_, rfl⟩
                                      replace H : (if 0 ≤ (ji39) then (if (ji39) ≤ (wrap64 ((ji39) + (wrap64 (rd l0 x5_3)))) then (if (wrap64 ((ji39) + (wrap64 (rd l0 x5_3)))) ≤ (l0.length : Int) then (if x392002_3.length < 8796093022208 then (impl_decode.l1 k3 l0 (wrap64 ((ji39) + (wrap64 (rd l0 x5_3)))) (wrap64 (rd l0 x5_2)) (wrap64 (x67_3 + 1)) (wrap64 (rd l0 0)) x392001_2 (x392002_3 ++ [strOfNums ((l0.take ((wrap64 ((ji39) + (wrap64 (rd l0 x5_3)))) : Int).toNat).drop ((ji39) : Int).toNat)])) else (none)) else (none)) else (none)) else (none)) = some (r1, r2, r3, r4) := by first | (rw [hji39] at H; exact H) | (simp only [hji39] at H ⊢; exact H)
                                      (try rw [hji39] at c36b0)
                                      have hji39w : (IntKind.i64.wrap (x5_3 + 1)) = ji39 := (i64_w _).trans hji39
                                      by_cases c40 : 0 ≤ (ji39)
                                      · rw [if_pos c40] at H
                                        have c40b0 := eq_true c40
                                        have c40b1 : decide (0 ≤ (ji39)) = true := decide_eq_true c40
                                        clear c40
                                        by_cases c41 : (ji39) ≤ (wrap64 ((ji39) + (wrap64 (rd l0 x5_3))))
                                        · rw [if_pos c41] at H
                                          have c41b0 := eq_true c41
                                          have c41b1 : decide ((ji39) ≤ (wrap64 ((ji39) + (wrap64 (rd l0 x5_3))))) = true := decide_eq_true c41
                                          by_cases c42 : (wrap64 ((ji39) + (wrap64 (rd l0 x5_3)))) ≤ (l0.length : Int)
                                          · rw [if_pos c42] at H
                                            have c42b0 := eq_true c42
                                            have c42b1 : decide ((wrap64 ((ji39) + (wrap64 (rd l0 x5_3)))) ≤ (l0.length : Int)) = true := decide_eq_true c42
                                            by_cases c43 : x392002_3.length < 8796093022208
                                            · rw [if_pos c43] at H
                                              have LMc43 := Aside0.mk c43
                                              clear c43
                                              obtain ⟨y403, hy403⟩ : ∃ y_ : List ByteArray, y_ = (x392002_3 ++ [strOfNums ((l0.take ((wrap64 ((ji39) + (wrap64 (rd l0 x5_3)))) : Int).toNat).drop ((ji39) : Int).toNat)]) := ⟨_, rfl⟩
                                              replace H : (impl_decode.l1 k3 l0 (wrap64 ((ji39) + (wrap64 (rd l0 x5_3)))) (wrap64 (rd l0 x5_2)) (wrap64 (x67_3 + 1)) (wrap64 (rd l0 0)) x392001_2 y403) = some (r1, r2, r3, r4) := by first | (rw [hy403]; with_reducible exact H) | (have H2_ := (Option.bind_some _ _).symm.trans H; rw [hy403]; with_reducible exact H2_) | (have H2_ := (Option.bind_some _ _).symm.trans H; with_reducible exact H2_) | with_reducible exact H | (rw [hy403]; exact H) | exact H
                                              have Ny403 := Aside0.mk hy403
                                              clear hy403
                                              have H' := Aside0.mk H
                                              clear H
                                              have p400 : 0 ≤ (x5_3 : Int) := of_decide_eq_true (by first | (with_reducible assumption) | assumption)
                                              have q400 : x5_3 < (l0.length : Int) := of_decide_eq_true (by first | (with_reducible assumption) | assumption)
                                              obtain ⟨ad400, e400, hx400_0⟩ := Kd.at_int HR0.out x5_3 p400 q400
                                              obtain rfl : ad390 = ad400 := (by injection e400)
                                              replace hx400_0 := (HB.out.cell (World.block_lt_of_cell? w _ hx400_0)).trans hx400_0
                                              replace p400 := eq_true p400
                                              replace q400 := eq_true q400
                                              have p401 : 0 ≤ (x5_3 : Int) := of_decide_eq_true (by first | (with_reducible assumption) | assumption)
                                              have q401 : x5_3 < (l0.length : Int) := of_decide_eq_true (by first | (with_reducible assumption) | assumption)
                                              obtain ⟨ad401, e401, hx401_0⟩ := Kd.at_int HR0.out x5_3 p401 q401
                                              obtain rfl : ad390 = ad401 := (by injection e401)
                                              replace hx401_0 := (HB.out.cell (World.block_lt_of_cell? w _ hx401_0)).trans hx401_0
                                              replace p401 := eq_true p401
                                              replace q401 := eq_true q401
                                              try go_wp2
                                              have n0_ := Aside0.mk (Kd.R_drew HO_392001.out)
                                              have n1_ := Aside0.mk (Kd.R_drew HO_392002.out)
                                              have n2_ := Aside0.mk (blk_drew BK388.out)
                                              have n3_ := Aside0.mk (blk_drew BK391.out)
                                              have n4_ := Aside0.mk (below_drew1 HB.out)
                                              clear HO_392001
                                              clear HO_392002
                                              clear BK388
                                              clear BK391
                                              clear HB
                                              have HO_392001 := n0_
                                              have HO_392002 := n1_
                                              have BK388 := n2_
                                              have BK391 := n3_
                                              have HB := n4_
                                              clear n0_ n1_ n2_ n3_ n4_
                                              obtain ⟨i045, hi045, _, hsz45, _⟩ := info_parts info5
                                              obtain ⟨A45, hcut45, hA45, hC45⟩ := print_mid_of (P := Try.prog) (Value.int .u8) 0 24 5 .i64 .i64 Try.underlying24 hi045 hsz45 (some ad390) c0 l0 (ji39) (wrap64 ((ji39) + (wrap64 (rd l0 x5_3)))) (of_decide_eq_true (by first | (with_reducible assumption) | assumption)) (by first | omega | exact of_decide_eq_true (by first | (with_reducible assumption) | assumption)) (of_decide_eq_true (by first | (with_reducible assumption) | assumption)) HC0.out
                                              have HR402 := Aside0.mk (Kd.C_of_reads (h1 := fun _ => rfl) (hA45 _ (Kd.reads_of_C HR0.out)))
                                              have HC402 := Aside0.mk hC45
                                              clear hA45 hC45 hi045 hsz45
                                              have hcv46 := Kd.C_string (P := Try.prog) (A := A45) (c := (c0 - (ji39).toNat)) Try.underlying24 Try.underlying5 Try.underlying9 (Kd.C_below HR402.out HB.out)
                                              have hcv46s := hcv46
                                              try simp only [show ((l0.take ((wrap64 ((ji39) + (wrap64 (rd l0 x5_3)))) : Int).toNat).drop ((ji39) : Int).toNat).length = ((wrap64 ((ji39) + (wrap64 (rd l0 x5_3)))) : Int).toNat - ((ji39) : Int).toNat from by have h_ : ((wrap64 ((ji39) + (wrap64 (rd l0 x5_3)))) : Int) ≤ (l0.length : Int) := of_decide_eq_true (by first | (with_reducible assumption) | assumption); rw [List.length_drop, List.length_take]; omega] at hcv46s
                                              have hcv47 := fun (nq_ : Nat) => Kd.C_string (P := Try.prog) (A := A45) (c := (c0 - (ji39).toNat)) Try.underlying24 Try.underlying5 Try.underlying9 (Kd.C_drewN (Kd.C_below HR402.out HB.out) nq_)
                                              have hcv47s := hcv47
                                              try simp only [show ((l0.take ((wrap64 ((ji39) + (wrap64 (rd l0 x5_3)))) : Int).toNat).drop ((ji39) : Int).toNat).length = ((wrap64 ((ji39) + (wrap64 (rd l0 x5_3)))) : Int).toNat - ((ji39) : Int).toNat from by have h_ : ((wrap64 ((ji39) + (wrap64 (rd l0 x5_3)))) : Int) ≤ (l0.length : Int) := of_decide_eq_true (by first | (with_reducible assumption) | assumption); rw [List.length_drop, List.length_take]; omega] at hcv47s
                                              refine start_ (n := 12) (S := fun w' => w'.cell? ⟨gb391, 0, none⟩ = some (.int .i64 (wrap64 (rd l0 0))) ∧ w'.cell? ⟨gb391, 1, none⟩ = some (u392001) ∧ w'.cell? ⟨gb391, 2, none⟩ = some (u392002) ∧ (convert 24 9 (.slice A45 (((wrap64 ((ji39) + (wrap64 (rd l0 x5_3)))) : Int).toNat - ((ji39) : Int).toNat) ((c0 - (ji39).toNat)))).run Try.prog w' = .ok (.string (strOfNums ((l0.take ((wrap64 ((ji39) + (wrap64 (rd l0 x5_3)))) : Int).toNat).drop ((ji39) : Int).toNat))) w') (ds := [11]) #[false, false, false, false, false, false, false, false, false, false, false, false] (by kernel_rfl) rfl rfl ⟨(blk_cell BK391.out 0).trans rfl, (blk_cell BK391.out 1).trans rfl, (blk_cell BK391.out 2).trans rfl, (by have hq_ := fun (W_ : World) (hb_ : Below w.heap.size w W_) => Kd.C_string (P := Try.prog) (A := A45) (c := (c0 - (ji39).toNat)) Try.underlying24 Try.underlying5 Try.underlying9 (Kd.C_below HR402.out hb_); simp only [show ((l0.take ((wrap64 ((ji39) + (wrap64 (rd l0 x5_3)))) : Int).toNat).drop ((ji39) : Int).toNat).length = ((wrap64 ((ji39) + (wrap64 (rd l0 x5_3)))) : Int).toNat - ((ji39) : Int).toNat from by have h_ : ((wrap64 ((ji39) + (wrap64 (rd l0 x5_3)))) : Int) ≤ (l0.length : Int) := of_decide_eq_true (by first | (with_reducible assumption) | assumption); rw [List.length_drop, List.length_take]; omega] at hq_; exact hq_ _ (by repeat (first | (with_reducible first | exact HB.out | apply below_alloc | apply pw_below_drewN | apply below_drew1) | exact HB.out)))⟩ (fun hHeld => ?_); refine with_tabW impl_decode.tab22 impl_decode.bits22 (fun HT_ HW_ => ?_)
                                              generalize wr.drew = w44 at HO_392001 HO_392002 BK388 BK391 HB HR402 hHeld ⊢
                                              refine pure_ (i := 0) (N := some 95) (v := ?_) (a' := ?_) #[true, false, false, false, false, false, false, false, false, false, false, false] rfl rfl (any_of HT_.out (by kernel_rfl)) (fun _ _ _ h => h) (Or.inl ⟨by rfl, ?_⟩) ?_ ?_
                                              rotate_left
                                              · intro w'
                                                go_simp
                                                with_reducible rfl
                                              rotate_left
                                              · simp only [Act.put, List.setIfInBounds_toArray, List.set_cons_zero, List.set_cons_succ, i64_w, i32_w]
                                                rfl
                                              refine pure_ (i := 2) (N := some 97) (v := ?_) (a' := ?_) #[true, false, true, false, false, false, false, false, false, false, false, false] rfl rfl (any_of HT_.out (by kernel_rfl)) (fun _ _ _ h => h) (Or.inl ⟨by rfl, ?_⟩) ?_ ?_
                                              rotate_left
                                              · intro w'
                                                go_simp
                                                with_reducible rfl
                                              rotate_left
                                              · simp only [Act.put, List.setIfInBounds_toArray, List.set_cons_zero, List.set_cons_succ, i64_w, i32_w]
                                                rfl
                                              refine pure_ (i := 3) (N := some 98) (v := ?_) (a' := ?_) #[true, false, true, true, false, false, false, false, false, false, false, false] rfl rfl (any_of HT_.out (by kernel_rfl)) (fun _ _ _ h => h) (Or.inl ⟨by rfl, ?_⟩) ?_ ?_
                                              rotate_left
                                              · intro w'
                                                go_simp
                                                with_reducible rfl
                                              rotate_left
                                              · simp only [Act.put, List.setIfInBounds_toArray, List.set_cons_zero, List.set_cons_succ, i64_w, i32_w]
                                                rfl
                                              refine pure_ (i := 4) (N := some 99) (v := ?_) (a' := ?_) #[true, false, true, true, true, false, false, false, false, false, false, false] rfl rfl (any_of HT_.out (by kernel_rfl)) (fun _ _ _ h => h) (Or.inl ⟨by rfl, ?_⟩) ?_ ?_
                                              rotate_left
                                              · intro w'
                                                go_simp
                                                with_reducible rfl
                                              rotate_left
                                              · simp only [Act.put, List.setIfInBounds_toArray, List.set_cons_zero, List.set_cons_succ, i64_w, i32_w]
                                                rfl
                                              refine pure_ (i := 5) (N := some 100) (v := ?_) (a' := ?_) #[true, false, true, true, true, true, false, false, false, false, false, false] rfl rfl (any_of HT_.out (by kernel_rfl)) (fun _ _ _ h => h) (Or.inl ⟨by rfl, ?_⟩) ?_ ?_
                                              rotate_left
                                              · intro w'
                                                go_simp
                                                with_reducible rfl
                                              rotate_left
                                              · simp only [Act.put, List.setIfInBounds_toArray, List.set_cons_zero, List.set_cons_succ, i64_w, i32_w]
                                                rfl
                                              refine pure_ (i := 6) (N := some 101) (v := ?_) (a' := ?_) #[true, false, true, true, true, true, true, false, false, false, false, false] rfl rfl (any_of HT_.out (by kernel_rfl)) (fun _ _ _ h => h) (Or.inl ⟨by rfl, ?_⟩) ?_ ?_
                                              rotate_left
                                              · intro w'
                                                go_simp
                                                with_reducible rfl
                                              rotate_left
                                              · simp only [Act.put, List.setIfInBounds_toArray, List.set_cons_zero, List.set_cons_succ, i64_w, i32_w]
                                                rfl
                                              refine take_ (i := 7) (N := some 102) (v := ?_) (a' := ?_) #[true, false, true, true, true, true, true, true, false, false, false, false] rfl rfl (take_ofW HT_.out HW_.out (by kernel_rfl)) (fun _ _ _ h => h) (Or.inl ⟨by rfl, ?_⟩) hHeld ?_ ?_
                                              rotate_left
                                              · rintro w' ⟨s0, s1, s2, s3⟩
                                                go_simp
                                                with_reducible rfl
                                              rotate_left
                                              · simp only [Act.put, List.setIfInBounds_toArray, List.set_cons_zero, List.set_cons_succ, i64_w, i32_w]
                                                rfl
                                              refine take_ (i := 1) (N := some 96) (v := ?_) (a' := ?_) #[true, true, true, true, true, true, true, true, false, false, false, false] rfl rfl (take_ofW HT_.out HW_.out (by kernel_rfl)) (fun _ _ _ h => h) (Or.inl ⟨by rfl, ?_⟩) hHeld ?_ ?_
                                              rotate_left
                                              · rintro w' ⟨s0, s1, s2, s3⟩
                                                go_simp
                                                with_reducible rfl
                                              rotate_left
                                              · simp only [Act.put, List.setIfInBounds_toArray, List.set_cons_zero, List.set_cons_succ, i64_w, i32_w]
                                                rfl
                                              refine one_ (i := 8) (N := some 103) #[true, true, true, true, true, true, true, true, true, false, false, false] rfl rfl (one_of HT_.out (by kernel_rfl)) (by decide) (fun K hK => ?_)
                                              refine value_ (w1 := ?_) (v := ?_) (by rfl) rfl ?_ ?_
                                              rotate_left 2
                                              · go_simp
                                                constructor
                                                · rfl
                                                · rfl
                                              refine hK.out _ _ ⟨(blk_cell (blk_alloc BK391.out _) 0).trans rfl, (blk_cell (blk_alloc BK391.out _) 1).trans rfl, (blk_cell (blk_alloc BK391.out _) 2).trans rfl, (by have hq_ := fun (W_ : World) (hb_ : Below w.heap.size w W_) => Kd.C_string (P := Try.prog) (A := A45) (c := (c0 - (ji39).toNat)) Try.underlying24 Try.underlying5 Try.underlying9 (Kd.C_below HR402.out hb_); simp only [show ((l0.take ((wrap64 ((ji39) + (wrap64 (rd l0 x5_3)))) : Int).toNat).drop ((ji39) : Int).toNat).length = ((wrap64 ((ji39) + (wrap64 (rd l0 x5_3)))) : Int).toNat - ((ji39) : Int).toNat from by have h_ : ((wrap64 ((ji39) + (wrap64 (rd l0 x5_3)))) : Int) ≤ (l0.length : Int) := of_decide_eq_true (by first | (with_reducible assumption) | assumption); rw [List.length_drop, List.length_take]; omega] at hq_; exact hq_ _ (by repeat (first | (with_reducible first | exact HB.out | apply below_alloc | apply pw_below_drewN | apply below_drew1) | exact HB.out)))⟩ (fun hHeld => ?_)
                                              clear hK K
                                              refine norm_ (a' := ?_) ?_ ?_
                                              rotate_left
                                              · show Act.put _ (some 103) _ = _
                                                simp only [Act.put, List.setIfInBounds_toArray, List.set_cons_zero, List.set_cons_succ, i64_w, i32_w]
                                                rfl
                                              refine one_ (i := 9) (N := some 104) #[true, true, true, true, true, true, true, true, true, true, false, false] rfl rfl (one_of HT_.out (by kernel_rfl)) (by decide) (fun K hK => ?_)
                                              refine Kd.R_append_step Kd.string (w0 := w) w.heap.size (by rfl) (.tmp 96) (.tmp 103) 37 9 (.string ⟨#[]⟩) 16 rfl Try.underlying37 info9 rfl (by decide) (by omega) u392002 x392002_3 (strOfNums ((l0.take ((wrap64 ((ji39) + (wrap64 (rd l0 x5_3)))) : Int).toNat).drop ((ji39) : Int).toNat)) [.string (strOfNums ((l0.take ((wrap64 ((ji39) + (wrap64 (rd l0 x5_3)))) : Int).toNat).drop ((ji39) : Int).toNat))] (fun _ => True) (fun _ => False) rfl rfl ?aP (fun _ hk => hk.elim) ?aF ?aO ?aB ?aS ?aL ?_
                                              (case aP => exact rfl)
                                              (case aB => exact (by repeat (first | (with_reducible first | exact HB.out | apply below_alloc | apply pw_below_drewN | apply below_drew1 | refine below_set ?_ GE388.out | refine below_set ?_ GE391.out) | exact HB.out)))
                                              (case aF => exact (fun _ _ => trivial))
                                              (case aO => exact (by (with_reducible repeat (first | apply Kd.R_alloc | apply Kd.R_drewN | apply Kd.R_drew)); exact HO_392002.out))
                                              (case aS => exact (below_size (by repeat (first | (with_reducible first | exact HB.out | apply below_alloc | apply pw_below_drewN | apply below_drew1 | refine below_set ?_ GE388.out | refine below_set ?_ GE391.out) | exact HB.out))))
                                              (case aL => have := LMc43.out; omega)
                                              intro v404 w48 ho hb hg hat
                                              rw [← Ny403.out] at ho
                                              have n0_ := Aside0.mk (Kd.R_over' (by (with_reducible repeat (first | apply Kd.R_alloc | apply Kd.R_drewN | apply Kd.R_drew)); exact HO_392001.out) (Kd.R_typed (by (with_reducible repeat (first | apply Kd.R_alloc | apply Kd.R_drewN | apply Kd.R_drew)); exact HO_392002.out)) (by decide) hg)
                                              have n1_ := Aside0.mk (blk_grown (g := gb388) (o := .cells #[.int .i64 x389000_3, .slice none 0 0, .slice none 0 0] 42 (0, 0)) (by (with_reducible repeat (first | refine blk_drewN ?_ _ | refine blk_drew ?_ | refine blk_alloc ?_ _)); exact BK388.out) hg (Kd.R_ne HO_392002.out BK388.out (by decide)))
                                              have n2_ := Aside0.mk (blk_grown (g := gb391) (o := .cells #[.int .i64 (wrap64 (rd l0 0)), u392001, u392002] 42 (0, 0)) (by (with_reducible repeat (first | refine blk_drewN ?_ _ | refine blk_drew ?_ | refine blk_alloc ?_ _)); exact BK391.out) hg (Kd.R_ne HO_392002.out BK391.out (by decide)))
                                              have n3_ := Aside0.mk (hb)
                                              have n4_ := Aside0.mk (ho)
                                              clear HO_392001
                                              clear BK388
                                              clear BK391
                                              clear HB
                                              clear HO_392002
                                              have HO_392001 := n0_
                                              have BK388 := n1_
                                              have BK391 := n2_
                                              have HB := n3_
                                              have HO405 := n4_
                                              clear n0_ n1_ n2_ n3_ n4_
                                              clear ho hb hg hat
                                              obtain ⟨Ao49, co49, eo49⟩ := Kd.R_slice HO405.out
                                              (first | subst eo49 | (injection eo49 with f1_ f2_ f3_; have f4_ := f1_.symm; have f5_ := f3_.symm; clear f1_ f2_ f3_; subst f4_; subst f5_))
                                              refine hK.out _ _ ⟨(blk_cell BK391.out 0).trans rfl, (blk_cell BK391.out 1).trans rfl, (blk_cell BK391.out 2).trans rfl, (by have hq_ := fun (W_ : World) (hb_ : Below w.heap.size w W_) => Kd.C_string (P := Try.prog) (A := A45) (c := (c0 - (ji39).toNat)) Try.underlying24 Try.underlying5 Try.underlying9 (Kd.C_below HR402.out hb_); simp only [show ((l0.take ((wrap64 ((ji39) + (wrap64 (rd l0 x5_3)))) : Int).toNat).drop ((ji39) : Int).toNat).length = ((wrap64 ((ji39) + (wrap64 (rd l0 x5_3)))) : Int).toNat - ((ji39) : Int).toNat from by have h_ : ((wrap64 ((ji39) + (wrap64 (rd l0 x5_3)))) : Int) ≤ (l0.length : Int) := of_decide_eq_true (by first | (with_reducible assumption) | assumption); rw [List.length_drop, List.length_take]; omega] at hq_; exact hq_ _ (by repeat (first | (with_reducible first | exact HB.out | apply below_alloc | apply pw_below_drewN | apply below_drew1) | exact HB.out)))⟩ (fun hHeld => ?_)
                                              clear hK K
                                              refine norm_ (a' := ?_) ?_ ?_
                                              rotate_left
                                              · show Act.put _ (some 104) _ = _
                                                simp only [Act.put, List.setIfInBounds_toArray, List.set_cons_zero, List.set_cons_succ, i64_w, i32_w]
                                                rfl
                                              refine pure_ (i := 10) (N := some 105) (v := ?_) (a' := ?_) #[true, true, true, true, true, true, true, true, true, true, true, false] rfl rfl (any_of HT_.out (by kernel_rfl)) (fun _ _ _ h => h) (Or.inl ⟨by rfl, ?_⟩) ?_ ?_
                                              rotate_left
                                              · intro w'
                                                go_simp
                                                with_reducible rfl
                                              rotate_left
                                              · simp only [Act.put, List.setIfInBounds_toArray, List.set_cons_zero, List.set_cons_succ, i64_w, i32_w]
                                                rfl
                                              refine last_ (i := 11) (N := none) #[true, true, true, true, true, true, true, true, true, true, true, true] rfl rfl (one_of HT_.out (by kernel_rfl)) (by decide) (fun K hK => ?_)
                                              have hs50 : w48.cell? ⟨gb391, 2, none⟩ = some (u392002) := (blk_cell BK391.out 2).trans rfl
                                              have hfs50 := blk_frozen BK391.out 2
                                              have hns50_0 := NB388_391.out
                                              have hms50_0 := NB391_388.out
                                              refine skip_ (w1 := ?_) (by rfl) rfl ?_ ?_
                                              rotate_left
                                              · go_simp
                                                rfl
                                              refine hK.out _ _ ?_
                                              clear hK K
                                              refine done_ (done_of HT_.out (by kernel_rfl)) ?_
                                              try go_wp2
                                              go_roundg k3
                                              case measure => have := HJ1.out; have := HK2.out; have := HK3.out; omega
                                              case rel => exact ⟨(wrap64 ((ji39) + (wrap64 (rd l0 x5_3)))), (wrap64 (x67_3 + 1)), (x389000_3), (y403), (.slice Ao49 y403.length co49), (by first | rfl | (simp; done) | (simp only [← hji39] <;> (first | rfl | simp)) | (simp [*]; done)), (by first | rfl | (simp; done) | (simp [*]; done)), (by first | exact H' | (simp only [hji39]; exact H')), ⟨by have := HJ1.out; have := HK2.out; have := HK3.out; omega⟩, ⟨by (with_reducible repeat (first | apply Kd.R_alloc | apply Kd.R_drewN | apply Kd.R_drew)); exact Kd.R_mono (Kd.R_far (p := ⟨gb391, 2, none⟩) (Kd.R_types HO_392001.out BK391.out (by decide)) (fun _ hk => hk.2) (.slice Ao49 y403.length co49)) (fun _ hk => trivial)⟩, ⟨by (with_reducible repeat (first | apply Kd.R_alloc | apply Kd.R_drewN | apply Kd.R_drew)); exact Kd.R_mono (Kd.R_far (p := ⟨gb391, 2, none⟩) (Kd.R_types HO405.out BK391.out (by decide)) (fun _ hk => hk.2) (.slice Ao49 y403.length co49)) (fun _ hk => trivial)⟩, ⟨by (with_reducible repeat (first | refine blk_drewN ?_ _ | refine blk_drew ?_ | refine blk_alloc ?_ _)); refine blk_far ?_ NB388_391.out _; (with_reducible repeat (first | refine blk_drewN ?_ _ | refine blk_drew ?_ | refine blk_alloc ?_ _)); exact BK388.out⟩, ⟨by (with_reducible repeat (first | refine blk_drewN ?_ _ | refine blk_drew ?_ | refine blk_alloc ?_ _)); refine blk_put (cs := #[.int .i64 (wrap64 (rd l0 0)), u392001, u392002]) ?_ 2 _ rfl; (with_reducible repeat (first | refine blk_drewN ?_ _ | refine blk_drew ?_ | refine blk_alloc ?_ _)); exact BK391.out⟩, ⟨by repeat (first | (with_reducible first | exact HB.out | apply below_alloc | apply pw_below_drewN | apply below_drew1 | refine below_set ?_ GE388.out | refine below_set ?_ GE391.out) | exact HB.out)⟩⟩
                                            · rw [if_neg c43] at H
                                              exact absurd H (by simp)
                                          · rw [if_neg c42] at H
                                            exact absurd H (by simp)
                                        · rw [if_neg c41] at H
                                          exact absurd H (by simp)
                                      · rw [if_neg c40] at H
                                        exact absurd H (by simp)
                                  · rw [if_neg c35] at H
                                    exact absurd H (by simp)
                                · rw [if_neg c34] at H
                                  exact absurd H (by simp)
                            · rw [if_neg c30] at H
                              have c30b0 : decide (x67_3 < (wrap64 (rd l0 x5_2))) = false := decide_eq_false c30
                              clear c30
                              by_cases c51 : x5_3 = (l0.length : Int)
                              · rw [if_pos c51] at H
                                have c51b0 : (x5_3 == (l0.length : Int)) = true := beq_iff_eq.mpr c51
                                have c51b1 : (x5_3 != (l0.length : Int)) = false := bne_eq_false_iff_eq.mpr c51
                                clear c51
                                replace H := Option.bind_eq_some_iff.mp H
                                obtain ⟨t406, A520, H⟩ := H
                                replace H : (if t406 = true then (some ((wrap64 (rd l0 0)), x392001_2, x392002_3, true)) else (some (0, ([] : List Int), ([] : List ByteArray), false))) = some (r1, r2, r3, r4) := H
                                have A52 := Aside0.mk A520
                                clear A520
                                by_cases c53 : t406 = true
                                · subst c53
                                  have H1 : (some ((wrap64 (rd l0 0)), x392001_2, x392002_3, true)) = some (r1, r2, r3, r4) := by rw [if_pos rfl] at H; exact H
                                  clear H
                                  have H := H1
                                  clear H1
                                  simp only [Option.some.injEq, Prod.mk.injEq] at H
                                  obtain ⟨rfl, rfl, rfl, rfl⟩ := H
                                  have hnb54 := NB391_388.out
                                  have hnc54 := NB388_391.out
                                  have hcz55_0 : wr.cell? ⟨gb391, 0, none⟩ = some (.int .i64 (wrap64 (rd l0 0))) := (blk_cell BK391.out 0).trans rfl
                                  have hcz55_1 : wr.cell? ⟨gb391, 1, none⟩ = some (u392001) := (blk_cell BK391.out 1).trans rfl
                                  have hcz55_2 : wr.cell? ⟨gb391, 2, none⟩ = some (u392002) := (blk_cell BK391.out 2).trans rfl
                                  have hfz55_0 := blk_frozen BK391.out 0
                                  have hfz55_1 := blk_frozen BK391.out 1
                                  have hfz55_2 := blk_frozen BK391.out 2
                                  obtain ⟨Ao56, co56, eo56⟩ := Kd.R_slice HO_392001.out
                                  subst eo56
                                  obtain ⟨Ao57, co57, eo57⟩ := Kd.R_slice HO_392002.out
                                  subst eo57
                                  go_wp2_with (first | (go_at_call 56; (with_reducible refine (impl_isRecord.calls (wrap64 (rd l0 0)) _ _ x392001_2 _ _ x392002_3 true _ ?side1 ?side2 ?side3 ?side4 A52.out).mono ?_); (case side1 => repeat (first | exact (Kd.R_reads' HO_392001.out).2.2 | (with_reducible refine Kd.C_alloc ?_ _) | (with_reducible refine Kd.C_drewN ?_ _) | (with_reducible refine Kd.C_drew ?_))); (case side2 => exact (Kd.R_reads' HO_392001.out).2.1); (case side3 => repeat (first | exact (Kd.R_reads' HO_392002.out).2.2 | (with_reducible refine Kd.C_alloc ?_ _) | (with_reducible refine Kd.C_drewN ?_ _) | (with_reducible refine Kd.C_drew ?_))); (case side4 => exact (Kd.R_reads' HO_392002.out).2.1); rintro e w58 ⟨rfl, hb⟩; have n0_ := Aside0.mk (Kd.R_below (by (with_reducible repeat (first | apply Kd.R_alloc | apply Kd.R_drewN | apply Kd.R_drew)); exact HO_392001.out) hb); have n1_ := Aside0.mk (Kd.R_below (by (with_reducible repeat (first | apply Kd.R_alloc | apply Kd.R_drewN | apply Kd.R_drew)); exact HO_392002.out) hb); have n2_ := Aside0.mk (blk_below (g := gb388) (o := .cells #[.int .i64 x389000_3, .slice none 0 0, .slice none 0 0] 42 (0, 0)) (by (with_reducible repeat (first | refine blk_drewN ?_ _ | refine blk_drew ?_ | refine blk_alloc ?_ _)); exact BK388.out) hb); have n3_ := Aside0.mk (blk_below (g := gb391) (o := .cells #[.int .i64 (wrap64 (rd l0 0)), .slice Ao56 x392001_2.length co56, .slice Ao57 x392002_3.length co57] 42 (0, 0)) (by (with_reducible repeat (first | refine blk_drewN ?_ _ | refine blk_drew ?_ | refine blk_alloc ?_ _)); exact BK391.out) hb); have n4_ := Aside0.mk (below_step (by repeat (first | (with_reducible first | exact HB.out | apply below_alloc | apply pw_below_drewN | apply below_drew1 | refine below_set ?_ GE388.out | refine below_set ?_ GE391.out) | exact HB.out)) hb); clear HO_392001; clear HO_392002; clear BK388; clear BK391; clear HB; have HO_392001 := n0_; have HO_392002 := n1_; have BK388 := n2_; have BK391 := n3_; have HB := n4_; clear n0_ n1_ n2_ n3_ n4_; (try clear hb); (try clear hb2); (try clear hk); (try clear hi); have hcz59_0 : w58.cell? ⟨gb391, 0, none⟩ = some (.int .i64 (wrap64 (rd l0 0))) := (blk_cell BK391.out 0).trans rfl; have hcz59_1 : w58.cell? ⟨gb391, 1, none⟩ = some (.slice Ao56 x392001_2.length co56) := (blk_cell BK391.out 1).trans rfl; have hcz59_2 : w58.cell? ⟨gb391, 2, none⟩ = some (.slice Ao57 x392002_3.length co57) := (blk_cell BK391.out 2).trans rfl; have hfz59_0 := blk_frozen BK391.out 0; have hfz59_1 := blk_frozen BK391.out 1; have hfz59_2 := blk_frozen BK391.out 2; have hcz60_0 : w58.cell? ⟨gb388, 0, none⟩ = some (.int .i64 x389000_3) := (blk_cell BK388.out 0).trans rfl; have hcz60_1 : w58.cell? ⟨gb388, 1, none⟩ = some (.slice none 0 0) := (blk_cell BK388.out 1).trans rfl; have hcz60_2 : w58.cell? ⟨gb388, 2, none⟩ = some (.slice none 0 0) := (blk_cell BK388.out 2).trans rfl; have hfz60_0 := blk_frozen BK388.out 0; have hfz60_1 := blk_frozen BK388.out 1; have hfz60_2 := blk_frozen BK388.out 2))
                                  refine bodyPost_ret (results_ct rfl _ _ gb388 42 #[.int .i64 (wrap64 (rd l0 0)), .slice Ao56 x392001_2.length co56, .slice Ao57 x392002_3.length co57] (0, 0) _ rfl (by (with_reducible repeat (first | refine blk_drewN ?_ _ | refine blk_drew ?_ | refine blk_alloc ?_ _)); refine blk_put (cs := #[.int .i64 (wrap64 (rd l0 0)), .slice Ao56 x392001_2.length co56, .slice none 0 0]) ?_ 2 _ rfl; (with_reducible repeat (first | refine blk_drewN ?_ _ | refine blk_drew ?_ | refine blk_alloc ?_ _)); refine blk_put (cs := #[.int .i64 (wrap64 (rd l0 0)), .slice none 0 0, .slice none 0 0]) ?_ 1 _ rfl; (with_reducible repeat (first | refine blk_drewN ?_ _ | refine blk_drew ?_ | refine blk_alloc ?_ _)); refine blk_put (cs := #[.int .i64 x389000_3, .slice none 0 0, .slice none 0 0]) ?_ 0 _ rfl; (with_reducible repeat (first | refine blk_drewN ?_ _ | refine blk_drew ?_ | refine blk_alloc ?_ _)); exact BK388.out) Try.underlying42 rfl (by kernel_rfl)) rfl ?_
                                  exact ⟨_, _, by first | rfl | (simp [errW_none, errW_some] <;> rfl) | (simp [*, errW_none, errW_some] <;> rfl), by (with_reducible repeat (first | apply Kd.R_alloc | apply Kd.R_drewN | apply Kd.R_drew)); exact Kd.R_mono (Kd.R_far (p := ⟨gb388, 2, none⟩) (Kd.R_far (p := ⟨gb388, 1, none⟩) (Kd.R_far (p := ⟨gb388, 0, none⟩) (Kd.R_types HO_392001.out BK388.out (by decide)) (fun _ hk => hk.2) (.int .i64 (wrap64 (rd l0 0)))) (fun _ hk => hk.2) (.slice Ao56 x392001_2.length co56)) (fun _ hk => hk.2) (.slice Ao57 x392002_3.length co57)) (fun _ hk => trivial), by (with_reducible repeat (first | apply Kd.R_alloc | apply Kd.R_drewN | apply Kd.R_drew)); exact Kd.R_mono (Kd.R_far (p := ⟨gb388, 2, none⟩) (Kd.R_far (p := ⟨gb388, 1, none⟩) (Kd.R_far (p := ⟨gb388, 0, none⟩) (Kd.R_types HO_392002.out BK388.out (by decide)) (fun _ hk => hk.2) (.int .i64 (wrap64 (rd l0 0)))) (fun _ hk => hk.2) (.slice Ao56 x392001_2.length co56)) (fun _ hk => hk.2) (.slice Ao57 x392002_3.length co57)) (fun _ hk => trivial), by repeat (first | (with_reducible first | exact HB.out | apply below_alloc | apply pw_below_drewN | apply below_drew1 | refine below_set ?_ GE388.out | refine below_set ?_ GE391.out) | exact HB.out)⟩
                                · replace c53 := Bool.eq_false_iff.mpr c53
                                  subst c53
                                  have H1 : (some (0, ([] : List Int), ([] : List ByteArray), false)) = some (r1, r2, r3, r4) := by rw [if_neg (show ¬ (false = true) by decide)] at H; exact H
                                  clear H
                                  have H := H1
                                  clear H1
                                  simp only [Option.some.injEq, Prod.mk.injEq] at H
                                  obtain ⟨rfl, rfl, rfl, rfl⟩ := H
                                  have hnb61 := NB391_388.out
                                  have hnc61 := NB388_391.out
                                  have hcz62_0 : wr.cell? ⟨gb391, 0, none⟩ = some (.int .i64 (wrap64 (rd l0 0))) := (blk_cell BK391.out 0).trans rfl
                                  have hcz62_1 : wr.cell? ⟨gb391, 1, none⟩ = some (u392001) := (blk_cell BK391.out 1).trans rfl
                                  have hcz62_2 : wr.cell? ⟨gb391, 2, none⟩ = some (u392002) := (blk_cell BK391.out 2).trans rfl
                                  have hfz62_0 := blk_frozen BK391.out 0
                                  have hfz62_1 := blk_frozen BK391.out 1
                                  have hfz62_2 := blk_frozen BK391.out 2
                                  obtain ⟨Ao63, co63, eo63⟩ := Kd.R_slice HO_392001.out
                                  subst eo63
                                  obtain ⟨Ao64, co64, eo64⟩ := Kd.R_slice HO_392002.out
                                  subst eo64
                                  go_wp2_with (first | (go_at_call 56; (with_reducible refine (impl_isRecord.calls (wrap64 (rd l0 0)) _ _ x392001_2 _ _ x392002_3 false _ ?side1 ?side2 ?side3 ?side4 A52.out).mono ?_); (case side1 => repeat (first | exact (Kd.R_reads' HO_392001.out).2.2 | (with_reducible refine Kd.C_alloc ?_ _) | (with_reducible refine Kd.C_drewN ?_ _) | (with_reducible refine Kd.C_drew ?_))); (case side2 => exact (Kd.R_reads' HO_392001.out).2.1); (case side3 => repeat (first | exact (Kd.R_reads' HO_392002.out).2.2 | (with_reducible refine Kd.C_alloc ?_ _) | (with_reducible refine Kd.C_drewN ?_ _) | (with_reducible refine Kd.C_drew ?_))); (case side4 => exact (Kd.R_reads' HO_392002.out).2.1); rintro e w65 ⟨rfl, hb⟩; have n0_ := Aside0.mk (Kd.R_below (by (with_reducible repeat (first | apply Kd.R_alloc | apply Kd.R_drewN | apply Kd.R_drew)); exact HO_392001.out) hb); have n1_ := Aside0.mk (Kd.R_below (by (with_reducible repeat (first | apply Kd.R_alloc | apply Kd.R_drewN | apply Kd.R_drew)); exact HO_392002.out) hb); have n2_ := Aside0.mk (blk_below (g := gb388) (o := .cells #[.int .i64 x389000_3, .slice none 0 0, .slice none 0 0] 42 (0, 0)) (by (with_reducible repeat (first | refine blk_drewN ?_ _ | refine blk_drew ?_ | refine blk_alloc ?_ _)); exact BK388.out) hb); have n3_ := Aside0.mk (blk_below (g := gb391) (o := .cells #[.int .i64 (wrap64 (rd l0 0)), .slice Ao63 x392001_2.length co63, .slice Ao64 x392002_3.length co64] 42 (0, 0)) (by (with_reducible repeat (first | refine blk_drewN ?_ _ | refine blk_drew ?_ | refine blk_alloc ?_ _)); exact BK391.out) hb); have n4_ := Aside0.mk (below_step (by repeat (first | (with_reducible first | exact HB.out | apply below_alloc | apply pw_below_drewN | apply below_drew1 | refine below_set ?_ GE388.out | refine below_set ?_ GE391.out) | exact HB.out)) hb); clear HO_392001; clear HO_392002; clear BK388; clear BK391; clear HB; have HO_392001 := n0_; have HO_392002 := n1_; have BK388 := n2_; have BK391 := n3_; have HB := n4_; clear n0_ n1_ n2_ n3_ n4_; (try clear hb); (try clear hb2); (try clear hk); (try clear hi); have hcz66_0 : w65.cell? ⟨gb388, 0, none⟩ = some (.int .i64 x389000_3) := (blk_cell BK388.out 0).trans rfl; have hcz66_1 : w65.cell? ⟨gb388, 1, none⟩ = some (.slice none 0 0) := (blk_cell BK388.out 1).trans rfl; have hcz66_2 : w65.cell? ⟨gb388, 2, none⟩ = some (.slice none 0 0) := (blk_cell BK388.out 2).trans rfl; have hfz66_0 := blk_frozen BK388.out 0; have hfz66_1 := blk_frozen BK388.out 1; have hfz66_2 := blk_frozen BK388.out 2))
                                  refine bodyPost_ret (results_ct rfl _ _ gb388 42 #[.int .i64 0, .slice none 0 0, .slice none 0 0] (0, 0) _ rfl (by (with_reducible repeat (first | refine blk_drewN ?_ _ | refine blk_drew ?_ | refine blk_alloc ?_ _)); refine blk_put (cs := #[.int .i64 0, .slice none 0 0, .slice none 0 0]) ?_ 2 _ rfl; (with_reducible repeat (first | refine blk_drewN ?_ _ | refine blk_drew ?_ | refine blk_alloc ?_ _)); refine blk_put (cs := #[.int .i64 0, .slice none 0 0, .slice none 0 0]) ?_ 1 _ rfl; (with_reducible repeat (first | refine blk_drewN ?_ _ | refine blk_drew ?_ | refine blk_alloc ?_ _)); refine blk_put (cs := #[.int .i64 x389000_3, .slice none 0 0, .slice none 0 0]) ?_ 0 _ rfl; (with_reducible repeat (first | refine blk_drewN ?_ _ | refine blk_drew ?_ | refine blk_alloc ?_ _)); exact BK388.out) Try.underlying42 rfl (by kernel_rfl)) rfl ?_
                                  exact ⟨_, _, by first | rfl | (simp [errW_none, errW_some] <;> rfl) | (simp [*, errW_none, errW_some] <;> rfl), by first | exact Kd.R_nil _ _ _ _ _ | exact Kd.N_nil _ _ _ _ _ | exact Kd.V_nil _ _ _ _ _ | exact Kd.Q_nil _ _ _ _ _ | exact Kd.S_nil _ _ _ _ _, by first | exact Kd.R_nil _ _ _ _ _ | exact Kd.N_nil _ _ _ _ _ | exact Kd.V_nil _ _ _ _ _ | exact Kd.Q_nil _ _ _ _ _ | exact Kd.S_nil _ _ _ _ _, by repeat (first | (with_reducible first | exact HB.out | apply below_alloc | apply pw_below_drewN | apply below_drew1 | refine below_set ?_ GE388.out | refine below_set ?_ GE391.out) | exact HB.out)⟩
                              · rw [if_neg c51] at H
                                have c51b0 : (x5_3 == (l0.length : Int)) = false := beq_eq_false_iff_ne.mpr c51
                                have c51b1 : (x5_3 != (l0.length : Int)) = true := bne_iff_ne.mpr c51
                                simp only [Option.some.injEq, Prod.mk.injEq] at H
                                obtain ⟨rfl, rfl, rfl, rfl⟩ := H
                                have hnb67 := NB388_391.out
                                have hnc67 := NB391_388.out
                                have hcz68_0 : wr.cell? ⟨gb388, 0, none⟩ = some (.int .i64 x389000_3) := (blk_cell BK388.out 0).trans rfl
                                have hcz68_1 : wr.cell? ⟨gb388, 1, none⟩ = some (.slice none 0 0) := (blk_cell BK388.out 1).trans rfl
                                have hcz68_2 : wr.cell? ⟨gb388, 2, none⟩ = some (.slice none 0 0) := (blk_cell BK388.out 2).trans rfl
                                have hfz68_0 := blk_frozen BK388.out 0
                                have hfz68_1 := blk_frozen BK388.out 1
                                have hfz68_2 := blk_frozen BK388.out 2
                                go_wp2
                                refine bodyPost_ret (results_ct rfl _ _ gb388 42 #[.int .i64 0, .slice none 0 0, .slice none 0 0] (0, 0) _ rfl (by (with_reducible repeat (first | refine blk_drewN ?_ _ | refine blk_drew ?_ | refine blk_alloc ?_ _)); refine blk_put (cs := #[.int .i64 0, .slice none 0 0, .slice none 0 0]) ?_ 2 _ rfl; (with_reducible repeat (first | refine blk_drewN ?_ _ | refine blk_drew ?_ | refine blk_alloc ?_ _)); refine blk_put (cs := #[.int .i64 0, .slice none 0 0, .slice none 0 0]) ?_ 1 _ rfl; (with_reducible repeat (first | refine blk_drewN ?_ _ | refine blk_drew ?_ | refine blk_alloc ?_ _)); refine blk_put (cs := #[.int .i64 x389000_3, .slice none 0 0, .slice none 0 0]) ?_ 0 _ rfl; (with_reducible repeat (first | refine blk_drewN ?_ _ | refine blk_drew ?_ | refine blk_alloc ?_ _)); exact BK388.out) Try.underlying42 rfl (by kernel_rfl)) rfl ?_
                                exact ⟨_, _, by first | rfl | (simp [errW_none, errW_some] <;> rfl) | (simp [*, errW_none, errW_some] <;> rfl), by first | exact Kd.R_nil _ _ _ _ _ | exact Kd.N_nil _ _ _ _ _ | exact Kd.V_nil _ _ _ _ _ | exact Kd.Q_nil _ _ _ _ _ | exact Kd.S_nil _ _ _ _ _, by first | exact Kd.R_nil _ _ _ _ _ | exact Kd.N_nil _ _ _ _ _ | exact Kd.V_nil _ _ _ _ _ | exact Kd.Q_nil _ _ _ _ _ | exact Kd.S_nil _ _ _ _ _, by repeat (first | (with_reducible first | exact HB.out | apply below_alloc | apply pw_below_drewN | apply below_drew1 | refine below_set ?_ GE388.out | refine below_set ?_ GE391.out) | exact HB.out)⟩
                      · rw [if_neg c29] at H
                        exact absurd H (by simp)
                    · rw [if_neg c28] at H
                      exact absurd H (by simp)
          · rw [if_neg c10] at H
            exact absurd H (by simp)
        · rw [if_neg c9] at H
          exact absurd H (by simp)

end Go.Proofs.Ytgdebfaoohjikaa.F

namespace Go.Proofs.Ytgdebfaoohjikaa.F
open Go.RowKit Go.Proofs.YtgdebfaoohjikaaW.PrintWords Go.Proofs.YtgdebfaoohjikaaW.PrintLast Go.Proofs.YtgdebfaoohjikaaW.PrintMore
attribute [local go_sem] max2_int min2_int max_two min_two max_three min_three max_four min_four   -- for this text's walks alone
set_option linter.unusedVariables false
set_option linter.unusedSimpArgs false

/-! ### impl_Decode: function 33 -/
def impl_Decode.f (k : Nat) (l0 : List Int) : Option (Int × List Int × List ByteArray × Bool) := (impl_decode.f k l0).bind fun bt408 => (some (bt408.1, bt408.2.1, bt408.2.2.1, bt408.2.2.2))
theorem impl_Decode.mono : ∀ a0 k, LeO (impl_Decode.f k a0) (impl_Decode.f (k + 1) a0) := by
  intro a0 k
  unfold impl_Decode.f
  repeat' first
      | (with_reducible exact impl_decode.mono _ _)
      | (with_reducible exact LeO.refl _)
      | (with_reducible exact LeO.none _)
      | (with_reducible refine LeO.ite ?_ ?_)
      | (with_reducible refine LeO.bind ?_ (fun _ => ?_))
      | exact impl_decode.mono _ _
      | exact LeO.none _
      | refine LeO.ite ?_ ?_
      | refine LeO.bind ?_ (fun _ => ?_)
set_option maxHeartbeats 8000000 in
set_option maxRecDepth 100000 in
theorem impl_Decode.calls (k : Nat) (A0 : Option Addr) (c0 : Nat) (l0 : List Int) (r1 : Int) (r2 : List Int) (r3 : List ByteArray) (r4 : Bool) (w : World) (hr0 : Kd.C (Kd.int .u8) w A0 l0.length l0) (hc0 : l0.length ≤ c0) (h : impl_Decode.f k l0 = some (r1, r2, r3, r4)) :
    Calls Try.prog 33 #[.slice A0 l0.length c0] w fun e w' => ∃ v1_ v2_ : Value, e = .returned (.tuple #[.agg #[.int .i64 r1, v1_, v2_], .bool r4]) ∧ Kd.R (Kd.int .u64) 23 w' w.heap.size (fun _ => True) v1_ r2 ∧ Kd.R Kd.string 9 w' w.heap.size (fun _ => True) v2_ r3 ∧ Below w.heap.size w w' := by
  have hu42 := Try.underlying42
  have HR0 := Aside0.mk hr0
  have HC0 := Aside0.mk hc0
  clear hr0 hc0
  have HB := Aside0.mk (Below.refl w.heap.size w)
  have H : ((impl_decode.f k l0).bind fun bt408 => (some (bt408.1, bt408.2.1, bt408.2.2.1, bt408.2.2.2))) = some (r1, r2, r3, r4) := h
  clear h
  replace H := Option.bind_eq_some_iff.mp H
  obtain ⟨⟨t408, t409, t412, t415⟩, A20, H⟩ := H
  replace H : (some (t408, t409, t412, t415)) = some (r1, r2, r3, r4) := H
  have A2 := Aside0.mk A20
  clear A20
  simp only [Option.some.injEq, Prod.mk.injEq] at H
  obtain ⟨rfl, rfl, rfl, rfl⟩ := H
  go_enter Try.func33, Try.ntmps33
  go_wp2_with (first | ((with_reducible refine gate_dst (N := 2) rfl ?_); refine box_event ?hg (N := 2) ?hd (cs := #[.int .i64 0, .slice none 0 0, .slice none 0 0]) (t := 42) ?hr ?_; (case hd => rfl); (case hg => rfl); (case hr => first | (go_simp; done) | (go_simp; rfl)); intro gb407 hg w3 hbox hb; have n0_ := Aside0.mk (below_step (by repeat (first | (with_reducible first | exact HB.out | apply below_alloc | apply pw_below_drewN | apply below_drew1) | exact HB.out)) hb); have n1_ := Aside0.mk (hbox); have n2_ := Aside0.mk ((by rw [hg]; exact (below_size (by repeat (first | (with_reducible first | exact HB.out | apply below_alloc | apply pw_below_drewN | apply below_drew1) | exact HB.out))) : w.heap.size ≤ gb407)); have n3_ := Aside0.mk ((by rw [hg]; exact (below_size (by repeat (first | (with_reducible first | exact HB.out | apply below_alloc | apply pw_below_drewN | apply below_drew1) | exact HB.out))) : w.heap.size ≤ gb407)); clear HB; have HB := n0_; have BK407 := n1_; have GW407 := n2_; have GE407 := n3_; clear n0_ n1_ n2_ n3_; clear hb hbox hg) | ((with_reducible refine gate_callee (f := 63) rfl ?_); refine goesL_ (some 5) rfl rfl Try.func63 (by kernel_rfl) rfl #[.slice A0 l0.length c0] rfl (by (try simp only [List.map_toArray, List.map_cons, List.map_nil]); first | done | rfl | (simp only [List.length_drop, List.length_take]; rfl)) ?_; (with_reducible refine (impl_decode.calls k _ _ l0 t408 t409 t412 t415 _ ?side1 ?side2 A2.out).mono ?_); (case side1 => repeat (first | exact (Kd.C_below HR0.out HB.out) | (with_reducible refine Kd.C_alloc ?_ _) | (with_reducible refine Kd.C_drewN ?_ _) | (with_reducible refine Kd.C_drew ?_))); (case side2 => exact HC0.out); rintro e w4 ⟨v410, v413, rfl, ho0, ho1, hb⟩; refine ⟨_, rfl, ?_⟩; have n0_ := Aside0.mk (Kd.R_lower ho0 (below_size (by repeat (first | (with_reducible first | exact HB.out | apply below_alloc | apply pw_below_drewN | apply below_drew1 | refine below_set ?_ GE407.out) | exact HB.out)))); have n1_ := Aside0.mk (Kd.R_lower ho1 (below_size (by repeat (first | (with_reducible first | exact HB.out | apply below_alloc | apply pw_below_drewN | apply below_drew1 | refine below_set ?_ GE407.out) | exact HB.out)))); have n2_ := Aside0.mk (blk_below (g := gb407) (o := .cells #[.int .i64 0, .slice none 0 0, .slice none 0 0] 42 (0, 0)) (by (with_reducible repeat (first | refine blk_drewN ?_ _ | refine blk_drew ?_ | refine blk_alloc ?_ _)); exact BK407.out) hb); have n3_ := Aside0.mk (below_step (by repeat (first | (with_reducible first | exact HB.out | apply below_alloc | apply pw_below_drewN | apply below_drew1 | refine below_set ?_ GE407.out) | exact HB.out)) hb); clear BK407; clear HB; have HO411 := n0_; have HO414 := n1_; have BK407 := n2_; have HB := n3_; clear n0_ n1_ n2_ n3_; (try clear hb); (try clear hb2); (try clear hk); (try clear hi); (try clear ho0); (try clear ho1); have hcz5_0 : w4.cell? ⟨gb407, 0, none⟩ = some (.int .i64 0) := (blk_cell BK407.out 0).trans rfl; have hcz5_1 : w4.cell? ⟨gb407, 1, none⟩ = some (.slice none 0 0) := (blk_cell BK407.out 1).trans rfl; have hcz5_2 : w4.cell? ⟨gb407, 2, none⟩ = some (.slice none 0 0) := (blk_cell BK407.out 2).trans rfl; have hfz5_0 := blk_frozen BK407.out 0; have hfz5_1 := blk_frozen BK407.out 1; have hfz5_2 := blk_frozen BK407.out 2; obtain ⟨Ao6, co6, eo6⟩ := Kd.R_slice HO411.out; subst eo6; obtain ⟨Ao7, co7, eo7⟩ := Kd.R_slice HO414.out; subst eo7))
  refine bodyPost_ret (results_ct rfl _ _ gb407 42 #[.int .i64 t408, .slice Ao6 t409.length co6, .slice Ao7 t412.length co7] (0, 0) _ rfl (by (with_reducible repeat (first | refine blk_drewN ?_ _ | refine blk_drew ?_ | refine blk_alloc ?_ _)); refine blk_put (cs := #[.int .i64 t408, .slice Ao6 t409.length co6, .slice none 0 0]) ?_ 2 _ rfl; (with_reducible repeat (first | refine blk_drewN ?_ _ | refine blk_drew ?_ | refine blk_alloc ?_ _)); refine blk_put (cs := #[.int .i64 t408, .slice none 0 0, .slice none 0 0]) ?_ 1 _ rfl; (with_reducible repeat (first | refine blk_drewN ?_ _ | refine blk_drew ?_ | refine blk_alloc ?_ _)); refine blk_put (cs := #[.int .i64 0, .slice none 0 0, .slice none 0 0]) ?_ 0 _ rfl; (with_reducible repeat (first | refine blk_drewN ?_ _ | refine blk_drew ?_ | refine blk_alloc ?_ _)); exact BK407.out) Try.underlying42 rfl (by kernel_rfl)) rfl ?_
  exact ⟨_, _, by first | rfl | (simp [errW_none, errW_some] <;> rfl) | (simp [*, errW_none, errW_some] <;> rfl), by (with_reducible repeat (first | apply Kd.R_alloc | apply Kd.R_drewN | apply Kd.R_drew)); exact Kd.R_mono (Kd.R_far (p := ⟨gb407, 2, none⟩) (Kd.R_far (p := ⟨gb407, 1, none⟩) (Kd.R_far (p := ⟨gb407, 0, none⟩) (Kd.R_types HO411.out BK407.out (by decide)) (fun _ hk => hk.2) (.int .i64 t408)) (fun _ hk => hk.2) (.slice Ao6 t409.length co6)) (fun _ hk => hk.2) (.slice Ao7 t412.length co7)) (fun _ hk => trivial), by (with_reducible repeat (first | apply Kd.R_alloc | apply Kd.R_drewN | apply Kd.R_drew)); exact Kd.R_mono (Kd.R_far (p := ⟨gb407, 2, none⟩) (Kd.R_far (p := ⟨gb407, 1, none⟩) (Kd.R_far (p := ⟨gb407, 0, none⟩) (Kd.R_types HO414.out BK407.out (by decide)) (fun _ hk => hk.2) (.int .i64 t408)) (fun _ hk => hk.2) (.slice Ao6 t409.length co6)) (fun _ hk => hk.2) (.slice Ao7 t412.length co7)) (fun _ hk => trivial), by repeat (first | (with_reducible first | exact HB.out | apply below_alloc | apply pw_below_drewN | apply below_drew1 | refine below_set ?_ GE407.out) | exact HB.out)⟩

end Go.Proofs.Ytgdebfaoohjikaa.F

namespace Go.Proofs.Ytgdebfaoohjikaa.F
open Go.RowKit Go.Proofs.YtgdebfaoohjikaaW.PrintWords Go.Proofs.YtgdebfaoohjikaaW.PrintLast Go.Proofs.YtgdebfaoohjikaaW.PrintMore
attribute [local go_sem] max2_int min2_int max_two min_two max_three min_three max_four min_four   -- for this text's walks alone
set_option linter.unusedVariables false
set_option linter.unusedSimpArgs false

/-! ### laws_heldUint64S: function 64 -/
def laws_heldUint64S.l0 : Nat → List Int → Int → Int → Option (Int)
  | 0, _, _, _ => none
  | k + 1, x0, x1, x5 => if x5 < (x0.length : Int) then (if 0 ≤ x5 then (if (rd x0 x5) = (IntKind.u64.wrap (x1)) then (laws_heldUint64S.l0 k x0 (wrap64 (x1 + 1)) (wrap64 (x5 + 1))) else (some (-1))) else (none)) else (some x1)
def laws_heldUint64S.f (k : Nat) (l0 : List Int) (a1 : Int) : Option (Int) := laws_heldUint64S.l0 k l0 a1 0
theorem laws_heldUint64S.mono_l : ∀ k, (∀ y0 y1 y2, LeO (laws_heldUint64S.l0 k y0 y1 y2) (laws_heldUint64S.l0 (k + 1) y0 y1 y2))
  | 0 => fun _ _ _ r h => by simp [laws_heldUint64S.l0] at h
  | k + 1 => by
    have ih0 := laws_heldUint64S.mono_l k
    · intro y0 y1 y2
      unfold laws_heldUint64S.l0
      repeat' first
      | (with_reducible exact ih0 _ _ _)
      | (with_reducible exact LeO.refl _)
      | (with_reducible exact LeO.none _)
      | (with_reducible refine LeO.ite ?_ ?_)
      | (with_reducible refine LeO.bind ?_ (fun _ => ?_))
      | exact ih0 _ _ _
      | exact LeO.none _
      | refine LeO.ite ?_ ?_
      | refine LeO.bind ?_ (fun _ => ?_)
theorem laws_heldUint64S.mono : ∀ a0 a1 k, LeO (laws_heldUint64S.f k a0 a1) (laws_heldUint64S.f (k + 1) a0 a1) := by
  intro a0 a1 k
  have ih0 := laws_heldUint64S.mono_l k
  unfold laws_heldUint64S.f
  repeat' first
      | (with_reducible exact ih0 _ _ _)
      | (with_reducible exact LeO.refl _)
      | (with_reducible exact LeO.none _)
      | (with_reducible refine LeO.ite ?_ ?_)
      | (with_reducible refine LeO.bind ?_ (fun _ => ?_))
      | exact ih0 _ _ _
      | exact LeO.none _
      | refine LeO.ite ?_ ?_
      | refine LeO.bind ?_ (fun _ => ?_)
set_option maxHeartbeats 8000000 in
set_option maxRecDepth 100000 in
theorem laws_heldUint64S.calls (k : Nat) (A0 : Option Addr) (c0 : Nat) (l0 : List Int) (a1 : Int) (r : Int) (w : World) (hr0 : Kd.C (Kd.int .u64) w A0 l0.length l0) (hc0 : l0.length ≤ c0) (h : laws_heldUint64S.f k l0 a1 = some r) :
    Calls Try.prog 64 #[.slice A0 l0.length c0, .int .i64 a1] w fun e w' => e = .returned (.int .i64 r) ∧ Drawn0 w w' := by
  have HR0 := Aside0.mk hr0
  have HC0 := Aside0.mk hc0
  clear hr0 hc0
  have H : (laws_heldUint64S.l0 k l0 a1 0) = some r := h
  clear h
  have H' := Aside0.mk H
  clear H
  go_enter Try.func64, Try.ntmps64
  go_wp2
  go_loopg [1, 5] k (fun kq v1 v5 w' => ∃ (x1_1 : Int) (x5_1 : Int), v1 = .int .i64 x1_1 ∧ v5 = .int .i64 x5_1 ∧ Aside0 (laws_heldUint64S.l0 kq l0 x1_1 x5_1 = some r) ∧ Aside0 (kq ≤ k) ∧ Drawn0 w w')
  case atStart => exact ⟨(a1), (0), (by first | rfl | (simp; done) | (simp [*]; done)), (by first | rfl | (simp; done) | (simp [*]; done)), H', ⟨Nat.le_refl _⟩, by repeat (first | exact Drawn0.refl _ | apply Drawn0.step)⟩
  case round =>
    clear H'
    try clear p2
    obtain ⟨x1_1, x5_1, rfl, rfl, HA, HK1, ⟨m1, rfl⟩⟩ := hrel
    cases gk with
    | zero => exact absurd HA.out (by simp [laws_heldUint64S.l0])
    | succ k1 =>
      have H := HA.out
      clear HA
      simp only [laws_heldUint64S.l0] at H
      by_cases c3 : x5_1 < (l0.length : Int)
      · rw [if_pos c3] at H
        have c3b0 : decide (x5_1 < (l0.length : Int)) = true := decide_eq_true c3
        clear c3
        by_cases c4 : 0 ≤ x5_1
        · rw [if_pos c4] at H
          have c4b0 : decide (0 ≤ x5_1) = true := decide_eq_true c4
          clear c4
          by_cases c5 : (rd l0 x5_1) = (IntKind.u64.wrap (x1_1))
          · rw [if_pos c5] at H
            have c5b0 : ((rd l0 x5_1) == (IntKind.u64.wrap (x1_1))) = true := beq_iff_eq.mpr c5
            have c5b1 : ((rd l0 x5_1) != (IntKind.u64.wrap (x1_1))) = false := bne_eq_false_iff_eq.mpr c5
            clear c5
            have H' := Aside0.mk H
            clear H
            have p416 : 0 ≤ (x5_1 : Int) := of_decide_eq_true (by first | (with_reducible assumption) | assumption)
            have q416 : x5_1 < (l0.length : Int) := of_decide_eq_true (by first | (with_reducible assumption) | assumption)
            obtain ⟨ad416, e416, hx416_0⟩ := Kd.at_int HR0.out x5_1 p416 q416
            cases e416
            replace p416 := eq_true p416
            replace q416 := eq_true q416
            go_wp2
            go_roundg k1
            case measure => have := HK1.out; omega
            case rel => exact ⟨(wrap64 (x1_1 + 1)), (wrap64 (x5_1 + 1)), (by first | rfl | (simp; done) | (simp [*]; done)), (by first | rfl | (simp; done) | (simp [*]; done)), H', ⟨by have := HK1.out; omega⟩, by repeat (first | exact Drawn0.refl _ | apply Drawn0.step)⟩
          · rw [if_neg c5] at H
            have c5b0 : ((rd l0 x5_1) == (IntKind.u64.wrap (x1_1))) = false := beq_eq_false_iff_ne.mpr c5
            have c5b1 : ((rd l0 x5_1) != (IntKind.u64.wrap (x1_1))) = true := bne_iff_ne.mpr c5
            obtain rfl := Option.some.inj H
            have p416 : 0 ≤ (x5_1 : Int) := of_decide_eq_true (by first | (with_reducible assumption) | assumption)
            have q416 : x5_1 < (l0.length : Int) := of_decide_eq_true (by first | (with_reducible assumption) | assumption)
            obtain ⟨ad416, e416, hx416_0⟩ := Kd.at_int HR0.out x5_1 p416 q416
            cases e416
            replace p416 := eq_true p416
            replace q416 := eq_true q416
            go_wp2
            go_ret
            exact ⟨by first | rfl | (simp; done) | (simp [*]; done), by repeat (first | exact Drawn0.refl _ | apply Drawn0.step)⟩
        · rw [if_neg c4] at H
          exact absurd H (by simp)
      · rw [if_neg c3] at H
        have c3b0 : decide (x5_1 < (l0.length : Int)) = false := decide_eq_false c3
        clear c3
        obtain rfl := Option.some.inj H
        go_wp2
        go_ret
        exact ⟨by first | rfl | (simp; done) | (simp [*]; done), by repeat (first | exact Drawn0.refl _ | apply Drawn0.step)⟩

end Go.Proofs.Ytgdebfaoohjikaa.F

namespace Go.Proofs.Ytgdebfaoohjikaa.F
open Go.RowKit Go.Proofs.YtgdebfaoohjikaaW.PrintWords Go.Proofs.YtgdebfaoohjikaaW.PrintLast Go.Proofs.YtgdebfaoohjikaaW.PrintMore
attribute [local go_sem] max2_int min2_int max_two min_two max_three min_three max_four min_four   -- for this text's walks alone
set_option linter.unusedVariables false
set_option linter.unusedSimpArgs false

/-! ### laws_heldStringS: function 65 -/
def laws_heldStringS.l0 : Nat → List ByteArray → Int → Int → Option (Int)
  | 0, _, _, _ => none
  | k + 1, x0, x1, x5 => if x5 < (x0.length : Int) then (if 0 ≤ x5 then ((laws_markText.f k x1).bind fun t418 => (if (rdOf ByteArray.empty x0 x5).toList = t418.toList then (laws_heldStringS.l0 k x0 (wrap64 (x1 + 1)) (wrap64 (x5 + 1))) else (some (-1)))) else (none)) else (some x1)
def laws_heldStringS.f (k : Nat) (l0 : List ByteArray) (a1 : Int) : Option (Int) := laws_heldStringS.l0 k l0 a1 0
theorem laws_heldStringS.mono_l : ∀ k, (∀ y0 y1 y2, LeO (laws_heldStringS.l0 k y0 y1 y2) (laws_heldStringS.l0 (k + 1) y0 y1 y2))
  | 0 => fun _ _ _ r h => by simp [laws_heldStringS.l0] at h
  | k + 1 => by
    have ih0 := laws_heldStringS.mono_l k
    · intro y0 y1 y2
      unfold laws_heldStringS.l0
      repeat' first
      | (with_reducible exact ih0 _ _ _)
      | (with_reducible exact laws_markText.mono _ _)
      | (with_reducible exact LeO.refl _)
      | (with_reducible exact LeO.none _)
      | (with_reducible refine LeO.ite ?_ ?_)
      | (with_reducible refine LeO.bind ?_ (fun _ => ?_))
      | exact ih0 _ _ _
      | exact laws_markText.mono _ _
      | exact LeO.none _
      | refine LeO.ite ?_ ?_
      | refine LeO.bind ?_ (fun _ => ?_)
theorem laws_heldStringS.mono : ∀ a0 a1 k, LeO (laws_heldStringS.f k a0 a1) (laws_heldStringS.f (k + 1) a0 a1) := by
  intro a0 a1 k
  have ih0 := laws_heldStringS.mono_l k
  unfold laws_heldStringS.f
  repeat' first
      | (with_reducible exact ih0 _ _ _)
      | (with_reducible exact laws_markText.mono _ _)
      | (with_reducible exact LeO.refl _)
      | (with_reducible exact LeO.none _)
      | (with_reducible refine LeO.ite ?_ ?_)
      | (with_reducible refine LeO.bind ?_ (fun _ => ?_))
      | exact ih0 _ _ _
      | exact laws_markText.mono _ _
      | exact LeO.none _
      | refine LeO.ite ?_ ?_
      | refine LeO.bind ?_ (fun _ => ?_)
set_option maxHeartbeats 8000000 in
set_option maxRecDepth 100000 in
theorem laws_heldStringS.calls (k : Nat) (A0 : Option Addr) (c0 : Nat) (l0 : List ByteArray) (a1 : Int) (r : Int) (w : World) (hr0 : Kd.C Kd.string w A0 l0.length l0) (hc0 : l0.length ≤ c0) (h : laws_heldStringS.f k l0 a1 = some r) :
    Calls Try.prog 65 #[.slice A0 l0.length c0, .int .i64 a1] w fun e w' => e = .returned (.int .i64 r) ∧ Below w.heap.size w w' := by
  have HR0 := Aside0.mk hr0
  have HC0 := Aside0.mk hc0
  clear hr0 hc0
  have HB := Aside0.mk (Below.refl w.heap.size w)
  have H : (laws_heldStringS.l0 k l0 a1 0) = some r := h
  clear h
  have H' := Aside0.mk H
  clear H
  go_enter Try.func65, Try.ntmps65
  go_wp2
  go_loopg [1, 5] k (fun kq v1 v5 w' => ∃ (x1_1 : Int) (x5_1 : Int), v1 = .int .i64 x1_1 ∧ v5 = .int .i64 x5_1 ∧ Aside0 (laws_heldStringS.l0 kq l0 x1_1 x5_1 = some r) ∧ Aside0 (kq ≤ k) ∧ Aside0 (Below w.heap.size w w'))
  case atStart => exact ⟨(a1), (0), (by first | rfl | (simp; done) | (simp [*]; done)), (by first | rfl | (simp; done) | (simp [*]; done)), H', ⟨Nat.le_refl _⟩, ⟨by repeat (first | (with_reducible first | exact HB.out | apply below_alloc | apply pw_below_drewN | apply below_drew1) | exact HB.out)⟩⟩
  case round =>
    clear H'
    try clear p2
    obtain ⟨x1_1, x5_1, rfl, rfl, HA, HK1, HB⟩ := hrel
    cases gk with
    | zero => exact absurd HA.out (by simp [laws_heldStringS.l0])
    | succ k1 =>
      have H := HA.out
      clear HA
      simp only [laws_heldStringS.l0] at H
      by_cases c3 : x5_1 < (l0.length : Int)
      · rw [if_pos c3] at H
        have c3b0 : decide (x5_1 < (l0.length : Int)) = true := decide_eq_true c3
        clear c3
        by_cases c4 : 0 ≤ x5_1
        · rw [if_pos c4] at H
          have c4b0 : decide (0 ≤ x5_1) = true := decide_eq_true c4
          clear c4
          replace H := Option.bind_eq_some_iff.mp H
          obtain ⟨t418, A50, H⟩ := H
          replace H : (if (rdOf ByteArray.empty l0 x5_1).toList = t418.toList then (laws_heldStringS.l0 k1 l0 (wrap64 (x1_1 + 1)) (wrap64 (x5_1 + 1))) else (some (-1))) = some r := H
          have A5 := Aside0.mk A50
          clear A50
          by_cases c6 : (rdOf ByteArray.empty l0 x5_1).toList = t418.toList
          · rw [if_pos c6] at H
            have c6b0 : ((rdOf ByteArray.empty l0 x5_1).toList == t418.toList) = true := beq_iff_eq.mpr c6
            have c6b1 : ((rdOf ByteArray.empty l0 x5_1).toList != t418.toList) = false := bne_eq_false_iff_eq.mpr c6
            clear c6
            have H' := Aside0.mk H
            clear H
            try go_wp2
            have n0_ := Aside0.mk (below_drew1 HB.out)
            clear HB
            have HB := n0_
            clear n0_
            have p417 : 0 ≤ (x5_1 : Int) := of_decide_eq_true (by first | (with_reducible assumption) | assumption)
            have q417 : x5_1 < (l0.length : Int) := of_decide_eq_true (by first | (with_reducible assumption) | assumption)
            obtain ⟨ad417, e417, hx417_0⟩ := Kd.at_string HR0.out x5_1 p417 q417
            have hw417_0 := hx417_0
            cases e417
            replace hx417_0 := (HB.out.cell (World.block_lt_of_cell? w _ hx417_0)).trans hx417_0
            replace p417 := eq_true p417
            replace q417 := eq_true q417
            refine start_ (n := 7) (S := fun w' => w'.cell? (ad417.add (x5_1).toNat) = some (.string (rdOf ByteArray.empty l0 x5_1))) (ds := []) #[false, false, false, false, false, false, false] (by kernel_rfl) rfl rfl (((HB.out.cell (World.block_lt_of_cell? w _ hw417_0)).trans hw417_0)) (fun hHeld => ?_)
            generalize wr.drew = w7 at HB hx417_0 hHeld ⊢
            refine pure_ (i := 0) (N := some 12) (v := ?_) (a' := ?_) #[true, false, false, false, false, false, false] rfl rfl (by kernel_rfl) (fun _ _ _ h => h) (Or.inl ⟨by rfl, ?_⟩) ?_ ?_
            rotate_left
            · intro w'
              go_simp
              with_reducible rfl
            rotate_left
            · simp only [Act.put, List.setIfInBounds_toArray, List.set_cons_zero, List.set_cons_succ, i64_w, i32_w]
              rfl
            refine pure_ (i := 1) (N := some 13) (v := ?_) (a' := ?_) #[true, true, false, false, false, false, false] rfl rfl (by kernel_rfl) (fun _ _ _ h => h) (Or.inl ⟨by rfl, ?_⟩) ?_ ?_
            rotate_left
            · intro w'
              go_simp
              with_reducible rfl
            rotate_left
            · simp only [Act.put, List.setIfInBounds_toArray, List.set_cons_zero, List.set_cons_succ, i64_w, i32_w]
              rfl
            refine pure_ (i := 2) (N := some 14) (v := ?_) (a' := ?_) #[true, true, true, false, false, false, false] rfl rfl (by kernel_rfl) (fun _ _ _ h => h) (Or.inl ⟨by rfl, ?_⟩) ?_ ?_
            rotate_left
            · intro w'
              go_simp
              with_reducible rfl
            rotate_left
            · simp only [Act.put, List.setIfInBounds_toArray, List.set_cons_zero, List.set_cons_succ, i64_w, i32_w]
              rfl
            refine pure_ (i := 4) (N := some 16) (v := ?_) (a' := ?_) #[true, true, true, false, true, false, false] rfl rfl (by kernel_rfl) (fun _ _ _ h => h) (Or.inl ⟨by rfl, ?_⟩) ?_ ?_
            rotate_left
            · intro w'
              go_simp
              with_reducible rfl
            rotate_left
            · simp only [Act.put, List.setIfInBounds_toArray, List.set_cons_zero, List.set_cons_succ, i64_w, i32_w]
              rfl
            refine take_ (i := 3) (N := some 15) (v := ?_) (a' := ?_) #[true, true, true, true, true, false, false] rfl rfl (by kernel_rfl) (fun _ _ _ h => h) (Or.inl ⟨by rfl, ?_⟩) hHeld ?_ ?_
            rotate_left
            · intro w' s0
              go_simp
              with_reducible rfl
            rotate_left
            · simp only [Act.put, List.setIfInBounds_toArray, List.set_cons_zero, List.set_cons_succ, i64_w, i32_w]
              rfl
            refine one_ (i := 5) (N := some 17) #[true, true, true, true, true, true, false] rfl rfl (by kernel_rfl) (by decide) (fun K hK => ?_)
            refine goes_ Try.func73 (by kernel_rfl) rfl #[.int .i64 x1_1] (by rfl) rfl rfl (by (try simp only [List.map_toArray, List.map_cons, List.map_nil]); first | done | rfl | (simp only [List.length_drop, List.length_take]; rfl)) ?_
            with_reducible refine (laws_markText.calls k1 x1_1 t418 _ A5.out).mono ?_
            rintro e w8 ⟨rfl, hb⟩
            refine ⟨_, rfl, ?_⟩
            have n0_ := Aside0.mk (below_step (by repeat (first | (with_reducible first | exact HB.out | apply below_alloc | apply pw_below_drewN | apply below_drew1) | exact HB.out)) hb)
            clear HB
            have HB := n0_
            clear n0_
            (try clear hb)
            (try clear hb2)
            (try clear hk)
            (try clear hi)
            refine hK.out _ _ (((HB.out.cell (World.block_lt_of_cell? w _ hw417_0)).trans hw417_0)) (fun hHeld => ?_)
            clear hK K
            refine norm_ (a' := ?_) ?_ ?_
            rotate_left
            · show Act.put _ (some 17) _ = _
              simp only [Act.put, List.setIfInBounds_toArray, List.set_cons_zero, List.set_cons_succ, i64_w, i32_w]
              rfl
            refine pure_ (i := 6) (N := some 18) (v := ?_) (a' := ?_) #[true, true, true, true, true, true, true] rfl rfl (by kernel_rfl) (fun _ _ _ h => h) (Or.inl ⟨by rfl, ?_⟩) ?_ ?_
            rotate_left
            · intro w'
              go_simp
              with_reducible rfl
            rotate_left
            · simp only [Act.put, List.setIfInBounds_toArray, List.set_cons_zero, List.set_cons_succ, i64_w, i32_w]
              rfl
            refine done_ (by kernel_rfl) ?_
            try go_wp2
            go_roundg k1
            case measure => have := HK1.out; omega
            case rel => exact ⟨(wrap64 (x1_1 + 1)), (wrap64 (x5_1 + 1)), (by first | rfl | (simp; done) | (simp [*]; done)), (by first | rfl | (simp; done) | (simp [*]; done)), H', ⟨by have := HK1.out; omega⟩, ⟨by repeat (first | (with_reducible first | exact HB.out | apply below_alloc | apply pw_below_drewN | apply below_drew1) | exact HB.out)⟩⟩
          · rw [if_neg c6] at H
            have c6b0 : ((rdOf ByteArray.empty l0 x5_1).toList == t418.toList) = false := beq_eq_false_iff_ne.mpr c6
            have c6b1 : ((rdOf ByteArray.empty l0 x5_1).toList != t418.toList) = true := bne_iff_ne.mpr c6
            obtain rfl := Option.some.inj H
            try go_wp2
            have n0_ := Aside0.mk (below_drew1 HB.out)
            clear HB
            have HB := n0_
            clear n0_
            have p417 : 0 ≤ (x5_1 : Int) := of_decide_eq_true (by first | (with_reducible assumption) | assumption)
            have q417 : x5_1 < (l0.length : Int) := of_decide_eq_true (by first | (with_reducible assumption) | assumption)
            obtain ⟨ad417, e417, hx417_0⟩ := Kd.at_string HR0.out x5_1 p417 q417
            have hw417_0 := hx417_0
            cases e417
            replace hx417_0 := (HB.out.cell (World.block_lt_of_cell? w _ hx417_0)).trans hx417_0
            replace p417 := eq_true p417
            replace q417 := eq_true q417
            refine start_ (n := 7) (S := fun w' => w'.cell? (ad417.add (x5_1).toNat) = some (.string (rdOf ByteArray.empty l0 x5_1))) (ds := []) #[false, false, false, false, false, false, false] (by kernel_rfl) rfl rfl (((HB.out.cell (World.block_lt_of_cell? w _ hw417_0)).trans hw417_0)) (fun hHeld => ?_)
            generalize wr.drew = w9 at HB hx417_0 hHeld ⊢
            refine pure_ (i := 0) (N := some 12) (v := ?_) (a' := ?_) #[true, false, false, false, false, false, false] rfl rfl (by kernel_rfl) (fun _ _ _ h => h) (Or.inl ⟨by rfl, ?_⟩) ?_ ?_
            rotate_left
            · intro w'
              go_simp
              with_reducible rfl
            rotate_left
            · simp only [Act.put, List.setIfInBounds_toArray, List.set_cons_zero, List.set_cons_succ, i64_w, i32_w]
              rfl
            refine pure_ (i := 1) (N := some 13) (v := ?_) (a' := ?_) #[true, true, false, false, false, false, false] rfl rfl (by kernel_rfl) (fun _ _ _ h => h) (Or.inl ⟨by rfl, ?_⟩) ?_ ?_
            rotate_left
            · intro w'
              go_simp
              with_reducible rfl
            rotate_left
            · simp only [Act.put, List.setIfInBounds_toArray, List.set_cons_zero, List.set_cons_succ, i64_w, i32_w]
              rfl
            refine pure_ (i := 2) (N := some 14) (v := ?_) (a' := ?_) #[true, true, true, false, false, false, false] rfl rfl (by kernel_rfl) (fun _ _ _ h => h) (Or.inl ⟨by rfl, ?_⟩) ?_ ?_
            rotate_left
            · intro w'
              go_simp
              with_reducible rfl
            rotate_left
            · simp only [Act.put, List.setIfInBounds_toArray, List.set_cons_zero, List.set_cons_succ, i64_w, i32_w]
              rfl
            refine pure_ (i := 4) (N := some 16) (v := ?_) (a' := ?_) #[true, true, true, false, true, false, false] rfl rfl (by kernel_rfl) (fun _ _ _ h => h) (Or.inl ⟨by rfl, ?_⟩) ?_ ?_
            rotate_left
            · intro w'
              go_simp
              with_reducible rfl
            rotate_left
            · simp only [Act.put, List.setIfInBounds_toArray, List.set_cons_zero, List.set_cons_succ, i64_w, i32_w]
              rfl
            refine take_ (i := 3) (N := some 15) (v := ?_) (a' := ?_) #[true, true, true, true, true, false, false] rfl rfl (by kernel_rfl) (fun _ _ _ h => h) (Or.inl ⟨by rfl, ?_⟩) hHeld ?_ ?_
            rotate_left
            · intro w' s0
              go_simp
              with_reducible rfl
            rotate_left
            · simp only [Act.put, List.setIfInBounds_toArray, List.set_cons_zero, List.set_cons_succ, i64_w, i32_w]
              rfl
            refine one_ (i := 5) (N := some 17) #[true, true, true, true, true, true, false] rfl rfl (by kernel_rfl) (by decide) (fun K hK => ?_)
            refine goes_ Try.func73 (by kernel_rfl) rfl #[.int .i64 x1_1] (by rfl) rfl rfl (by (try simp only [List.map_toArray, List.map_cons, List.map_nil]); first | done | rfl | (simp only [List.length_drop, List.length_take]; rfl)) ?_
            with_reducible refine (laws_markText.calls k1 x1_1 t418 _ A5.out).mono ?_
            rintro e w10 ⟨rfl, hb⟩
            refine ⟨_, rfl, ?_⟩
            have n0_ := Aside0.mk (below_step (by repeat (first | (with_reducible first | exact HB.out | apply below_alloc | apply pw_below_drewN | apply below_drew1) | exact HB.out)) hb)
            clear HB
            have HB := n0_
            clear n0_
            (try clear hb)
            (try clear hb2)
            (try clear hk)
            (try clear hi)
            refine hK.out _ _ (((HB.out.cell (World.block_lt_of_cell? w _ hw417_0)).trans hw417_0)) (fun hHeld => ?_)
            clear hK K
            refine norm_ (a' := ?_) ?_ ?_
            rotate_left
            · show Act.put _ (some 17) _ = _
              simp only [Act.put, List.setIfInBounds_toArray, List.set_cons_zero, List.set_cons_succ, i64_w, i32_w]
              rfl
            refine pure_ (i := 6) (N := some 18) (v := ?_) (a' := ?_) #[true, true, true, true, true, true, true] rfl rfl (by kernel_rfl) (fun _ _ _ h => h) (Or.inl ⟨by rfl, ?_⟩) ?_ ?_
            rotate_left
            · intro w'
              go_simp
              with_reducible rfl
            rotate_left
            · simp only [Act.put, List.setIfInBounds_toArray, List.set_cons_zero, List.set_cons_succ, i64_w, i32_w]
              rfl
            refine done_ (by kernel_rfl) ?_
            try go_wp2
            go_ret
            exact ⟨by first | rfl | (simp [errW_none, errW_some] <;> rfl) | (simp [*, errW_none, errW_some] <;> rfl), by repeat (first | (with_reducible first | exact HB.out | apply below_alloc | apply pw_below_drewN | apply below_drew1) | exact HB.out)⟩
        · rw [if_neg c4] at H
          exact absurd H (by simp)
      · rw [if_neg c3] at H
        have c3b0 : decide (x5_1 < (l0.length : Int)) = false := decide_eq_false c3
        clear c3
        obtain rfl := Option.some.inj H
        go_wp2
        go_ret
        exact ⟨by first | rfl | (simp [errW_none, errW_some] <;> rfl) | (simp [*, errW_none, errW_some] <;> rfl), by repeat (first | (with_reducible first | exact HB.out | apply below_alloc | apply pw_below_drewN | apply below_drew1) | exact HB.out)⟩

end Go.Proofs.Ytgdebfaoohjikaa.F
