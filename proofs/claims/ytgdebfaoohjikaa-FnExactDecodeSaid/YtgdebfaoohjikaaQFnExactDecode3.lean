/- Merged texts below the law FnExactDecode: Go functions as Lean functions, their contracts, and plain lemmas. -/
import Derived.Test.YtgdebfaoohjikaaQFnExactDecode1
import Derived.Test.YtgdebfaoohjikaaQFnExactDecode2
import Derived.Test.YtgdebfaoohjikaaWMore
import Derived.Laws.BitsAllLaws
import Derived.Laws.Bits64
namespace Go.Proofs.Ytgdebfaoohjikaa.F
open Go.RowKit Go.Proofs.YtgdebfaoohjikaaW.PrintWords Go.Proofs.YtgdebfaoohjikaaW.PrintLast Go.Proofs.YtgdebfaoohjikaaW.PrintMore
attribute [local go_sem] max2_int min2_int max_two min_two max_three min_three max_four min_four   -- for this text's walks alone
set_option linter.unusedVariables false
set_option linter.unusedSimpArgs false

/-! ### laws_heldRecord: function 34 -/
def laws_heldRecord.f (k : Nat) (a0_0 : Int) (l0_1 : List Int) (l0_2 : List ByteArray) (a1 : Int) : Option (Int) := (laws_heldUint64S.f k l0_1 a1).bind fun t420 => (if t420 < 0 then (some (-1)) else ((laws_heldStringS.f k l0_2 t420).bind fun t421 => (if t421 < 0 then (some (-1)) else (some t421))))
theorem laws_heldRecord.mono : ∀ a0 a1 a2 a3 k, LeO (laws_heldRecord.f k a0 a1 a2 a3) (laws_heldRecord.f (k + 1) a0 a1 a2 a3) := by
  intro a0 a1 a2 a3 k
  unfold laws_heldRecord.f
  repeat' first
      | (with_reducible exact laws_heldStringS.mono _ _ _)
      | (with_reducible exact laws_heldUint64S.mono _ _ _)
      | (with_reducible exact LeO.refl _)
      | (with_reducible exact LeO.none _)
      | (with_reducible refine LeO.ite ?_ ?_)
      | (with_reducible refine LeO.bind ?_ (fun _ => ?_))
      | exact laws_heldStringS.mono _ _ _
      | exact laws_heldUint64S.mono _ _ _
      | exact LeO.none _
      | refine LeO.ite ?_ ?_
      | refine LeO.bind ?_ (fun _ => ?_)
set_option maxHeartbeats 8000000 in
set_option maxRecDepth 100000 in
theorem laws_heldRecord.calls (k : Nat) (a0_0 : Int) (A0_1 : Option Addr) (c0_1 : Nat) (l0_1 : List Int) (A0_2 : Option Addr) (c0_2 : Nat) (l0_2 : List ByteArray) (a1 : Int) (r : Int) (w : World) (hr0_1 : Kd.C (Kd.int .u64) w A0_1 l0_1.length l0_1) (hc0_1 : l0_1.length ≤ c0_1) (hr0_2 : Kd.C Kd.string w A0_2 l0_2.length l0_2) (hc0_2 : l0_2.length ≤ c0_2) (h : laws_heldRecord.f k a0_0 l0_1 l0_2 a1 = some r) :
    Calls Try.prog 34 #[.agg #[.int .i64 a0_0, .slice A0_1 l0_1.length c0_1, .slice A0_2 l0_2.length c0_2], .int .i64 a1] w fun e w' => e = .returned (.int .i64 r) ∧ Below w.heap.size w w' := by
  have hu42 := Try.underlying42
  have HR0_1 := Aside0.mk hr0_1
  have HC0_1 := Aside0.mk hc0_1
  clear hr0_1 hc0_1
  have HR0_2 := Aside0.mk hr0_2
  have HC0_2 := Aside0.mk hc0_2
  clear hr0_2 hc0_2
  have HB := Aside0.mk (Below.refl w.heap.size w)
  have H : ((laws_heldUint64S.f k l0_1 a1).bind fun t420 => (if t420 < 0 then (some (-1)) else ((laws_heldStringS.f k l0_2 t420).bind fun t421 => (if t421 < 0 then (some (-1)) else (some t421))))) = some r := h
  clear h
  replace H := Option.bind_eq_some_iff.mp H
  obtain ⟨t420, A30, H⟩ := H
  replace H : (if t420 < 0 then (some (-1)) else ((laws_heldStringS.f k l0_2 t420).bind fun t421 => (if t421 < 0 then (some (-1)) else (some t421)))) = some r := H
  have A3 := Aside0.mk A30
  clear A30
  by_cases c4 : t420 < 0
  · rw [if_pos c4] at H
    have c4b0 : decide (t420 < 0) = true := decide_eq_true c4
    clear c4
    obtain rfl := Option.some.inj H
    go_enter Try.func34, Try.ntmps34
    go_wp2_with (first | ((with_reducible refine gate_dst (N := 2) rfl ?_); refine box_event ?hg (N := 2) ?hd (cs := #[.int .i64 a0_0, .slice A0_1 l0_1.length c0_1, .slice A0_2 l0_2.length c0_2]) (t := 42) ?hr ?_; (case hd => rfl); (case hg => rfl); (case hr => first | (go_simp; done) | (go_simp; rfl)); intro gb419 hg w5 hbox hb; have n0_ := Aside0.mk (below_step (by repeat (first | (with_reducible first | exact HB.out | apply below_alloc | apply pw_below_drewN | apply below_drew1) | exact HB.out)) hb); have n1_ := Aside0.mk (hbox); have n2_ := Aside0.mk ((by rw [hg]; exact (below_size (by repeat (first | (with_reducible first | exact HB.out | apply below_alloc | apply pw_below_drewN | apply below_drew1) | exact HB.out))) : w.heap.size ≤ gb419)); have n3_ := Aside0.mk ((by rw [hg]; exact (below_size (by repeat (first | (with_reducible first | exact HB.out | apply below_alloc | apply pw_below_drewN | apply below_drew1) | exact HB.out))) : w.heap.size ≤ gb419)); clear HB; have HB := n0_; have BK419 := n1_; have GW419 := n2_; have GE419 := n3_; clear n0_ n1_ n2_ n3_; clear hb hbox hg; have hcz6_0 : w5.cell? ⟨gb419, 0, none⟩ = some (.int .i64 a0_0) := (blk_cell BK419.out 0).trans rfl; have hcz6_1 : w5.cell? ⟨gb419, 1, none⟩ = some (.slice A0_1 l0_1.length c0_1) := (blk_cell BK419.out 1).trans rfl; have hcz6_2 : w5.cell? ⟨gb419, 2, none⟩ = some (.slice A0_2 l0_2.length c0_2) := (blk_cell BK419.out 2).trans rfl; have hfz6_0 := blk_frozen BK419.out 0; have hfz6_1 := blk_frozen BK419.out 1; have hfz6_2 := blk_frozen BK419.out 2) | ((with_reducible refine gate_callee (f := 64) rfl ?_); refine goesL_ (some 8) rfl rfl Try.func64 (by kernel_rfl) rfl #[.slice A0_1 l0_1.length c0_1, .int .i64 a1] rfl (by (try simp only [List.map_toArray, List.map_cons, List.map_nil]); first | done | rfl | (simp only [List.length_drop, List.length_take]; rfl)) ?_; (with_reducible refine (laws_heldUint64S.calls k _ _ l0_1 a1 t420 _ ?side1 ?side2 A3.out).mono ?_); (case side1 => repeat (first | exact (Kd.C_below HR0_1.out HB.out) | (with_reducible refine Kd.C_alloc ?_ _) | (with_reducible refine Kd.C_drewN ?_ _) | (with_reducible refine Kd.C_drew ?_))); (case side2 => exact HC0_1.out); rintro e w' ⟨rfl, ⟨nd, rfl⟩⟩; refine ⟨_, rfl, ?_⟩))
    go_ret
    exact ⟨by first | rfl | (simp [errW_none, errW_some] <;> rfl) | (simp [*, errW_none, errW_some] <;> rfl), by repeat (first | (with_reducible first | exact HB.out | apply below_alloc | apply pw_below_drewN | apply below_drew1 | refine below_set ?_ GE419.out) | exact HB.out)⟩
  · rw [if_neg c4] at H
    have c4b0 : decide (t420 < 0) = false := decide_eq_false c4
    clear c4
    replace H := Option.bind_eq_some_iff.mp H
    obtain ⟨t421, A70, H⟩ := H
    replace H : (if t421 < 0 then (some (-1)) else (some t421)) = some r := H
    have A7 := Aside0.mk A70
    clear A70
    by_cases c8 : t421 < 0
    · rw [if_pos c8] at H
      have c8b0 : decide (t421 < 0) = true := decide_eq_true c8
      clear c8
      obtain rfl := Option.some.inj H
      go_enter Try.func34, Try.ntmps34
      go_wp2_with (first | ((with_reducible refine gate_dst (N := 2) rfl ?_); refine box_event ?hg (N := 2) ?hd (cs := #[.int .i64 a0_0, .slice A0_1 l0_1.length c0_1, .slice A0_2 l0_2.length c0_2]) (t := 42) ?hr ?_; (case hd => rfl); (case hg => rfl); (case hr => first | (go_simp; done) | (go_simp; rfl)); intro gb419 hg w9 hbox hb; have n0_ := Aside0.mk (below_step (by repeat (first | (with_reducible first | exact HB.out | apply below_alloc | apply pw_below_drewN | apply below_drew1) | exact HB.out)) hb); have n1_ := Aside0.mk (hbox); have n2_ := Aside0.mk ((by rw [hg]; exact (below_size (by repeat (first | (with_reducible first | exact HB.out | apply below_alloc | apply pw_below_drewN | apply below_drew1) | exact HB.out))) : w.heap.size ≤ gb419)); have n3_ := Aside0.mk ((by rw [hg]; exact (below_size (by repeat (first | (with_reducible first | exact HB.out | apply below_alloc | apply pw_below_drewN | apply below_drew1) | exact HB.out))) : w.heap.size ≤ gb419)); clear HB; have HB := n0_; have BK419 := n1_; have GW419 := n2_; have GE419 := n3_; clear n0_ n1_ n2_ n3_; clear hb hbox hg; have hcz10_0 : w9.cell? ⟨gb419, 0, none⟩ = some (.int .i64 a0_0) := (blk_cell BK419.out 0).trans rfl; have hcz10_1 : w9.cell? ⟨gb419, 1, none⟩ = some (.slice A0_1 l0_1.length c0_1) := (blk_cell BK419.out 1).trans rfl; have hcz10_2 : w9.cell? ⟨gb419, 2, none⟩ = some (.slice A0_2 l0_2.length c0_2) := (blk_cell BK419.out 2).trans rfl; have hfz10_0 := blk_frozen BK419.out 0; have hfz10_1 := blk_frozen BK419.out 1; have hfz10_2 := blk_frozen BK419.out 2) | ((with_reducible refine gate_callee (f := 64) rfl ?_); refine goesL_ (some 8) rfl rfl Try.func64 (by kernel_rfl) rfl #[.slice A0_1 l0_1.length c0_1, .int .i64 a1] rfl (by (try simp only [List.map_toArray, List.map_cons, List.map_nil]); first | done | rfl | (simp only [List.length_drop, List.length_take]; rfl)) ?_; (with_reducible refine (laws_heldUint64S.calls k _ _ l0_1 a1 t420 _ ?side1 ?side2 A3.out).mono ?_); (case side1 => repeat (first | exact (Kd.C_below HR0_1.out HB.out) | (with_reducible refine Kd.C_alloc ?_ _) | (with_reducible refine Kd.C_drewN ?_ _) | (with_reducible refine Kd.C_drew ?_))); (case side2 => exact HC0_1.out); rintro e w' ⟨rfl, ⟨nd, rfl⟩⟩; refine ⟨_, rfl, ?_⟩) | ((with_reducible refine gate_callee (f := 65) rfl ?_); refine goesL_ (some 14) rfl rfl Try.func65 (by kernel_rfl) rfl #[.slice A0_2 l0_2.length c0_2, .int .i64 t420] rfl (by (try simp only [List.map_toArray, List.map_cons, List.map_nil]); first | done | rfl | (simp only [List.length_drop, List.length_take]; rfl)) ?_; (with_reducible refine (laws_heldStringS.calls k _ _ l0_2 t420 t421 _ ?side1 ?side2 A7.out).mono ?_); (case side1 => repeat (first | exact (Kd.C_below HR0_2.out (by repeat (first | (with_reducible first | exact HB.out | apply below_alloc | apply pw_below_drewN | apply below_drew1 | refine below_set ?_ GE419.out) | exact HB.out))) | (with_reducible refine Kd.C_alloc ?_ _) | (with_reducible refine Kd.C_drewN ?_ _) | (with_reducible refine Kd.C_drew ?_))); (case side2 => exact HC0_2.out); rintro e w11 ⟨rfl, hb⟩; refine ⟨_, rfl, ?_⟩; have n0_ := Aside0.mk (blk_below (g := gb419) (o := .cells #[.int .i64 a0_0, .slice A0_1 l0_1.length c0_1, .slice A0_2 l0_2.length c0_2] 42 (0, 0)) (by (with_reducible repeat (first | refine blk_drewN ?_ _ | refine blk_drew ?_ | refine blk_alloc ?_ _)); exact BK419.out) hb); have n1_ := Aside0.mk (below_step (by repeat (first | (with_reducible first | exact HB.out | apply below_alloc | apply pw_below_drewN | apply below_drew1 | refine below_set ?_ GE419.out) | exact HB.out)) hb); clear BK419; clear HB; have BK419 := n0_; have HB := n1_; clear n0_ n1_; (try clear hb); (try clear hb2); (try clear hk); (try clear hi)))
      go_ret
      exact ⟨by first | rfl | (simp [errW_none, errW_some] <;> rfl) | (simp [*, errW_none, errW_some] <;> rfl), by repeat (first | (with_reducible first | exact HB.out | apply below_alloc | apply pw_below_drewN | apply below_drew1 | refine below_set ?_ GE419.out) | exact HB.out)⟩
    · rw [if_neg c8] at H
      have c8b0 : decide (t421 < 0) = false := decide_eq_false c8
      clear c8
      obtain rfl := Option.some.inj H
      go_enter Try.func34, Try.ntmps34
      go_wp2_with (first | ((with_reducible refine gate_dst (N := 2) rfl ?_); refine box_event ?hg (N := 2) ?hd (cs := #[.int .i64 a0_0, .slice A0_1 l0_1.length c0_1, .slice A0_2 l0_2.length c0_2]) (t := 42) ?hr ?_; (case hd => rfl); (case hg => rfl); (case hr => first | (go_simp; done) | (go_simp; rfl)); intro gb419 hg w12 hbox hb; have n0_ := Aside0.mk (below_step (by repeat (first | (with_reducible first | exact HB.out | apply below_alloc | apply pw_below_drewN | apply below_drew1) | exact HB.out)) hb); have n1_ := Aside0.mk (hbox); have n2_ := Aside0.mk ((by rw [hg]; exact (below_size (by repeat (first | (with_reducible first | exact HB.out | apply below_alloc | apply pw_below_drewN | apply below_drew1) | exact HB.out))) : w.heap.size ≤ gb419)); have n3_ := Aside0.mk ((by rw [hg]; exact (below_size (by repeat (first | (with_reducible first | exact HB.out | apply below_alloc | apply pw_below_drewN | apply below_drew1) | exact HB.out))) : w.heap.size ≤ gb419)); clear HB; have HB := n0_; have BK419 := n1_; have GW419 := n2_; have GE419 := n3_; clear n0_ n1_ n2_ n3_; clear hb hbox hg; have hcz13_0 : w12.cell? ⟨gb419, 0, none⟩ = some (.int .i64 a0_0) := (blk_cell BK419.out 0).trans rfl; have hcz13_1 : w12.cell? ⟨gb419, 1, none⟩ = some (.slice A0_1 l0_1.length c0_1) := (blk_cell BK419.out 1).trans rfl; have hcz13_2 : w12.cell? ⟨gb419, 2, none⟩ = some (.slice A0_2 l0_2.length c0_2) := (blk_cell BK419.out 2).trans rfl; have hfz13_0 := blk_frozen BK419.out 0; have hfz13_1 := blk_frozen BK419.out 1; have hfz13_2 := blk_frozen BK419.out 2) | ((with_reducible refine gate_callee (f := 64) rfl ?_); refine goesL_ (some 8) rfl rfl Try.func64 (by kernel_rfl) rfl #[.slice A0_1 l0_1.length c0_1, .int .i64 a1] rfl (by (try simp only [List.map_toArray, List.map_cons, List.map_nil]); first | done | rfl | (simp only [List.length_drop, List.length_take]; rfl)) ?_; (with_reducible refine (laws_heldUint64S.calls k _ _ l0_1 a1 t420 _ ?side1 ?side2 A3.out).mono ?_); (case side1 => repeat (first | exact (Kd.C_below HR0_1.out HB.out) | (with_reducible refine Kd.C_alloc ?_ _) | (with_reducible refine Kd.C_drewN ?_ _) | (with_reducible refine Kd.C_drew ?_))); (case side2 => exact HC0_1.out); rintro e w' ⟨rfl, ⟨nd, rfl⟩⟩; refine ⟨_, rfl, ?_⟩) | ((with_reducible refine gate_callee (f := 65) rfl ?_); refine goesL_ (some 14) rfl rfl Try.func65 (by kernel_rfl) rfl #[.slice A0_2 l0_2.length c0_2, .int .i64 t420] rfl (by (try simp only [List.map_toArray, List.map_cons, List.map_nil]); first | done | rfl | (simp only [List.length_drop, List.length_take]; rfl)) ?_; (with_reducible refine (laws_heldStringS.calls k _ _ l0_2 t420 t421 _ ?side1 ?side2 A7.out).mono ?_); (case side1 => repeat (first | exact (Kd.C_below HR0_2.out (by repeat (first | (with_reducible first | exact HB.out | apply below_alloc | apply pw_below_drewN | apply below_drew1 | refine below_set ?_ GE419.out) | exact HB.out))) | (with_reducible refine Kd.C_alloc ?_ _) | (with_reducible refine Kd.C_drewN ?_ _) | (with_reducible refine Kd.C_drew ?_))); (case side2 => exact HC0_2.out); rintro e w14 ⟨rfl, hb⟩; refine ⟨_, rfl, ?_⟩; have n0_ := Aside0.mk (blk_below (g := gb419) (o := .cells #[.int .i64 a0_0, .slice A0_1 l0_1.length c0_1, .slice A0_2 l0_2.length c0_2] 42 (0, 0)) (by (with_reducible repeat (first | refine blk_drewN ?_ _ | refine blk_drew ?_ | refine blk_alloc ?_ _)); exact BK419.out) hb); have n1_ := Aside0.mk (below_step (by repeat (first | (with_reducible first | exact HB.out | apply below_alloc | apply pw_below_drewN | apply below_drew1 | refine below_set ?_ GE419.out) | exact HB.out)) hb); clear BK419; clear HB; have BK419 := n0_; have HB := n1_; clear n0_ n1_; (try clear hb); (try clear hb2); (try clear hk); (try clear hi)))
      go_ret
      exact ⟨by first | rfl | (simp [errW_none, errW_some] <;> rfl) | (simp [*, errW_none, errW_some] <;> rfl), by repeat (first | (with_reducible first | exact HB.out | apply below_alloc | apply pw_below_drewN | apply below_drew1 | refine below_set ?_ GE419.out) | exact HB.out)⟩

end Go.Proofs.Ytgdebfaoohjikaa.F

namespace Go.Proofs.Ytgdebfaoohjikaa.F
open Go.RowKit Go.Proofs.YtgdebfaoohjikaaW.PrintWords Go.Proofs.YtgdebfaoohjikaaW.PrintLast Go.Proofs.YtgdebfaoohjikaaW.PrintMore
attribute [local go_sem] max2_int min2_int max_two min_two max_three min_three max_four min_four   -- for this text's walks alone
set_option linter.unusedVariables false
set_option linter.unusedSimpArgs false

/-! ### laws_FnExactDecode: function 9 -/
mutual
def laws_FnExactDecode.j0 : Nat → List Int → Bool → List Int → Bool → Bool → Int → List Int → List ByteArray → Int → List Int → List ByteArray → Option (Bool)
  | 0, _, _, _, _, _, _, _, _, _, _, _ => none
  | k + 1, x0, x4, x5, x7, x37, x430000, x430001, x430002, x442000, x442001, x442002 => if x37 = true then (none) else ((laws_toByteS.f k x0).bind fun t443 => ((laws_eqByteS.f k x5 t443).bind fun t446 => (if t446 = true then ((laws_markByteS.f k x5 1).bind fun bt447 => (if bt447.1 < 0 then (none) else ((laws_eqRecord.f k x442000 x442001 x442002 x430000 x430001 x430002).bind fun t449 => (if t449 = true then (laws_FnExactDecode.j1 k x0 x4 (x7 != x4) x430000 x430001 x430002 x442000 x442001 x442002) else (none))))) else (none))))
def laws_FnExactDecode.j1 : Nat → List Int → Bool → Bool → Int → List Int → List ByteArray → Int → List Int → List ByteArray → Option (Bool)
  | 0, _, _, _, _, _, _, _, _, _ => none
  | k + 1, x0, x4, x58, x430000, x430001, x430002, x442000, x442001, x442002 => if x58 = true then (none) else ((laws_markRecord.f k x442000 x442001 x442002 1).bind fun bt450 => ((laws_heldRecord.f k x442000 bt450.2.1 bt450.2.2 1).bind fun t453 => (if t453 < 0 then (none) else (if t453 = bt450.1 then ((laws_toByteS.f k x0).bind fun t454 => ((impl_Decode.f k t454).bind fun bt457 => ((laws_eqRecord.f k bt457.1 bt457.2.1 bt457.2.2.1 x430000 x430001 x430002).bind fun t466 => (if t466 = true then (laws_FnExactDecode.j2 k bt450.1 (bt457.2.2.2 != x4) x442000 bt450.2.1 bt450.2.2) else (none))))) else (none)))))
def laws_FnExactDecode.j2 : Nat → Int → Bool → Int → List Int → List ByteArray → Option (Bool)
  | 0, _, _, _, _, _ => none
  | k + 1, x9, x84, x442000, x442001, x442002 => if x84 = true then (none) else ((laws_heldRecord.f k x442000 x442001 x442002 1).bind fun t467 => (if t467 < 0 then (none) else (if t467 = x9 then (some true) else (none))))
end
def laws_FnExactDecode.f (k : Nat) (l0 : List Int) : Option (Bool) := if (l0.length : Int) > 1048576 then (some true) else ((laws_toByteS.f k l0).bind fun t418 => ((spec_Decode.f k t418).bind fun bt421 => ((laws_toByteS.f k l0).bind fun t430 => ((impl_Decode.f k t430).bind fun bt433 => ((laws_eqRecord.f k bt433.1 bt433.2.1 bt433.2.2.1 bt421.1 bt421.2.1 bt421.2.2.1).bind fun t442 => (if t442 = true then (laws_FnExactDecode.j0 k l0 bt421.2.2.2 t430 bt433.2.2.2 (bt433.2.2.2 != bt421.2.2.2) bt421.1 bt421.2.1 bt421.2.2.1 bt433.1 bt433.2.1 bt433.2.2.1) else (none)))))))
theorem laws_FnExactDecode.mono_l : ∀ k, (∀ y0 y1 y2 y3 y4 y5 y6 y7 y8 y9 y10, LeO (laws_FnExactDecode.j0 k y0 y1 y2 y3 y4 y5 y6 y7 y8 y9 y10) (laws_FnExactDecode.j0 (k + 1) y0 y1 y2 y3 y4 y5 y6 y7 y8 y9 y10)) ∧ (∀ y0 y1 y2 y3 y4 y5 y6 y7 y8, LeO (laws_FnExactDecode.j1 k y0 y1 y2 y3 y4 y5 y6 y7 y8) (laws_FnExactDecode.j1 (k + 1) y0 y1 y2 y3 y4 y5 y6 y7 y8)) ∧ (∀ y0 y1 y2 y3 y4, LeO (laws_FnExactDecode.j2 k y0 y1 y2 y3 y4) (laws_FnExactDecode.j2 (k + 1) y0 y1 y2 y3 y4))
  | 0 => ⟨fun _ _ _ _ _ _ _ _ _ _ _ r h => by simp [laws_FnExactDecode.j0] at h, fun _ _ _ _ _ _ _ _ _ r h => by simp [laws_FnExactDecode.j1] at h, fun _ _ _ _ _ r h => by simp [laws_FnExactDecode.j2] at h⟩
  | k + 1 => by
    obtain ⟨ih0, ih1, ih2⟩ := laws_FnExactDecode.mono_l k
    refine ⟨?_, ?_, ?_⟩
    · intro y0 y1 y2 y3 y4 y5 y6 y7 y8 y9 y10
      unfold laws_FnExactDecode.j0
      repeat' first
      | (with_reducible exact ih0 _ _ _ _ _ _ _ _ _ _ _)
      | (with_reducible exact ih1 _ _ _ _ _ _ _ _ _)
      | (with_reducible exact ih2 _ _ _ _ _)
      | (with_reducible exact impl_Decode.mono _ _)
      | (with_reducible exact laws_eqByteS.mono _ _ _)
      | (with_reducible exact laws_eqRecord.mono _ _ _ _ _ _ _)
      | (with_reducible exact laws_heldRecord.mono _ _ _ _ _)
      | (with_reducible exact laws_markByteS.mono _ _ _)
      | (with_reducible exact laws_markRecord.mono _ _ _ _ _)
      | (with_reducible exact laws_toByteS.mono _ _)
      | (with_reducible exact spec_Decode.mono _ _)
      | (with_reducible exact LeO.refl _)
      | (with_reducible exact LeO.none _)
      | (with_reducible refine LeO.ite ?_ ?_)
      | (with_reducible refine LeO.bind ?_ (fun _ => ?_))
      | exact ih0 _ _ _ _ _ _ _ _ _ _ _
      | exact ih1 _ _ _ _ _ _ _ _ _
      | exact ih2 _ _ _ _ _
      | exact impl_Decode.mono _ _
      | exact laws_eqByteS.mono _ _ _
      | exact laws_eqRecord.mono _ _ _ _ _ _ _
      | exact laws_heldRecord.mono _ _ _ _ _
      | exact laws_markByteS.mono _ _ _
      | exact laws_markRecord.mono _ _ _ _ _
      | exact laws_toByteS.mono _ _
      | exact spec_Decode.mono _ _
      | exact LeO.none _
      | refine LeO.ite ?_ ?_
      | refine LeO.bind ?_ (fun _ => ?_)
    · intro y0 y1 y2 y3 y4 y5 y6 y7 y8
      unfold laws_FnExactDecode.j1
      repeat' first
      | (with_reducible exact ih0 _ _ _ _ _ _ _ _ _ _ _)
      | (with_reducible exact ih1 _ _ _ _ _ _ _ _ _)
      | (with_reducible exact ih2 _ _ _ _ _)
      | (with_reducible exact impl_Decode.mono _ _)
      | (with_reducible exact laws_eqByteS.mono _ _ _)
      | (with_reducible exact laws_eqRecord.mono _ _ _ _ _ _ _)
      | (with_reducible exact laws_heldRecord.mono _ _ _ _ _)
      | (with_reducible exact laws_markByteS.mono _ _ _)
      | (with_reducible exact laws_markRecord.mono _ _ _ _ _)
      | (with_reducible exact laws_toByteS.mono _ _)
      | (with_reducible exact spec_Decode.mono _ _)
      | (with_reducible exact LeO.refl _)
      | (with_reducible exact LeO.none _)
      | (with_reducible refine LeO.ite ?_ ?_)
      | (with_reducible refine LeO.bind ?_ (fun _ => ?_))
      | exact ih0 _ _ _ _ _ _ _ _ _ _ _
      | exact ih1 _ _ _ _ _ _ _ _ _
      | exact ih2 _ _ _ _ _
      | exact impl_Decode.mono _ _
      | exact laws_eqByteS.mono _ _ _
      | exact laws_eqRecord.mono _ _ _ _ _ _ _
      | exact laws_heldRecord.mono _ _ _ _ _
      | exact laws_markByteS.mono _ _ _
      | exact laws_markRecord.mono _ _ _ _ _
      | exact laws_toByteS.mono _ _
      | exact spec_Decode.mono _ _
      | exact LeO.none _
      | refine LeO.ite ?_ ?_
      | refine LeO.bind ?_ (fun _ => ?_)
    · intro y0 y1 y2 y3 y4
      unfold laws_FnExactDecode.j2
      repeat' first
      | (with_reducible exact ih0 _ _ _ _ _ _ _ _ _ _ _)
      | (with_reducible exact ih1 _ _ _ _ _ _ _ _ _)
      | (with_reducible exact ih2 _ _ _ _ _)
      | (with_reducible exact impl_Decode.mono _ _)
      | (with_reducible exact laws_eqByteS.mono _ _ _)
      | (with_reducible exact laws_eqRecord.mono _ _ _ _ _ _ _)
      | (with_reducible exact laws_heldRecord.mono _ _ _ _ _)
      | (with_reducible exact laws_markByteS.mono _ _ _)
      | (with_reducible exact laws_markRecord.mono _ _ _ _ _)
      | (with_reducible exact laws_toByteS.mono _ _)
      | (with_reducible exact spec_Decode.mono _ _)
      | (with_reducible exact LeO.refl _)
      | (with_reducible exact LeO.none _)
      | (with_reducible refine LeO.ite ?_ ?_)
      | (with_reducible refine LeO.bind ?_ (fun _ => ?_))
      | exact ih0 _ _ _ _ _ _ _ _ _ _ _
      | exact ih1 _ _ _ _ _ _ _ _ _
      | exact ih2 _ _ _ _ _
      | exact impl_Decode.mono _ _
      | exact laws_eqByteS.mono _ _ _
      | exact laws_eqRecord.mono _ _ _ _ _ _ _
      | exact laws_heldRecord.mono _ _ _ _ _
      | exact laws_markByteS.mono _ _ _
      | exact laws_markRecord.mono _ _ _ _ _
      | exact laws_toByteS.mono _ _
      | exact spec_Decode.mono _ _
      | exact LeO.none _
      | refine LeO.ite ?_ ?_
      | refine LeO.bind ?_ (fun _ => ?_)
theorem laws_FnExactDecode.mono : ∀ a0 k, LeO (laws_FnExactDecode.f k a0) (laws_FnExactDecode.f (k + 1) a0) := by
  intro a0 k
  obtain ⟨ih0, ih1, ih2⟩ := laws_FnExactDecode.mono_l k
  unfold laws_FnExactDecode.f
  repeat' first
      | (with_reducible exact ih0 _ _ _ _ _ _ _ _ _ _ _)
      | (with_reducible exact ih1 _ _ _ _ _ _ _ _ _)
      | (with_reducible exact ih2 _ _ _ _ _)
      | (with_reducible exact impl_Decode.mono _ _)
      | (with_reducible exact laws_eqByteS.mono _ _ _)
      | (with_reducible exact laws_eqRecord.mono _ _ _ _ _ _ _)
      | (with_reducible exact laws_heldRecord.mono _ _ _ _ _)
      | (with_reducible exact laws_markByteS.mono _ _ _)
      | (with_reducible exact laws_markRecord.mono _ _ _ _ _)
      | (with_reducible exact laws_toByteS.mono _ _)
      | (with_reducible exact spec_Decode.mono _ _)
      | (with_reducible exact LeO.refl _)
      | (with_reducible exact LeO.none _)
      | (with_reducible refine LeO.ite ?_ ?_)
      | (with_reducible refine LeO.bind ?_ (fun _ => ?_))
      | exact ih0 _ _ _ _ _ _ _ _ _ _ _
      | exact ih1 _ _ _ _ _ _ _ _ _
      | exact ih2 _ _ _ _ _
      | exact impl_Decode.mono _ _
      | exact laws_eqByteS.mono _ _ _
      | exact laws_eqRecord.mono _ _ _ _ _ _ _
      | exact laws_heldRecord.mono _ _ _ _ _
      | exact laws_markByteS.mono _ _ _
      | exact laws_markRecord.mono _ _ _ _ _
      | exact laws_toByteS.mono _ _
      | exact spec_Decode.mono _ _
      | exact LeO.none _
      | refine LeO.ite ?_ ?_
      | refine LeO.bind ?_ (fun _ => ?_)
set_option maxHeartbeats 8000000 in
set_option maxRecDepth 100000 in
theorem laws_FnExactDecode.calls (k : Nat) (A0 : Option Addr) (c0 : Nat) (l0 : List Int) (r : Bool) (w : World) (hr0 : Kd.C (Kd.int .u8) w A0 l0.length l0) (hc0 : l0.length ≤ c0) (h : laws_FnExactDecode.f k l0 = some r) :
    Calls Try.prog 9 #[.slice A0 l0.length c0] w fun e w' => e = .returned (.bool r) ∧ Below w.heap.size w w' := by
  have hu42 := Try.underlying42
  have HR0 := Aside0.mk hr0
  have HC0 := Aside0.mk hc0
  clear hr0 hc0
  have HB := Aside0.mk (Below.refl w.heap.size w)
  have H : (if (l0.length : Int) > 1048576 then (some true) else ((laws_toByteS.f k l0).bind fun t418 => ((spec_Decode.f k t418).bind fun bt421 => ((laws_toByteS.f k l0).bind fun t430 => ((impl_Decode.f k t430).bind fun bt433 => ((laws_eqRecord.f k bt433.1 bt433.2.1 bt433.2.2.1 bt421.1 bt421.2.1 bt421.2.2.1).bind fun t442 => (if t442 = true then (laws_FnExactDecode.j0 k l0 bt421.2.2.2 t430 bt433.2.2.2 (bt433.2.2.2 != bt421.2.2.2) bt421.1 bt421.2.1 bt421.2.2.1 bt433.1 bt433.2.1 bt433.2.2.1) else (none)))))))) = some r := h
  clear h
  by_cases c2 : (l0.length : Int) > 1048576
  · rw [if_pos c2] at H
    have c2b0 : decide (1048576 < (l0.length : Int)) = true := decide_eq_true c2
    have c2b1 : decide (1048576 < l0.length) = true := decide_eq_true (by omega)
    clear c2
    obtain rfl := Option.some.inj H
    go_enter Try.func9, Try.ntmps9
    go_wp2
    go_ret
    exact ⟨by first | rfl | (simp [errW_none, errW_some] <;> rfl) | (simp [*, errW_none, errW_some] <;> rfl), by repeat (first | (with_reducible first | exact HB.out | apply below_alloc | apply pw_below_drewN | apply below_drew1) | exact HB.out)⟩
  · rw [if_neg c2] at H
    have c2b0 : decide (1048576 < (l0.length : Int)) = false := decide_eq_false c2
    have c2b1 : decide (1048576 < l0.length) = false := decide_eq_false (by omega)
    clear c2
    replace H := Option.bind_eq_some_iff.mp H
    obtain ⟨t418, A30, H⟩ := H
    replace H : ((spec_Decode.f k t418).bind fun bt421 => ((laws_toByteS.f k l0).bind fun t430 => ((impl_Decode.f k t430).bind fun bt433 => ((laws_eqRecord.f k bt433.1 bt433.2.1 bt433.2.2.1 bt421.1 bt421.2.1 bt421.2.2.1).bind fun t442 => (if t442 = true then (laws_FnExactDecode.j0 k l0 bt421.2.2.2 t430 bt433.2.2.2 (bt433.2.2.2 != bt421.2.2.2) bt421.1 bt421.2.1 bt421.2.2.1 bt433.1 bt433.2.1 bt433.2.2.1) else (none)))))) = some r := H
    have A3 := Aside0.mk A30
    clear A30
    replace H := Option.bind_eq_some_iff.mp H
    obtain ⟨⟨t421, t422, t425, t428⟩, A40, H⟩ := H
    replace H : ((laws_toByteS.f k l0).bind fun t430 => ((impl_Decode.f k t430).bind fun bt433 => ((laws_eqRecord.f k bt433.1 bt433.2.1 bt433.2.2.1 t421 t422 t425).bind fun t442 => (if t442 = true then (laws_FnExactDecode.j0 k l0 t428 t430 bt433.2.2.2 (bt433.2.2.2 != t428) t421 t422 t425 bt433.1 bt433.2.1 bt433.2.2.1) else (none))))) = some r := H
    have A4 := Aside0.mk A40
    clear A40
    replace H := Option.bind_eq_some_iff.mp H
    obtain ⟨t430, A50, H⟩ := H
    replace H : ((impl_Decode.f k t430).bind fun bt433 => ((laws_eqRecord.f k bt433.1 bt433.2.1 bt433.2.2.1 t421 t422 t425).bind fun t442 => (if t442 = true then (laws_FnExactDecode.j0 k l0 t428 t430 bt433.2.2.2 (bt433.2.2.2 != t428) t421 t422 t425 bt433.1 bt433.2.1 bt433.2.2.1) else (none)))) = some r := H
    have A5 := Aside0.mk A50
    clear A50
    replace H := Option.bind_eq_some_iff.mp H
    obtain ⟨⟨t433, t434, t437, t440⟩, A60, H⟩ := H
    replace H : ((laws_eqRecord.f k t433 t434 t437 t421 t422 t425).bind fun t442 => (if t442 = true then (laws_FnExactDecode.j0 k l0 t428 t430 t440 (t440 != t428) t421 t422 t425 t433 t434 t437) else (none))) = some r := H
    have A6 := Aside0.mk A60
    clear A60
    have HC7 := Aside0.mk H
    clear H
    go_enter Try.func9, Try.ntmps9
    go_upto_region 6 with (first | ((with_reducible refine gate_callee (f := 19) rfl ?_); refine goesL_ (some 18) rfl rfl Try.func19 (by kernel_rfl) rfl #[.slice A0 l0.length c0] rfl (by (try simp only [List.map_toArray, List.map_cons, List.map_nil]); first | done | rfl | (simp only [List.length_drop, List.length_take]; rfl)) ?_; (with_reducible refine (laws_toByteS.calls k _ _ l0 t418 _ ?side1 ?side2 A3.out).mono ?_); (case side1 => repeat (first | exact HR0.out | (with_reducible refine Kd.C_alloc ?_ _) | (with_reducible refine Kd.C_drewN ?_ _) | (with_reducible refine Kd.C_drew ?_))); (case side2 => exact HC0.out); rintro e w8 ⟨v419, rfl, ho0, hb⟩; refine ⟨_, rfl, ?_⟩; have n0_ := Aside0.mk (Kd.R_lower ho0 (below_size (by repeat (first | (with_reducible first | exact HB.out | apply below_alloc | apply pw_below_drewN | apply below_drew1) | exact HB.out)))); have n1_ := Aside0.mk (below_step (by repeat (first | (with_reducible first | exact HB.out | apply below_alloc | apply pw_below_drewN | apply below_drew1) | exact HB.out)) hb); clear HB; have HO420 := n0_; have HB := n1_; clear n0_ n1_; (try clear hb); (try clear hb2); (try clear hk); (try clear hi); (try clear ho0); obtain ⟨Ao9, co9, eo9⟩ := Kd.R_slice HO420.out; subst eo9) | ((with_reducible refine gate_callee (f := 32) rfl ?_); refine goesL_ (some 19) rfl rfl Try.func32 (by kernel_rfl) rfl #[.slice Ao9 t418.length co9] rfl (by (try simp only [List.map_toArray, List.map_cons, List.map_nil]); first | done | rfl | (simp only [List.length_drop, List.length_take]; rfl)) ?_; (with_reducible refine (spec_Decode.calls k _ _ t418 t421 t422 t425 t428 _ ?side1 ?side2 A4.out).mono ?_); (case side1 => repeat (first | exact (Kd.R_reads' HO420.out).2.2 | (with_reducible refine Kd.C_alloc ?_ _) | (with_reducible refine Kd.C_drewN ?_ _) | (with_reducible refine Kd.C_drew ?_))); (case side2 => exact (Kd.R_reads' HO420.out).2.1); rintro e w10 ⟨v423, v426, rfl, ho0, ho1, hb⟩; refine ⟨_, rfl, ?_⟩; have n0_ := Aside0.mk (Kd.R_below (by (with_reducible repeat (first | apply Kd.R_alloc | apply Kd.R_drewN | apply Kd.R_drew)); exact HO420.out) hb); have n1_ := Aside0.mk (Kd.R_lower ho0 (below_size (by repeat (first | (with_reducible first | exact HB.out | apply below_alloc | apply pw_below_drewN | apply below_drew1) | exact HB.out)))); have n2_ := Aside0.mk (Kd.R_lower ho1 (below_size (by repeat (first | (with_reducible first | exact HB.out | apply below_alloc | apply pw_below_drewN | apply below_drew1) | exact HB.out)))); have n3_ := Aside0.mk (below_step (by repeat (first | (with_reducible first | exact HB.out | apply below_alloc | apply pw_below_drewN | apply below_drew1) | exact HB.out)) hb); clear HO420; clear HB; have HO420 := n0_; have HO424 := n1_; have HO427 := n2_; have HB := n3_; clear n0_ n1_ n2_ n3_; (try clear hb); (try clear hb2); (try clear hk); (try clear hi); (try clear ho0); (try clear ho1)) | ((with_reducible refine gate_dst (N := 3) rfl ?_); refine box_event ?hg (N := 3) ?hd (cs := #[.int .i64 0, .slice none 0 0, .slice none 0 0]) (t := 42) ?hr ?_; (case hd => rfl); (case hg => rfl); (case hr => first | (go_simp; done) | (go_simp; rfl)); intro gb429 hg w11 hbox hb; have n0_ := Aside0.mk (Kd.R_below (by (with_reducible repeat (first | apply Kd.R_alloc | apply Kd.R_drewN | apply Kd.R_drew)); exact HO420.out) hb); have n1_ := Aside0.mk (Kd.R_below (by (with_reducible repeat (first | apply Kd.R_alloc | apply Kd.R_drewN | apply Kd.R_drew)); exact HO424.out) hb); have n2_ := Aside0.mk (Kd.R_below (by (with_reducible repeat (first | apply Kd.R_alloc | apply Kd.R_drewN | apply Kd.R_drew)); exact HO427.out) hb); have n3_ := Aside0.mk (below_step (by repeat (first | (with_reducible first | exact HB.out | apply below_alloc | apply pw_below_drewN | apply below_drew1) | exact HB.out)) hb); have n4_ := Aside0.mk (hbox); have n5_ := Aside0.mk ((by rw [hg]; exact (below_size (by repeat (first | (with_reducible first | exact HB.out | apply below_alloc | apply pw_below_drewN | apply below_drew1) | exact HB.out))) : w.heap.size ≤ gb429)); have n6_ := Aside0.mk ((by rw [hg]; exact (below_size (by repeat (first | (with_reducible first | exact HB.out | apply below_alloc | apply pw_below_drewN | apply below_drew1) | exact HB.out))) : w.heap.size ≤ gb429)); clear HO420; clear HO424; clear HO427; clear HB; have HO420 := n0_; have HO424 := n1_; have HO427 := n2_; have HB := n3_; have BK429 := n4_; have GW429 := n5_; have GE429 := n6_; clear n0_ n1_ n2_ n3_ n4_ n5_ n6_; clear hb hbox hg; have hcz12_0 : w11.cell? ⟨gb429, 0, none⟩ = some (.int .i64 0) := (blk_cell BK429.out 0).trans rfl; have hcz12_1 : w11.cell? ⟨gb429, 1, none⟩ = some (.slice none 0 0) := (blk_cell BK429.out 1).trans rfl; have hcz12_2 : w11.cell? ⟨gb429, 2, none⟩ = some (.slice none 0 0) := (blk_cell BK429.out 2).trans rfl; have hfz12_0 := blk_frozen BK429.out 0; have hfz12_1 := blk_frozen BK429.out 1; have hfz12_2 := blk_frozen BK429.out 2; obtain ⟨Ao13, co13, eo13⟩ := Kd.R_slice HO424.out; subst eo13; obtain ⟨Ao14, co14, eo14⟩ := Kd.R_slice HO427.out; subst eo14) | ((with_reducible refine gate_callee (f := 19) rfl ?_); refine goesL_ (some 23) rfl rfl Try.func19 (by kernel_rfl) rfl #[.slice A0 l0.length c0] rfl (by (try simp only [List.map_toArray, List.map_cons, List.map_nil]); first | done | rfl | (simp only [List.length_drop, List.length_take]; rfl)) ?_; (with_reducible refine (laws_toByteS.calls k _ _ l0 t430 _ ?side1 ?side2 A5.out).mono ?_); (case side1 => exact Kd.C_below HR0.out (by repeat (first | (with_reducible first | exact HB.out | apply below_alloc | apply pw_below_drewN | apply below_drew1 | refine below_set ?_ GE429.out) | exact HB.out))); (case side2 => exact HC0.out); rintro e w15 ⟨v431, rfl, ho0, hb⟩; refine ⟨_, rfl, ?_⟩; have n0_ := Aside0.mk (Kd.R_elder' (by (with_reducible repeat (first | apply Kd.R_alloc | apply Kd.R_drewN | apply Kd.R_drew)); exact (Kd.R_mono (Kd.R_far (p := ⟨gb429, 2, none⟩) (Kd.R_far (p := ⟨gb429, 1, none⟩) (Kd.R_far (p := ⟨gb429, 0, none⟩) (Kd.R_types HO420.out BK429.out (by decide)) (fun _ hk => hk.2) (.int .i64 t421)) (fun _ hk => hk.2) (.slice Ao13 t422.length co13)) (fun _ hk => hk.2) (.slice Ao14 t425.length co14)) (fun _ h_ => h_.1))) (Kd.R_base ho0) hb); have n1_ := Aside0.mk (Kd.R_below (by (with_reducible repeat (first | apply Kd.R_alloc | apply Kd.R_drewN | apply Kd.R_drew)); exact (Kd.R_mono (Kd.R_far (p := ⟨gb429, 2, none⟩) (Kd.R_far (p := ⟨gb429, 1, none⟩) (Kd.R_far (p := ⟨gb429, 0, none⟩) (Kd.R_types HO424.out BK429.out (by decide)) (fun _ hk => hk.2) (.int .i64 t421)) (fun _ hk => hk.2) (.slice Ao13 t422.length co13)) (fun _ hk => hk.2) (.slice Ao14 t425.length co14)) (fun _ h_ => h_.1))) hb); have n2_ := Aside0.mk (Kd.R_below (by (with_reducible repeat (first | apply Kd.R_alloc | apply Kd.R_drewN | apply Kd.R_drew)); exact (Kd.R_mono (Kd.R_far (p := ⟨gb429, 2, none⟩) (Kd.R_far (p := ⟨gb429, 1, none⟩) (Kd.R_far (p := ⟨gb429, 0, none⟩) (Kd.R_types HO427.out BK429.out (by decide)) (fun _ hk => hk.2) (.int .i64 t421)) (fun _ hk => hk.2) (.slice Ao13 t422.length co13)) (fun _ hk => hk.2) (.slice Ao14 t425.length co14)) (fun _ h_ => h_.1))) hb); have n3_ := Aside0.mk (Kd.R_lower (Kd.R_new' ho0 (Kd.R_lt (by (with_reducible repeat (first | apply Kd.R_alloc | apply Kd.R_drewN | apply Kd.R_drew)); exact (Kd.R_mono (Kd.R_far (p := ⟨gb429, 2, none⟩) (Kd.R_far (p := ⟨gb429, 1, none⟩) (Kd.R_far (p := ⟨gb429, 0, none⟩) (Kd.R_types HO420.out BK429.out (by decide)) (fun _ hk => hk.2) (.int .i64 t421)) (fun _ hk => hk.2) (.slice Ao13 t422.length co13)) (fun _ hk => hk.2) (.slice Ao14 t425.length co14)) (fun _ h_ => h_.1))))) (below_size (by repeat (first | (with_reducible first | exact HB.out | apply below_alloc | apply pw_below_drewN | apply below_drew1 | refine below_set ?_ GE429.out) | exact HB.out)))); have n4_ := Aside0.mk (blk_below (g := gb429) (o := .cells #[.int .i64 t421, .slice Ao13 t422.length co13, .slice Ao14 t425.length co14] 42 (0, 0)) (by (with_reducible repeat (first | refine blk_drewN ?_ _ | refine blk_drew ?_ | refine blk_alloc ?_ _)); refine blk_put (cs := #[.int .i64 t421, .slice Ao13 t422.length co13, .slice none 0 0]) ?_ 2 _ rfl; (with_reducible repeat (first | refine blk_drewN ?_ _ | refine blk_drew ?_ | refine blk_alloc ?_ _)); refine blk_put (cs := #[.int .i64 t421, .slice none 0 0, .slice none 0 0]) ?_ 1 _ rfl; (with_reducible repeat (first | refine blk_drewN ?_ _ | refine blk_drew ?_ | refine blk_alloc ?_ _)); refine blk_put (cs := #[.int .i64 0, .slice none 0 0, .slice none 0 0]) ?_ 0 _ rfl; (with_reducible repeat (first | refine blk_drewN ?_ _ | refine blk_drew ?_ | refine blk_alloc ?_ _)); exact BK429.out) hb); have n5_ := Aside0.mk (below_step (by repeat (first | (with_reducible first | exact HB.out | apply below_alloc | apply pw_below_drewN | apply below_drew1 | refine below_set ?_ GE429.out) | exact HB.out)) hb); clear HO420; clear HO424; clear HO427; clear BK429; clear HB; have HO420 := n0_; have HO424 := n1_; have HO427 := n2_; have HO432 := n3_; have BK429 := n4_; have HB := n5_; clear n0_ n1_ n2_ n3_ n4_ n5_; (try clear hb); (try clear hb2); (try clear hk); (try clear hi); (try clear ho0); obtain ⟨Ao16, co16, eo16⟩ := Kd.R_slice HO432.out; subst eo16) | ((with_reducible refine gate_callee (f := 33) rfl ?_); refine goesL_ (some 26) rfl rfl Try.func33 (by kernel_rfl) rfl #[.slice Ao16 t430.length co16] rfl (by (try simp only [List.map_toArray, List.map_cons, List.map_nil]); first | done | rfl | (simp only [List.length_drop, List.length_take]; rfl)) ?_; (with_reducible refine (impl_Decode.calls k _ _ t430 t433 t434 t437 t440 _ ?side1 ?side2 A6.out).mono ?_); (case side1 => repeat (first | exact (Kd.R_reads' HO432.out).2.2 | (with_reducible refine Kd.C_alloc ?_ _) | (with_reducible refine Kd.C_drewN ?_ _) | (with_reducible refine Kd.C_drew ?_))); (case side2 => exact (Kd.R_reads' HO432.out).2.1); rintro e w17 ⟨v435, v438, rfl, ho0, ho1, hb⟩; refine ⟨_, rfl, ?_⟩; have n0_ := Aside0.mk (Kd.R_below (by (with_reducible repeat (first | apply Kd.R_alloc | apply Kd.R_drewN | apply Kd.R_drew)); exact HO420.out) hb); have n1_ := Aside0.mk (Kd.R_elder' (by (with_reducible repeat (first | apply Kd.R_alloc | apply Kd.R_drewN | apply Kd.R_drew)); exact HO424.out) (Kd.R_base ho0) hb); have n2_ := Aside0.mk (Kd.R_elder' (by (with_reducible repeat (first | apply Kd.R_alloc | apply Kd.R_drewN | apply Kd.R_drew)); exact HO427.out) (Kd.R_base ho1) hb); have n3_ := Aside0.mk (Kd.R_below (by (with_reducible repeat (first | apply Kd.R_alloc | apply Kd.R_drewN | apply Kd.R_drew)); exact HO432.out) hb); have n4_ := Aside0.mk (Kd.R_lower (Kd.R_new' ho0 (Kd.R_lt (by (with_reducible repeat (first | apply Kd.R_alloc | apply Kd.R_drewN | apply Kd.R_drew)); exact HO424.out))) (below_size (by repeat (first | (with_reducible first | exact HB.out | apply below_alloc | apply pw_below_drewN | apply below_drew1 | refine below_set ?_ GE429.out) | exact HB.out)))); have n5_ := Aside0.mk (Kd.R_lower (Kd.R_new' ho1 (Kd.R_lt (by (with_reducible repeat (first | apply Kd.R_alloc | apply Kd.R_drewN | apply Kd.R_drew)); exact HO427.out))) (below_size (by repeat (first | (with_reducible first | exact HB.out | apply below_alloc | apply pw_below_drewN | apply below_drew1 | refine below_set ?_ GE429.out) | exact HB.out)))); have n6_ := Aside0.mk (blk_below (g := gb429) (o := .cells #[.int .i64 t421, .slice Ao13 t422.length co13, .slice Ao14 t425.length co14] 42 (0, 0)) (by (with_reducible repeat (first | refine blk_drewN ?_ _ | refine blk_drew ?_ | refine blk_alloc ?_ _)); exact BK429.out) hb); have n7_ := Aside0.mk (below_step (by repeat (first | (with_reducible first | exact HB.out | apply below_alloc | apply pw_below_drewN | apply below_drew1 | refine below_set ?_ GE429.out) | exact HB.out)) hb); clear HO420; clear HO424; clear HO427; clear HO432; clear BK429; clear HB; have HO420 := n0_; have HO424 := n1_; have HO427 := n2_; have HO432 := n3_; have HO436 := n4_; have HO439 := n5_; have BK429 := n6_; have HB := n7_; clear n0_ n1_ n2_ n3_ n4_ n5_ n6_ n7_; (try clear hb); (try clear hb2); (try clear hk); (try clear hi); (try clear ho0); (try clear ho1)) | ((with_reducible refine gate_dst (N := 6) rfl ?_); refine box_event ?hg (N := 6) ?hd (cs := #[.int .i64 0, .slice none 0 0, .slice none 0 0]) (t := 42) ?hr ?_; (case hd => rfl); (case hg => rfl); (case hr => first | (go_simp; done) | (go_simp; rfl)); intro gb441 hg w18 hbox hb; have n0_ := Aside0.mk (Kd.R_below (by (with_reducible repeat (first | apply Kd.R_alloc | apply Kd.R_drewN | apply Kd.R_drew)); exact HO420.out) hb); have n1_ := Aside0.mk (Kd.R_below (by (with_reducible repeat (first | apply Kd.R_alloc | apply Kd.R_drewN | apply Kd.R_drew)); exact HO424.out) hb); have n2_ := Aside0.mk (Kd.R_below (by (with_reducible repeat (first | apply Kd.R_alloc | apply Kd.R_drewN | apply Kd.R_drew)); exact HO427.out) hb); have n3_ := Aside0.mk (Kd.R_below (by (with_reducible repeat (first | apply Kd.R_alloc | apply Kd.R_drewN | apply Kd.R_drew)); exact HO432.out) hb); have n4_ := Aside0.mk (Kd.R_below (by (with_reducible repeat (first | apply Kd.R_alloc | apply Kd.R_drewN | apply Kd.R_drew)); exact HO436.out) hb); have n5_ := Aside0.mk (Kd.R_below (by (with_reducible repeat (first | apply Kd.R_alloc | apply Kd.R_drewN | apply Kd.R_drew)); exact HO439.out) hb); have n6_ := Aside0.mk (blk_below (g := gb429) (o := .cells #[.int .i64 t421, .slice Ao13 t422.length co13, .slice Ao14 t425.length co14] 42 (0, 0)) (by (with_reducible repeat (first | refine blk_drewN ?_ _ | refine blk_drew ?_ | refine blk_alloc ?_ _)); exact BK429.out) hb); have n7_ := Aside0.mk (below_step (by repeat (first | (with_reducible first | exact HB.out | apply below_alloc | apply pw_below_drewN | apply below_drew1 | refine below_set ?_ GE429.out) | exact HB.out)) hb); have n8_ := Aside0.mk (hbox); have n9_ := Aside0.mk ((by rw [hg]; exact (below_size (by repeat (first | (with_reducible first | exact HB.out | apply below_alloc | apply pw_below_drewN | apply below_drew1 | refine below_set ?_ GE429.out) | exact HB.out))) : w.heap.size ≤ gb441)); have n10_ := Aside0.mk ((by rw [hg]; exact (below_size (by repeat (first | (with_reducible first | exact HB.out | apply below_alloc | apply pw_below_drewN | apply below_drew1 | refine below_set ?_ GE429.out) | exact HB.out))) : w.heap.size ≤ gb441)); have n11_ := Aside0.mk ((by rw [hg]; exact Nat.ne_of_lt (blk_lt (g := gb429) (o := .cells #[.int .i64 t421, .slice Ao13 t422.length co13, .slice Ao14 t425.length co14] 42 (0, 0)) (by (with_reducible repeat (first | refine blk_drewN ?_ _ | refine blk_drew ?_ | refine blk_alloc ?_ _)); exact BK429.out)) : gb429 ≠ gb441)); have n12_ := Aside0.mk ((by rw [hg]; exact Nat.ne_of_gt (blk_lt (g := gb429) (o := .cells #[.int .i64 t421, .slice Ao13 t422.length co13, .slice Ao14 t425.length co14] 42 (0, 0)) (by (with_reducible repeat (first | refine blk_drewN ?_ _ | refine blk_drew ?_ | refine blk_alloc ?_ _)); exact BK429.out)) : gb441 ≠ gb429)); clear HO420; clear HO424; clear HO427; clear HO432; clear HO436; clear HO439; clear BK429; clear HB; have HO420 := n0_; have HO424 := n1_; have HO427 := n2_; have HO432 := n3_; have HO436 := n4_; have HO439 := n5_; have BK429 := n6_; have HB := n7_; have BK441 := n8_; have GW441 := n9_; have GE441 := n10_; have NB429_441 := n11_; have NB441_429 := n12_; clear n0_ n1_ n2_ n3_ n4_ n5_ n6_ n7_ n8_ n9_ n10_ n11_ n12_; clear hb hbox hg; have hnb19 := NB441_429.out; have hnc19 := NB429_441.out; have hcz20_0 : w18.cell? ⟨gb441, 0, none⟩ = some (.int .i64 0) := (blk_cell BK441.out 0).trans rfl; have hcz20_1 : w18.cell? ⟨gb441, 1, none⟩ = some (.slice none 0 0) := (blk_cell BK441.out 1).trans rfl; have hcz20_2 : w18.cell? ⟨gb441, 2, none⟩ = some (.slice none 0 0) := (blk_cell BK441.out 2).trans rfl; have hfz20_0 := blk_frozen BK441.out 0; have hfz20_1 := blk_frozen BK441.out 1; have hfz20_2 := blk_frozen BK441.out 2; obtain ⟨Ao21, co21, eo21⟩ := Kd.R_slice HO436.out; subst eo21; obtain ⟨Ao22, co22, eo22⟩ := Kd.R_slice HO439.out; subst eo22))
    (try simp only [Act.put, List.setIfInBounds_toArray, List.set_cons_zero, List.set_cons_succ])
    go_cut [37] (fun v37 wc => ∃ (kq : Nat) (x37_6 : Bool), v37 = .bool x37_6 ∧ Aside0 (laws_FnExactDecode.j0 kq l0 t428 t430 t440 x37_6 t421 t422 t425 t433 t434 t437 = some r) ∧ Aside0 (kq ≤ k) ∧ Aside0 (Kd.R (Kd.int .u8) 5 wc w.heap.size (fun _ => True) (.slice Ao16 t430.length co16) t430) ∧ Aside0 (Kd.R (Kd.int .u64) 23 wc w.heap.size (fun k_ => some k_ ≠ ((.slice Ao21 t434.length co21) : Value).ownBlock) (.slice Ao13 t422.length co13) t422) ∧ Aside0 (Kd.R Kd.string 9 wc w.heap.size (fun k_ => some k_ ≠ ((.slice Ao22 t437.length co22) : Value).ownBlock) (.slice Ao14 t425.length co14) t425) ∧ Aside0 (Kd.R (Kd.int .u64) 23 wc w.heap.size (fun k_ => some k_ ≠ ((.slice Ao13 t422.length co13) : Value).ownBlock) (.slice Ao21 t434.length co21) t434) ∧ Aside0 (Kd.R Kd.string 9 wc w.heap.size (fun k_ => some k_ ≠ ((.slice Ao14 t425.length co14) : Value).ownBlock) (.slice Ao22 t437.length co22) t437) ∧ Aside0 (wc.heap[gb429]? = some (.cells #[.int .i64 t421, (.slice Ao13 t422.length co13), (.slice Ao14 t425.length co14)] 42 (0, 0))) ∧ Aside0 (wc.heap[gb441]? = some (.cells #[.int .i64 t433, (.slice Ao21 t434.length co21), (.slice Ao22 t437.length co22)] 42 (0, 0))) ∧ Aside0 (Below w.heap.size w wc))
    case first =>
      have H := HC7.out
      clear HC7
      replace H := Option.bind_eq_some_iff.mp H
      obtain ⟨t442, A230, H⟩ := H
      replace H : (if t442 = true then (laws_FnExactDecode.j0 k l0 t428 t430 t440 (t440 != t428) t421 t422 t425 t433 t434 t437) else (none)) = some r := H
      have A23 := Aside0.mk A230
      clear A230
      by_cases c24 : t442 = true
      · subst c24
        have H1 : (laws_FnExactDecode.j0 k l0 t428 t430 t440 (t440 != t428) t421 t422 t425 t433 t434 t437) = some r := by rw [if_pos rfl] at H; exact H
        clear H
        have H := H1
        clear H1
        have H' := Aside0.mk H
        clear H
        have hnb25 := NB441_429.out
        have hnc25 := NB429_441.out
        have hcz26_0 : w18.cell? ⟨gb441, 0, none⟩ = some (.int .i64 0) := (blk_cell BK441.out 0).trans rfl
        have hcz26_1 : w18.cell? ⟨gb441, 1, none⟩ = some (.slice none 0 0) := (blk_cell BK441.out 1).trans rfl
        have hcz26_2 : w18.cell? ⟨gb441, 2, none⟩ = some (.slice none 0 0) := (blk_cell BK441.out 2).trans rfl
        have hfz26_0 := blk_frozen BK441.out 0
        have hfz26_1 := blk_frozen BK441.out 1
        have hfz26_2 := blk_frozen BK441.out 2
        have hcz27_0 : w18.cell? ⟨gb429, 0, none⟩ = some (.int .i64 t421) := (blk_cell BK429.out 0).trans rfl
        have hcz27_1 : w18.cell? ⟨gb429, 1, none⟩ = some (.slice Ao13 t422.length co13) := (blk_cell BK429.out 1).trans rfl
        have hcz27_2 : w18.cell? ⟨gb429, 2, none⟩ = some (.slice Ao14 t425.length co14) := (blk_cell BK429.out 2).trans rfl
        have hfz27_0 := blk_frozen BK429.out 0
        have hfz27_1 := blk_frozen BK429.out 1
        have hfz27_2 := blk_frozen BK429.out 2
        go_wp2_with (first | ((with_reducible refine gate_callee (f := 28) rfl ?_); refine goesL_ (some 31) rfl rfl Try.func28 (by kernel_rfl) rfl #[.agg #[.int .i64 t433, .slice Ao21 t434.length co21, .slice Ao22 t437.length co22], .agg #[.int .i64 t421, .slice Ao13 t422.length co13, .slice Ao14 t425.length co14]] rfl (by (try simp only [List.map_toArray, List.map_cons, List.map_nil]); first | done | rfl | (simp only [List.length_drop, List.length_take]; rfl)) ?_; (with_reducible refine (laws_eqRecord.calls k t433 _ _ t434 _ _ t437 t421 _ _ t422 _ _ t425 true _ ?side1 ?side2 ?side3 ?side4 ?side5 ?side6 ?side7 ?side8 A23.out).mono ?_); (case side1 => refine (Kd.R_reads' (e := 23) (base := w.heap.size) (ok := fun k_ => (True ∧ some k_ ≠ (.slice Ao13 t422.length co13 : Value).ownBlock)) (n := t434.length) (c := co21) ?_).2.2; exact (by (with_reducible repeat (first | apply Kd.R_alloc | apply Kd.R_drewN | apply Kd.R_drew)); exact (Kd.R_mono (Kd.R_far (p := ⟨gb441, 2, none⟩) (Kd.R_far (p := ⟨gb441, 1, none⟩) (Kd.R_far (p := ⟨gb441, 0, none⟩) (Kd.R_types HO436.out BK441.out (by decide)) (fun _ hk => hk.2) (.int .i64 t433)) (fun _ hk => hk.2) (.slice Ao21 t434.length co21)) (fun _ hk => hk.2) (.slice Ao22 t437.length co22)) (fun _ h_ => h_.1)))); (case side2 => exact (Kd.R_reads' HO436.out).2.1); (case side3 => refine (Kd.R_reads' (e := 9) (base := w.heap.size) (ok := fun k_ => (True ∧ some k_ ≠ (.slice Ao14 t425.length co14 : Value).ownBlock)) (n := t437.length) (c := co22) ?_).2.2; exact (by (with_reducible repeat (first | apply Kd.R_alloc | apply Kd.R_drewN | apply Kd.R_drew)); exact (Kd.R_mono (Kd.R_far (p := ⟨gb441, 2, none⟩) (Kd.R_far (p := ⟨gb441, 1, none⟩) (Kd.R_far (p := ⟨gb441, 0, none⟩) (Kd.R_types HO439.out BK441.out (by decide)) (fun _ hk => hk.2) (.int .i64 t433)) (fun _ hk => hk.2) (.slice Ao21 t434.length co21)) (fun _ hk => hk.2) (.slice Ao22 t437.length co22)) (fun _ h_ => h_.1)))); (case side4 => exact (Kd.R_reads' HO439.out).2.1); (case side5 => refine (Kd.R_reads' (e := 23) (base := w.heap.size) (ok := fun k_ => (True ∧ some k_ ≠ (.slice Ao21 t434.length co21 : Value).ownBlock)) (n := t422.length) (c := co13) ?_).2.2; exact (by (with_reducible repeat (first | apply Kd.R_alloc | apply Kd.R_drewN | apply Kd.R_drew)); exact (Kd.R_mono (Kd.R_far (p := ⟨gb441, 2, none⟩) (Kd.R_far (p := ⟨gb441, 1, none⟩) (Kd.R_far (p := ⟨gb441, 0, none⟩) (Kd.R_types HO424.out BK441.out (by decide)) (fun _ hk => hk.2) (.int .i64 t433)) (fun _ hk => hk.2) (.slice Ao21 t434.length co21)) (fun _ hk => hk.2) (.slice Ao22 t437.length co22)) (fun _ h_ => h_.1)))); (case side6 => exact (Kd.R_reads' HO424.out).2.1); (case side7 => refine (Kd.R_reads' (e := 9) (base := w.heap.size) (ok := fun k_ => (True ∧ some k_ ≠ (.slice Ao22 t437.length co22 : Value).ownBlock)) (n := t425.length) (c := co14) ?_).2.2; exact (by (with_reducible repeat (first | apply Kd.R_alloc | apply Kd.R_drewN | apply Kd.R_drew)); exact (Kd.R_mono (Kd.R_far (p := ⟨gb441, 2, none⟩) (Kd.R_far (p := ⟨gb441, 1, none⟩) (Kd.R_far (p := ⟨gb441, 0, none⟩) (Kd.R_types HO427.out BK441.out (by decide)) (fun _ hk => hk.2) (.int .i64 t433)) (fun _ hk => hk.2) (.slice Ao21 t434.length co21)) (fun _ hk => hk.2) (.slice Ao22 t437.length co22)) (fun _ h_ => h_.1)))); (case side8 => exact (Kd.R_reads' HO427.out).2.1); rintro e w28 ⟨rfl, hb⟩; refine ⟨_, rfl, ?_⟩; have n0_ := Aside0.mk (Kd.R_below (by (with_reducible repeat (first | apply Kd.R_alloc | apply Kd.R_drewN | apply Kd.R_drew)); exact (Kd.R_mono (Kd.R_far (p := ⟨gb441, 2, none⟩) (Kd.R_far (p := ⟨gb441, 1, none⟩) (Kd.R_far (p := ⟨gb441, 0, none⟩) (Kd.R_types HO420.out BK441.out (by decide)) (fun _ hk => hk.2) (.int .i64 t433)) (fun _ hk => hk.2) (.slice Ao21 t434.length co21)) (fun _ hk => hk.2) (.slice Ao22 t437.length co22)) (fun _ h_ => h_.1))) hb); have n1_ := Aside0.mk (Kd.R_below (by (with_reducible repeat (first | apply Kd.R_alloc | apply Kd.R_drewN | apply Kd.R_drew)); exact (Kd.R_mono (Kd.R_far (p := ⟨gb441, 2, none⟩) (Kd.R_far (p := ⟨gb441, 1, none⟩) (Kd.R_far (p := ⟨gb441, 0, none⟩) (Kd.R_types HO424.out BK441.out (by decide)) (fun _ hk => hk.2) (.int .i64 t433)) (fun _ hk => hk.2) (.slice Ao21 t434.length co21)) (fun _ hk => hk.2) (.slice Ao22 t437.length co22)) (fun _ h_ => h_.1))) hb); have n2_ := Aside0.mk (Kd.R_below (by (with_reducible repeat (first | apply Kd.R_alloc | apply Kd.R_drewN | apply Kd.R_drew)); exact (Kd.R_mono (Kd.R_far (p := ⟨gb441, 2, none⟩) (Kd.R_far (p := ⟨gb441, 1, none⟩) (Kd.R_far (p := ⟨gb441, 0, none⟩) (Kd.R_types HO427.out BK441.out (by decide)) (fun _ hk => hk.2) (.int .i64 t433)) (fun _ hk => hk.2) (.slice Ao21 t434.length co21)) (fun _ hk => hk.2) (.slice Ao22 t437.length co22)) (fun _ h_ => h_.1))) hb); have n3_ := Aside0.mk (Kd.R_below (by (with_reducible repeat (first | apply Kd.R_alloc | apply Kd.R_drewN | apply Kd.R_drew)); exact (Kd.R_mono (Kd.R_far (p := ⟨gb441, 2, none⟩) (Kd.R_far (p := ⟨gb441, 1, none⟩) (Kd.R_far (p := ⟨gb441, 0, none⟩) (Kd.R_types HO432.out BK441.out (by decide)) (fun _ hk => hk.2) (.int .i64 t433)) (fun _ hk => hk.2) (.slice Ao21 t434.length co21)) (fun _ hk => hk.2) (.slice Ao22 t437.length co22)) (fun _ h_ => h_.1))) hb); have n4_ := Aside0.mk (Kd.R_below (by (with_reducible repeat (first | apply Kd.R_alloc | apply Kd.R_drewN | apply Kd.R_drew)); exact (Kd.R_mono (Kd.R_far (p := ⟨gb441, 2, none⟩) (Kd.R_far (p := ⟨gb441, 1, none⟩) (Kd.R_far (p := ⟨gb441, 0, none⟩) (Kd.R_types HO436.out BK441.out (by decide)) (fun _ hk => hk.2) (.int .i64 t433)) (fun _ hk => hk.2) (.slice Ao21 t434.length co21)) (fun _ hk => hk.2) (.slice Ao22 t437.length co22)) (fun _ h_ => h_.1))) hb); have n5_ := Aside0.mk (Kd.R_below (by (with_reducible repeat (first | apply Kd.R_alloc | apply Kd.R_drewN | apply Kd.R_drew)); exact (Kd.R_mono (Kd.R_far (p := ⟨gb441, 2, none⟩) (Kd.R_far (p := ⟨gb441, 1, none⟩) (Kd.R_far (p := ⟨gb441, 0, none⟩) (Kd.R_types HO439.out BK441.out (by decide)) (fun _ hk => hk.2) (.int .i64 t433)) (fun _ hk => hk.2) (.slice Ao21 t434.length co21)) (fun _ hk => hk.2) (.slice Ao22 t437.length co22)) (fun _ h_ => h_.1))) hb); have n6_ := Aside0.mk (blk_below (g := gb429) (o := .cells #[.int .i64 t421, .slice Ao13 t422.length co13, .slice Ao14 t425.length co14] 42 (0, 0)) (by (with_reducible repeat (first | refine blk_drewN ?_ _ | refine blk_drew ?_ | refine blk_alloc ?_ _)); refine blk_far ?_ NB429_441.out _; (with_reducible repeat (first | refine blk_drewN ?_ _ | refine blk_drew ?_ | refine blk_alloc ?_ _)); refine blk_far ?_ NB429_441.out _; (with_reducible repeat (first | refine blk_drewN ?_ _ | refine blk_drew ?_ | refine blk_alloc ?_ _)); refine blk_far ?_ NB429_441.out _; (with_reducible repeat (first | refine blk_drewN ?_ _ | refine blk_drew ?_ | refine blk_alloc ?_ _)); exact BK429.out) hb); have n7_ := Aside0.mk (blk_below (g := gb441) (o := .cells #[.int .i64 t433, .slice Ao21 t434.length co21, .slice Ao22 t437.length co22] 42 (0, 0)) (by (with_reducible repeat (first | refine blk_drewN ?_ _ | refine blk_drew ?_ | refine blk_alloc ?_ _)); refine blk_put (cs := #[.int .i64 t433, .slice Ao21 t434.length co21, .slice none 0 0]) ?_ 2 _ rfl; (with_reducible repeat (first | refine blk_drewN ?_ _ | refine blk_drew ?_ | refine blk_alloc ?_ _)); refine blk_put (cs := #[.int .i64 t433, .slice none 0 0, .slice none 0 0]) ?_ 1 _ rfl; (with_reducible repeat (first | refine blk_drewN ?_ _ | refine blk_drew ?_ | refine blk_alloc ?_ _)); refine blk_put (cs := #[.int .i64 0, .slice none 0 0, .slice none 0 0]) ?_ 0 _ rfl; (with_reducible repeat (first | refine blk_drewN ?_ _ | refine blk_drew ?_ | refine blk_alloc ?_ _)); exact BK441.out) hb); have n8_ := Aside0.mk (below_step (by repeat (first | (with_reducible first | exact HB.out | apply below_alloc | apply pw_below_drewN | apply below_drew1 | refine below_set ?_ GE429.out | refine below_set ?_ GE441.out) | exact HB.out)) hb); clear HO420; clear HO424; clear HO427; clear HO432; clear HO436; clear HO439; clear BK429; clear BK441; clear HB; have HO420 := n0_; have HO424 := n1_; have HO427 := n2_; have HO432 := n3_; have HO436 := n4_; have HO439 := n5_; have BK429 := n6_; have BK441 := n7_; have HB := n8_; clear n0_ n1_ n2_ n3_ n4_ n5_ n6_ n7_ n8_; (try clear hb); (try clear hb2); (try clear hk); (try clear hi)))
        go_meet
        case rel => exact ⟨_, ((t440 != t428)), (by first | rfl | (simp; done) | (simp [*]; done)), H', ⟨by first | omega | exact Nat.le_refl _⟩, ⟨by (with_reducible repeat (first | apply Kd.R_alloc | apply Kd.R_drewN | apply Kd.R_drew)); exact Kd.R_mono HO432.out (fun _ hk => trivial)⟩, ⟨by (with_reducible repeat (first | apply Kd.R_alloc | apply Kd.R_drewN | apply Kd.R_drew)); exact Kd.R_mono HO424.out (fun _ hk => hk.2)⟩, ⟨by (with_reducible repeat (first | apply Kd.R_alloc | apply Kd.R_drewN | apply Kd.R_drew)); exact Kd.R_mono HO427.out (fun _ hk => hk.2)⟩, ⟨by (with_reducible repeat (first | apply Kd.R_alloc | apply Kd.R_drewN | apply Kd.R_drew)); exact Kd.R_mono HO436.out (fun _ hk => hk.2)⟩, ⟨by (with_reducible repeat (first | apply Kd.R_alloc | apply Kd.R_drewN | apply Kd.R_drew)); exact Kd.R_mono HO439.out (fun _ hk => hk.2)⟩, ⟨by (with_reducible repeat (first | refine blk_drewN ?_ _ | refine blk_drew ?_ | refine blk_alloc ?_ _)); exact BK429.out⟩, ⟨by (with_reducible repeat (first | refine blk_drewN ?_ _ | refine blk_drew ?_ | refine blk_alloc ?_ _)); exact BK441.out⟩, ⟨by repeat (first | (with_reducible first | exact HB.out | apply below_alloc | apply pw_below_drewN | apply below_drew1 | refine below_set ?_ GE429.out | refine below_set ?_ GE441.out) | exact HB.out)⟩⟩
      · replace c24 := Bool.eq_false_iff.mpr c24
        subst c24
        have H1 : (none) = some r := by rw [if_neg (show ¬ (false = true) by decide)] at H; exact H
        clear H
        have H := H1
        clear H1
        exact absurd H (by simp)
    case rest =>
      clear HC7
      try clear c1
      try clear c2
      try clear c2b0
      try clear c2b1
      try clear p2
      try clear c3
      try clear c9
      try clear c19
      try clear c24
      try clear c25
      try clear c28
      try clear hcz12_0
      try clear hcz12_1
      try clear hcz12_2
      try clear hcz20_0
      try clear hcz20_1
      try clear hcz20_2
      try clear hcz26_0
      try clear hcz26_1
      try clear hcz26_2
      try clear hcz27_0
      try clear hcz27_1
      try clear hcz27_2
      try clear hfz12_0
      try clear hfz12_1
      try clear hfz12_2
      try clear hfz20_0
      try clear hfz20_1
      try clear hfz20_2
      try clear hfz26_0
      try clear hfz26_1
      try clear hfz26_2
      try clear hfz27_0
      try clear hfz27_1
      try clear hfz27_2
      obtain ⟨kq, x37_6, rfl, HA, HJ6, HO_5, HO_430001, HO_430002, HO_442001, HO_442002, BK429, BK441, HB⟩ := hcut
      cases kq with
      | zero => exact absurd HA.out (by simp [laws_FnExactDecode.j0])
      | succ kj6 =>
        have H := HA.out
        clear HA
        simp only [laws_FnExactDecode.j0] at H
        by_cases c29 : x37_6 = true
        · subst c29
          have H1 : (none) = some r := by rw [if_pos rfl] at H; exact H
          clear H
          have H := H1
          clear H1
          exact absurd H (by simp)
        · replace c29 := Bool.eq_false_iff.mpr c29
          subst c29
          have H1 : ((laws_toByteS.f kj6 l0).bind fun t443 => ((laws_eqByteS.f kj6 t430 t443).bind fun t446 => (if t446 = true then ((laws_markByteS.f kj6 t430 1).bind fun bt447 => (if bt447.1 < 0 then (none) else ((laws_eqRecord.f kj6 t433 t434 t437 t421 t422 t425).bind fun t449 => (if t449 = true then (laws_FnExactDecode.j1 kj6 l0 t428 (t440 != t428) t421 t422 t425 t433 t434 t437) else (none))))) else (none)))) = some r := by rw [if_neg (show ¬ (false = true) by decide)] at H; exact H
          clear H
          have H := H1
          clear H1
          replace H := Option.bind_eq_some_iff.mp H
          obtain ⟨t443, A300, H⟩ := H
          replace H : ((laws_eqByteS.f kj6 t430 t443).bind fun t446 => (if t446 = true then ((laws_markByteS.f kj6 t430 1).bind fun bt447 => (if bt447.1 < 0 then (none) else ((laws_eqRecord.f kj6 t433 t434 t437 t421 t422 t425).bind fun t449 => (if t449 = true then (laws_FnExactDecode.j1 kj6 l0 t428 (t440 != t428) t421 t422 t425 t433 t434 t437) else (none))))) else (none))) = some r := H
          have A30 := Aside0.mk A300
          clear A300
          replace H := Option.bind_eq_some_iff.mp H
          obtain ⟨t446, A310, H⟩ := H
          replace H : (if t446 = true then ((laws_markByteS.f kj6 t430 1).bind fun bt447 => (if bt447.1 < 0 then (none) else ((laws_eqRecord.f kj6 t433 t434 t437 t421 t422 t425).bind fun t449 => (if t449 = true then (laws_FnExactDecode.j1 kj6 l0 t428 (t440 != t428) t421 t422 t425 t433 t434 t437) else (none))))) else (none)) = some r := H
          have A31 := Aside0.mk A310
          clear A310
          by_cases c32 : t446 = true
          · subst c32
            have H1 : ((laws_markByteS.f kj6 t430 1).bind fun bt447 => (if bt447.1 < 0 then (none) else ((laws_eqRecord.f kj6 t433 t434 t437 t421 t422 t425).bind fun t449 => (if t449 = true then (laws_FnExactDecode.j1 kj6 l0 t428 (t440 != t428) t421 t422 t425 t433 t434 t437) else (none))))) = some r := by rw [if_pos rfl] at H; exact H
            clear H
            have H := H1
            clear H1
            replace H := Option.bind_eq_some_iff.mp H
            obtain ⟨⟨t447, t448⟩, A330, H⟩ := H
            replace H : (if t447 < 0 then (none) else ((laws_eqRecord.f kj6 t433 t434 t437 t421 t422 t425).bind fun t449 => (if t449 = true then (laws_FnExactDecode.j1 kj6 l0 t428 (t440 != t428) t421 t422 t425 t433 t434 t437) else (none)))) = some r := H
            have A33 := Aside0.mk A330
            clear A330
            have HC34 := Aside0.mk H
            clear H
            go_upto_region 12 with (first | ((with_reducible refine gate_callee (f := 19) rfl ?_); refine goesL_ (some 40) rfl rfl Try.func19 (by kernel_rfl) rfl #[.slice A0 l0.length c0] rfl (by (try simp only [List.map_toArray, List.map_cons, List.map_nil]); first | done | rfl | (simp only [List.length_drop, List.length_take]; rfl)) ?_; (with_reducible refine (laws_toByteS.calls kj6 _ _ l0 t443 _ ?side1 ?side2 A30.out).mono ?_); (case side1 => repeat (first | exact (Kd.C_below HR0.out HB.out) | (with_reducible refine Kd.C_alloc ?_ _) | (with_reducible refine Kd.C_drewN ?_ _) | (with_reducible refine Kd.C_drew ?_))); (case side2 => exact HC0.out); rintro e w35 ⟨v444, rfl, ho0, hb⟩; refine ⟨_, rfl, ?_⟩; have n0_ := Aside0.mk (Kd.R_elder' (by (with_reducible repeat (first | apply Kd.R_alloc | apply Kd.R_drewN | apply Kd.R_drew)); exact HO_5.out) (Kd.R_base ho0) hb); have n1_ := Aside0.mk (Kd.R_below (by (with_reducible repeat (first | apply Kd.R_alloc | apply Kd.R_drewN | apply Kd.R_drew)); exact HO_430001.out) hb); have n2_ := Aside0.mk (Kd.R_below (by (with_reducible repeat (first | apply Kd.R_alloc | apply Kd.R_drewN | apply Kd.R_drew)); exact HO_430002.out) hb); have n3_ := Aside0.mk (Kd.R_below (by (with_reducible repeat (first | apply Kd.R_alloc | apply Kd.R_drewN | apply Kd.R_drew)); exact HO_442001.out) hb); have n4_ := Aside0.mk (Kd.R_below (by (with_reducible repeat (first | apply Kd.R_alloc | apply Kd.R_drewN | apply Kd.R_drew)); exact HO_442002.out) hb); have n5_ := Aside0.mk (Kd.R_lower (Kd.R_new' ho0 (Kd.R_lt (by (with_reducible repeat (first | apply Kd.R_alloc | apply Kd.R_drewN | apply Kd.R_drew)); exact HO_5.out))) (below_size (by repeat (first | (with_reducible first | exact HB.out | apply below_alloc | apply pw_below_drewN | apply below_drew1 | refine below_set ?_ GE429.out | refine below_set ?_ GE441.out) | exact HB.out)))); have n6_ := Aside0.mk (blk_below (g := gb429) (o := .cells #[.int .i64 t421, .slice Ao13 t422.length co13, .slice Ao14 t425.length co14] 42 (0, 0)) (by (with_reducible repeat (first | refine blk_drewN ?_ _ | refine blk_drew ?_ | refine blk_alloc ?_ _)); exact BK429.out) hb); have n7_ := Aside0.mk (blk_below (g := gb441) (o := .cells #[.int .i64 t433, .slice Ao21 t434.length co21, .slice Ao22 t437.length co22] 42 (0, 0)) (by (with_reducible repeat (first | refine blk_drewN ?_ _ | refine blk_drew ?_ | refine blk_alloc ?_ _)); exact BK441.out) hb); have n8_ := Aside0.mk (below_step (by repeat (first | (with_reducible first | exact HB.out | apply below_alloc | apply pw_below_drewN | apply below_drew1 | refine below_set ?_ GE429.out | refine below_set ?_ GE441.out) | exact HB.out)) hb); clear HO_5; clear HO_430001; clear HO_430002; clear HO_442001; clear HO_442002; clear BK429; clear BK441; clear HB; have HO_5 := n0_; have HO_430001 := n1_; have HO_430002 := n2_; have HO_442001 := n3_; have HO_442002 := n4_; have HO445 := n5_; have BK429 := n6_; have BK441 := n7_; have HB := n8_; clear n0_ n1_ n2_ n3_ n4_ n5_ n6_ n7_ n8_; (try clear hb); (try clear hb2); (try clear hk); (try clear hi); (try clear ho0); obtain ⟨Ao36, co36, eo36⟩ := Kd.R_slice HO445.out; subst eo36) | ((with_reducible refine gate_callee (f := 15) rfl ?_); refine goesL_ (some 41) rfl rfl Try.func15 (by kernel_rfl) rfl #[.slice Ao16 t430.length co16, .slice Ao36 t443.length co36] rfl (by (try simp only [List.map_toArray, List.map_cons, List.map_nil]); first | done | rfl | (simp only [List.length_drop, List.length_take]; rfl)) ?_; (with_reducible refine (laws_eqByteS.calls kj6 _ _ t430 _ _ t443 true _ ?side1 ?side2 ?side3 ?side4 A31.out).mono ?_); (case side1 => repeat (first | exact (Kd.R_reads' HO_5.out).2.2 | (with_reducible refine Kd.C_alloc ?_ _) | (with_reducible refine Kd.C_drewN ?_ _) | (with_reducible refine Kd.C_drew ?_))); (case side2 => exact (Kd.R_reads' HO_5.out).2.1); (case side3 => repeat (first | exact (Kd.R_reads' HO445.out).2.2 | (with_reducible refine Kd.C_alloc ?_ _) | (with_reducible refine Kd.C_drewN ?_ _) | (with_reducible refine Kd.C_drew ?_))); (case side4 => exact (Kd.R_reads' HO445.out).2.1); rintro e w' ⟨rfl, ⟨nd, rfl⟩⟩; refine ⟨_, rfl, ?_⟩) | ((with_reducible refine gate_callee (f := 16) rfl ?_); refine goesL_ (some 45) rfl rfl Try.func16 (by kernel_rfl) rfl #[.slice Ao16 t430.length co16, .int .i64 1] rfl (by (try simp only [List.map_toArray, List.map_cons, List.map_nil]); first | done | rfl | (simp only [List.length_drop, List.length_take]; rfl)) ?_; (with_reducible refine (laws_markByteS.calls kj6 (fun k_ => some k_ = (.slice Ao16 t430.length co16 : Value).ownBlock) (.slice Ao16 t430.length co16) t430 1 t447 t448 w _ ?side1 ?side2 A33.out).mono ?_); (case side1 => repeat (first | (with_reducible first | exact HB.out | apply below_alloc | apply pw_below_drewN | apply below_drew1 | refine below_set ?_ GE429.out | refine below_set ?_ GE441.out) | exact HB.out)); (case side2 => exact Kd.R_tight rfl HO_5.out); rintro e w37 ⟨rfl, hy0, hb, hkp⟩; refine ⟨_, rfl, ?_⟩; have n0_ := Aside0.mk (Kd.R_reok rfl hy0 (fun k_ e_ => HO_5.out.1 k_ e_)); have n1_ := Aside0.mk (Kd.R_mono (ok' := fun k_ => some k_ ≠ (.slice Ao21 t434.length co21 : Value).ownBlock) (Kd.R_keptB ((Kd.R_apart' HO_430001.out (Kd.R_typed HO_5.out) (by decide))) hkp (fun k_ hk_ hs_ => (hk_.2) hs_)) (fun k_ hk_ => hk_.1.1)); have n2_ := Aside0.mk (Kd.R_mono (ok' := fun k_ => some k_ ≠ (.slice Ao22 t437.length co22 : Value).ownBlock) (Kd.R_keptB ((Kd.R_apart' HO_430002.out (Kd.R_typed HO_5.out) (by decide))) hkp (fun k_ hk_ hs_ => (hk_.2) hs_)) (fun k_ hk_ => hk_.1.1)); have n3_ := Aside0.mk (Kd.R_mono (ok' := fun k_ => some k_ ≠ (.slice Ao13 t422.length co13 : Value).ownBlock) (Kd.R_keptB ((Kd.R_apart' HO_442001.out (Kd.R_typed HO_5.out) (by decide))) hkp (fun k_ hk_ hs_ => (hk_.2) hs_)) (fun k_ hk_ => hk_.1.1)); have n4_ := Aside0.mk (Kd.R_mono (ok' := fun k_ => some k_ ≠ (.slice Ao14 t425.length co14 : Value).ownBlock) (Kd.R_keptB ((Kd.R_apart' HO_442002.out (Kd.R_typed HO_5.out) (by decide))) hkp (fun k_ hk_ hs_ => (hk_.2) hs_)) (fun k_ hk_ => hk_.1.1)); have n5_ := Aside0.mk (blk_kept (by (with_reducible repeat (first | refine blk_drewN ?_ _ | refine blk_drew ?_ | refine blk_alloc ?_ _)); exact BK429.out) hkp (fun hs_ => (fun e_ => (Kd.R_ne HO_5.out BK429.out (by decide)) e_) hs_)); have n6_ := Aside0.mk (blk_kept (by (with_reducible repeat (first | refine blk_drewN ?_ _ | refine blk_drew ?_ | refine blk_alloc ?_ _)); exact BK441.out) hkp (fun hs_ => (fun e_ => (Kd.R_ne HO_5.out BK441.out (by decide)) e_) hs_)); have n7_ := Aside0.mk (Kd.R_mono (ok' := fun k_ => some k_ ≠ (.slice Ao16 t430.length co16 : Value).ownBlock) (Kd.R_keptB (HO445.out) hkp (fun k_ hk_ hs_ => (hk_.2) hs_)) (fun k_ hk_ => hk_.1.2)); have n8_ := Aside0.mk (hb); clear HO_5; clear HO_430001; clear HO_430002; clear HO_442001; clear HO_442002; clear BK429; clear BK441; clear HO445; clear HB; have HO_5 := n0_; have HO_430001 := n1_; have HO_430002 := n2_; have HO_442001 := n3_; have HO_442002 := n4_; have BK429 := n5_; have BK441 := n6_; have HO445 := n7_; have HB := n8_; clear n0_ n1_ n2_ n3_ n4_ n5_ n6_ n7_ n8_; (try clear hb); (try clear hkp); (try clear hy0)))
            (try simp only [Act.put, List.setIfInBounds_toArray, List.set_cons_zero, List.set_cons_succ])
            go_cut [58] (fun v58 wc => ∃ (kq : Nat) (x58_33 : Bool), v58 = .bool x58_33 ∧ Aside0 (laws_FnExactDecode.j1 kq l0 t428 x58_33 t421 t422 t425 t433 t434 t437 = some r) ∧ Aside0 (kq ≤ kj6) ∧ Aside0 (Kd.R (Kd.int .u64) 23 wc w.heap.size (fun k_ => some k_ ≠ ((.slice Ao21 t434.length co21) : Value).ownBlock) (.slice Ao13 t422.length co13) t422) ∧ Aside0 (Kd.R Kd.string 9 wc w.heap.size (fun k_ => some k_ ≠ ((.slice Ao22 t437.length co22) : Value).ownBlock) (.slice Ao14 t425.length co14) t425) ∧ Aside0 (Kd.R (Kd.int .u64) 23 wc w.heap.size (fun k_ => some k_ ≠ ((.slice Ao13 t422.length co13) : Value).ownBlock) (.slice Ao21 t434.length co21) t434) ∧ Aside0 (Kd.R Kd.string 9 wc w.heap.size (fun k_ => some k_ ≠ ((.slice Ao14 t425.length co14) : Value).ownBlock) (.slice Ao22 t437.length co22) t437) ∧ Aside0 (wc.heap[gb429]? = some (.cells #[.int .i64 t421, (.slice Ao13 t422.length co13), (.slice Ao14 t425.length co14)] 42 (0, 0))) ∧ Aside0 (wc.heap[gb441]? = some (.cells #[.int .i64 t433, (.slice Ao21 t434.length co21), (.slice Ao22 t437.length co22)] 42 (0, 0))) ∧ Aside0 (Below w.heap.size w wc))
            case first =>
              have H := HC34.out
              clear HC34
              by_cases c38 : t447 < 0
              · rw [if_pos c38] at H
                exact absurd H (by simp)
              · rw [if_neg c38] at H
                have c38b0 : decide (t447 < 0) = false := decide_eq_false c38
                clear c38
                (first | rw [c38b0] | (simp only [i64_w, i32_w]; rw [c38b0]) | skip)
                replace H := Option.bind_eq_some_iff.mp H
                obtain ⟨t449, A390, H⟩ := H
                replace H : (if t449 = true then (laws_FnExactDecode.j1 kj6 l0 t428 (t440 != t428) t421 t422 t425 t433 t434 t437) else (none)) = some r := H
                have A39 := Aside0.mk A390
                clear A390
                by_cases c40 : t449 = true
                · subst c40
                  have H1 : (laws_FnExactDecode.j1 kj6 l0 t428 (t440 != t428) t421 t422 t425 t433 t434 t437) = some r := by rw [if_pos rfl] at H; exact H
                  clear H
                  have H := H1
                  clear H1
                  have H' := Aside0.mk H
                  clear H
                  have hnb41 := NB441_429.out
                  have hnc41 := NB429_441.out
                  have hcz42_0 : w37.cell? ⟨gb441, 0, none⟩ = some (.int .i64 t433) := (blk_cell BK441.out 0).trans rfl
                  have hcz42_1 : w37.cell? ⟨gb441, 1, none⟩ = some (.slice Ao21 t434.length co21) := (blk_cell BK441.out 1).trans rfl
                  have hcz42_2 : w37.cell? ⟨gb441, 2, none⟩ = some (.slice Ao22 t437.length co22) := (blk_cell BK441.out 2).trans rfl
                  have hfz42_0 := blk_frozen BK441.out 0
                  have hfz42_1 := blk_frozen BK441.out 1
                  have hfz42_2 := blk_frozen BK441.out 2
                  have hcz43_0 : w37.cell? ⟨gb429, 0, none⟩ = some (.int .i64 t421) := (blk_cell BK429.out 0).trans rfl
                  have hcz43_1 : w37.cell? ⟨gb429, 1, none⟩ = some (.slice Ao13 t422.length co13) := (blk_cell BK429.out 1).trans rfl
                  have hcz43_2 : w37.cell? ⟨gb429, 2, none⟩ = some (.slice Ao14 t425.length co14) := (blk_cell BK429.out 2).trans rfl
                  have hfz43_0 := blk_frozen BK429.out 0
                  have hfz43_1 := blk_frozen BK429.out 1
                  have hfz43_2 := blk_frozen BK429.out 2
                  go_wp2_with (first | (go_at_call 28; (with_reducible refine (laws_eqRecord.calls kj6 t433 _ _ t434 _ _ t437 t421 _ _ t422 _ _ t425 true _ ?side1 ?side2 ?side3 ?side4 ?side5 ?side6 ?side7 ?side8 A39.out).mono ?_); (case side1 => repeat (first | exact (Kd.R_reads' HO_442001.out).2.2 | (with_reducible refine Kd.C_alloc ?_ _) | (with_reducible refine Kd.C_drewN ?_ _) | (with_reducible refine Kd.C_drew ?_))); (case side2 => exact (Kd.R_reads' HO_442001.out).2.1); (case side3 => repeat (first | exact (Kd.R_reads' HO_442002.out).2.2 | (with_reducible refine Kd.C_alloc ?_ _) | (with_reducible refine Kd.C_drewN ?_ _) | (with_reducible refine Kd.C_drew ?_))); (case side4 => exact (Kd.R_reads' HO_442002.out).2.1); (case side5 => repeat (first | exact (Kd.R_reads' HO_430001.out).2.2 | (with_reducible refine Kd.C_alloc ?_ _) | (with_reducible refine Kd.C_drewN ?_ _) | (with_reducible refine Kd.C_drew ?_))); (case side6 => exact (Kd.R_reads' HO_430001.out).2.1); (case side7 => repeat (first | exact (Kd.R_reads' HO_430002.out).2.2 | (with_reducible refine Kd.C_alloc ?_ _) | (with_reducible refine Kd.C_drewN ?_ _) | (with_reducible refine Kd.C_drew ?_))); (case side8 => exact (Kd.R_reads' HO_430002.out).2.1); rintro e w44 ⟨rfl, hb⟩; have n0_ := Aside0.mk (Kd.R_below (by (with_reducible repeat (first | apply Kd.R_alloc | apply Kd.R_drewN | apply Kd.R_drew)); exact HO_5.out) hb); have n1_ := Aside0.mk (Kd.R_below (by (with_reducible repeat (first | apply Kd.R_alloc | apply Kd.R_drewN | apply Kd.R_drew)); exact HO_430001.out) hb); have n2_ := Aside0.mk (Kd.R_below (by (with_reducible repeat (first | apply Kd.R_alloc | apply Kd.R_drewN | apply Kd.R_drew)); exact HO_430002.out) hb); have n3_ := Aside0.mk (Kd.R_below (by (with_reducible repeat (first | apply Kd.R_alloc | apply Kd.R_drewN | apply Kd.R_drew)); exact HO_442001.out) hb); have n4_ := Aside0.mk (Kd.R_below (by (with_reducible repeat (first | apply Kd.R_alloc | apply Kd.R_drewN | apply Kd.R_drew)); exact HO_442002.out) hb); have n5_ := Aside0.mk (Kd.R_below (by (with_reducible repeat (first | apply Kd.R_alloc | apply Kd.R_drewN | apply Kd.R_drew)); exact HO445.out) hb); have n6_ := Aside0.mk (blk_below (g := gb429) (o := .cells #[.int .i64 t421, .slice Ao13 t422.length co13, .slice Ao14 t425.length co14] 42 (0, 0)) (by (with_reducible repeat (first | refine blk_drewN ?_ _ | refine blk_drew ?_ | refine blk_alloc ?_ _)); exact BK429.out) hb); have n7_ := Aside0.mk (blk_below (g := gb441) (o := .cells #[.int .i64 t433, .slice Ao21 t434.length co21, .slice Ao22 t437.length co22] 42 (0, 0)) (by (with_reducible repeat (first | refine blk_drewN ?_ _ | refine blk_drew ?_ | refine blk_alloc ?_ _)); exact BK441.out) hb); have n8_ := Aside0.mk (below_step (by repeat (first | (with_reducible first | exact HB.out | apply below_alloc | apply pw_below_drewN | apply below_drew1 | refine below_set ?_ GE429.out | refine below_set ?_ GE441.out) | exact HB.out)) hb); clear HO_5; clear HO_430001; clear HO_430002; clear HO_442001; clear HO_442002; clear HO445; clear BK429; clear BK441; clear HB; have HO_5 := n0_; have HO_430001 := n1_; have HO_430002 := n2_; have HO_442001 := n3_; have HO_442002 := n4_; have HO445 := n5_; have BK429 := n6_; have BK441 := n7_; have HB := n8_; clear n0_ n1_ n2_ n3_ n4_ n5_ n6_ n7_ n8_; (try clear hb); (try clear hb2); (try clear hk); (try clear hi)))
                  go_meet
                  case rel => exact ⟨_, ((t440 != t428)), (by first | rfl | (simp; done) | (simp [*]; done)), H', ⟨by have := HJ6.out; first | omega | exact Nat.le_refl _⟩, ⟨by (with_reducible repeat (first | apply Kd.R_alloc | apply Kd.R_drewN | apply Kd.R_drew)); exact HO_430001.out⟩, ⟨by (with_reducible repeat (first | apply Kd.R_alloc | apply Kd.R_drewN | apply Kd.R_drew)); exact HO_430002.out⟩, ⟨by (with_reducible repeat (first | apply Kd.R_alloc | apply Kd.R_drewN | apply Kd.R_drew)); exact HO_442001.out⟩, ⟨by (with_reducible repeat (first | apply Kd.R_alloc | apply Kd.R_drewN | apply Kd.R_drew)); exact HO_442002.out⟩, ⟨by (with_reducible repeat (first | refine blk_drewN ?_ _ | refine blk_drew ?_ | refine blk_alloc ?_ _)); exact BK429.out⟩, ⟨by (with_reducible repeat (first | refine blk_drewN ?_ _ | refine blk_drew ?_ | refine blk_alloc ?_ _)); exact BK441.out⟩, ⟨by repeat (first | (with_reducible first | exact HB.out | apply below_alloc | apply pw_below_drewN | apply below_drew1 | refine below_set ?_ GE429.out | refine below_set ?_ GE441.out) | exact HB.out)⟩⟩
                · replace c40 := Bool.eq_false_iff.mpr c40
                  subst c40
                  have H1 : (none) = some r := by rw [if_neg (show ¬ (false = true) by decide)] at H; exact H
                  clear H
                  have H := H1
                  clear H1
                  exact absurd H (by simp)
            case rest =>
              clear HC34
              try clear c1
              try clear c2
              try clear c2b0
              try clear c2b1
              try clear p2
              try clear c3
              try clear c4
              try clear c9
              try clear c15
              try clear c16
              try clear c19
              try clear c24
              try clear c25
              try clear c28
              try clear c29
              try clear c32
              try clear c33
              try clear c38
              try clear c38b0
              try clear c40
              try clear c41
              try clear hcz12_0
              try clear hcz12_1
              try clear hcz12_2
              try clear hcz20_0
              try clear hcz20_1
              try clear hcz20_2
              try clear hcz26_0
              try clear hcz26_1
              try clear hcz26_2
              try clear hcz27_0
              try clear hcz27_1
              try clear hcz27_2
              try clear hcz42_0
              try clear hcz42_1
              try clear hcz42_2
              try clear hcz43_0
              try clear hcz43_1
              try clear hcz43_2
              try clear hfz12_0
              try clear hfz12_1
              try clear hfz12_2
              try clear hfz20_0
              try clear hfz20_1
              try clear hfz20_2
              try clear hfz26_0
              try clear hfz26_1
              try clear hfz26_2
              try clear hfz27_0
              try clear hfz27_1
              try clear hfz27_2
              try clear hfz42_0
              try clear hfz42_1
              try clear hfz42_2
              try clear hfz43_0
              try clear hfz43_1
              try clear hfz43_2
              try clear p2
              obtain ⟨kq, x58_33, rfl, HA, HJ33, HO_430001, HO_430002, HO_442001, HO_442002, BK429, BK441, HB⟩ := hcut
              cases kq with
              | zero => exact absurd HA.out (by simp [laws_FnExactDecode.j1])
              | succ kj33 =>
                have H := HA.out
                clear HA
                simp only [laws_FnExactDecode.j1] at H
                by_cases c45 : x58_33 = true
                · subst c45
                  have H1 : (none) = some r := by rw [if_pos rfl] at H; exact H
                  clear H
                  have H := H1
                  clear H1
                  exact absurd H (by simp)
                · replace c45 := Bool.eq_false_iff.mpr c45
                  subst c45
                  have H1 : ((laws_markRecord.f kj33 t433 t434 t437 1).bind fun bt450 => ((laws_heldRecord.f kj33 t433 bt450.2.1 bt450.2.2 1).bind fun t453 => (if t453 < 0 then (none) else (if t453 = bt450.1 then ((laws_toByteS.f kj33 l0).bind fun t454 => ((impl_Decode.f kj33 t454).bind fun bt457 => ((laws_eqRecord.f kj33 bt457.1 bt457.2.1 bt457.2.2.1 t421 t422 t425).bind fun t466 => (if t466 = true then (laws_FnExactDecode.j2 kj33 bt450.1 (bt457.2.2.2 != t428) t433 bt450.2.1 bt450.2.2) else (none))))) else (none))))) = some r := by rw [if_neg (show ¬ (false = true) by decide)] at H; exact H
                  clear H
                  have H := H1
                  clear H1
                  replace H := Option.bind_eq_some_iff.mp H
                  obtain ⟨⟨t450, t451, t452⟩, A460, H⟩ := H
                  replace H : ((laws_heldRecord.f kj33 t433 t451 t452 1).bind fun t453 => (if t453 < 0 then (none) else (if t453 = t450 then ((laws_toByteS.f kj33 l0).bind fun t454 => ((impl_Decode.f kj33 t454).bind fun bt457 => ((laws_eqRecord.f kj33 bt457.1 bt457.2.1 bt457.2.2.1 t421 t422 t425).bind fun t466 => (if t466 = true then (laws_FnExactDecode.j2 kj33 t450 (bt457.2.2.2 != t428) t433 t451 t452) else (none))))) else (none)))) = some r := H
                  have A46 := Aside0.mk A460
                  clear A460
                  replace H := Option.bind_eq_some_iff.mp H
                  obtain ⟨t453, A470, H⟩ := H
                  replace H : (if t453 < 0 then (none) else (if t453 = t450 then ((laws_toByteS.f kj33 l0).bind fun t454 => ((impl_Decode.f kj33 t454).bind fun bt457 => ((laws_eqRecord.f kj33 bt457.1 bt457.2.1 bt457.2.2.1 t421 t422 t425).bind fun t466 => (if t466 = true then (laws_FnExactDecode.j2 kj33 t450 (bt457.2.2.2 != t428) t433 t451 t452) else (none))))) else (none))) = some r := H
                  have A47 := Aside0.mk A470
                  clear A470
                  by_cases c48 : t453 < 0
                  · rw [if_pos c48] at H
                    exact absurd H (by simp)
                  · rw [if_neg c48] at H
                    have c48b0 : decide (t453 < 0) = false := decide_eq_false c48
                    clear c48
                    by_cases c49 : t453 = t450
                    · rw [if_pos c49] at H
                      have c49b0 : (t453 == t450) = true := beq_iff_eq.mpr c49
                      have c49b1 : (t453 != t450) = false := bne_eq_false_iff_eq.mpr c49
                      clear c49
                      replace H := Option.bind_eq_some_iff.mp H
                      obtain ⟨t454, A500, H⟩ := H
                      replace H : ((impl_Decode.f kj33 t454).bind fun bt457 => ((laws_eqRecord.f kj33 bt457.1 bt457.2.1 bt457.2.2.1 t421 t422 t425).bind fun t466 => (if t466 = true then (laws_FnExactDecode.j2 kj33 t450 (bt457.2.2.2 != t428) t433 t451 t452) else (none)))) = some r := H
                      have A50 := Aside0.mk A500
                      clear A500
                      replace H := Option.bind_eq_some_iff.mp H
                      obtain ⟨⟨t457, t458, t461, t464⟩, A510, H⟩ := H
                      replace H : ((laws_eqRecord.f kj33 t457 t458 t461 t421 t422 t425).bind fun t466 => (if t466 = true then (laws_FnExactDecode.j2 kj33 t450 (t464 != t428) t433 t451 t452) else (none))) = some r := H
                      have A51 := Aside0.mk A510
                      clear A510
                      have HC52 := Aside0.mk H
                      clear H
                      have hnb53 := NB441_429.out
                      have hnc53 := NB429_441.out
                      have hcz54_0 : wc.cell? ⟨gb441, 0, none⟩ = some (.int .i64 t433) := (blk_cell BK441.out 0).trans rfl
                      have hcz54_1 : wc.cell? ⟨gb441, 1, none⟩ = some (.slice Ao21 t434.length co21) := (blk_cell BK441.out 1).trans rfl
                      have hcz54_2 : wc.cell? ⟨gb441, 2, none⟩ = some (.slice Ao22 t437.length co22) := (blk_cell BK441.out 2).trans rfl
                      have hfz54_0 := blk_frozen BK441.out 0
                      have hfz54_1 := blk_frozen BK441.out 1
                      have hfz54_2 := blk_frozen BK441.out 2
                      go_upto_region 23 with (first | ((with_reducible refine gate_callee (f := 31) rfl ?_); refine goesL_ (some 61) rfl rfl Try.func31 (by kernel_rfl) rfl #[.agg #[.int .i64 t433, .slice Ao21 t434.length co21, .slice Ao22 t437.length co22], .int .i64 1] rfl (by (try simp only [List.map_toArray, List.map_cons, List.map_nil]); first | done | rfl | (simp only [List.length_drop, List.length_take]; rfl)) ?_; (with_reducible refine (laws_markRecord.calls kj33 t433 (fun k_ => some k_ = (.slice Ao21 t434.length co21 : Value).ownBlock) (.slice Ao21 t434.length co21) t434 (fun k_ => some k_ = (.slice Ao22 t437.length co22 : Value).ownBlock) (.slice Ao22 t437.length co22) t437 1 t450 t451 t452 w _ ?side1 ?side2 ?side3 A46.out).mono ?_); (case side1 => repeat (first | (with_reducible first | exact HB.out | apply below_alloc | apply pw_below_drewN | apply below_drew1 | refine below_set ?_ GE429.out | refine below_set ?_ GE441.out) | exact HB.out)); (case side2 => exact Kd.R_tight rfl HO_442001.out); (case side3 => exact Kd.R_tight rfl HO_442002.out); rintro e w55 ⟨rfl, hy0, hy1, hb, hkp⟩; refine ⟨_, rfl, ?_⟩; have n0_ := Aside0.mk (Kd.R_mono (ok' := fun k_ => some k_ ≠ (.slice Ao21 t434.length co21 : Value).ownBlock) (Kd.R_keptB ((Kd.R_apart' HO_430001.out (Kd.R_typed HO_442002.out) (by decide))) hkp (fun k_ hk_ hs_ => Or.elim hs_ (fun e_ => (hk_.1) e_) (fun e_ => (hk_.2) e_))) (fun k_ hk_ => hk_.1.1)); have n1_ := Aside0.mk (Kd.R_mono (ok' := fun k_ => some k_ ≠ (.slice Ao22 t437.length co22 : Value).ownBlock) (Kd.R_keptB ((Kd.R_apart' HO_430002.out (Kd.R_typed HO_442001.out) (by decide))) hkp (fun k_ hk_ hs_ => Or.elim hs_ (fun e_ => (hk_.2) e_) (fun e_ => (hk_.1) e_))) (fun k_ hk_ => hk_.1.1)); have n2_ := Aside0.mk (Kd.R_reok rfl hy0 (fun k_ e_ => HO_442001.out.1 k_ e_)); have n3_ := Aside0.mk (Kd.R_reok rfl hy1 (fun k_ e_ => HO_442002.out.1 k_ e_)); have n4_ := Aside0.mk (blk_kept (by (with_reducible repeat (first | refine blk_drewN ?_ _ | refine blk_drew ?_ | refine blk_alloc ?_ _)); exact BK429.out) hkp (fun hs_ => Or.elim hs_ (fun e_ => (fun e_ => (Kd.R_ne HO_442001.out BK429.out (by decide)) e_) e_) (fun e_ => (fun e_ => (Kd.R_ne HO_442002.out BK429.out (by decide)) e_) e_))); have n5_ := Aside0.mk (blk_kept (by (with_reducible repeat (first | refine blk_drewN ?_ _ | refine blk_drew ?_ | refine blk_alloc ?_ _)); exact BK441.out) hkp (fun hs_ => Or.elim hs_ (fun e_ => (fun e_ => (Kd.R_ne HO_442001.out BK441.out (by decide)) e_) e_) (fun e_ => (fun e_ => (Kd.R_ne HO_442002.out BK441.out (by decide)) e_) e_))); have n6_ := Aside0.mk (hb); clear HO_430001; clear HO_430002; clear HO_442001; clear HO_442002; clear BK429; clear BK441; clear HB; have HO_430001 := n0_; have HO_430002 := n1_; have HO_442001 := n2_; have HO_442002 := n3_; have BK429 := n4_; have BK441 := n5_; have HB := n6_; clear n0_ n1_ n2_ n3_ n4_ n5_ n6_; (try clear hb); (try clear hkp); (try clear hy0); (try clear hy1); have hcz56_0 : w55.cell? ⟨gb441, 0, none⟩ = some (.int .i64 t433) := (blk_cell BK441.out 0).trans rfl; have hcz56_1 : w55.cell? ⟨gb441, 1, none⟩ = some (.slice Ao21 t434.length co21) := (blk_cell BK441.out 1).trans rfl; have hcz56_2 : w55.cell? ⟨gb441, 2, none⟩ = some (.slice Ao22 t437.length co22) := (blk_cell BK441.out 2).trans rfl; have hfz56_0 := blk_frozen BK441.out 0; have hfz56_1 := blk_frozen BK441.out 1; have hfz56_2 := blk_frozen BK441.out 2) | ((with_reducible refine gate_callee (f := 34) rfl ?_); refine goesL_ (some 64) rfl rfl Try.func34 (by kernel_rfl) rfl #[.agg #[.int .i64 t433, .slice Ao21 t451.length co21, .slice Ao22 t452.length co22], .int .i64 1] rfl (by (try simp only [List.map_toArray, List.map_cons, List.map_nil]); first | done | (rw [show t451.length = t434.length from (Kd.R_reads' HO_442001.out).1.symm, show t452.length = t437.length from (Kd.R_reads' HO_442002.out).1.symm] <;> rfl) | rfl | (simp only [List.length_drop, List.length_take]; rfl)) ?_; (with_reducible refine (laws_heldRecord.calls kj33 t433 _ _ t451 _ _ t452 1 t453 _ ?side1 ?side2 ?side3 ?side4 A47.out).mono ?_); (case side1 => repeat (first | exact (Kd.R_reads' HO_442001.out).2.2 | (with_reducible refine Kd.C_alloc ?_ _) | (with_reducible refine Kd.C_drewN ?_ _) | (with_reducible refine Kd.C_drew ?_))); (case side2 => rw [show t451.length = t434.length from (Kd.R_reads' HO_442001.out).1.symm]; exact (Kd.R_reads' HO_442001.out).2.1); (case side3 => repeat (first | exact (Kd.R_reads' HO_442002.out).2.2 | (with_reducible refine Kd.C_alloc ?_ _) | (with_reducible refine Kd.C_drewN ?_ _) | (with_reducible refine Kd.C_drew ?_))); (case side4 => rw [show t452.length = t437.length from (Kd.R_reads' HO_442002.out).1.symm]; exact (Kd.R_reads' HO_442002.out).2.1); rintro e w57 ⟨rfl, hb⟩; refine ⟨_, rfl, ?_⟩; have n0_ := Aside0.mk (Kd.R_below (by (with_reducible repeat (first | apply Kd.R_alloc | apply Kd.R_drewN | apply Kd.R_drew)); exact HO_430001.out) hb); have n1_ := Aside0.mk (Kd.R_below (by (with_reducible repeat (first | apply Kd.R_alloc | apply Kd.R_drewN | apply Kd.R_drew)); exact HO_430002.out) hb); have n2_ := Aside0.mk (Kd.R_below (by (with_reducible repeat (first | apply Kd.R_alloc | apply Kd.R_drewN | apply Kd.R_drew)); exact HO_442001.out) hb); have n3_ := Aside0.mk (Kd.R_below (by (with_reducible repeat (first | apply Kd.R_alloc | apply Kd.R_drewN | apply Kd.R_drew)); exact HO_442002.out) hb); have n4_ := Aside0.mk (blk_below (g := gb429) (o := .cells #[.int .i64 t421, .slice Ao13 t422.length co13, .slice Ao14 t425.length co14] 42 (0, 0)) (by (with_reducible repeat (first | refine blk_drewN ?_ _ | refine blk_drew ?_ | refine blk_alloc ?_ _)); exact BK429.out) hb); have n5_ := Aside0.mk (blk_below (g := gb441) (o := .cells #[.int .i64 t433, .slice Ao21 t434.length co21, .slice Ao22 t437.length co22] 42 (0, 0)) (by (with_reducible repeat (first | refine blk_drewN ?_ _ | refine blk_drew ?_ | refine blk_alloc ?_ _)); exact BK441.out) hb); have n6_ := Aside0.mk (below_step (by repeat (first | (with_reducible first | exact HB.out | apply below_alloc | apply pw_below_drewN | apply below_drew1 | refine below_set ?_ GE429.out | refine below_set ?_ GE441.out) | exact HB.out)) hb); clear HO_430001; clear HO_430002; clear HO_442001; clear HO_442002; clear BK429; clear BK441; clear HB; have HO_430001 := n0_; have HO_430002 := n1_; have HO_442001 := n2_; have HO_442002 := n3_; have BK429 := n4_; have BK441 := n5_; have HB := n6_; clear n0_ n1_ n2_ n3_ n4_ n5_ n6_; (try clear hb); (try clear hb2); (try clear hk); (try clear hi)) | ((with_reducible refine gate_callee (f := 19) rfl ?_); refine goesL_ (some 72) rfl rfl Try.func19 (by kernel_rfl) rfl #[.slice A0 l0.length c0] rfl (by (try simp only [List.map_toArray, List.map_cons, List.map_nil]); first | done | rfl | (simp only [List.length_drop, List.length_take]; rfl)) ?_; (with_reducible refine (laws_toByteS.calls kj33 _ _ l0 t454 _ ?side1 ?side2 A50.out).mono ?_); (case side1 => repeat (first | exact (Kd.C_below HR0.out HB.out) | (with_reducible refine Kd.C_alloc ?_ _) | (with_reducible refine Kd.C_drewN ?_ _) | (with_reducible refine Kd.C_drew ?_))); (case side2 => exact HC0.out); rintro e w58 ⟨v455, rfl, ho0, hb⟩; refine ⟨_, rfl, ?_⟩; have n0_ := Aside0.mk (Kd.R_below (by (with_reducible repeat (first | apply Kd.R_alloc | apply Kd.R_drewN | apply Kd.R_drew)); exact HO_430001.out) hb); have n1_ := Aside0.mk (Kd.R_below (by (with_reducible repeat (first | apply Kd.R_alloc | apply Kd.R_drewN | apply Kd.R_drew)); exact HO_430002.out) hb); have n2_ := Aside0.mk (Kd.R_below (by (with_reducible repeat (first | apply Kd.R_alloc | apply Kd.R_drewN | apply Kd.R_drew)); exact HO_442001.out) hb); have n3_ := Aside0.mk (Kd.R_below (by (with_reducible repeat (first | apply Kd.R_alloc | apply Kd.R_drewN | apply Kd.R_drew)); exact HO_442002.out) hb); have n4_ := Aside0.mk (Kd.R_lower ho0 (below_size (by repeat (first | (with_reducible first | exact HB.out | apply below_alloc | apply pw_below_drewN | apply below_drew1 | refine below_set ?_ GE429.out | refine below_set ?_ GE441.out) | exact HB.out)))); have n5_ := Aside0.mk (blk_below (g := gb429) (o := .cells #[.int .i64 t421, .slice Ao13 t422.length co13, .slice Ao14 t425.length co14] 42 (0, 0)) (by (with_reducible repeat (first | refine blk_drewN ?_ _ | refine blk_drew ?_ | refine blk_alloc ?_ _)); exact BK429.out) hb); have n6_ := Aside0.mk (blk_below (g := gb441) (o := .cells #[.int .i64 t433, .slice Ao21 t434.length co21, .slice Ao22 t437.length co22] 42 (0, 0)) (by (with_reducible repeat (first | refine blk_drewN ?_ _ | refine blk_drew ?_ | refine blk_alloc ?_ _)); exact BK441.out) hb); have n7_ := Aside0.mk (below_step (by repeat (first | (with_reducible first | exact HB.out | apply below_alloc | apply pw_below_drewN | apply below_drew1 | refine below_set ?_ GE429.out | refine below_set ?_ GE441.out) | exact HB.out)) hb); clear HO_430001; clear HO_430002; clear HO_442001; clear HO_442002; clear BK429; clear BK441; clear HB; have HO_430001 := n0_; have HO_430002 := n1_; have HO_442001 := n2_; have HO_442002 := n3_; have HO456 := n4_; have BK429 := n5_; have BK441 := n6_; have HB := n7_; clear n0_ n1_ n2_ n3_ n4_ n5_ n6_ n7_; (try clear hb); (try clear hb2); (try clear hk); (try clear hi); (try clear ho0); obtain ⟨Ao59, co59, eo59⟩ := Kd.R_slice HO456.out; subst eo59) | ((with_reducible refine gate_callee (f := 33) rfl ?_); refine goesL_ (some 73) rfl rfl Try.func33 (by kernel_rfl) rfl #[.slice Ao59 t454.length co59] rfl (by (try simp only [List.map_toArray, List.map_cons, List.map_nil]); first | done | rfl | (simp only [List.length_drop, List.length_take]; rfl)) ?_; (with_reducible refine (impl_Decode.calls kj33 _ _ t454 t457 t458 t461 t464 _ ?side1 ?side2 A51.out).mono ?_); (case side1 => repeat (first | exact (Kd.R_reads' HO456.out).2.2 | (with_reducible refine Kd.C_alloc ?_ _) | (with_reducible refine Kd.C_drewN ?_ _) | (with_reducible refine Kd.C_drew ?_))); (case side2 => exact (Kd.R_reads' HO456.out).2.1); rintro e w60 ⟨v459, v462, rfl, ho0, ho1, hb⟩; refine ⟨_, rfl, ?_⟩; have n0_ := Aside0.mk (Kd.R_elder' (by (with_reducible repeat (first | apply Kd.R_alloc | apply Kd.R_drewN | apply Kd.R_drew)); exact HO_430001.out) (Kd.R_base ho0) hb); have n1_ := Aside0.mk (Kd.R_elder' (by (with_reducible repeat (first | apply Kd.R_alloc | apply Kd.R_drewN | apply Kd.R_drew)); exact HO_430002.out) (Kd.R_base ho1) hb); have n2_ := Aside0.mk (Kd.R_elder' (by (with_reducible repeat (first | apply Kd.R_alloc | apply Kd.R_drewN | apply Kd.R_drew)); exact HO_442001.out) (Kd.R_base ho0) hb); have n3_ := Aside0.mk (Kd.R_elder' (by (with_reducible repeat (first | apply Kd.R_alloc | apply Kd.R_drewN | apply Kd.R_drew)); exact HO_442002.out) (Kd.R_base ho1) hb); have n4_ := Aside0.mk (Kd.R_below (by (with_reducible repeat (first | apply Kd.R_alloc | apply Kd.R_drewN | apply Kd.R_drew)); exact HO456.out) hb); have n5_ := Aside0.mk (Kd.R_lower (Kd.R_new' (Kd.R_new' ho0 (Kd.R_lt (by (with_reducible repeat (first | apply Kd.R_alloc | apply Kd.R_drewN | apply Kd.R_drew)); exact HO_430001.out))) (Kd.R_lt (by (with_reducible repeat (first | apply Kd.R_alloc | apply Kd.R_drewN | apply Kd.R_drew)); exact HO_442001.out))) (below_size (by repeat (first | (with_reducible first | exact HB.out | apply below_alloc | apply pw_below_drewN | apply below_drew1 | refine below_set ?_ GE429.out | refine below_set ?_ GE441.out) | exact HB.out)))); have n6_ := Aside0.mk (Kd.R_lower (Kd.R_new' (Kd.R_new' ho1 (Kd.R_lt (by (with_reducible repeat (first | apply Kd.R_alloc | apply Kd.R_drewN | apply Kd.R_drew)); exact HO_430002.out))) (Kd.R_lt (by (with_reducible repeat (first | apply Kd.R_alloc | apply Kd.R_drewN | apply Kd.R_drew)); exact HO_442002.out))) (below_size (by repeat (first | (with_reducible first | exact HB.out | apply below_alloc | apply pw_below_drewN | apply below_drew1 | refine below_set ?_ GE429.out | refine below_set ?_ GE441.out) | exact HB.out)))); have n7_ := Aside0.mk (blk_below (g := gb429) (o := .cells #[.int .i64 t421, .slice Ao13 t422.length co13, .slice Ao14 t425.length co14] 42 (0, 0)) (by (with_reducible repeat (first | refine blk_drewN ?_ _ | refine blk_drew ?_ | refine blk_alloc ?_ _)); exact BK429.out) hb); have n8_ := Aside0.mk (blk_below (g := gb441) (o := .cells #[.int .i64 t433, .slice Ao21 t434.length co21, .slice Ao22 t437.length co22] 42 (0, 0)) (by (with_reducible repeat (first | refine blk_drewN ?_ _ | refine blk_drew ?_ | refine blk_alloc ?_ _)); exact BK441.out) hb); have n9_ := Aside0.mk (below_step (by repeat (first | (with_reducible first | exact HB.out | apply below_alloc | apply pw_below_drewN | apply below_drew1 | refine below_set ?_ GE429.out | refine below_set ?_ GE441.out) | exact HB.out)) hb); clear HO_430001; clear HO_430002; clear HO_442001; clear HO_442002; clear HO456; clear BK429; clear BK441; clear HB; have HO_430001 := n0_; have HO_430002 := n1_; have HO_442001 := n2_; have HO_442002 := n3_; have HO456 := n4_; have HO460 := n5_; have HO463 := n6_; have BK429 := n7_; have BK441 := n8_; have HB := n9_; clear n0_ n1_ n2_ n3_ n4_ n5_ n6_ n7_ n8_ n9_; (try clear hb); (try clear hb2); (try clear hk); (try clear hi); (try clear ho0); (try clear ho1)) | ((with_reducible refine gate_dst (N := 11) rfl ?_); refine box_event ?hg (N := 11) ?hd (cs := #[.int .i64 0, .slice none 0 0, .slice none 0 0]) (t := 42) ?hr ?_; (case hd => rfl); (case hg => rfl); (case hr => first | (go_simp; done) | (go_simp; rfl)); intro gb465 hg w61 hbox hb; have n0_ := Aside0.mk (Kd.R_below (by (with_reducible repeat (first | apply Kd.R_alloc | apply Kd.R_drewN | apply Kd.R_drew)); exact HO_430001.out) hb); have n1_ := Aside0.mk (Kd.R_below (by (with_reducible repeat (first | apply Kd.R_alloc | apply Kd.R_drewN | apply Kd.R_drew)); exact HO_430002.out) hb); have n2_ := Aside0.mk (Kd.R_below (by (with_reducible repeat (first | apply Kd.R_alloc | apply Kd.R_drewN | apply Kd.R_drew)); exact HO_442001.out) hb); have n3_ := Aside0.mk (Kd.R_below (by (with_reducible repeat (first | apply Kd.R_alloc | apply Kd.R_drewN | apply Kd.R_drew)); exact HO_442002.out) hb); have n4_ := Aside0.mk (Kd.R_below (by (with_reducible repeat (first | apply Kd.R_alloc | apply Kd.R_drewN | apply Kd.R_drew)); exact HO456.out) hb); have n5_ := Aside0.mk (Kd.R_below (by (with_reducible repeat (first | apply Kd.R_alloc | apply Kd.R_drewN | apply Kd.R_drew)); exact HO460.out) hb); have n6_ := Aside0.mk (Kd.R_below (by (with_reducible repeat (first | apply Kd.R_alloc | apply Kd.R_drewN | apply Kd.R_drew)); exact HO463.out) hb); have n7_ := Aside0.mk (blk_below (g := gb429) (o := .cells #[.int .i64 t421, .slice Ao13 t422.length co13, .slice Ao14 t425.length co14] 42 (0, 0)) (by (with_reducible repeat (first | refine blk_drewN ?_ _ | refine blk_drew ?_ | refine blk_alloc ?_ _)); exact BK429.out) hb); have n8_ := Aside0.mk (blk_below (g := gb441) (o := .cells #[.int .i64 t433, .slice Ao21 t434.length co21, .slice Ao22 t437.length co22] 42 (0, 0)) (by (with_reducible repeat (first | refine blk_drewN ?_ _ | refine blk_drew ?_ | refine blk_alloc ?_ _)); exact BK441.out) hb); have n9_ := Aside0.mk (below_step (by repeat (first | (with_reducible first | exact HB.out | apply below_alloc | apply pw_below_drewN | apply below_drew1 | refine below_set ?_ GE429.out | refine below_set ?_ GE441.out) | exact HB.out)) hb); have n10_ := Aside0.mk (hbox); have n11_ := Aside0.mk ((by rw [hg]; exact (below_size (by repeat (first | (with_reducible first | exact HB.out | apply below_alloc | apply pw_below_drewN | apply below_drew1 | refine below_set ?_ GE429.out | refine below_set ?_ GE441.out) | exact HB.out))) : w.heap.size ≤ gb465)); have n12_ := Aside0.mk ((by rw [hg]; exact (below_size (by repeat (first | (with_reducible first | exact HB.out | apply below_alloc | apply pw_below_drewN | apply below_drew1 | refine below_set ?_ GE429.out | refine below_set ?_ GE441.out) | exact HB.out))) : w.heap.size ≤ gb465)); have n13_ := Aside0.mk ((by rw [hg]; exact Nat.ne_of_lt (blk_lt (g := gb429) (o := .cells #[.int .i64 t421, .slice Ao13 t422.length co13, .slice Ao14 t425.length co14] 42 (0, 0)) (by (with_reducible repeat (first | refine blk_drewN ?_ _ | refine blk_drew ?_ | refine blk_alloc ?_ _)); exact BK429.out)) : gb429 ≠ gb465)); have n14_ := Aside0.mk ((by rw [hg]; exact Nat.ne_of_gt (blk_lt (g := gb429) (o := .cells #[.int .i64 t421, .slice Ao13 t422.length co13, .slice Ao14 t425.length co14] 42 (0, 0)) (by (with_reducible repeat (first | refine blk_drewN ?_ _ | refine blk_drew ?_ | refine blk_alloc ?_ _)); exact BK429.out)) : gb465 ≠ gb429)); have n15_ := Aside0.mk ((by rw [hg]; exact Nat.ne_of_lt (blk_lt (g := gb441) (o := .cells #[.int .i64 t433, .slice Ao21 t434.length co21, .slice Ao22 t437.length co22] 42 (0, 0)) (by (with_reducible repeat (first | refine blk_drewN ?_ _ | refine blk_drew ?_ | refine blk_alloc ?_ _)); exact BK441.out)) : gb441 ≠ gb465)); have n16_ := Aside0.mk ((by rw [hg]; exact Nat.ne_of_gt (blk_lt (g := gb441) (o := .cells #[.int .i64 t433, .slice Ao21 t434.length co21, .slice Ao22 t437.length co22] 42 (0, 0)) (by (with_reducible repeat (first | refine blk_drewN ?_ _ | refine blk_drew ?_ | refine blk_alloc ?_ _)); exact BK441.out)) : gb465 ≠ gb441)); clear HO_430001; clear HO_430002; clear HO_442001; clear HO_442002; clear HO456; clear HO460; clear HO463; clear BK429; clear BK441; clear HB; have HO_430001 := n0_; have HO_430002 := n1_; have HO_442001 := n2_; have HO_442002 := n3_; have HO456 := n4_; have HO460 := n5_; have HO463 := n6_; have BK429 := n7_; have BK441 := n8_; have HB := n9_; have BK465 := n10_; have GW465 := n11_; have GE465 := n12_; have NB429_465 := n13_; have NB465_429 := n14_; have NB441_465 := n15_; have NB465_441 := n16_; clear n0_ n1_ n2_ n3_ n4_ n5_ n6_ n7_ n8_ n9_ n10_ n11_ n12_ n13_ n14_ n15_ n16_; clear hb hbox hg; have hnb62 := NB465_429.out; have hnc62 := NB429_465.out; have hnb63 := NB465_441.out; have hnc63 := NB441_465.out; have hcz64_0 : w61.cell? ⟨gb465, 0, none⟩ = some (.int .i64 0) := (blk_cell BK465.out 0).trans rfl; have hcz64_1 : w61.cell? ⟨gb465, 1, none⟩ = some (.slice none 0 0) := (blk_cell BK465.out 1).trans rfl; have hcz64_2 : w61.cell? ⟨gb465, 2, none⟩ = some (.slice none 0 0) := (blk_cell BK465.out 2).trans rfl; have hfz64_0 := blk_frozen BK465.out 0; have hfz64_1 := blk_frozen BK465.out 1; have hfz64_2 := blk_frozen BK465.out 2; obtain ⟨Ao65, co65, eo65⟩ := Kd.R_slice HO460.out; subst eo65; obtain ⟨Ao66, co66, eo66⟩ := Kd.R_slice HO463.out; subst eo66))
                      (try simp only [Act.put, List.setIfInBounds_toArray, List.set_cons_zero, List.set_cons_succ])
                      go_cut [84] (fun v84 wc => ∃ (kq : Nat) (x84_51 : Bool), v84 = .bool x84_51 ∧ Aside0 (laws_FnExactDecode.j2 kq t450 x84_51 t433 t451 t452 = some r) ∧ Aside0 (kq ≤ kj33) ∧ Aside0 (Kd.R (Kd.int .u64) 23 wc w.heap.size (fun k_ => some k_ ≠ ((.slice Ao21 t434.length co21) : Value).ownBlock ∧ some k_ ≠ ((.slice Ao65 t458.length co65) : Value).ownBlock) (.slice Ao13 t422.length co13) t422) ∧ Aside0 (Kd.R Kd.string 9 wc w.heap.size (fun k_ => some k_ ≠ ((.slice Ao22 t437.length co22) : Value).ownBlock ∧ some k_ ≠ ((.slice Ao66 t461.length co66) : Value).ownBlock) (.slice Ao14 t425.length co14) t425) ∧ Aside0 (Kd.R (Kd.int .u64) 23 wc w.heap.size (fun k_ => some k_ ≠ ((.slice Ao13 t422.length co13) : Value).ownBlock ∧ some k_ ≠ ((.slice Ao65 t458.length co65) : Value).ownBlock) (.slice Ao21 t434.length co21) t451) ∧ Aside0 (Kd.R Kd.string 9 wc w.heap.size (fun k_ => some k_ ≠ ((.slice Ao14 t425.length co14) : Value).ownBlock ∧ some k_ ≠ ((.slice Ao66 t461.length co66) : Value).ownBlock) (.slice Ao22 t437.length co22) t452) ∧ Aside0 (Kd.R (Kd.int .u64) 23 wc w.heap.size (fun k_ => some k_ ≠ ((.slice Ao13 t422.length co13) : Value).ownBlock ∧ some k_ ≠ ((.slice Ao21 t434.length co21) : Value).ownBlock) (.slice Ao65 t458.length co65) t458) ∧ Aside0 (Kd.R Kd.string 9 wc w.heap.size (fun k_ => some k_ ≠ ((.slice Ao14 t425.length co14) : Value).ownBlock ∧ some k_ ≠ ((.slice Ao22 t437.length co22) : Value).ownBlock) (.slice Ao66 t461.length co66) t461) ∧ Aside0 (wc.heap[gb429]? = some (.cells #[.int .i64 t421, (.slice Ao13 t422.length co13), (.slice Ao14 t425.length co14)] 42 (0, 0))) ∧ Aside0 (wc.heap[gb441]? = some (.cells #[.int .i64 t433, (.slice Ao21 t434.length co21), (.slice Ao22 t437.length co22)] 42 (0, 0))) ∧ Aside0 (wc.heap[gb465]? = some (.cells #[.int .i64 t457, (.slice Ao65 t458.length co65), (.slice Ao66 t461.length co66)] 42 (0, 0))) ∧ Aside0 (Below w.heap.size w wc))
                      case first =>
                        have H := HC52.out
                        clear HC52
                        replace H := Option.bind_eq_some_iff.mp H
                        obtain ⟨t466, A670, H⟩ := H
                        replace H : (if t466 = true then (laws_FnExactDecode.j2 kj33 t450 (t464 != t428) t433 t451 t452) else (none)) = some r := H
                        have A67 := Aside0.mk A670
                        clear A670
                        by_cases c68 : t466 = true
                        · subst c68
                          have H1 : (laws_FnExactDecode.j2 kj33 t450 (t464 != t428) t433 t451 t452) = some r := by rw [if_pos rfl] at H; exact H
                          clear H
                          have H := H1
                          clear H1
                          have H' := Aside0.mk H
                          clear H
                          have hnb69 := NB465_429.out
                          have hnc69 := NB429_465.out
                          have hnb70 := NB465_441.out
                          have hnc70 := NB441_465.out
                          have hcz71_0 : w61.cell? ⟨gb465, 0, none⟩ = some (.int .i64 0) := (blk_cell BK465.out 0).trans rfl
                          have hcz71_1 : w61.cell? ⟨gb465, 1, none⟩ = some (.slice none 0 0) := (blk_cell BK465.out 1).trans rfl
                          have hcz71_2 : w61.cell? ⟨gb465, 2, none⟩ = some (.slice none 0 0) := (blk_cell BK465.out 2).trans rfl
                          have hfz71_0 := blk_frozen BK465.out 0
                          have hfz71_1 := blk_frozen BK465.out 1
                          have hfz71_2 := blk_frozen BK465.out 2
                          have hnb72 := NB429_441.out
                          have hnc72 := NB441_429.out
                          have hcz73_0 : w61.cell? ⟨gb429, 0, none⟩ = some (.int .i64 t421) := (blk_cell BK429.out 0).trans rfl
                          have hcz73_1 : w61.cell? ⟨gb429, 1, none⟩ = some (.slice Ao13 t422.length co13) := (blk_cell BK429.out 1).trans rfl
                          have hcz73_2 : w61.cell? ⟨gb429, 2, none⟩ = some (.slice Ao14 t425.length co14) := (blk_cell BK429.out 2).trans rfl
                          have hfz73_0 := blk_frozen BK429.out 0
                          have hfz73_1 := blk_frozen BK429.out 1
                          have hfz73_2 := blk_frozen BK429.out 2
                          go_wp2_with (first | ((with_reducible refine gate_callee (f := 28) rfl ?_); refine goesL_ (some 78) rfl rfl Try.func28 (by kernel_rfl) rfl #[.agg #[.int .i64 t457, .slice Ao65 t458.length co65, .slice Ao66 t461.length co66], .agg #[.int .i64 t421, .slice Ao13 t422.length co13, .slice Ao14 t425.length co14]] rfl (by (try simp only [List.map_toArray, List.map_cons, List.map_nil]); first | done | rfl | (simp only [List.length_drop, List.length_take]; rfl)) ?_; (with_reducible refine (laws_eqRecord.calls kj33 t457 _ _ t458 _ _ t461 t421 _ _ t422 _ _ t425 true _ ?side1 ?side2 ?side3 ?side4 ?side5 ?side6 ?side7 ?side8 A67.out).mono ?_); (case side1 => refine (Kd.R_reads' (e := 23) (base := w.heap.size) (ok := fun k_ => ((True ∧ some k_ ≠ (.slice Ao13 t422.length co13 : Value).ownBlock) ∧ some k_ ≠ (.slice Ao21 t434.length co21 : Value).ownBlock)) (n := t458.length) (c := co65) ?_).2.2; exact (by (with_reducible repeat (first | apply Kd.R_alloc | apply Kd.R_drewN | apply Kd.R_drew)); exact (Kd.R_mono (Kd.R_far (p := ⟨gb465, 2, none⟩) (Kd.R_far (p := ⟨gb465, 1, none⟩) (Kd.R_far (p := ⟨gb465, 0, none⟩) (Kd.R_types HO460.out BK465.out (by decide)) (fun _ hk => hk.2) (.int .i64 t457)) (fun _ hk => hk.2) (.slice Ao65 t458.length co65)) (fun _ hk => hk.2) (.slice Ao66 t461.length co66)) (fun _ h_ => h_.1)))); (case side2 => exact (Kd.R_reads' HO460.out).2.1); (case side3 => refine (Kd.R_reads' (e := 9) (base := w.heap.size) (ok := fun k_ => ((True ∧ some k_ ≠ (.slice Ao14 t425.length co14 : Value).ownBlock) ∧ some k_ ≠ (.slice Ao22 t437.length co22 : Value).ownBlock)) (n := t461.length) (c := co66) ?_).2.2; exact (by (with_reducible repeat (first | apply Kd.R_alloc | apply Kd.R_drewN | apply Kd.R_drew)); exact (Kd.R_mono (Kd.R_far (p := ⟨gb465, 2, none⟩) (Kd.R_far (p := ⟨gb465, 1, none⟩) (Kd.R_far (p := ⟨gb465, 0, none⟩) (Kd.R_types HO463.out BK465.out (by decide)) (fun _ hk => hk.2) (.int .i64 t457)) (fun _ hk => hk.2) (.slice Ao65 t458.length co65)) (fun _ hk => hk.2) (.slice Ao66 t461.length co66)) (fun _ h_ => h_.1)))); (case side4 => exact (Kd.R_reads' HO463.out).2.1); (case side5 => refine (Kd.R_reads' (e := 23) (base := w.heap.size) (ok := fun k_ => (some k_ ≠ (.slice Ao21 t434.length co21 : Value).ownBlock ∧ some k_ ≠ (.slice Ao65 t458.length co65 : Value).ownBlock)) (n := t422.length) (c := co13) ?_).2.2; exact (by (with_reducible repeat (first | apply Kd.R_alloc | apply Kd.R_drewN | apply Kd.R_drew)); exact (Kd.R_mono (Kd.R_far (p := ⟨gb465, 2, none⟩) (Kd.R_far (p := ⟨gb465, 1, none⟩) (Kd.R_far (p := ⟨gb465, 0, none⟩) (Kd.R_types HO_430001.out BK465.out (by decide)) (fun _ hk => hk.2) (.int .i64 t457)) (fun _ hk => hk.2) (.slice Ao65 t458.length co65)) (fun _ hk => hk.2) (.slice Ao66 t461.length co66)) (fun _ h_ => h_.1)))); (case side6 => exact (Kd.R_reads' HO_430001.out).2.1); (case side7 => refine (Kd.R_reads' (e := 9) (base := w.heap.size) (ok := fun k_ => (some k_ ≠ (.slice Ao22 t437.length co22 : Value).ownBlock ∧ some k_ ≠ (.slice Ao66 t461.length co66 : Value).ownBlock)) (n := t425.length) (c := co14) ?_).2.2; exact (by (with_reducible repeat (first | apply Kd.R_alloc | apply Kd.R_drewN | apply Kd.R_drew)); exact (Kd.R_mono (Kd.R_far (p := ⟨gb465, 2, none⟩) (Kd.R_far (p := ⟨gb465, 1, none⟩) (Kd.R_far (p := ⟨gb465, 0, none⟩) (Kd.R_types HO_430002.out BK465.out (by decide)) (fun _ hk => hk.2) (.int .i64 t457)) (fun _ hk => hk.2) (.slice Ao65 t458.length co65)) (fun _ hk => hk.2) (.slice Ao66 t461.length co66)) (fun _ h_ => h_.1)))); (case side8 => exact (Kd.R_reads' HO_430002.out).2.1); rintro e w74 ⟨rfl, hb⟩; refine ⟨_, rfl, ?_⟩; have n0_ := Aside0.mk (Kd.R_below (by (with_reducible repeat (first | apply Kd.R_alloc | apply Kd.R_drewN | apply Kd.R_drew)); exact (Kd.R_mono (Kd.R_far (p := ⟨gb465, 2, none⟩) (Kd.R_far (p := ⟨gb465, 1, none⟩) (Kd.R_far (p := ⟨gb465, 0, none⟩) (Kd.R_types HO_430001.out BK465.out (by decide)) (fun _ hk => hk.2) (.int .i64 t457)) (fun _ hk => hk.2) (.slice Ao65 t458.length co65)) (fun _ hk => hk.2) (.slice Ao66 t461.length co66)) (fun _ h_ => h_.1))) hb); have n1_ := Aside0.mk (Kd.R_below (by (with_reducible repeat (first | apply Kd.R_alloc | apply Kd.R_drewN | apply Kd.R_drew)); exact (Kd.R_mono (Kd.R_far (p := ⟨gb465, 2, none⟩) (Kd.R_far (p := ⟨gb465, 1, none⟩) (Kd.R_far (p := ⟨gb465, 0, none⟩) (Kd.R_types HO_430002.out BK465.out (by decide)) (fun _ hk => hk.2) (.int .i64 t457)) (fun _ hk => hk.2) (.slice Ao65 t458.length co65)) (fun _ hk => hk.2) (.slice Ao66 t461.length co66)) (fun _ h_ => h_.1))) hb); have n2_ := Aside0.mk (Kd.R_below (by (with_reducible repeat (first | apply Kd.R_alloc | apply Kd.R_drewN | apply Kd.R_drew)); exact (Kd.R_mono (Kd.R_far (p := ⟨gb465, 2, none⟩) (Kd.R_far (p := ⟨gb465, 1, none⟩) (Kd.R_far (p := ⟨gb465, 0, none⟩) (Kd.R_types HO_442001.out BK465.out (by decide)) (fun _ hk => hk.2) (.int .i64 t457)) (fun _ hk => hk.2) (.slice Ao65 t458.length co65)) (fun _ hk => hk.2) (.slice Ao66 t461.length co66)) (fun _ h_ => h_.1))) hb); have n3_ := Aside0.mk (Kd.R_below (by (with_reducible repeat (first | apply Kd.R_alloc | apply Kd.R_drewN | apply Kd.R_drew)); exact (Kd.R_mono (Kd.R_far (p := ⟨gb465, 2, none⟩) (Kd.R_far (p := ⟨gb465, 1, none⟩) (Kd.R_far (p := ⟨gb465, 0, none⟩) (Kd.R_types HO_442002.out BK465.out (by decide)) (fun _ hk => hk.2) (.int .i64 t457)) (fun _ hk => hk.2) (.slice Ao65 t458.length co65)) (fun _ hk => hk.2) (.slice Ao66 t461.length co66)) (fun _ h_ => h_.1))) hb); have n4_ := Aside0.mk (Kd.R_below (by (with_reducible repeat (first | apply Kd.R_alloc | apply Kd.R_drewN | apply Kd.R_drew)); exact (Kd.R_mono (Kd.R_far (p := ⟨gb465, 2, none⟩) (Kd.R_far (p := ⟨gb465, 1, none⟩) (Kd.R_far (p := ⟨gb465, 0, none⟩) (Kd.R_types HO456.out BK465.out (by decide)) (fun _ hk => hk.2) (.int .i64 t457)) (fun _ hk => hk.2) (.slice Ao65 t458.length co65)) (fun _ hk => hk.2) (.slice Ao66 t461.length co66)) (fun _ h_ => h_.1))) hb); have n5_ := Aside0.mk (Kd.R_below (by (with_reducible repeat (first | apply Kd.R_alloc | apply Kd.R_drewN | apply Kd.R_drew)); exact (Kd.R_mono (Kd.R_far (p := ⟨gb465, 2, none⟩) (Kd.R_far (p := ⟨gb465, 1, none⟩) (Kd.R_far (p := ⟨gb465, 0, none⟩) (Kd.R_types HO460.out BK465.out (by decide)) (fun _ hk => hk.2) (.int .i64 t457)) (fun _ hk => hk.2) (.slice Ao65 t458.length co65)) (fun _ hk => hk.2) (.slice Ao66 t461.length co66)) (fun _ h_ => h_.1))) hb); have n6_ := Aside0.mk (Kd.R_below (by (with_reducible repeat (first | apply Kd.R_alloc | apply Kd.R_drewN | apply Kd.R_drew)); exact (Kd.R_mono (Kd.R_far (p := ⟨gb465, 2, none⟩) (Kd.R_far (p := ⟨gb465, 1, none⟩) (Kd.R_far (p := ⟨gb465, 0, none⟩) (Kd.R_types HO463.out BK465.out (by decide)) (fun _ hk => hk.2) (.int .i64 t457)) (fun _ hk => hk.2) (.slice Ao65 t458.length co65)) (fun _ hk => hk.2) (.slice Ao66 t461.length co66)) (fun _ h_ => h_.1))) hb); have n7_ := Aside0.mk (blk_below (g := gb429) (o := .cells #[.int .i64 t421, .slice Ao13 t422.length co13, .slice Ao14 t425.length co14] 42 (0, 0)) (by (with_reducible repeat (first | refine blk_drewN ?_ _ | refine blk_drew ?_ | refine blk_alloc ?_ _)); refine blk_far ?_ NB429_465.out _; (with_reducible repeat (first | refine blk_drewN ?_ _ | refine blk_drew ?_ | refine blk_alloc ?_ _)); refine blk_far ?_ NB429_465.out _; (with_reducible repeat (first | refine blk_drewN ?_ _ | refine blk_drew ?_ | refine blk_alloc ?_ _)); refine blk_far ?_ NB429_465.out _; (with_reducible repeat (first | refine blk_drewN ?_ _ | refine blk_drew ?_ | refine blk_alloc ?_ _)); exact BK429.out) hb); have n8_ := Aside0.mk (blk_below (g := gb441) (o := .cells #[.int .i64 t433, .slice Ao21 t434.length co21, .slice Ao22 t437.length co22] 42 (0, 0)) (by (with_reducible repeat (first | refine blk_drewN ?_ _ | refine blk_drew ?_ | refine blk_alloc ?_ _)); refine blk_far ?_ NB441_465.out _; (with_reducible repeat (first | refine blk_drewN ?_ _ | refine blk_drew ?_ | refine blk_alloc ?_ _)); refine blk_far ?_ NB441_465.out _; (with_reducible repeat (first | refine blk_drewN ?_ _ | refine blk_drew ?_ | refine blk_alloc ?_ _)); refine blk_far ?_ NB441_465.out _; (with_reducible repeat (first | refine blk_drewN ?_ _ | refine blk_drew ?_ | refine blk_alloc ?_ _)); exact BK441.out) hb); have n9_ := Aside0.mk (blk_below (g := gb465) (o := .cells #[.int .i64 t457, .slice Ao65 t458.length co65, .slice Ao66 t461.length co66] 42 (0, 0)) (by (with_reducible repeat (first | refine blk_drewN ?_ _ | refine blk_drew ?_ | refine blk_alloc ?_ _)); refine blk_put (cs := #[.int .i64 t457, .slice Ao65 t458.length co65, .slice none 0 0]) ?_ 2 _ rfl; (with_reducible repeat (first | refine blk_drewN ?_ _ | refine blk_drew ?_ | refine blk_alloc ?_ _)); refine blk_put (cs := #[.int .i64 t457, .slice none 0 0, .slice none 0 0]) ?_ 1 _ rfl; (with_reducible repeat (first | refine blk_drewN ?_ _ | refine blk_drew ?_ | refine blk_alloc ?_ _)); refine blk_put (cs := #[.int .i64 0, .slice none 0 0, .slice none 0 0]) ?_ 0 _ rfl; (with_reducible repeat (first | refine blk_drewN ?_ _ | refine blk_drew ?_ | refine blk_alloc ?_ _)); exact BK465.out) hb); have n10_ := Aside0.mk (below_step (by repeat (first | (with_reducible first | exact HB.out | apply below_alloc | apply pw_below_drewN | apply below_drew1 | refine below_set ?_ GE429.out | refine below_set ?_ GE441.out | refine below_set ?_ GE465.out) | exact HB.out)) hb); clear HO_430001; clear HO_430002; clear HO_442001; clear HO_442002; clear HO456; clear HO460; clear HO463; clear BK429; clear BK441; clear BK465; clear HB; have HO_430001 := n0_; have HO_430002 := n1_; have HO_442001 := n2_; have HO_442002 := n3_; have HO456 := n4_; have HO460 := n5_; have HO463 := n6_; have BK429 := n7_; have BK441 := n8_; have BK465 := n9_; have HB := n10_; clear n0_ n1_ n2_ n3_ n4_ n5_ n6_ n7_ n8_ n9_ n10_; (try clear hb); (try clear hb2); (try clear hk); (try clear hi)))
                          go_meet
                          case rel => exact ⟨_, ((t464 != t428)), (by first | rfl | (simp; done) | (simp [*]; done)), H', ⟨by have := HJ6.out; have := HJ33.out; first | omega | exact Nat.le_refl _⟩, ⟨by (with_reducible repeat (first | apply Kd.R_alloc | apply Kd.R_drewN | apply Kd.R_drew)); exact HO_430001.out⟩, ⟨by (with_reducible repeat (first | apply Kd.R_alloc | apply Kd.R_drewN | apply Kd.R_drew)); exact HO_430002.out⟩, ⟨by (with_reducible repeat (first | apply Kd.R_alloc | apply Kd.R_drewN | apply Kd.R_drew)); exact HO_442001.out⟩, ⟨by (with_reducible repeat (first | apply Kd.R_alloc | apply Kd.R_drewN | apply Kd.R_drew)); exact HO_442002.out⟩, ⟨by (with_reducible repeat (first | apply Kd.R_alloc | apply Kd.R_drewN | apply Kd.R_drew)); exact Kd.R_mono HO460.out (fun _ hk => ⟨hk.1.2, hk.2⟩)⟩, ⟨by (with_reducible repeat (first | apply Kd.R_alloc | apply Kd.R_drewN | apply Kd.R_drew)); exact Kd.R_mono HO463.out (fun _ hk => ⟨hk.1.2, hk.2⟩)⟩, ⟨by (with_reducible repeat (first | refine blk_drewN ?_ _ | refine blk_drew ?_ | refine blk_alloc ?_ _)); exact BK429.out⟩, ⟨by (with_reducible repeat (first | refine blk_drewN ?_ _ | refine blk_drew ?_ | refine blk_alloc ?_ _)); exact BK441.out⟩, ⟨by (with_reducible repeat (first | refine blk_drewN ?_ _ | refine blk_drew ?_ | refine blk_alloc ?_ _)); exact BK465.out⟩, ⟨by repeat (first | (with_reducible first | exact HB.out | apply below_alloc | apply pw_below_drewN | apply below_drew1 | refine below_set ?_ GE429.out | refine below_set ?_ GE441.out | refine below_set ?_ GE465.out) | exact HB.out)⟩⟩
                        · replace c68 := Bool.eq_false_iff.mpr c68
                          subst c68
                          have H1 : (none) = some r := by rw [if_neg (show ¬ (false = true) by decide)] at H; exact H
                          clear H
                          have H := H1
                          clear H1
                          exact absurd H (by simp)
                      case rest =>
                        clear HC52
                        try clear c1
                        try clear c2
                        try clear c2b0
                        try clear c2b1
                        try clear p2
                        try clear c3
                        try clear c4
                        try clear c5
                        try clear c6
                        try clear c7
                        try clear c9
                        try clear c15
                        try clear c16
                        try clear c19
                        try clear c24
                        try clear c25
                        try clear c28
                        try clear c29
                        try clear c31
                        try clear c32
                        try clear c33
                        try clear c34
                        try clear c38
                        try clear c38b0
                        try clear c40
                        try clear c41
                        try clear c45
                        try clear c48
                        try clear c48b0
                        try clear c49
                        try clear c49b0
                        try clear c49b1
                        try clear c53
                        try clear c62
                        try clear c63
                        try clear c68
                        try clear c69
                        try clear c70
                        try clear c72
                        try clear hcz12_0
                        try clear hcz12_1
                        try clear hcz12_2
                        try clear hcz20_0
                        try clear hcz20_1
                        try clear hcz20_2
                        try clear hcz26_0
                        try clear hcz26_1
                        try clear hcz26_2
                        try clear hcz27_0
                        try clear hcz27_1
                        try clear hcz27_2
                        try clear hcz42_0
                        try clear hcz42_1
                        try clear hcz42_2
                        try clear hcz43_0
                        try clear hcz43_1
                        try clear hcz43_2
                        try clear hcz54_0
                        try clear hcz54_1
                        try clear hcz54_2
                        try clear hcz56_0
                        try clear hcz56_1
                        try clear hcz56_2
                        try clear hcz64_0
                        try clear hcz64_1
                        try clear hcz64_2
                        try clear hcz71_0
                        try clear hcz71_1
                        try clear hcz71_2
                        try clear hcz73_0
                        try clear hcz73_1
                        try clear hcz73_2
                        try clear hfz12_0
                        try clear hfz12_1
                        try clear hfz12_2
                        try clear hfz20_0
                        try clear hfz20_1
                        try clear hfz20_2
                        try clear hfz26_0
                        try clear hfz26_1
                        try clear hfz26_2
                        try clear hfz27_0
                        try clear hfz27_1
                        try clear hfz27_2
                        try clear hfz42_0
                        try clear hfz42_1
                        try clear hfz42_2
                        try clear hfz43_0
                        try clear hfz43_1
                        try clear hfz43_2
                        try clear hfz54_0
                        try clear hfz54_1
                        try clear hfz54_2
                        try clear hfz56_0
                        try clear hfz56_1
                        try clear hfz56_2
                        try clear hfz64_0
                        try clear hfz64_1
                        try clear hfz64_2
                        try clear hfz71_0
                        try clear hfz71_1
                        try clear hfz71_2
                        try clear hfz73_0
                        try clear hfz73_1
                        try clear hfz73_2
                        try clear p2
                        obtain ⟨kq, x84_51, rfl, HA, HJ51, HO_430001, HO_430002, HO_442001, HO_442002, HO_466001, HO_466002, BK429, BK441, BK465, HB⟩ := hcut
                        have hl442001_51 := (Kd.R_reads' HO_442001.out).1
                        rw [hl442001_51] at HO_442001
                        (try simp only [hl442001_51])
                        (try simp only [hl442001_51] at BK429)
                        (try simp only [hl442001_51] at BK441)
                        (try simp only [hl442001_51] at BK465)
                        (try simp only [hl442001_51] at HO_430001)
                        (try simp only [hl442001_51] at HO_430002)
                        (try simp only [hl442001_51] at HO_442002)
                        (try simp only [hl442001_51] at HO_466001)
                        (try simp only [hl442001_51] at HO_466002)
                        have hl442002_51 := (Kd.R_reads' HO_442002.out).1
                        rw [hl442002_51] at HO_442002
                        (try simp only [hl442002_51])
                        (try simp only [hl442002_51] at BK429)
                        (try simp only [hl442002_51] at BK441)
                        (try simp only [hl442002_51] at BK465)
                        (try simp only [hl442002_51] at HO_430001)
                        (try simp only [hl442002_51] at HO_430002)
                        (try simp only [hl442002_51] at HO_442001)
                        (try simp only [hl442002_51] at HO_466001)
                        (try simp only [hl442002_51] at HO_466002)
                        cases kq with
                        | zero => exact absurd HA.out (by simp [laws_FnExactDecode.j2])
                        | succ kj51 =>
                          have H := HA.out
                          clear HA
                          simp only [laws_FnExactDecode.j2] at H
                          by_cases c75 : x84_51 = true
                          · subst c75
                            have H1 : (none) = some r := by rw [if_pos rfl] at H; exact H
                            clear H
                            have H := H1
                            clear H1
                            exact absurd H (by simp)
                          · replace c75 := Bool.eq_false_iff.mpr c75
                            subst c75
                            have H1 : ((laws_heldRecord.f kj51 t433 t451 t452 1).bind fun t467 => (if t467 < 0 then (none) else (if t467 = t450 then (some true) else (none)))) = some r := by rw [if_neg (show ¬ (false = true) by decide)] at H; exact H
                            clear H
                            have H := H1
                            clear H1
                            replace H := Option.bind_eq_some_iff.mp H
                            obtain ⟨t467, A760, H⟩ := H
                            replace H : (if t467 < 0 then (none) else (if t467 = t450 then (some true) else (none))) = some r := H
                            have A76 := Aside0.mk A760
                            clear A760
                            by_cases c77 : t467 < 0
                            · rw [if_pos c77] at H
                              exact absurd H (by simp)
                            · rw [if_neg c77] at H
                              have c77b0 : decide (t467 < 0) = false := decide_eq_false c77
                              clear c77
                              by_cases c78 : t467 = t450
                              · rw [if_pos c78] at H
                                have c78b0 : (t467 == t450) = true := beq_iff_eq.mpr c78
                                have c78b1 : (t467 != t450) = false := bne_eq_false_iff_eq.mpr c78
                                clear c78
                                obtain rfl := Option.some.inj H
                                have hnb79 := NB441_429.out
                                have hnc79 := NB429_441.out
                                have hnb80 := NB441_465.out
                                have hnc80 := NB465_441.out
                                have hcz81_0 : wc.cell? ⟨gb441, 0, none⟩ = some (.int .i64 t433) := (blk_cell BK441.out 0).trans rfl
                                have hcz81_1 : wc.cell? ⟨gb441, 1, none⟩ = some (.slice Ao21 t451.length co21) := (blk_cell BK441.out 1).trans rfl
                                have hcz81_2 : wc.cell? ⟨gb441, 2, none⟩ = some (.slice Ao22 t452.length co22) := (blk_cell BK441.out 2).trans rfl
                                have hfz81_0 := blk_frozen BK441.out 0
                                have hfz81_1 := blk_frozen BK441.out 1
                                have hfz81_2 := blk_frozen BK441.out 2
                                go_wp2_with (first | ((with_reducible refine gate_callee (f := 34) rfl ?_); refine goesL_ (some 87) rfl rfl Try.func34 (by kernel_rfl) rfl #[.agg #[.int .i64 t433, .slice Ao21 t451.length co21, .slice Ao22 t452.length co22], .int .i64 1] rfl (by (try simp only [List.map_toArray, List.map_cons, List.map_nil]); first | done | rfl | (simp only [List.length_drop, List.length_take]; rfl)) ?_; (with_reducible refine (laws_heldRecord.calls kj51 t433 _ _ t451 _ _ t452 1 t467 _ ?side1 ?side2 ?side3 ?side4 A76.out).mono ?_); (case side1 => repeat (first | exact (Kd.R_reads' HO_442001.out).2.2 | (with_reducible refine Kd.C_alloc ?_ _) | (with_reducible refine Kd.C_drewN ?_ _) | (with_reducible refine Kd.C_drew ?_))); (case side2 => exact (Kd.R_reads' HO_442001.out).2.1); (case side3 => repeat (first | exact (Kd.R_reads' HO_442002.out).2.2 | (with_reducible refine Kd.C_alloc ?_ _) | (with_reducible refine Kd.C_drewN ?_ _) | (with_reducible refine Kd.C_drew ?_))); (case side4 => exact (Kd.R_reads' HO_442002.out).2.1); rintro e w82 ⟨rfl, hb⟩; refine ⟨_, rfl, ?_⟩; have n0_ := Aside0.mk (Kd.R_below (by (with_reducible repeat (first | apply Kd.R_alloc | apply Kd.R_drewN | apply Kd.R_drew)); exact HO_430001.out) hb); have n1_ := Aside0.mk (Kd.R_below (by (with_reducible repeat (first | apply Kd.R_alloc | apply Kd.R_drewN | apply Kd.R_drew)); exact HO_430002.out) hb); have n2_ := Aside0.mk (Kd.R_below (by (with_reducible repeat (first | apply Kd.R_alloc | apply Kd.R_drewN | apply Kd.R_drew)); exact HO_442001.out) hb); have n3_ := Aside0.mk (Kd.R_below (by (with_reducible repeat (first | apply Kd.R_alloc | apply Kd.R_drewN | apply Kd.R_drew)); exact HO_442002.out) hb); have n4_ := Aside0.mk (Kd.R_below (by (with_reducible repeat (first | apply Kd.R_alloc | apply Kd.R_drewN | apply Kd.R_drew)); exact HO_466001.out) hb); have n5_ := Aside0.mk (Kd.R_below (by (with_reducible repeat (first | apply Kd.R_alloc | apply Kd.R_drewN | apply Kd.R_drew)); exact HO_466002.out) hb); have n6_ := Aside0.mk (blk_below (g := gb429) (o := .cells #[.int .i64 t421, .slice Ao13 t422.length co13, .slice Ao14 t425.length co14] 42 (0, 0)) (by (with_reducible repeat (first | refine blk_drewN ?_ _ | refine blk_drew ?_ | refine blk_alloc ?_ _)); exact BK429.out) hb); have n7_ := Aside0.mk (blk_below (g := gb441) (o := .cells #[.int .i64 t433, .slice Ao21 t451.length co21, .slice Ao22 t452.length co22] 42 (0, 0)) (by (with_reducible repeat (first | refine blk_drewN ?_ _ | refine blk_drew ?_ | refine blk_alloc ?_ _)); exact BK441.out) hb); have n8_ := Aside0.mk (blk_below (g := gb465) (o := .cells #[.int .i64 t457, .slice Ao65 t458.length co65, .slice Ao66 t461.length co66] 42 (0, 0)) (by (with_reducible repeat (first | refine blk_drewN ?_ _ | refine blk_drew ?_ | refine blk_alloc ?_ _)); exact BK465.out) hb); have n9_ := Aside0.mk (below_step (by repeat (first | (with_reducible first | exact HB.out | apply below_alloc | apply pw_below_drewN | apply below_drew1 | refine below_set ?_ GE429.out | refine below_set ?_ GE441.out | refine below_set ?_ GE465.out) | exact HB.out)) hb); clear HO_430001; clear HO_430002; clear HO_442001; clear HO_442002; clear HO_466001; clear HO_466002; clear BK429; clear BK441; clear BK465; clear HB; have HO_430001 := n0_; have HO_430002 := n1_; have HO_442001 := n2_; have HO_442002 := n3_; have HO_466001 := n4_; have HO_466002 := n5_; have BK429 := n6_; have BK441 := n7_; have BK465 := n8_; have HB := n9_; clear n0_ n1_ n2_ n3_ n4_ n5_ n6_ n7_ n8_ n9_; (try clear hb); (try clear hb2); (try clear hk); (try clear hi)))
                                go_ret
                                exact ⟨by first | rfl | (simp [errW_none, errW_some] <;> rfl) | (simp [*, errW_none, errW_some] <;> rfl), by repeat (first | (with_reducible first | exact HB.out | apply below_alloc | apply pw_below_drewN | apply below_drew1 | refine below_set ?_ GE429.out | refine below_set ?_ GE441.out | refine below_set ?_ GE465.out) | exact HB.out)⟩
                              · rw [if_neg c78] at H
                                exact absurd H (by simp)
                    · rw [if_neg c49] at H
                      exact absurd H (by simp)
          · replace c32 := Bool.eq_false_iff.mpr c32
            subst c32
            have H1 : (none) = some r := by rw [if_neg (show ¬ (false = true) by decide)] at H; exact H
            clear H
            have H := H1
            clear H1
            exact absurd H (by simp)

/-- THE ONE PURE STATEMENT of laws_FnExactDecode: yours. -/
def laws_FnExactDecode.Pure : Prop := ∀ (l0 : List Int), l0.length ≤ maxLen → l0.length * 1 ≤ 140737488351232 → (∀ x ∈ l0, (Lit.int .u8 x).wf = true) → ∃ k, laws_FnExactDecode.f k l0 = some true
theorem laws_FnExactDecode.walk (P : laws_FnExactDecode.Pure) (a0 : Option Addr) (len0 cap0 : Nat) (z0 : List Int) (w : World) (w0 : (a0 = none ∧ len0 = 0 ∧ cap0 = 0 ∧ z0 = []) ∨ ∃ x, a0 = some x ∧ len0 ≤ cap0 ∧ cap0 ≤ maxLen ∧ z0.length = cap0 ∧ (∀ i, i < z0.length → w.cell? (x.add i) = some (.int .u8 (z0.getD i 0))) ∧ ∀ n ∈ z0, (Lit.int .u8 n).wf = true) (y0 : len0 * 1 ≤ 140737488351232) :
    Calls Try.prog 9 #[.slice a0 len0 cap0] w fun e w' => e = .returned (.bool true) ∧ Below w.heap.size w w' := by
  obtain ⟨l0, rfl, hr0, hm0, hw0, hc0⟩ := ReadsInt.ofRowC w0
  obtain ⟨k, h⟩ := P l0 hm0 y0 hw0
  refine (laws_FnExactDecode.calls k _ _ l0 true w (Kd.C_of_reads (d := (0 : Int)) (h1 := fun _ => rfl) hr0) hc0 h).mono ?_
  rintro e w' ⟨rfl, hd⟩
  exact ⟨rfl, hd⟩

end Go.Proofs.Ytgdebfaoohjikaa.F

namespace Go.Proofs.Ytgdebfaoohjikaa.PK
set_option linter.unusedVariables false
set_option linter.unusedSimpArgs false
open Go.RowKit Go.Proofs.YtgdebfaoohjikaaW.PrintWords
theorem EvS {α : Type} {g : Nat → Option α} {r : α} (h : Ev (fun k => g (k + 1)) r) : Ev g r := by
  obtain ⟨K, h⟩ := h
  refine ⟨K + 1, fun k hk => ?_⟩
  obtain ⟨m, rfl⟩ : ∃ m, k = m + 1 := ⟨k - 1, by omega⟩
  exact h m (by omega)
theorem EvP {α : Type} {g : Nat → Option α} {r : α} (h : Ev g r) : Ev (fun k => g (k + 1)) r := by
  obtain ⟨K, h⟩ := h
  exact ⟨K, fun k hk => h (k + 1) (by omega)⟩
theorem EvB {α β : Type} {g : Nat → Option α} {f : Nat → α → Option β} {a : α} {r : β} (h : Ev g a) : Ev (fun k => (g k).bind (f k)) r ↔ Ev (fun k => f k a) r := by
  obtain ⟨K, h⟩ := h
  constructor
  · rintro ⟨K', h'⟩
    refine ⟨max K K', fun k hk => ?_⟩
    have h2 : (g k).bind (f k) = some r := h' k (by omega)
    rw [h k (by omega)] at h2
    exact h2
  · rintro ⟨K', h'⟩
    refine ⟨max K K', fun k hk => ?_⟩
    show (g k).bind (f k) = some r
    rw [h k (by omega)]
    exact h' k (by omega)
theorem EvN {α : Type} {r : α} : Ev (fun _ => some r) r := ⟨0, fun _ _ => rfl⟩
theorem EvE {α : Type} {g : Nat → Option α} {r : α} (h : Ev g r) : ∃ k, g k = some r := h.rounds
/-- Two answers of one function are one. -/
theorem EvU {α : Type} {g : Nat → Option α} {r s : α} (h : Ev g r) (h' : Ev g s) : r = s := by
  obtain ⟨K, h⟩ := h
  obtain ⟨K', h'⟩ := h'
  have := (h (max K K') (by omega)).symm.trans (h' (max K K') (by omega))
  exact Option.some.inj this
theorem w64 {x : Int} (h : -9223372036854775808 ≤ x) (h' : x ≤ 9223372036854775807) : wrap64 x = x := by
  unfold wrap64
  omega
theorem wf64 {x : Int} (h : (Lit.int .i64 x).wf = true) : -9223372036854775808 ≤ x ∧ x ≤ 9223372036854775807 := by
  simp only [Lit.wf, Bool.and_eq_true, decide_eq_true_eq] at h
  have h1 : IntKind.i64.min = -9223372036854775808 := by decide
  have h2 : IntKind.i64.max = 9223372036854775807 := by decide
  omega
/-- From the end down. -/
theorem up {P : Int → Prop} (n : Nat) (base : P n) (step : ∀ i : Nat, i < n → P ((i + 1 : Nat) : Int) → P (i : Int)) : ∀ i : Nat, i ≤ n → P (i : Int) := by
  intro i hi
  obtain ⟨d, hd⟩ : ∃ d, d + i = n := ⟨n - i, by omega⟩
  induction d generalizing i with
  | zero => have : i = n := by omega
            subst this
            exact base
  | succ d ih => exact step i (by omega) (ih (i + 1) (by omega) (by omega))
theorem up0 {P : Int → Prop} (n : Nat) (base : P n) (step : ∀ i : Nat, i < n → P ((i + 1 : Nat) : Int) → P (i : Int)) : P 0 := up n base step 0 (Nat.zero_le _)
theorem getD_nat {α : Type} (l : List α) (z : α) (i : Nat) (h : i < l.length) : l.getD ((i : Int).toNat) z = l[i] := by
  simp [List.getD_eq_getElem?_getD, List.getElem?_eq_getElem h]
theorem drop_at {α : Type} (l : List α) (i : Nat) (h : i < l.length) : l.drop i = l[i] :: l.drop (i + 1) := List.drop_eq_getElem_cons h
/-- Marks put into the elements of a list, one behind the other, and found there. -/
theorem marks {α : Type} (L : Nat → List α → Int → Int → Option (Int × List α)) (H : Nat → List α → Int → Int → Option Int) (B : Int) (hB : 0 ≤ B) (n : Nat) (N : Int)
    (endL : ∀ l a, l.length = n → Ev (fun k => L k l a n) (a, l)) (endH : ∀ l a, l.length = n → Ev (fun k => H k l a n) a)
    (step : ∀ (i : Nat) (l : List α) (a : Int), i < n → l.length = n → 0 ≤ a → a + B ≤ N → ∃ (e : α) (a1 : Int), a ≤ a1 ∧ a1 ≤ a + B ∧
      (∀ r, Ev (fun k => L k (l.set i e) a1 ((i + 1 : Nat) : Int)) r → Ev (fun k => L k l a i) r) ∧
      (∀ (l' : List α) r, l'.length = n → l'[i]? = some e → Ev (fun k => H k l' a1 ((i + 1 : Nat) : Int)) r → Ev (fun k => H k l' a i) r)) :
    ∀ (i : Nat), i ≤ n → ∀ (l : List α) (a : Int), l.length = n → 0 ≤ a → a + (n - i) * B ≤ N →
      ∃ (a' : Int) (l' : List α), Ev (fun k => L k l a i) (a', l') ∧ a ≤ a' ∧ a' ≤ a + (n - i) * B ∧ l'.length = n ∧ (∀ j, j < i → l'[j]? = l[j]?) ∧ Ev (fun k => H k l' a i) a' := by
  intro i hi
  obtain ⟨d, hd⟩ : ∃ d, d + i = n := ⟨n - i, by omega⟩
  induction d generalizing i with
  | zero =>
    intro l a hl h0 hN
    have : i = n := by omega
    subst this
    exact ⟨a, l, endL l a hl, Int.le_refl _, by rw [Int.sub_self, Int.zero_mul]; omega, hl, fun _ _ => rfl, endH l a hl⟩
  | succ d ih =>
    intro l a hl h0 hN
    have hni : ((n : Int) - i) * B = B + ((n : Int) - ((i + 1 : Nat) : Int)) * B := by
      rw [show (n : Int) - i = 1 + ((n : Int) - ((i + 1 : Nat) : Int)) by omega, Int.add_mul, Int.one_mul]
    have hnn : 0 ≤ ((n : Int) - ((i + 1 : Nat) : Int)) * B := Int.mul_nonneg (by omega) hB
    obtain ⟨e, a1, h1, h2, hL, hH⟩ := step i l a (by omega) hl h0 (by omega)
    obtain ⟨a', l', hev, h3, h4, h5, h6, h7⟩ := ih (i + 1) (by omega) (by omega) (l.set i e) a1 (by simpa using hl) (by omega) (by omega)
    refine ⟨a', l', hL _ hev, by omega, by omega, h5, fun j hj => ?_, hH l' a' h5 ?_ h7⟩
    · rw [h6 j (by omega), List.getElem?_set_ne (by omega)]
    · rw [h6 i (by omega), List.getElem?_set_self (by omega)]
end Go.Proofs.Ytgdebfaoohjikaa.PK

namespace Go.Proofs.Ytgdebfaoohjikaa.BY
set_option linter.unusedVariables false
set_option linter.unusedSimpArgs false
open Go.RowKit Go.Proofs.Ytgdebfaoohjikaa.F Go.Proofs.Ytgdebfaoohjikaa.PK Go.Proofs.YtgdebfaoohjikaaW.PrintWords Go.Proofs.YtgdebfaoohjikaaW.PrintLast
theorem rd_at (l : List Int) (i : Nat) (h : i < l.length) : rd l (i : Int) = l[i] := getD_nat l _ i h
theorem nxt (i n : Nat) (h : i < n) (hn : n ≤ 9223372036854775807) : wrap64 ((i : Int) + 1) = ((i + 1 : Nat) : Int) := by rw [w64 (by omega) (by omega)]; omega
theorem toByteS (l : List Int) (hl : l.length ≤ 1048576) : Ev (fun k => laws_toByteS.f k l) l := by
  have key := up (P := fun i => ∀ x : List Int, x.length = l.length → (∀ j : Nat, (j : Int) < i → x[j]? = l[j]?) → Ev (fun k => laws_toByteS.l0 k l x i) l) l.length
      (fun x h0 h1 => by
        have : x = l := List.ext_getElem? fun j => by
          by_cases hj : j < l.length
          · exact h1 j (by omega)
          · rw [List.getElem?_eq_none (by omega), List.getElem?_eq_none (by omega)]
        subst this
        exact EvS (by simp only [laws_toByteS.l0, Int.lt_irrefl, if_false]; exact EvN))
      (fun i hi ih x h0 h1 => by
        refine EvS ?_
        simp only [laws_toByteS.l0, rd_at l i hi, Option.bind_some, h0, Int.toNat_natCast, if_pos (show (i : Int) < (l.length : Int) by omega), if_pos (show 0 ≤ (i : Int) by omega), nxt i _ hi (by omega)]
        refine ih _ (by simpa using h0) fun j hj => ?_
        by_cases hji : j = i
        · subst hji
          rw [List.getElem?_set_self (by omega)]
          simp [List.getElem?_eq_getElem hi]
        · rw [List.getElem?_set_ne (by omega)]
          exact h1 j (by omega))
  have := key 0 (Nat.zero_le _) (List.replicate l.length 0) (by simp) (fun j hj => absurd hj (by omega))
  unfold laws_toByteS.f
  simp only [Int.toNat_natCast, if_pos (show 0 ≤ (l.length : Int) by omega), if_pos (show l.length ≤ 281474976710656 by omega)]
  exact this
theorem eqByteS (x : List Int) (hx : x.length ≤ 9223372036854775807) : Ev (fun k => laws_eqByteS.f k x x) true := by
  have key := up (P := fun i => Ev (fun k => laws_eqByteS.l0 k x x i) true) x.length
    (EvS (by simp only [laws_eqByteS.l0, Int.lt_irrefl, if_false]; exact EvN))
    (fun i hi ih => EvS (by simp only [laws_eqByteS.l0, if_true, Option.bind_some, if_pos (show (i : Int) < (x.length : Int) by omega), if_pos (show 0 ≤ (i : Int) by omega), nxt i _ hi hx]; exact ih))
  have := key 0 (Nat.zero_le _)
  unfold laws_eqByteS.f
  simp only [if_true]
  exact this
end Go.Proofs.Ytgdebfaoohjikaa.BY

namespace Go.Proofs.Ytgdebfaoohjikaa.VI
set_option linter.unusedVariables false
set_option linter.unusedSimpArgs false
open Go.RowKit Go.Proofs.Ytgdebfaoohjikaa.F Go.Proofs.Ytgdebfaoohjikaa.PK Go.Proofs.YtgdebfaoohjikaaW.PrintWords Go.Proofs.YtgdebfaoohjikaaW.PrintLast Go.Proofs.YtgdebfaoohjikaaW.PrintMore
/-- The bytes of a number. -/
def pv : Nat → Int → List Int
  | 0, x => [x]
  | n + 1, x => if x < 128 then [x] else (x % 128 + 128) :: pv n (x / 128)
/-- The number of bytes. -/
def dec : List Int → Int
  | [] => 0
  | b :: r => b % 128 + 128 * dec r
theorem dec_nonneg (l : List Int) : 0 ≤ dec l := by
  induction l with
  | nil => exact Int.le_refl _
  | cons b r ih => unfold dec; omega
theorem pow7 (n : Nat) : (128 : Int) ^ (n + 1) = 128 * 128 ^ n := by rw [Int.pow_succ, Int.mul_comm]
theorem pow7_pos (n : Nat) : 0 < (128 : Int) ^ n := Int.pow_pos (by omega)
theorem dec_lt (l : List Int) : dec l < 128 ^ l.length := by
  induction l with
  | nil => show (0 : Int) < 1; omega
  | cons b r ih =>
    rw [List.length_cons, pow7]
    unfold dec
    omega
theorem dec_append (l : List Int) (c : Int) : dec (l ++ [c]) = dec l + 128 ^ l.length * (c % 128) := by
  induction l with
  | nil => show c % 128 + 128 * 0 = 0 + 1 * (c % 128); omega
  | cons b r ih =>
    have e : dec (b :: r ++ [c]) = b % 128 + 128 * dec (r ++ [c]) := rfl
    have e2 : dec (b :: r) = b % 128 + 128 * dec r := rfl
    have e3 : (128 : Int) * (128 ^ r.length * (c % 128)) = 128 ^ (r.length + 1) * (c % 128) := by rw [pow7, Int.mul_assoc]
    rw [e, e2, ih, List.length_cons, Int.mul_add, e3]
    omega
theorem dec_pv (n : Nat) : ∀ x : Int, 0 ≤ x → x < 128 ^ (n + 1) → dec (pv n x) = x := by
  induction n with
  | zero =>
    intro x h0 h1
    rw [pow7] at h1
    show x % 128 + 128 * 0 = x
    have : (128 : Int) ^ 0 = 1 := rfl
    omega
  | succ n ih =>
    intro x h0 h1
    unfold pv
    by_cases h : x < 128
    · rw [if_pos h]
      show x % 128 + 128 * 0 = x
      omega
    · rw [if_neg h]
      show (x % 128 + 128) % 128 + 128 * dec (pv n (x / 128)) = x
      rw [pow7] at h1
      rw [ih (x / 128) (by omega) (by omega)]
      omega
theorem pv_pos (n : Nat) (x : Int) : 1 ≤ (pv n x).length := by
  cases n with
  | zero => exact Nat.le_refl _
  | succ n => unfold pv; split <;> simp
theorem pv_le (n : Nat) : ∀ x : Int, (pv n x).length ≤ n + 1 := by
  induction n with
  | zero => intro x; exact Nat.le_refl _
  | succ n ih =>
    intro x
    unfold pv
    split
    · simp
    · have := ih (x / 128)
      simp only [List.length_cons]
      omega
theorem pv_mono (n : Nat) : ∀ x y : Int, 0 ≤ x → x ≤ y → (pv n x).length ≤ (pv n y).length := by
  induction n with
  | zero => intro x y _ _; exact Nat.le_refl _
  | succ n ih =>
    intro x y h0 h
    unfold pv
    by_cases hx : x < 128
    · rw [if_pos hx]
      by_cases hy : y < 128
      · rw [if_pos hy]; exact Nat.le_refl _
      · rw [if_neg hy]
        have := pv_pos n (y / 128)
        simp only [List.length_cons, List.length_nil]
        omega
    · rw [if_neg hx, if_neg (by omega)]
      have := ih (x / 128) (y / 128) (by omega) (by omega)
      simp only [List.length_cons]
      omega
/-- A number's bytes: those that go on, and the last one, which isn't needless. -/
theorem pv_form (n : Nat) : ∀ x : Int, 0 ≤ x → x < 128 ^ (n + 1) → ∃ hs c, pv n x = hs ++ [c] ∧ (∀ b ∈ hs, 128 ≤ b ∧ b ≤ 255) ∧ 0 ≤ c ∧ c ≤ 127 ∧ (c = 0 → hs = []) := by
  induction n with
  | zero =>
    intro x h0 h1
    rw [pow7] at h1
    have : (128 : Int) ^ 0 = 1 := rfl
    exact ⟨[], x, rfl, by simp, h0, by omega, fun _ => rfl⟩
  | succ n ih =>
    intro x h0 h1
    unfold pv
    by_cases h : x < 128
    · rw [if_pos h]
      exact ⟨[], x, rfl, by simp, h0, by omega, fun _ => rfl⟩
    · rw [if_neg h]
      rw [pow7] at h1
      obtain ⟨hs, c, e, h2, h3, h4, h5⟩ := ih (x / 128) (by omega) (by omega)
      refine ⟨(x % 128 + 128) :: hs, c, by rw [e]; rfl, fun b hb => ?_, h3, h4, fun hc => ?_⟩
      · rcases List.mem_cons.1 hb with rfl | hb
        · omega
        · exact h2 b hb
      · exfalso
        have hd := dec_pv n (x / 128) (by omega) (by omega)
        rw [e, h5 hc, hc] at hd
        have hz : dec ([] ++ [0]) = 0 := rfl
        omega
theorem pv_dec (n : Nat) : ∀ (hs : List Int) (c : Int), hs.length ≤ n → (∀ b ∈ hs, 128 ≤ b ∧ b ≤ 255) → 0 ≤ c → c ≤ 127 → (c = 0 → hs = []) → pv n (dec (hs ++ [c])) = hs ++ [c] := by
  induction n with
  | zero =>
    intro hs c hl hb h0 h1 _
    have : hs = [] := List.eq_nil_of_length_eq_zero (by omega)
    subst this
    show [c % 128 + 128 * 0] = [c]
    congr 1
    omega
  | succ n ih =>
    intro hs c hl hb h0 h1 hz
    cases hs with
    | nil =>
      have e : dec ([] ++ [c]) = c := by show c % 128 + 128 * 0 = c; omega
      rw [e]
      unfold pv
      rw [if_pos (by omega)]
      rfl
    | cons b r =>
      have hbb := hb b (List.mem_cons_self ..)
      have e : dec (b :: r ++ [c]) = b % 128 + 128 * dec (r ++ [c]) := rfl
      have hc : c ≠ 0 := fun h => by have := hz h; cases this
      have hp : 1 ≤ dec (r ++ [c]) := by
        rw [dec_append]
        have h2 := dec_nonneg r
        have h3 := pow7_pos r.length
        have h4 : c % 128 = c := by omega
        rw [h4]
        have : 1 * 1 ≤ (128 : Int) ^ r.length * c := Int.mul_le_mul (by omega) (by omega) (by omega) (by omega)
        omega
      have hi := ih r c (by simp only [List.length_cons] at hl; omega) (fun b' hb' => hb b' (List.mem_cons_of_mem _ hb')) h0 h1 (fun h => absurd h hc)
      rw [e]
      unfold pv
      rw [if_neg (by omega), show (b % 128 + 128 * dec (r ++ [c])) % 128 + 128 = b by omega, show (b % 128 + 128 * dec (r ++ [c])) / 128 = dec (r ++ [c]) by omega, hi]
      rfl
theorem wu64 {x : Int} (h0 : 0 ≤ x) (h1 : x < 18446744073709551616) : IntKind.u64.wrap x = x := by rw [IntKind.wrap_u64]; omega
theorem p70 : (128 : Int) ^ 10 = 1180591620717411303424 := by decide
theorem p63 : (128 : Int) ^ 9 = 9223372036854775808 := by decide
/-- The two readings of what stands at a place. -/
def gv : Nat → List Int → Option (Int × Nat)
  | _, [] => none
  | k, b :: r => if 10 ≤ k then none else if k = 9 ∧ b > 1 then none else if b ≥ 128 then (gv (k + 1) r).map (fun p => (b % 128 + 128 * p.1, p.2 + 1)) else if b = 0 ∧ 0 < k then none else some (b, 1)
theorem gv_lead (hs : List Int) : ∀ (k : Nat) (c : Int) (tl : List Int), (∀ b ∈ hs, 128 ≤ b ∧ b ≤ 255) → 0 ≤ c → c ≤ 127 → k + hs.length ≤ 9 →
    gv k (hs ++ c :: tl) = if (k + hs.length = 9 ∧ c > 1) ∨ (c = 0 ∧ 0 < k + hs.length) then none else some (dec (hs ++ [c]), hs.length + 1) := by
  induction hs with
  | nil =>
    intro k c tl _ h0 h1 hk
    have e : dec ([] ++ [c]) = c := by show c % 128 + 128 * 0 = c; omega
    simp only [List.length_nil, Nat.add_zero] at hk ⊢
    show gv k (c :: tl) = _
    unfold gv
    rw [if_neg (by omega), e]
    by_cases h2 : k = 9 ∧ c > 1
    · rw [if_pos h2, if_pos (.inl h2)]
    · rw [if_neg h2, if_neg (by omega)]
      by_cases h3 : c = 0 ∧ 0 < k
      · rw [if_pos h3, if_pos (.inr h3)]
      · rw [if_neg h3, if_neg (by rintro (h | h); exact h2 h; exact h3 h)]
  | cons b r ih =>
    intro k c tl hb h0 h1 hk
    have hbb := hb b (List.mem_cons_self ..)
    simp only [List.length_cons] at hk ⊢
    show gv k (b :: (r ++ c :: tl)) = _
    unfold gv
    rw [if_neg (by omega), if_neg (by omega), if_pos (by omega), ih (k + 1) c tl (fun b' hb' => hb b' (List.mem_cons_of_mem _ hb')) h0 h1 (by omega)]
    rw [show k + 1 + r.length = k + (r.length + 1) by omega]
    split
    · rfl
    · rfl
theorem gv_all (hs : List Int) : ∀ k : Nat, (∀ b ∈ hs, 128 ≤ b) → gv k hs = none := by
  induction hs with
  | nil => intro k _; rfl
  | cons b r ih =>
    intro k hb
    have hbb := hb b (List.mem_cons_self ..)
    unfold gv
    by_cases h1 : 10 ≤ k
    · rw [if_pos h1]
    · rw [if_neg h1]
      by_cases h2 : k = 9 ∧ b > 1
      · rw [if_pos h2]
      · rw [if_neg h2, if_pos (by omega), ih (k + 1) (fun b' hb' => hb b' (List.mem_cons_of_mem _ hb'))]
        rfl
theorem gv_long (hs : List Int) : ∀ (k : Nat) (tl : List Int), (∀ b ∈ hs, 128 ≤ b) → 10 ≤ k + hs.length → gv k (hs ++ tl) = none := by
  induction hs with
  | nil =>
    intro k tl _ hk
    simp only [List.length_nil, Nat.add_zero] at hk
    cases tl with
    | nil => rfl
    | cons c tl => show gv k (c :: tl) = none; unfold gv; rw [if_pos hk]
  | cons b r ih =>
    intro k tl hb hk
    have hbb := hb b (List.mem_cons_self ..)
    simp only [List.length_cons] at hk
    show gv k (b :: (r ++ tl)) = none
    unfold gv
    by_cases h1 : 10 ≤ k
    · rw [if_pos h1]
    · rw [if_neg h1]
      by_cases h2 : k = 9 ∧ b > 1
      · rw [if_pos h2]
      · rw [if_neg h2, if_pos (by omega), ih (k + 1) tl (fun b' hb' => hb b' (List.mem_cons_of_mem _ hb')) (by omega)]
        rfl
/-- How many bytes go on. -/
theorem split_lead (l : List Int) : ∃ hs tl, l = hs ++ tl ∧ (∀ b ∈ hs, 128 ≤ b) ∧ (∀ c r, tl = c :: r → c ≤ 127) := by
  induction l with
  | nil => exact ⟨[], [], rfl, by simp, by simp⟩
  | cons b r ih =>
    by_cases h : 128 ≤ b
    · obtain ⟨hs, tl, e, h1, h2⟩ := ih
      exact ⟨b :: hs, tl, by rw [e]; rfl, fun b' hb' => by rcases List.mem_cons.1 hb' with rfl | hb'; exact h; exact h1 b' hb', h2⟩
    · exact ⟨[], b :: r, rfl, by simp, fun c r' e => by cases e; omega⟩
/-- Whether a number's bytes are these. -/
theorem pv_iff (hs : List Int) (c : Int) (hb : ∀ b ∈ hs, 128 ≤ b ∧ b ≤ 255) (h0 : 0 ≤ c) (h1 : c ≤ 127) (hl : hs.length ≤ 9) :
    pv 9 (dec (hs ++ [c]) % 18446744073709551616) = hs ++ [c] ↔ ¬ ((hs.length = 9 ∧ c > 1) ∨ (c = 0 ∧ 0 < hs.length)) := by
  have hlt := dec_lt hs
  have hap := dec_append hs c
  have hcm : c % 128 = c := by omega
  rw [hcm] at hap
  have hnn := dec_nonneg (hs ++ [c])
  have hd0 := dec_nonneg hs
  constructor
  · intro h
    have hd : dec (pv 9 (dec (hs ++ [c]) % 18446744073709551616)) = dec (hs ++ [c]) % 18446744073709551616 := dec_pv 9 _ (Int.emod_nonneg _ (by omega)) (by rw [p70]; omega)
    rw [h] at hd
    rintro (⟨h9, hc⟩ | ⟨hc, hp⟩)
    · rw [h9, p63] at hap
      omega
    · obtain ⟨hs', c', e, _, _, _, hz⟩ := pv_form 9 (dec (hs ++ [c]) % 18446744073709551616) (Int.emod_nonneg _ (by omega)) (by rw [p70]; omega)
      rw [h] at e
      have e2 := List.append_inj' e rfl
      have ec : c = c' := by have := e2.2; injection this
      have := hz (by omega)
      rw [← e2.1] at this
      rw [this] at hp
      simp at hp
  · intro h
    have hV : dec (hs ++ [c]) < 18446744073709551616 := by
      by_cases h9 : hs.length = 9
      · have : c ≤ 1 := by omega
        rw [h9, p63] at hap hlt
        omega
      · have h8 : (128 : Int) ^ hs.length ≤ 128 ^ 8 := by
          have : hs.length ≤ 8 := by omega
          exact_mod_cast Nat.pow_le_pow_right (by omega) this
        have p8 : (128 : Int) ^ 8 = 72057594037927936 := by decide
        have h3 : (128 : Int) ^ hs.length * c ≤ 72057594037927936 * 127 := Int.mul_le_mul (by omega) h1 h0 (by omega)
        omega
    rw [Int.emod_eq_of_lt hnn hV]
    refine pv_dec 9 hs c hl hb h0 h1 fun hc => ?_
    by_cases hp : 0 < hs.length
    · exact absurd (.inr ⟨hc, hp⟩) h
    · exact List.eq_nil_of_length_eq_zero (by omega)
end Go.Proofs.Ytgdebfaoohjikaa.VI

namespace Go.Proofs.Ytgdebfaoohjikaa.F
open Go.RowKit Go.Proofs.YtgdebfaoohjikaaW.PrintWords Go.Proofs.YtgdebfaoohjikaaW.PrintLast Go.Proofs.YtgdebfaoohjikaaW.PrintMore
attribute [local go_sem] max2_int min2_int max_two min_two max_three min_three max_four min_four   -- for this text's walks alone
set_option linter.unusedVariables false
set_option linter.unusedSimpArgs false

/-! ### impl_putVar: function 48 -/
def impl_putVar.l0 : Nat → Int → List Int → Option (List Int)
  | 0, _, _ => none
  | k + 1, x0, x3 => if x0 ≥ 128 then (if x3.length < 140737488355328 then (impl_putVar.l0 k (x0 / 128) (x3 ++ [Go.bits .or .u8 ((x0) % 256) 128])) else (none)) else (if x3.length < 140737488355328 then (some (x3 ++ [(x0) % 256])) else (none))
def impl_putVar.f (k : Nat) (a0 : Int) : Option (List Int) := impl_putVar.l0 k a0 (([] : List Int))
theorem impl_putVar.mono_l : ∀ k, (∀ y0 y1, LeO (impl_putVar.l0 k y0 y1) (impl_putVar.l0 (k + 1) y0 y1))
  | 0 => fun _ _ r h => by simp [impl_putVar.l0] at h
  | k + 1 => by
    have ih0 := impl_putVar.mono_l k
    · intro y0 y1
      unfold impl_putVar.l0
      repeat' first
      | (with_reducible exact ih0 _ _)
      | (with_reducible exact LeO.refl _)
      | (with_reducible exact LeO.none _)
      | (with_reducible refine LeO.ite ?_ ?_)
      | (with_reducible refine LeO.bind ?_ (fun _ => ?_))
      | exact ih0 _ _
      | exact LeO.none _
      | refine LeO.ite ?_ ?_
      | refine LeO.bind ?_ (fun _ => ?_)
theorem impl_putVar.mono : ∀ a0 k, LeO (impl_putVar.f k a0) (impl_putVar.f (k + 1) a0) := by
  intro a0 k
  have ih0 := impl_putVar.mono_l k
  unfold impl_putVar.f
  repeat' first
      | (with_reducible exact ih0 _ _)
      | (with_reducible exact LeO.refl _)
      | (with_reducible exact LeO.none _)
      | (with_reducible refine LeO.ite ?_ ?_)
      | (with_reducible refine LeO.bind ?_ (fun _ => ?_))
      | exact ih0 _ _
      | exact LeO.none _
      | refine LeO.ite ?_ ?_
      | refine LeO.bind ?_ (fun _ => ?_)
set_option maxHeartbeats 8000000 in
set_option maxRecDepth 100000 in
theorem impl_putVar.calls (k : Nat) (a0 : Int) (r : List Int) (w : World) (h : impl_putVar.f k a0 = some r) :
    Calls Try.prog 48 #[.int .u64 a0] w fun e w' => ∃ v0_ : Value, e = .returned (v0_) ∧ Kd.R (Kd.int .u8) 5 w' w.heap.size (fun _ => True) v0_ r ∧ Below w.heap.size w w' := by
  have HB := Aside0.mk (Below.refl w.heap.size w)
  have H : (impl_putVar.l0 k a0 (([] : List Int))) = some r := h
  clear h
  obtain ⟨y110, hy110⟩ : ∃ y_ : List Int, y_ = (([] : List Int)) := ⟨_, rfl⟩
  replace H : (impl_putVar.l0 k a0 y110) = some r := by first | (rw [hy110]; with_reducible exact H) | (have H2_ := (Option.bind_some _ _).symm.trans H; rw [hy110]; with_reducible exact H2_) | (have H2_ := (Option.bind_some _ _).symm.trans H; with_reducible exact H2_) | with_reducible exact H | (rw [hy110]; exact H) | exact H
  have Ny110 := Aside0.mk hy110
  clear hy110
  have H' := Aside0.mk H
  clear H
  go_enter Try.func48, Try.ntmps48
  go_wp2_with (first | ((with_reducible refine gate_dst (N := 4) rfl ?_); refine Kd.R_lit (Kd.int .u8) _ 5 ?hg (N := 4) ?hd (xs := ([] : List Int)) (inner := []) (ok := fun _ => True) (okp := fun _ => True) ?hr ?hp (fun _ hk => hk) trivial (Below.refl _ _) (Nat.le_refl _) (by simp) ?_; (case hd => rfl); (case hg => rfl); (case hr => first | (go_simp; done) | (go_simp; rfl)); (case hp => exact (Reps.none _ _)); intro v111 w2 ho3 hb hg_ hnew_; clear hg_ hnew_; (first | rw [← Ny110.out] at ho3 | (simp only [Int.reduceToNat] at ho3; rw [← Ny110.out] at ho3)); have n0_ := Aside0.mk (Kd.R_lower ho3 (below_size (by repeat (first | (with_reducible first | exact HB.out | apply below_alloc | apply pw_below_drewN | apply below_drew1) | exact HB.out)))); have n1_ := Aside0.mk (below_step (by repeat (first | (with_reducible first | exact HB.out | apply below_alloc | apply pw_below_drewN | apply below_drew1) | exact HB.out)) hb); clear HB; have HO112 := n0_; have HB := n1_; clear n0_ n1_; clear hb ho3))
  go_loopg [0, 3] k (fun kq v0 v3 w' => ∃ (x0_1 : Int) (x3_1 : List Int), v0 = .int .u64 x0_1 ∧ Aside0 (impl_putVar.l0 kq x0_1 x3_1 = some r) ∧ Aside0 (kq ≤ k) ∧ Aside0 (Kd.R (Kd.int .u8) 5 w' w.heap.size (fun _ => True) v3 x3_1) ∧ Aside0 (Below w.heap.size w w'))
  case atStart => exact ⟨(a0), (y110), (by first | rfl | (simp; done) | (simp [*]; done)), H', ⟨Nat.le_refl _⟩, ⟨by (with_reducible repeat (first | apply Kd.R_alloc | apply Kd.R_drewN | apply Kd.R_drew)); exact HO112.out⟩, ⟨by repeat (first | (with_reducible first | exact HB.out | apply below_alloc | apply pw_below_drewN | apply below_drew1) | exact HB.out)⟩⟩
  case round =>
    clear H'
    try clear p2
    obtain ⟨x0_1, x3_1, rfl, HA, HK1, HO_3, HB⟩ := hrel
    cases gk with
    | zero => exact absurd HA.out (by simp [impl_putVar.l0])
    | succ k1 =>
      have H := HA.out
      clear HA
      simp only [impl_putVar.l0] at H
      by_cases c4 : x0_1 ≥ 128
      · rw [if_pos c4] at H
        have c4b0 : decide (128 ≤ x0_1) = true := decide_eq_true c4
        clear c4
        by_cases c5 : x3_1.length < 140737488355328
        · rw [if_pos c5] at H
          have LMc5 := Aside0.mk c5
          clear c5
          obtain ⟨y113, hy113⟩ : ∃ y_ : List Int, y_ = (x3_1 ++ [Go.bits .or .u8 ((x0_1) % 256) 128]) := ⟨_, rfl⟩
          replace H : (impl_putVar.l0 k1 (x0_1 / 128) y113) = some r := by first | (rw [hy113]; with_reducible exact H) | (have H2_ := (Option.bind_some _ _).symm.trans H; rw [hy113]; with_reducible exact H2_) | (have H2_ := (Option.bind_some _ _).symm.trans H; with_reducible exact H2_) | with_reducible exact H | (rw [hy113]; exact H) | exact H
          have Ny113 := Aside0.mk hy113
          clear hy113
          have H' := Aside0.mk H
          clear H
          go_wp2_with (first | ((with_reducible refine gate_builtin (b := .append) (xs := #[.tmp 7, .tmp 11]) rfl ?_); at_builtin; refine Kd.R_append (Kd.int .u8) (w0 := w) w.heap.size rfl (.tmp 7) (.tmp 11) 24 5 (.int .u8 0) 1 rfl Try.underlying24 info5 rfl (by decide) (by omega) u3 x3_1 (Go.bits .or .u8 ((x0_1) % 256) 128) [.int .u8 (Go.bits .or .u8 ((x0_1) % 256) 128)] (fun _ => True) (fun _ => False) rfl rfl ?aP (fun _ hk => hk.elim) ?aF ?aO ?aB ?aS ?aL ?_; (case aP => exact rfl); (case aB => exact (by repeat (first | (with_reducible first | exact HB.out | apply below_alloc | apply pw_below_drewN | apply below_drew1) | exact HB.out))); (case aF => exact (fun _ _ => trivial)); (case aO => exact (by (with_reducible repeat (first | apply Kd.R_alloc | apply Kd.R_drewN | apply Kd.R_drew)); exact HO_3.out)); (case aS => exact (below_size (by repeat (first | (with_reducible first | exact HB.out | apply below_alloc | apply pw_below_drewN | apply below_drew1) | exact HB.out)))); (case aL => have := LMc5.out; omega); intro v114 w6 ho hb hg hat; rw [← Ny113.out] at ho; have n0_ := Aside0.mk (hb); have n1_ := Aside0.mk (ho); clear HB; clear HO_3; have HB := n0_; have HO115 := n1_; clear n0_ n1_; clear ho hb hg hat))
          go_roundg k1
          case measure => have := HK1.out; omega
          case rel => exact ⟨(x0_1 / 128), (y113), (by first | rfl | (simp; done) | (simp [*]; done)), H', ⟨by have := HK1.out; omega⟩, ⟨by (with_reducible repeat (first | apply Kd.R_alloc | apply Kd.R_drewN | apply Kd.R_drew)); exact HO115.out⟩, ⟨by repeat (first | (with_reducible first | exact HB.out | apply below_alloc | apply pw_below_drewN | apply below_drew1) | exact HB.out)⟩⟩
        · rw [if_neg c5] at H
          exact absurd H (by simp)
      · rw [if_neg c4] at H
        have c4b0 : decide (128 ≤ x0_1) = false := decide_eq_false c4
        clear c4
        by_cases c7 : x3_1.length < 140737488355328
        · rw [if_pos c7] at H
          have LMc7 := Aside0.mk c7
          clear c7
          obtain ⟨y116, hy116⟩ : ∃ y_ : List Int, y_ = (x3_1 ++ [(x0_1) % 256]) := ⟨_, rfl⟩
          replace H : (some y116) = some r := by first | (rw [hy116]; with_reducible exact H) | (have H2_ := (Option.bind_some _ _).symm.trans H; rw [hy116]; with_reducible exact H2_) | (have H2_ := (Option.bind_some _ _).symm.trans H; with_reducible exact H2_) | with_reducible exact H | (rw [hy116]; exact H) | exact H
          have Ny116 := Aside0.mk hy116
          clear hy116
          obtain rfl := Option.some.inj H
          go_wp2_with (first | ((with_reducible refine gate_builtin (b := .append) (xs := #[.tmp 15, .tmp 18]) rfl ?_); at_builtin; refine Kd.R_append (Kd.int .u8) (w0 := w) w.heap.size rfl (.tmp 15) (.tmp 18) 24 5 (.int .u8 0) 1 rfl Try.underlying24 info5 rfl (by decide) (by omega) u3 x3_1 ((x0_1) % 256) [.int .u8 ((x0_1) % 256)] (fun _ => True) (fun _ => False) rfl rfl ?aP (fun _ hk => hk.elim) ?aF ?aO ?aB ?aS ?aL ?_; (case aP => exact rfl); (case aB => exact (by repeat (first | (with_reducible first | exact HB.out | apply below_alloc | apply pw_below_drewN | apply below_drew1) | exact HB.out))); (case aF => exact (fun _ _ => trivial)); (case aO => exact (by (with_reducible repeat (first | apply Kd.R_alloc | apply Kd.R_drewN | apply Kd.R_drew)); exact HO_3.out)); (case aS => exact (below_size (by repeat (first | (with_reducible first | exact HB.out | apply below_alloc | apply pw_below_drewN | apply below_drew1) | exact HB.out)))); (case aL => have := LMc7.out; omega); intro v117 w8 ho hb hg hat; rw [← Ny116.out] at ho; have n0_ := Aside0.mk (hb); have n1_ := Aside0.mk (ho); clear HB; clear HO_3; have HB := n0_; have HO118 := n1_; clear n0_ n1_; clear ho hb hg hat))
          go_ret
          exact ⟨_, by first | rfl | (simp [errW_none, errW_some] <;> rfl) | (simp [*, errW_none, errW_some] <;> rfl), by (with_reducible repeat (first | apply Kd.R_alloc | apply Kd.R_drewN | apply Kd.R_drew)); exact HO118.out, by repeat (first | (with_reducible first | exact HB.out | apply below_alloc | apply pw_below_drewN | apply below_drew1) | exact HB.out)⟩
        · rw [if_neg c7] at H
          exact absurd H (by simp)

end Go.Proofs.Ytgdebfaoohjikaa.F

namespace Go.Proofs.Ytgdebfaoohjikaa.F
open Go.RowKit Go.Proofs.YtgdebfaoohjikaaW.PrintWords Go.Proofs.YtgdebfaoohjikaaW.PrintLast Go.Proofs.YtgdebfaoohjikaaW.PrintMore
attribute [local go_sem] max2_int min2_int max_two min_two max_three min_three max_four min_four   -- for this text's walks alone
set_option linter.unusedVariables false
set_option linter.unusedSimpArgs false

/-! ### impl_PutVar: function 14 -/
def impl_PutVar.f (k : Nat) (a0 : Int) : Option (List Int) := (impl_putVar.f k a0).bind fun t119 => (some t119)
theorem impl_PutVar.mono : ∀ a0 k, LeO (impl_PutVar.f k a0) (impl_PutVar.f (k + 1) a0) := by
  intro a0 k
  unfold impl_PutVar.f
  repeat' first
      | (with_reducible exact impl_putVar.mono _ _)
      | (with_reducible exact LeO.refl _)
      | (with_reducible exact LeO.none _)
      | (with_reducible refine LeO.ite ?_ ?_)
      | (with_reducible refine LeO.bind ?_ (fun _ => ?_))
      | exact impl_putVar.mono _ _
      | exact LeO.none _
      | refine LeO.ite ?_ ?_
      | refine LeO.bind ?_ (fun _ => ?_)
set_option maxHeartbeats 8000000 in
set_option maxRecDepth 100000 in
theorem impl_PutVar.calls (k : Nat) (a0 : Int) (r : List Int) (w : World) (h : impl_PutVar.f k a0 = some r) :
    Calls Try.prog 14 #[.int .u64 a0] w fun e w' => ∃ v0_ : Value, e = .returned (v0_) ∧ Kd.R (Kd.int .u8) 5 w' w.heap.size (fun _ => True) v0_ r ∧ Below w.heap.size w w' := by
  have HB := Aside0.mk (Below.refl w.heap.size w)
  have H : ((impl_putVar.f k a0).bind fun t119 => (some t119)) = some r := h
  clear h
  replace H := Option.bind_eq_some_iff.mp H
  obtain ⟨t119, A20, H⟩ := H
  replace H : (some t119) = some r := H
  have A2 := Aside0.mk A20
  clear A20
  obtain rfl := Option.some.inj H
  go_enter Try.func14, Try.ntmps14
  go_wp2_with (first | ((with_reducible refine gate_callee (f := 48) rfl ?_); refine goesL_ (some 4) rfl rfl Try.func48 (by kernel_rfl) rfl #[.int .u64 a0] rfl (by (try simp only [List.map_toArray, List.map_cons, List.map_nil]); first | done | rfl | (simp only [List.length_drop, List.length_take]; rfl)) ?_; (with_reducible refine (impl_putVar.calls k a0 t119 _ A2.out).mono ?_); rintro e w3 ⟨v120, rfl, ho0, hb⟩; refine ⟨_, rfl, ?_⟩; have n0_ := Aside0.mk (Kd.R_lower ho0 (below_size (by repeat (first | (with_reducible first | exact HB.out | apply below_alloc | apply pw_below_drewN | apply below_drew1) | exact HB.out)))); have n1_ := Aside0.mk (below_step (by repeat (first | (with_reducible first | exact HB.out | apply below_alloc | apply pw_below_drewN | apply below_drew1) | exact HB.out)) hb); clear HB; have HO121 := n0_; have HB := n1_; clear n0_ n1_; (try clear hb); (try clear hb2); (try clear hk); (try clear hi); (try clear ho0)))
  go_ret
  exact ⟨_, by first | rfl | (simp [errW_none, errW_some] <;> rfl) | (simp [*, errW_none, errW_some] <;> rfl), by (with_reducible repeat (first | apply Kd.R_alloc | apply Kd.R_drewN | apply Kd.R_drew)); exact HO121.out, by repeat (first | (with_reducible first | exact HB.out | apply below_alloc | apply pw_below_drewN | apply below_drew1) | exact HB.out)⟩

end Go.Proofs.Ytgdebfaoohjikaa.F

namespace Go.Proofs.Ytgdebfaoohjikaa.VI
set_option linter.unusedVariables false
set_option linter.unusedSimpArgs false
open Go.RowKit Go.Proofs.Ytgdebfaoohjikaa.F Go.Proofs.Ytgdebfaoohjikaa.PK Go.Proofs.YtgdebfaoohjikaaW.PrintWords Go.Proofs.YtgdebfaoohjikaaW.PrintLast Go.Proofs.YtgdebfaoohjikaaW.PrintMore
theorem or128 (x : Int) (h0 : 0 ≤ x) : Go.bits .or .u8 (x % 256) 128 = x % 128 + 128 := by
  have hm : 0 ≤ x % 256 := by omega
  have hlt : x % 256 < 256 := by omega
  have e : x % 128 = (x % 256) % 128 := by omega
  rw [e]
  generalize x % 256 = y at hm hlt
  obtain ⟨n, rfl⟩ := Int.eq_ofNat_of_zero_le hm
  rw [u8_or _ _ hm hlt (by omega) (by omega), Int.toNat_natCast]
  have h2 : ∀ m : Fin 256, ((m.val ||| (128 : Int).toNat : Nat) : Int) = (m.val : Int) % 128 + 128 := by decide +kernel
  exact h2 ⟨n, by omega⟩
theorem impl_put (n : Nat) : ∀ (x : Int) (acc : List Int), 0 ≤ x → x < 128 ^ (n + 1) → acc.length + n < 140737488355328 → Ev (fun k => impl_putVar.l0 k x acc) (acc ++ pv n x) := by
  induction n with
  | zero =>
    intro x acc h0 h1 hl
    rw [pow7] at h1
    have : (128 : Int) ^ 0 = 1 := rfl
    refine EvS ?_
    simp only [impl_putVar.l0, if_neg (show ¬ x ≥ 128 by omega), if_pos (show acc.length < 140737488355328 by omega), show x % 256 = x by omega]
    exact EvN
  | succ n ih =>
    intro x acc h0 h1 hl
    rw [pow7] at h1
    refine EvS ?_
    unfold pv
    by_cases h : x < 128
    · simp only [impl_putVar.l0, if_neg (show ¬ x ≥ 128 by omega), if_pos (show acc.length < 140737488355328 by omega), show x % 256 = x by omega, if_pos h]
      exact EvN
    · simp only [impl_putVar.l0, if_pos (show x ≥ 128 by omega), if_pos (show acc.length < 140737488355328 by omega), or128 x h0, if_neg h]
      have := ih (x / 128) (acc ++ [x % 128 + 128]) (by omega) (by omega) (by rw [List.length_append, List.length_singleton]; omega)
      rw [List.append_assoc] at this
      exact this
theorem spec_put (n : Nat) : ∀ (x : Int) (acc : List Int), 0 ≤ x → x < 18446744073709551616 → x < 128 ^ (n + 1) → acc.length + n < 140737488355328 → Ev (fun k => spec_PutVar.l0 k x acc) (acc ++ pv n x) := by
  induction n with
  | zero =>
    intro x acc h0 hx h1 hl
    rw [pow7] at h1
    have : (128 : Int) ^ 0 = 1 := rfl
    refine EvS ?_
    simp only [spec_PutVar.l0, if_neg (show ¬ x > 127 by omega), if_pos (show acc.length < 140737488355328 by omega), show x % 256 = x by omega]
    exact EvN
  | succ n ih =>
    intro x acc h0 hx h1 hl
    rw [pow7] at h1
    refine EvS ?_
    unfold pv
    by_cases h : x < 128
    · simp only [spec_PutVar.l0, if_neg (show ¬ x > 127 by omega), if_pos (show acc.length < 140737488355328 by omega), show x % 256 = x by omega, if_pos h]
      exact EvN
    · have e1 : IntKind.u64.wrap (Int.tdiv x 128) = x / 128 := by rw [Int.tdiv_eq_ediv_of_nonneg h0, wu64 (by omega) (by omega)]
      have e2 : IntKind.u64.wrap (128 + Int.tmod x 128) % 256 = x % 128 + 128 := by rw [Int.tmod_eq_emod_of_nonneg h0, wu64 (by omega) (by omega)]; omega
      simp only [spec_PutVar.l0, if_pos (show x > 127 by omega), if_pos (show acc.length < 140737488355328 by omega), e1, e2, if_neg h]
      have := ih (x / 128) (acc ++ [x % 128 + 128]) (by omega) (by omega) (by omega) (by rw [List.length_append, List.length_singleton]; omega)
      rw [List.append_assoc] at this
      exact this
theorem impl_putV (x : Int) (h0 : 0 ≤ x) (h1 : x < 18446744073709551616) : Ev (fun k => impl_putVar.f k x) (pv 9 x) := by
  have h := impl_put 9 x [] h0 (by rw [p70]; omega) (by show 0 + 9 < _; omega)
  rw [List.nil_append] at h
  unfold impl_putVar.f
  exact h
theorem impl_putVar (x : Int) (h0 : 0 ≤ x) (h1 : x < 18446744073709551616) : Ev (fun k => impl_PutVar.f k x) (pv 9 x) := by
  unfold impl_PutVar.f
  simp only [EvB (impl_putV x h0 h1)]
  exact EvN
theorem spec_putVar (x : Int) (h0 : 0 ≤ x) (h1 : x < 18446744073709551616) : Ev (fun k => spec_PutVar.f k x) (pv 9 x) := by
  have h := spec_put 9 x [] h0 h1 (by rw [p70]; omega) (by show 0 + 9 < _; omega)
  rw [List.nil_append] at h
  unfold spec_PutVar.f
  exact h
theorem wfu64 {x : Int} (h : (Lit.int .u64 x).wf = true) : 0 ≤ x ∧ x < 18446744073709551616 := by
  simp only [Lit.wf, Bool.and_eq_true, decide_eq_true_eq] at h
  have h1 : IntKind.u64.min = 0 := by decide
  have h2 : IntKind.u64.max = 18446744073709551615 := by decide
  omega
end Go.Proofs.Ytgdebfaoohjikaa.VI

namespace Go.Proofs.Ytgdebfaoohjikaa.BY
set_option linter.unusedVariables false
set_option linter.unusedSimpArgs false
open Go.RowKit Go.Proofs.Ytgdebfaoohjikaa.F Go.Proofs.Ytgdebfaoohjikaa.PK Go.Proofs.YtgdebfaoohjikaaW.PrintWords Go.Proofs.YtgdebfaoohjikaaW.PrintLast Go.Proofs.YtgdebfaoohjikaaW.PrintMore
theorem l01Same (x y : List Int) (hx : x.length ≤ 9223372036854775807) : Ev (fun k => spec_l01Same.f k x y) (decide (x = y)) := by
  unfold spec_l01Same.f
  by_cases hl : x.length = y.length
  · simp only [if_pos (show (x.length : Int) = (y.length : Int) by omega)]
    have key := up0 (P := fun i => Ev (fun k => spec_l01Same.l0 k x y i) (decide (x.drop i.toNat = y.drop i.toNat))) x.length
      (EvS (by
        simp only [spec_l01Same.l0, Int.lt_irrefl, if_false, Int.toNat_natCast, List.drop_length]
        rw [hl, List.drop_length]
        simp only [decide_true]
        exact EvN))
      (fun i hi ih => EvS (by
        have hiy : i < y.length := by omega
        simp only [spec_l01Same.l0, if_pos (show (i : Int) < (x.length : Int) by omega), if_pos (show 0 ≤ (i : Int) by omega), if_pos (show (i : Int) < (y.length : Int) by omega), nxt i _ hi hx, Int.toNat_natCast, rd_at x i hi, rd_at y i hiy, drop_at x i hi, drop_at y i hiy]
        by_cases he : x[i] = y[i]
        · simp only [he, if_true, List.cons.injEq, true_and]
          rw [Int.toNat_natCast] at ih
          exact ih
        · simp only [if_neg he, List.cons.injEq, he, false_and, decide_false]
          exact EvN))
    exact key
  · simp only [if_neg (show ¬ (x.length : Int) = (y.length : Int) by omega)]
    rw [decide_eq_false (fun h => hl (by rw [h]))]
    exact EvN
end Go.Proofs.Ytgdebfaoohjikaa.BY

namespace Go.Proofs.Ytgdebfaoohjikaa.F
open Go.RowKit Go.Proofs.YtgdebfaoohjikaaW.PrintWords Go.Proofs.YtgdebfaoohjikaaW.PrintLast Go.Proofs.YtgdebfaoohjikaaW.PrintMore
attribute [local go_sem] max2_int min2_int max_two min_two max_three min_three max_four min_four   -- for this text's walks alone
set_option linter.unusedVariables false
set_option linter.unusedSimpArgs false

/-! ### impl_GetVar: function 20 -/
def impl_GetVar.f (k : Nat) (l0 : List Int) (a1 : Int) : Option (Int × Int × Bool) := if (l0.length : Int) > 4000 then (some (0, 0, false)) else (if a1 < 0 then (some (0, 0, false)) else (if a1 ≥ (l0.length : Int) then (some (0, 0, false)) else ((impl_getVar.f k l0 a1).bind fun bt157 => (some (bt157.1, bt157.2.1, bt157.2.2)))))
theorem impl_GetVar.mono : ∀ a0 a1 k, LeO (impl_GetVar.f k a0 a1) (impl_GetVar.f (k + 1) a0 a1) := by
  intro a0 a1 k
  unfold impl_GetVar.f
  repeat' first
      | (with_reducible exact impl_getVar.mono _ _ _)
      | (with_reducible exact LeO.refl _)
      | (with_reducible exact LeO.none _)
      | (with_reducible refine LeO.ite ?_ ?_)
      | (with_reducible refine LeO.bind ?_ (fun _ => ?_))
      | exact impl_getVar.mono _ _ _
      | exact LeO.none _
      | refine LeO.ite ?_ ?_
      | refine LeO.bind ?_ (fun _ => ?_)
set_option maxHeartbeats 8000000 in
set_option maxRecDepth 100000 in
theorem impl_GetVar.calls (k : Nat) (A0 : Option Addr) (c0 : Nat) (l0 : List Int) (a1 : Int) (r1 : Int) (r2 : Int) (r3 : Bool) (w : World) (hr0 : Kd.C (Kd.int .u8) w A0 l0.length l0) (hc0 : l0.length ≤ c0) (h : impl_GetVar.f k l0 a1 = some (r1, r2, r3)) :
    Calls Try.prog 20 #[.slice A0 l0.length c0, .int .i64 a1] w fun e w' => e = .returned (.tuple #[.int .u64 r1, .int .i64 r2, .bool r3]) ∧ Drawn0 w w' := by
  have HR0 := Aside0.mk hr0
  have HC0 := Aside0.mk hc0
  clear hr0 hc0
  have H : (if (l0.length : Int) > 4000 then (some (0, 0, false)) else (if a1 < 0 then (some (0, 0, false)) else (if a1 ≥ (l0.length : Int) then (some (0, 0, false)) else ((impl_getVar.f k l0 a1).bind fun bt157 => (some (bt157.1, bt157.2.1, bt157.2.2)))))) = some (r1, r2, r3) := h
  clear h
  by_cases c3 : (l0.length : Int) > 4000
  · rw [if_pos c3] at H
    have c3b0 : decide (4000 < (l0.length : Int)) = true := decide_eq_true c3
    have c3b1 : decide (4000 < l0.length) = true := decide_eq_true (by omega)
    clear c3
    simp only [Option.some.injEq, Prod.mk.injEq] at H
    obtain ⟨rfl, rfl, rfl⟩ := H
    go_enter Try.func20, Try.ntmps20
    go_wp2
    go_ret3
    exact ⟨by first | rfl | (simp; done) | (simp [*]; done), by repeat (first | exact Drawn0.refl _ | apply Drawn0.step)⟩
  · rw [if_neg c3] at H
    have c3b0 : decide (4000 < (l0.length : Int)) = false := decide_eq_false c3
    have c3b1 : decide (4000 < l0.length) = false := decide_eq_false (by omega)
    clear c3
    by_cases c4 : a1 < 0
    · rw [if_pos c4] at H
      have c4b0 : decide (a1 < 0) = true := decide_eq_true c4
      clear c4
      simp only [Option.some.injEq, Prod.mk.injEq] at H
      obtain ⟨rfl, rfl, rfl⟩ := H
      go_enter Try.func20, Try.ntmps20
      go_wp2
      go_ret3
      exact ⟨by first | rfl | (simp; done) | (simp [*]; done), by repeat (first | exact Drawn0.refl _ | apply Drawn0.step)⟩
    · rw [if_neg c4] at H
      have c4b0 : decide (a1 < 0) = false := decide_eq_false c4
      clear c4
      by_cases c5 : a1 ≥ (l0.length : Int)
      · rw [if_pos c5] at H
        have c5b0 : decide ((l0.length : Int) ≤ a1) = true := decide_eq_true c5
        clear c5
        simp only [Option.some.injEq, Prod.mk.injEq] at H
        obtain ⟨rfl, rfl, rfl⟩ := H
        go_enter Try.func20, Try.ntmps20
        go_wp2
        go_ret3
        exact ⟨by first | rfl | (simp; done) | (simp [*]; done), by repeat (first | exact Drawn0.refl _ | apply Drawn0.step)⟩
      · rw [if_neg c5] at H
        have c5b0 : decide ((l0.length : Int) ≤ a1) = false := decide_eq_false c5
        clear c5
        replace H := Option.bind_eq_some_iff.mp H
        obtain ⟨⟨t157, t158, t159⟩, A60, H⟩ := H
        replace H : (some (t157, t158, t159)) = some (r1, r2, r3) := H
        have A6 := Aside0.mk A60
        clear A60
        simp only [Option.some.injEq, Prod.mk.injEq] at H
        obtain ⟨rfl, rfl, rfl⟩ := H
        go_enter Try.func20, Try.ntmps20
        go_wp2_with (first | ((with_reducible refine gate_callee (f := 51) rfl ?_); refine goesL_ (some 22) rfl rfl Try.func51 (by kernel_rfl) rfl #[.slice A0 l0.length c0, .int .i64 a1] rfl (by (try simp only [List.map_toArray, List.map_cons, List.map_nil]); first | done | rfl | (simp only [List.length_drop, List.length_take]; rfl)) ?_; (with_reducible refine (impl_getVar.calls k _ _ l0 a1 t157 t158 t159 _ ?side1 ?side2 A6.out).mono ?_); (case side1 => repeat (first | exact HR0.out | (with_reducible refine Kd.C_alloc ?_ _) | (with_reducible refine Kd.C_drewN ?_ _) | (with_reducible refine Kd.C_drew ?_))); (case side2 => exact HC0.out); rintro e w' ⟨rfl, ⟨nd, rfl⟩⟩; refine ⟨_, rfl, ?_⟩))
        go_ret3
        exact ⟨by first | rfl | (simp; done) | (simp [*]; done), by repeat (first | exact Drawn0.refl _ | apply Drawn0.step)⟩

end Go.Proofs.Ytgdebfaoohjikaa.F

namespace Go.Proofs.Ytgdebfaoohjikaa.VI
set_option linter.unusedVariables false
set_option linter.unusedSimpArgs false
open Go.RowKit Go.Proofs.Ytgdebfaoohjikaa.F Go.Proofs.Ytgdebfaoohjikaa.PK Go.Proofs.YtgdebfaoohjikaaW.PrintWords Go.Proofs.YtgdebfaoohjikaaW.PrintLast Go.Proofs.YtgdebfaoohjikaaW.PrintMore
open Go.Proofs.Ytgdebfaoohjikaa.BY
def tell (at_ : Int) : Option (Int × Nat) → Int × Int × Bool
  | none => (0, 0, false)
  | some (v, n) => (v, at_ + n, true)
def U8s (l : List Int) : Prop := ∀ b ∈ l, 0 ≤ b ∧ b ≤ 255
theorem wf8s {l : List Int} (h : ∀ x ∈ l, (Lit.int .u8 x).wf = true) : U8s l := fun b hb => by
  have := h b hb
  simp only [Lit.wf, Bool.and_eq_true, decide_eq_true_eq] at this
  have h1 : IntKind.u8.min = 0 := by decide
  have h2 : IntKind.u8.max = 255 := by decide
  omega
theorem and127 (b : Int) (h0 : 0 ≤ b) (h1 : b ≤ 255) : Go.bits .and .u8 b 127 = b % 128 := by
  obtain ⟨n, rfl⟩ := Int.eq_ofNat_of_zero_le h0
  rw [u8_and _ _ h0 (by omega) (by omega) (by omega), Int.toNat_natCast]
  have h2 : ∀ m : Fin 256, ((m.val &&& (127 : Int).toNat : Nat) : Int) = (m.val : Int) % 128 := by decide +kernel
  exact h2 ⟨n, by omega⟩
theorem pow2_7 (k : Nat) : (2 : Int) ^ (7 * k) = 128 ^ k := by
  rw [Int.pow_mul]
  rfl
/-- The number so far and seven bits more. -/
theorem or_shl (x b : Int) (k : Nat) (hx0 : 0 ≤ x) (hx : x < 128 ^ k) (hb0 : 0 ≤ b) (hb : b ≤ 127) (hk : k ≤ 9) (h9 : k = 9 → b ≤ 1) :
    Go.bits .or .u64 x (shl .u64 (IntKind.u64.wrap b) (7 * k)) = x + 128 ^ k * b := by
  have hp := pow7_pos k
  have hle : (128 : Int) ^ k ≤ 128 ^ 9 := by exact_mod_cast Nat.pow_le_pow_right (by omega) hk
  have hbig : 128 ^ k * b + 128 ^ k ≤ 18446744073709551616 := by
    by_cases h : k = 9
    · subst h
      have := h9 rfl
      rw [p63]
      omega
    · have h8 : (128 : Int) ^ k ≤ 128 ^ 8 := by exact_mod_cast Nat.pow_le_pow_right (by omega) (by omega)
      have p8 : (128 : Int) ^ 8 = 72057594037927936 := by decide
      have h3 : (128 : Int) ^ k * b ≤ 72057594037927936 * 127 := Int.mul_le_mul (by omega) hb hb0 (by omega)
      omega
  have hm0 : 0 ≤ 128 ^ k * b := Int.mul_nonneg (by omega) hb0
  have e : shl .u64 (IntKind.u64.wrap b) (7 * k) = 128 ^ k * b := by
    unfold shl
    rw [wu64 hb0 (by omega), show min (7 * (k : Int)).toNat IntKind.u64.bits = 7 * k by show min _ 64 = _; omega, pow2_7, Int.mul_comm, wu64 hm0 (by omega)]
  rw [e]
  obtain ⟨m, rfl⟩ := Int.eq_ofNat_of_zero_le hx0
  obtain ⟨c, rfl⟩ := Int.eq_ofNat_of_zero_le hb0
  have ec : (128 : Int) ^ k * (c : Int) = ((2 ^ (7 * k) * c : Nat) : Int) := by
    rw [show (2 : Nat) ^ (7 * k) = 128 ^ k by rw [Nat.pow_mul]]
    push_cast
    rfl
  have hm : m < 2 ^ (7 * k) := by
    rw [show (2 : Nat) ^ (7 * k) = 128 ^ k by rw [Nat.pow_mul]]
    exact_mod_cast hx
  rw [ec] at hbig ⊢
  rw [u64_or_nat m (2 ^ (7 * k) * c) (by omega) (by omega), Nat.or_comm, ← Nat.two_pow_add_eq_or_of_lt hm]
  push_cast
  omega
theorem impl_get (l : List Int) (a : Nat) (hu : U8s l) (hl : l.length ≤ 4000) (ha : a ≤ l.length) : ∀ (d k : Nat), d + k = 10 → ∀ x, 0 ≤ x → x < 128 ^ k →
    Ev (fun n => impl_getVar.l0 n l a x k) (tell a ((gv k (l.drop (a + k))).map fun p => (x + 128 ^ k * p.1, k + p.2))) := by
  intro d
  induction d with
  | zero =>
    intro k hk x h0 h1
    have hg : gv k (l.drop (a + k)) = none := by
      cases l.drop (a + k) with
      | nil => rfl
      | cons b r => unfold gv; rw [if_pos (by omega)]
    rw [hg]
    refine EvS ?_
    simp only [impl_getVar.l0, if_neg (show ¬ (k : Int) < 10 by omega)]
    refine EvS ?_
    simp only [impl_getVar.j1, Bool.false_eq_true, if_false]
    exact EvN
  | succ d ih =>
    intro k hk x h0 h1
    have hw : wrap64 ((a : Int) + k) = ((a + k : Nat) : Int) := by rw [w64 (by omega) (by omega)]; omega
    refine EvS ?_
    simp only [impl_getVar.l0, if_pos (show (k : Int) < 10 by omega), hw]
    by_cases hin : a + k < l.length
    · have hb := hu _ (List.getElem_mem hin)
      have hk9 : (k : Int) = 9 ↔ k = 9 := by omega
      have hw7 : wrap64 (7 * (k : Int)) = 7 * (k : Int) := w64 (by omega) (by omega)
      rw [drop_at l (a + k) hin, decide_eq_true (show ((a + k : Nat) : Int) < (l.length : Int) by omega)]
      have hih := fun x' (e0 : 0 ≤ x') (e1 : x' < 128 ^ (k + 1)) => ih (k + 1) (by omega) x' e0 e1
      have hb0 : 0 ≤ l[a + k] % 128 := by omega
      have hlt : l[a + k] % 128 ≤ 127 := by omega
      have hx' : x + 128 ^ k * (l[a + k] % 128) < 128 ^ (k + 1) := by
        rw [pow7]
        have : (128 : Int) ^ k * (l[a + k] % 128) ≤ 128 ^ k * 127 := Int.mul_le_mul_of_nonneg_left hlt (by omega)
        omega
      have hx0' : 0 ≤ x + 128 ^ k * (l[a + k] % 128) := by
        have : 0 ≤ (128 : Int) ^ k * (l[a + k] % 128) := Int.mul_nonneg (by have := pow7_pos k; omega) hb0
        omega
      refine EvS ?_
      simp only [impl_getVar.j1, if_true, if_pos (show 0 ≤ ((a + k : Nat) : Int) by omega), hw, if_pos (show ((a + k : Nat) : Int) < (l.length : Int) by omega), rd_at l (a + k) hin]
      have J2 : ∀ q : Bool, (q = decide (k = 9 ∧ l[a + k] > 1)) → Ev (fun n => impl_getVar.j2 n l a x k l[a + k] q) (tell a ((gv k (l[a + k] :: l.drop (a + k + 1))).map fun p => (x + 128 ^ k * p.1, k + p.2))) := by
        intro q hq
        refine EvS ?_
        unfold gv
        rw [if_neg (show ¬ 10 ≤ k by omega)]
        by_cases h9 : k = 9 ∧ l[a + k] > 1
        · rw [decide_eq_true h9] at hq
          subst hq
          simp only [impl_getVar.j2, if_true, if_pos h9]
          exact EvN
        · rw [decide_eq_false h9] at hq
          subst hq
          have hor := or_shl x (l[a + k] % 128) k h0 h1 hb0 hlt (by omega) (fun h => by
            have : l[a + k] ≤ 1 := by
              by_cases h2 : l[a + k] > 1
              · exact absurd ⟨h, h2⟩ h9
              · omega
            omega)
          simp only [impl_getVar.j2, Bool.false_eq_true, if_false, if_neg h9, hw7, if_pos (show 0 ≤ 7 * (k : Int) by omega), and127 _ hb.1 hb.2, hor, hw]
          by_cases h128 : l[a + k] ≥ 128
          · simp only [if_pos h128, w64 (show -9223372036854775808 ≤ (k : Int) + 1 by omega) (show (k : Int) + 1 ≤ 9223372036854775807 by omega)]
            have h3 := hih _ hx0' hx'
            rw [show a + (k + 1) = a + k + 1 by omega] at h3
            have ecast : ((k + 1 : Nat) : Int) = (k : Int) + 1 := by omega
            rw [ecast] at h3
            cases hg : gv (k + 1) (l.drop (a + k + 1)) with
            | none => rw [hg] at h3; exact h3
            | some p =>
              rw [hg] at h3
              simp only [Option.map_some] at h3 ⊢
              have e1 : x + 128 ^ k * (l[a + k] % 128) + 128 ^ (k + 1) * p.1 = x + 128 ^ k * (l[a + k] % 128 + 128 * p.1) := by
                rw [pow7, Int.mul_add, show (128 : Int) * 128 ^ k * p.1 = 128 ^ k * (128 * p.1) by rw [Int.mul_comm 128, Int.mul_assoc]]
                omega
              rw [e1, show k + 1 + p.2 = k + (p.2 + 1) by omega] at h3
              exact h3
          · simp only [if_neg h128]
            have e7 : wrap64 (((a + k : Nat) : Int) + 1) = (a : Int) + ((k + 1 : Nat) : Int) := by rw [w64 (by omega) (by omega)]; omega
            have em : l[a + k] % 128 = l[a + k] := by omega
            by_cases hz : l[a + k] = 0
            · by_cases hkp : 0 < k
              · simp only [if_pos hz, if_pos (show (k : Int) > 0 by omega), if_pos (show l[a + k] = 0 ∧ 0 < k from ⟨hz, hkp⟩)]
                exact EvN
              · simp only [if_pos hz, if_neg (show ¬ (k : Int) > 0 by omega), if_neg (show ¬ (l[a + k] = 0 ∧ 0 < k) from fun h => hkp h.2), e7, em]
                exact EvN
            · simp only [if_neg hz, if_neg (show ¬ (l[a + k] = 0 ∧ 0 < k) from fun h => hz h.1), e7, em]
              exact EvN
      by_cases h9 : (k : Int) = 9
      · simp only [if_pos h9]
        refine J2 _ ?_
        simp [hk9.1 h9]
      · simp only [if_neg h9]
        refine J2 _ ?_
        rw [decide_eq_false (fun h => h9 (hk9.2 h.1))]
    · rw [List.drop_eq_nil_of_le (by omega), decide_eq_false (show ¬ ((a + k : Nat) : Int) < (l.length : Int) by omega)]
      refine EvS ?_
      simp only [impl_getVar.j1, Bool.false_eq_true, if_false]
      exact EvN
theorem impl_getV (l : List Int) (a : Nat) (hu : U8s l) (hl : l.length ≤ 4000) (ha : a ≤ l.length) : Ev (fun n => impl_getVar.f n l a) (tell a (gv 0 (l.drop a))) := by
  have h := impl_get l a hu hl ha 10 0 rfl 0 (Int.le_refl _) (by show (0 : Int) < 1; omega)
  have e : ((gv 0 (l.drop (a + 0))).map fun p => ((0 : Int) + 128 ^ 0 * p.1, 0 + p.2)) = gv 0 (l.drop a) := by
    rw [Nat.add_zero]
    cases gv 0 (l.drop a) with
    | none => rfl
    | some p =>
      have : (128 : Int) ^ 0 = 1 := rfl
      simp only [Option.map_some, this, Int.one_mul, Int.zero_add, Nat.zero_add]
  rw [e] at h
  unfold impl_getVar.f
  exact h
/-- The answer at any arguments. -/
def getM (l : List Int) (a : Int) : Int × Int × Bool := if (l.length : Int) > 4000 ∨ a < 0 ∨ a ≥ (l.length : Int) then (0, 0, false) else tell a (gv 0 (l.drop a.toNat))
theorem impl_getVar (l : List Int) (a : Int) (hu : U8s l) : Ev (fun n => impl_GetVar.f n l a) (getM l a) := by
  unfold impl_GetVar.f getM
  by_cases h1 : (l.length : Int) > 4000
  · simp only [if_pos h1, h1, true_or, if_true]; exact EvN
  · by_cases h2 : a < 0
    · simp only [if_neg h1, if_pos h2, h2, true_or, or_true, if_true]; exact EvN
    · by_cases h3 : a ≥ (l.length : Int)
      · simp only [if_neg h1, if_neg h2, if_pos h3, h3, or_true, if_true]; exact EvN
      · obtain ⟨n, rfl⟩ := Int.eq_ofNat_of_zero_le (show 0 ≤ a by omega)
        simp only [if_neg h1, if_neg h2, if_neg h3, h1, h2, h3, or_false, if_false, EvB (impl_getV l n hu (by omega) (by omega)), Int.toNat_natCast]
        exact EvN
end Go.Proofs.Ytgdebfaoohjikaa.VI

namespace Go.Proofs.Ytgdebfaoohjikaa.VI
set_option linter.unusedVariables false
set_option linter.unusedSimpArgs false
open Go.RowKit Go.Proofs.Ytgdebfaoohjikaa.F Go.Proofs.Ytgdebfaoohjikaa.PK Go.Proofs.YtgdebfaoohjikaaW.PrintWords Go.Proofs.YtgdebfaoohjikaaW.PrintLast Go.Proofs.YtgdebfaoohjikaaW.PrintMore
open Go.Proofs.Ytgdebfaoohjikaa.BY
theorem spec_end (l : List Int) (a : Int) (hl : l.length ≤ 4000) (R : Int × Int × Bool) : ∀ (hs : List Int) (i : Nat) (tl : List Int), l.drop i = hs ++ tl → i ≤ l.length → (∀ b ∈ hs, 128 ≤ b) → (∀ c r, tl = c :: r → c ≤ 127) →
    Ev (fun k => spec_GetVar.j2 k l a ((i + hs.length : Nat) : Int)) R → Ev (fun k => spec_GetVar.l0 k l a i) R := by
  intro hs
  induction hs with
  | nil =>
    intro i tl hd hi _ ht h
    refine EvS ?_
    by_cases hin : i < l.length
    · rw [drop_at l i hin] at hd
      have := ht l[i] _ hd.symm
      simp only [spec_GetVar.l0, if_pos (show (i : Int) < (l.length : Int) by omega), if_pos (show 0 ≤ (i : Int) by omega), rd_at l i hin, if_neg (show ¬ l[i] > 127 by omega)]
      exact h
    · simp only [spec_GetVar.l0, if_neg (show ¬ (i : Int) < (l.length : Int) by omega)]
      exact h
  | cons b r ih =>
    intro i tl hd hi hb ht h
    have hin : i < l.length := by
      rcases Nat.lt_or_ge i l.length with h | h
      · exact h
      · rw [List.drop_eq_nil_of_le h] at hd
        cases hd
    rw [drop_at l i hin] at hd
    injection hd with hd1 hd2
    have hbb := hb b (List.mem_cons_self ..)
    refine EvS ?_
    simp only [spec_GetVar.l0, if_pos (show (i : Int) < (l.length : Int) by omega), if_pos (show 0 ≤ (i : Int) by omega), rd_at l i hin, hd1, if_pos (show b > 127 by omega), nxt i _ hin (by omega)]
    refine ih (i + 1) tl hd2 (by omega) (fun b' hb' => hb b' (List.mem_cons_of_mem _ hb')) ht ?_
    rw [show i + 1 + r.length = i + (b :: r).length by simp only [List.length_cons]; omega]
    exact h
theorem dec_drop (bs : List Int) (j : Nat) (h : j < bs.length) : dec (bs.drop j) = bs[j] % 128 + 128 * dec (bs.drop (j + 1)) := by rw [drop_at bs j h]; rfl
theorem spec_back (l : List Int) (a : Nat) (e : Int) (hl : l.length ≤ 4000) (bs : List Int) (hu : U8s bs) (hbs : ∀ j (h : j < bs.length), ∃ h' : a + j < l.length, l[a + j] = bs[j]) (R : Int × Int × Bool)
    (h : Ev (fun k => spec_GetVar.l1 k l a e (dec bs % 18446744073709551616) ((a : Int) - 1)) R) :
    ∀ j, j ≤ bs.length → Ev (fun k => spec_GetVar.l1 k l a e (dec (bs.drop j) % 18446744073709551616) ((a : Int) + j - 1)) R := by
  intro j
  induction j with
  | zero =>
    intro _
    rw [show (a : Int) + ((0 : Nat) : Int) - 1 = (a : Int) - 1 by omega]
    exact h
  | succ j ih =>
    intro hj
    have hjl : j < bs.length := by omega
    obtain ⟨hin, he⟩ := hbs j hjl
    have hb := hu _ (List.getElem_mem hjl)
    have ei : (a : Int) + ((j + 1 : Nat) : Int) - 1 = ((a + j : Nat) : Int) := by omega
    rw [ei]
    refine EvS ?_
    have e1 : Int.tmod (IntKind.u64.wrap bs[j]) 128 = bs[j] % 128 := by rw [wu64 hb.1 (by omega), Int.tmod_eq_emod_of_nonneg hb.1]
    have e2 : IntKind.u64.wrap (IntKind.u64.wrap (dec (bs.drop (j + 1)) % 18446744073709551616 * 128) + bs[j] % 128) = dec (bs.drop j) % 18446744073709551616 := by
      rw [IntKind.wrap_u64, IntKind.wrap_u64, dec_drop bs j hjl]
      omega
    simp only [spec_GetVar.l1, if_pos (show ((a + j : Nat) : Int) ≥ (a : Int) by omega), if_pos (show 0 ≤ ((a + j : Nat) : Int) by omega), if_pos (show ((a + j : Nat) : Int) < (l.length : Int) by omega), rd_at l (a + j) hin, he, e1, e2, w64 (show -9223372036854775808 ≤ ((a + j : Nat) : Int) - 1 by omega) (show ((a + j : Nat) : Int) - 1 ≤ 9223372036854775807 by omega)]
    have := ih (by omega)
    rw [show (a : Int) + (j : Int) - 1 = ((a + j : Nat) : Int) - 1 by omega] at this
    exact this
theorem spec_getV (l : List Int) (a : Nat) (hu : U8s l) (hl : l.length ≤ 4000) (ha : a ≤ l.length) : Ev (fun n => spec_GetVar.l0 n l a a) (tell a (gv 0 (l.drop a))) := by
  obtain ⟨hs, tl, hd, hb, ht⟩ := split_lead (l.drop a)
  have hlen : hs.length + tl.length = l.length - a := by rw [← List.length_append, ← hd, List.length_drop]
  have hu' : U8s (l.drop a) := fun b h => hu b (List.mem_of_mem_drop h)
  have hbb : ∀ b ∈ hs, 128 ≤ b ∧ b ≤ 255 := fun b h => ⟨hb b h, (hu' b (by rw [hd]; exact List.mem_append_left _ h)).2⟩
  refine spec_end l a hl _ hs a tl hd ha hb ht ?_
  rw [hd]
  refine EvS ?_
  cases tl with
  | nil =>
    simp only [List.length_nil, Nat.add_zero] at hlen
    rw [List.append_nil, gv_all hs 0 hb]
    simp only [spec_GetVar.j2, if_pos (show ((a + hs.length : Nat) : Int) = (l.length : Int) by omega)]
    refine EvS ?_
    simp only [spec_GetVar.j3, if_true]
    exact EvN
  | cons c tl =>
    simp only [List.length_cons] at hlen
    have hc1 := ht c tl rfl
    have hc0 : 0 ≤ c := (hu' c (by rw [hd]; simp)).1
    simp only [spec_GetVar.j2, if_neg (show ¬ ((a + hs.length : Nat) : Int) = (l.length : Int) by omega), w64 (show -9223372036854775808 ≤ ((a + hs.length : Nat) : Int) - a by omega) (show ((a + hs.length : Nat) : Int) - a ≤ 9223372036854775807 by omega)]
    refine EvS ?_
    by_cases h9 : hs.length ≤ 9
    · rw [decide_eq_false (show ¬ ((a + hs.length : Nat) : Int) - a > 9 by omega)]
      simp only [spec_GetVar.j3, Bool.false_eq_true, if_false]
      have hbs : ∀ j (h : j < (hs ++ [c]).length), ∃ h' : a + j < l.length, l[a + j] = (hs ++ [c])[j] := by
        intro j h
        have hj : j < hs.length + 1 := by simpa using h
        refine ⟨by omega, ?_⟩
        have e1 : (l.drop a)[j]? = some l[a + j] := by rw [List.getElem?_drop, List.getElem?_eq_getElem (by omega)]
        have e2 : (hs ++ c :: tl)[j]? = (hs ++ [c])[j]? := by
          rw [show hs ++ c :: tl = (hs ++ [c]) ++ tl by simp]
          exact List.getElem?_append_left (by simpa using hj)
        rw [hd, e2, List.getElem?_eq_getElem h] at e1
        exact (Option.some.inj e1).symm
      have hub : U8s (hs ++ [c]) := fun b h => by
        rcases List.mem_append.1 h with h | h
        · have := hbb b h; omega
        · rw [List.mem_singleton.1 h]; omega
      have hseg : (l.take (a + hs.length + 1)).drop a = hs ++ [c] := by
        rw [List.drop_take, hd, show a + hs.length + 1 - a = hs.length + 1 by omega, show hs ++ c :: tl = (hs ++ [c]) ++ tl by simp]
        rw [List.take_left' (by simp)]
      have h := spec_back l a ((a + hs.length : Nat) : Int) hl (hs ++ [c]) hub hbs (tell a (gv 0 (hs ++ c :: tl))) (by
        refine EvS ?_
        have hm0 : 0 ≤ dec (hs ++ [c]) % 18446744073709551616 := Int.emod_nonneg _ (by omega)
        have hm1 : dec (hs ++ [c]) % 18446744073709551616 < 18446744073709551616 := Int.emod_lt_of_pos _ (by omega)
        have ew : wrap64 (((a + hs.length : Nat) : Int) + 1) = ((a + hs.length + 1 : Nat) : Int) := by rw [w64 (by omega) (by omega)]; omega
        have hsame := l01Same (pv 9 (dec (hs ++ [c]) % 18446744073709551616)) (hs ++ [c]) (by have := pv_le 9 (dec (hs ++ [c]) % 18446744073709551616); omega)
        simp only [spec_GetVar.l1, if_neg (show ¬ (a : Int) - 1 ≥ (a : Int) by omega), EvB (spec_putVar _ hm0 hm1), if_pos (show 0 ≤ (a : Int) by omega), ew, if_pos (show (a : Int) ≤ ((a + hs.length + 1 : Nat) : Int) by omega), if_pos (show ((a + hs.length + 1 : Nat) : Int) ≤ (l.length : Int) by omega), Int.toNat_natCast, hseg, EvB hsame]
        rw [gv_lead hs 0 c tl hbb hc0 hc1 (by omega)]
        simp only [Nat.zero_add]
        have hiff := pv_iff hs c hbb hc0 hc1 h9
        by_cases hcan : (hs.length = 9 ∧ c > 1) ∨ (c = 0 ∧ 0 < hs.length)
        · rw [if_pos hcan, decide_eq_false (fun h => (hiff.1 h) hcan)]
          simp only [Bool.false_eq_true, if_false]
          exact EvN
        · have heq := hiff.2 hcan
          rw [if_neg hcan, decide_eq_true heq]
          have hval : dec (hs ++ [c]) % 18446744073709551616 = dec (hs ++ [c]) := by
            have := dec_pv 9 (dec (hs ++ [c]) % 18446744073709551616) hm0 (by rw [p70]; omega)
            rw [heq] at this
            exact this.symm
          simp only [if_true]
          rw [hval]
          have e9 : (a : Int) + ((hs.length + 1 : Nat) : Int) = ((a + hs.length + 1 : Nat) : Int) := by omega
          unfold tell
          simp only [e9]
          exact EvN) (hs.length + 1) (by simp)
      have ed : (hs ++ [c]).drop (hs.length + 1) = [] := List.drop_eq_nil_of_le (by simp)
      rw [ed, show (a : Int) + ((hs.length + 1 : Nat) : Int) - 1 = ((a + hs.length : Nat) : Int) by omega] at h
      exact h
    · rw [decide_eq_true (show ((a + hs.length : Nat) : Int) - a > 9 by omega), gv_long hs 0 (c :: tl) hb (by omega)]
      simp only [spec_GetVar.j3, if_true]
      exact EvN
theorem spec_In (x lo hi : Int) : spec_l01In.f x lo hi = some (decide (lo ≤ x ∧ x ≤ hi)) := by
  unfold spec_l01In.f
  by_cases h : lo ≤ x <;> simp [h]
theorem spec_getVar (l : List Int) (a : Int) (hu : U8s l) : Ev (fun n => spec_GetVar.f n l a) (getM l a) := by
  unfold spec_GetVar.f getM
  by_cases h1 : (l.length : Int) > 4000
  · simp only [if_pos h1, h1, true_or, if_true]
    refine EvS ?_
    simp only [spec_GetVar.j0, if_true]
    exact EvN
  · simp only [if_neg h1, spec_In, Option.bind_some, w64 (show -9223372036854775808 ≤ (l.length : Int) - 1 by omega) (show (l.length : Int) - 1 ≤ 9223372036854775807 by omega)]
    refine EvS ?_
    by_cases h2 : 0 ≤ a ∧ a ≤ (l.length : Int) - 1
    · rw [decide_eq_true h2, if_neg (by omega)]
      obtain ⟨n, rfl⟩ := Int.eq_ofNat_of_zero_le h2.1
      simp only [spec_GetVar.j0, Bool.not_true, Bool.false_eq_true, if_false, Int.toNat_natCast]
      exact spec_getV l n hu (by omega) (by omega)
    · rw [decide_eq_false h2, if_pos (by omega)]
      simp only [spec_GetVar.j0, Bool.not_false, if_true]
      exact EvN
end Go.Proofs.Ytgdebfaoohjikaa.VI

namespace Go.Proofs.Ytgdebfaoohjikaa.F
open Go.RowKit Go.Proofs.YtgdebfaoohjikaaW.PrintWords Go.Proofs.YtgdebfaoohjikaaW.PrintLast Go.Proofs.YtgdebfaoohjikaaW.PrintMore
attribute [local go_sem] max2_int min2_int max_two min_two max_three min_three max_four min_four   -- for this text's walks alone
set_option linter.unusedVariables false
set_option linter.unusedSimpArgs false

/-! ### laws_szUint64S: function 52 -/
def laws_szUint64S.f (l0 : List Int) (a1 : Int) : Option (Int) := if (wrap64 (a1 - (l0.length : Int))) < 0 then (some (-1)) else (some (wrap64 (a1 - (l0.length : Int))))
set_option maxHeartbeats 8000000 in
set_option maxRecDepth 100000 in
theorem laws_szUint64S.calls (A0 : Option Addr) (c0 : Nat) (l0 : List Int) (a1 : Int) (r : Int) (w : World) (hr0 : Kd.C (Kd.int .u64) w A0 l0.length l0) (hc0 : l0.length ≤ c0) (h : laws_szUint64S.f l0 a1 = some r) :
    Calls Try.prog 52 #[.slice A0 l0.length c0, .int .i64 a1] w fun e w' => e = .returned (.int .i64 r) ∧ Drawn0 w w' := by
  have HR0 := Aside0.mk hr0
  have HC0 := Aside0.mk hc0
  clear hr0 hc0
  have H : (if (wrap64 (a1 - (l0.length : Int))) < 0 then (some (-1)) else (some (wrap64 (a1 - (l0.length : Int))))) = some r := h
  clear h
  by_cases c3 : (wrap64 (a1 - (l0.length : Int))) < 0
  · rw [if_pos c3] at H
    have c3b0 : decide ((wrap64 (a1 - (l0.length : Int))) < 0) = true := decide_eq_true c3
    clear c3
    obtain rfl := Option.some.inj H
    go_enter Try.func52, Try.ntmps52
    go_wp2
    go_ret
    exact ⟨by first | rfl | (simp; done) | (simp [*]; done), by repeat (first | exact Drawn0.refl _ | apply Drawn0.step)⟩
  · rw [if_neg c3] at H
    have c3b0 : decide ((wrap64 (a1 - (l0.length : Int))) < 0) = false := decide_eq_false c3
    clear c3
    obtain rfl := Option.some.inj H
    go_enter Try.func52, Try.ntmps52
    go_wp2
    go_ret
    exact ⟨by first | rfl | (simp; done) | (simp [*]; done), by repeat (first | exact Drawn0.refl _ | apply Drawn0.step)⟩

end Go.Proofs.Ytgdebfaoohjikaa.F

namespace Go.Proofs.Ytgdebfaoohjikaa.F
open Go.RowKit Go.Proofs.YtgdebfaoohjikaaW.PrintWords Go.Proofs.YtgdebfaoohjikaaW.PrintLast Go.Proofs.YtgdebfaoohjikaaW.PrintMore
attribute [local go_sem] max2_int min2_int max_two min_two max_three min_three max_four min_four   -- for this text's walks alone
set_option linter.unusedVariables false
set_option linter.unusedSimpArgs false

/-! ### laws_szStringS: function 53 -/
def laws_szStringS.l0 : Nat → List ByteArray → Int → Int → Option (Int)
  | 0, _, _, _ => none
  | k + 1, x0, x1, x5 => if x5 < (x0.length : Int) then (if 0 ≤ x5 then (if (wrap64 (x1 - ((rdOf ByteArray.empty x0 x5).size : Int))) < 0 then (some (-1)) else (laws_szStringS.l0 k x0 (wrap64 (x1 - ((rdOf ByteArray.empty x0 x5).size : Int))) (wrap64 (x5 + 1)))) else (none)) else (some x1)
def laws_szStringS.f (k : Nat) (l0 : List ByteArray) (a1 : Int) : Option (Int) := if (wrap64 (a1 - (l0.length : Int))) < 0 then (some (-1)) else (laws_szStringS.l0 k l0 (wrap64 (a1 - (l0.length : Int))) 0)
theorem laws_szStringS.mono_l : ∀ k, (∀ y0 y1 y2, LeO (laws_szStringS.l0 k y0 y1 y2) (laws_szStringS.l0 (k + 1) y0 y1 y2))
  | 0 => fun _ _ _ r h => by simp [laws_szStringS.l0] at h
  | k + 1 => by
    have ih0 := laws_szStringS.mono_l k
    · intro y0 y1 y2
      unfold laws_szStringS.l0
      repeat' first
      | (with_reducible exact ih0 _ _ _)
      | (with_reducible exact LeO.refl _)
      | (with_reducible exact LeO.none _)
      | (with_reducible refine LeO.ite ?_ ?_)
      | (with_reducible refine LeO.bind ?_ (fun _ => ?_))
      | exact ih0 _ _ _
      | exact LeO.none _
      | refine LeO.ite ?_ ?_
      | refine LeO.bind ?_ (fun _ => ?_)
theorem laws_szStringS.mono : ∀ a0 a1 k, LeO (laws_szStringS.f k a0 a1) (laws_szStringS.f (k + 1) a0 a1) := by
  intro a0 a1 k
  have ih0 := laws_szStringS.mono_l k
  unfold laws_szStringS.f
  repeat' first
      | (with_reducible exact ih0 _ _ _)
      | (with_reducible exact LeO.refl _)
      | (with_reducible exact LeO.none _)
      | (with_reducible refine LeO.ite ?_ ?_)
      | (with_reducible refine LeO.bind ?_ (fun _ => ?_))
      | exact ih0 _ _ _
      | exact LeO.none _
      | refine LeO.ite ?_ ?_
      | refine LeO.bind ?_ (fun _ => ?_)
set_option maxHeartbeats 8000000 in
set_option maxRecDepth 100000 in
theorem laws_szStringS.calls (k : Nat) (A0 : Option Addr) (c0 : Nat) (l0 : List ByteArray) (a1 : Int) (r : Int) (w : World) (hr0 : Kd.C Kd.string w A0 l0.length l0) (hc0 : l0.length ≤ c0) (h : laws_szStringS.f k l0 a1 = some r) :
    Calls Try.prog 53 #[.slice A0 l0.length c0, .int .i64 a1] w fun e w' => e = .returned (.int .i64 r) ∧ Drawn0 w w' := by
  have HR0 := Aside0.mk hr0
  have HC0 := Aside0.mk hc0
  clear hr0 hc0
  have H : (if (wrap64 (a1 - (l0.length : Int))) < 0 then (some (-1)) else (laws_szStringS.l0 k l0 (wrap64 (a1 - (l0.length : Int))) 0)) = some r := h
  clear h
  by_cases c3 : (wrap64 (a1 - (l0.length : Int))) < 0
  · rw [if_pos c3] at H
    have c3b0 : decide ((wrap64 (a1 - (l0.length : Int))) < 0) = true := decide_eq_true c3
    clear c3
    obtain rfl := Option.some.inj H
    go_enter Try.func53, Try.ntmps53
    go_wp2
    go_ret
    exact ⟨by first | rfl | (simp; done) | (simp [*]; done), by repeat (first | exact Drawn0.refl _ | apply Drawn0.step)⟩
  · rw [if_neg c3] at H
    have c3b0 : decide ((wrap64 (a1 - (l0.length : Int))) < 0) = false := decide_eq_false c3
    clear c3
    have H' := Aside0.mk H
    clear H
    go_enter Try.func53, Try.ntmps53
    go_wp2
    go_loopg [1, 5] k (fun kq v1 v5 w' => ∃ (x1_1 : Int) (x5_1 : Int), v1 = .int .i64 x1_1 ∧ v5 = .int .i64 x5_1 ∧ Aside0 (laws_szStringS.l0 kq l0 x1_1 x5_1 = some r) ∧ Aside0 (kq ≤ k) ∧ Drawn0 w w')
    case atStart => exact ⟨(wrap64 (a1 - (l0.length : Int))), (0), (by first | rfl | (simp; done) | (simp [*]; done)), (by first | rfl | (simp; done) | (simp [*]; done)), H', ⟨Nat.le_refl _⟩, by repeat (first | exact Drawn0.refl _ | apply Drawn0.step)⟩
    case round =>
      clear H'
      try clear p2
      try clear c3
      try clear c3b0
      obtain ⟨x1_1, x5_1, rfl, rfl, HA, HK1, ⟨m1, rfl⟩⟩ := hrel
      cases gk with
      | zero => exact absurd HA.out (by simp [laws_szStringS.l0])
      | succ k1 =>
        have H := HA.out
        clear HA
        simp only [laws_szStringS.l0] at H
        by_cases c4 : x5_1 < (l0.length : Int)
        · rw [if_pos c4] at H
          have c4b0 : decide (x5_1 < (l0.length : Int)) = true := decide_eq_true c4
          clear c4
          by_cases c5 : 0 ≤ x5_1
          · rw [if_pos c5] at H
            have c5b0 : decide (0 ≤ x5_1) = true := decide_eq_true c5
            clear c5
            by_cases c6 : (wrap64 (x1_1 - ((rdOf ByteArray.empty l0 x5_1).size : Int))) < 0
            · rw [if_pos c6] at H
              have c6b0 : decide ((wrap64 (x1_1 - ((rdOf ByteArray.empty l0 x5_1).size : Int))) < 0) = true := decide_eq_true c6
              clear c6
              obtain rfl := Option.some.inj H
              have p224 : 0 ≤ (x5_1 : Int) := of_decide_eq_true (by first | (with_reducible assumption) | assumption)
              have q224 : x5_1 < (l0.length : Int) := of_decide_eq_true (by first | (with_reducible assumption) | assumption)
              obtain ⟨ad224, e224, hx224_0⟩ := Kd.at_string HR0.out x5_1 p224 q224
              cases e224
              replace p224 := eq_true p224
              replace q224 := eq_true q224
              go_wp2
              go_ret
              exact ⟨by first | rfl | (simp; done) | (simp [*]; done), by repeat (first | exact Drawn0.refl _ | apply Drawn0.step)⟩
            · rw [if_neg c6] at H
              have c6b0 : decide ((wrap64 (x1_1 - ((rdOf ByteArray.empty l0 x5_1).size : Int))) < 0) = false := decide_eq_false c6
              clear c6
              have H' := Aside0.mk H
              clear H
              have p224 : 0 ≤ (x5_1 : Int) := of_decide_eq_true (by first | (with_reducible assumption) | assumption)
              have q224 : x5_1 < (l0.length : Int) := of_decide_eq_true (by first | (with_reducible assumption) | assumption)
              obtain ⟨ad224, e224, hx224_0⟩ := Kd.at_string HR0.out x5_1 p224 q224
              cases e224
              replace p224 := eq_true p224
              replace q224 := eq_true q224
              go_wp2
              go_roundg k1
              case measure => have := HK1.out; omega
              case rel => exact ⟨(wrap64 (x1_1 - ((rdOf ByteArray.empty l0 x5_1).size : Int))), (wrap64 (x5_1 + 1)), (by first | rfl | (simp; done) | (simp [*]; done)), (by first | rfl | (simp; done) | (simp [*]; done)), H', ⟨by have := HK1.out; omega⟩, by repeat (first | exact Drawn0.refl _ | apply Drawn0.step)⟩
          · rw [if_neg c5] at H
            exact absurd H (by simp)
        · rw [if_neg c4] at H
          have c4b0 : decide (x5_1 < (l0.length : Int)) = false := decide_eq_false c4
          clear c4
          obtain rfl := Option.some.inj H
          go_wp2
          go_ret
          exact ⟨by first | rfl | (simp; done) | (simp [*]; done), by repeat (first | exact Drawn0.refl _ | apply Drawn0.step)⟩

end Go.Proofs.Ytgdebfaoohjikaa.F

namespace Go.Proofs.Ytgdebfaoohjikaa.F
open Go.RowKit Go.Proofs.YtgdebfaoohjikaaW.PrintWords Go.Proofs.YtgdebfaoohjikaaW.PrintLast Go.Proofs.YtgdebfaoohjikaaW.PrintMore
attribute [local go_sem] max2_int min2_int max_two min_two max_three min_three max_four min_four   -- for this text's walks alone
set_option linter.unusedVariables false
set_option linter.unusedSimpArgs false

/-! ### laws_szRecord: function 24 -/
def laws_szRecord.f (k : Nat) (a0_0 : Int) (l0_1 : List Int) (l0_2 : List ByteArray) (a1 : Int) : Option (Int) := (laws_szUint64S.f l0_1 a1).bind fun t226 => (if t226 < 0 then (some (-1)) else ((laws_szStringS.f k l0_2 t226).bind fun t227 => (if t227 < 0 then (some (-1)) else (some t227))))
theorem laws_szRecord.mono : ∀ a0 a1 a2 a3 k, LeO (laws_szRecord.f k a0 a1 a2 a3) (laws_szRecord.f (k + 1) a0 a1 a2 a3) := by
  intro a0 a1 a2 a3 k
  unfold laws_szRecord.f
  repeat' first
      | (with_reducible exact laws_szStringS.mono _ _ _)
      | (with_reducible exact LeO.refl _)
      | (with_reducible exact LeO.none _)
      | (with_reducible refine LeO.ite ?_ ?_)
      | (with_reducible refine LeO.bind ?_ (fun _ => ?_))
      | exact laws_szStringS.mono _ _ _
      | exact LeO.none _
      | refine LeO.ite ?_ ?_
      | refine LeO.bind ?_ (fun _ => ?_)
set_option maxHeartbeats 8000000 in
set_option maxRecDepth 100000 in
theorem laws_szRecord.calls (k : Nat) (a0_0 : Int) (A0_1 : Option Addr) (c0_1 : Nat) (l0_1 : List Int) (A0_2 : Option Addr) (c0_2 : Nat) (l0_2 : List ByteArray) (a1 : Int) (r : Int) (w : World) (hr0_1 : Kd.C (Kd.int .u64) w A0_1 l0_1.length l0_1) (hc0_1 : l0_1.length ≤ c0_1) (hr0_2 : Kd.C Kd.string w A0_2 l0_2.length l0_2) (hc0_2 : l0_2.length ≤ c0_2) (h : laws_szRecord.f k a0_0 l0_1 l0_2 a1 = some r) :
    Calls Try.prog 24 #[.agg #[.int .i64 a0_0, .slice A0_1 l0_1.length c0_1, .slice A0_2 l0_2.length c0_2], .int .i64 a1] w fun e w' => e = .returned (.int .i64 r) ∧ Below w.heap.size w w' := by
  have hu39 := Try.underlying39
  have HR0_1 := Aside0.mk hr0_1
  have HC0_1 := Aside0.mk hc0_1
  clear hr0_1 hc0_1
  have HR0_2 := Aside0.mk hr0_2
  have HC0_2 := Aside0.mk hc0_2
  clear hr0_2 hc0_2
  have HB := Aside0.mk (Below.refl w.heap.size w)
  have H : ((laws_szUint64S.f l0_1 a1).bind fun t226 => (if t226 < 0 then (some (-1)) else ((laws_szStringS.f k l0_2 t226).bind fun t227 => (if t227 < 0 then (some (-1)) else (some t227))))) = some r := h
  clear h
  replace H := Option.bind_eq_some_iff.mp H
  obtain ⟨t226, A30, H⟩ := H
  replace H : (if t226 < 0 then (some (-1)) else ((laws_szStringS.f k l0_2 t226).bind fun t227 => (if t227 < 0 then (some (-1)) else (some t227)))) = some r := H
  have A3 := Aside0.mk A30
  clear A30
  by_cases c4 : t226 < 0
  · rw [if_pos c4] at H
    have c4b0 : decide (t226 < 0) = true := decide_eq_true c4
    clear c4
    obtain rfl := Option.some.inj H
    go_enter Try.func24, Try.ntmps24
    go_wp2_with (first | ((with_reducible refine gate_dst (N := 2) rfl ?_); refine box_event ?hg (N := 2) ?hd (cs := #[.int .i64 a0_0, .slice A0_1 l0_1.length c0_1, .slice A0_2 l0_2.length c0_2]) (t := 39) ?hr ?_; (case hd => rfl); (case hg => rfl); (case hr => first | (go_simp; done) | (go_simp; rfl)); intro gb225 hg w5 hbox hb; have n0_ := Aside0.mk (below_step (by repeat (first | (with_reducible first | exact HB.out | apply below_alloc | apply pw_below_drewN | apply below_drew1) | exact HB.out)) hb); have n1_ := Aside0.mk (hbox); have n2_ := Aside0.mk ((by rw [hg]; exact (below_size (by repeat (first | (with_reducible first | exact HB.out | apply below_alloc | apply pw_below_drewN | apply below_drew1) | exact HB.out))) : w.heap.size ≤ gb225)); have n3_ := Aside0.mk ((by rw [hg]; exact (below_size (by repeat (first | (with_reducible first | exact HB.out | apply below_alloc | apply pw_below_drewN | apply below_drew1) | exact HB.out))) : w.heap.size ≤ gb225)); clear HB; have HB := n0_; have BK225 := n1_; have GW225 := n2_; have GE225 := n3_; clear n0_ n1_ n2_ n3_; clear hb hbox hg; have hcz6_0 : w5.cell? ⟨gb225, 0, none⟩ = some (.int .i64 a0_0) := (blk_cell BK225.out 0).trans rfl; have hcz6_1 : w5.cell? ⟨gb225, 1, none⟩ = some (.slice A0_1 l0_1.length c0_1) := (blk_cell BK225.out 1).trans rfl; have hcz6_2 : w5.cell? ⟨gb225, 2, none⟩ = some (.slice A0_2 l0_2.length c0_2) := (blk_cell BK225.out 2).trans rfl; have hfz6_0 := blk_frozen BK225.out 0; have hfz6_1 := blk_frozen BK225.out 1; have hfz6_2 := blk_frozen BK225.out 2) | ((with_reducible refine gate_callee (f := 52) rfl ?_); refine goesL_ (some 8) rfl rfl Try.func52 (by kernel_rfl) rfl #[.slice A0_1 l0_1.length c0_1, .int .i64 a1] rfl (by (try simp only [List.map_toArray, List.map_cons, List.map_nil]); first | done | rfl | (simp only [List.length_drop, List.length_take]; rfl)) ?_; (with_reducible refine (laws_szUint64S.calls _ _ l0_1 a1 t226 _ ?side1 ?side2 A3.out).mono ?_); (case side1 => repeat (first | exact (Kd.C_below HR0_1.out HB.out) | (with_reducible refine Kd.C_alloc ?_ _) | (with_reducible refine Kd.C_drewN ?_ _) | (with_reducible refine Kd.C_drew ?_))); (case side2 => exact HC0_1.out); rintro e w' ⟨rfl, ⟨nd, rfl⟩⟩; refine ⟨_, rfl, ?_⟩))
    go_ret
    exact ⟨by first | rfl | (simp [errW_none, errW_some] <;> rfl) | (simp [*, errW_none, errW_some] <;> rfl), by repeat (first | (with_reducible first | exact HB.out | apply below_alloc | apply pw_below_drewN | apply below_drew1 | refine below_set ?_ GE225.out) | exact HB.out)⟩
  · rw [if_neg c4] at H
    have c4b0 : decide (t226 < 0) = false := decide_eq_false c4
    clear c4
    replace H := Option.bind_eq_some_iff.mp H
    obtain ⟨t227, A70, H⟩ := H
    replace H : (if t227 < 0 then (some (-1)) else (some t227)) = some r := H
    have A7 := Aside0.mk A70
    clear A70
    by_cases c8 : t227 < 0
    · rw [if_pos c8] at H
      have c8b0 : decide (t227 < 0) = true := decide_eq_true c8
      clear c8
      obtain rfl := Option.some.inj H
      go_enter Try.func24, Try.ntmps24
      go_wp2_with (first | ((with_reducible refine gate_dst (N := 2) rfl ?_); refine box_event ?hg (N := 2) ?hd (cs := #[.int .i64 a0_0, .slice A0_1 l0_1.length c0_1, .slice A0_2 l0_2.length c0_2]) (t := 39) ?hr ?_; (case hd => rfl); (case hg => rfl); (case hr => first | (go_simp; done) | (go_simp; rfl)); intro gb225 hg w9 hbox hb; have n0_ := Aside0.mk (below_step (by repeat (first | (with_reducible first | exact HB.out | apply below_alloc | apply pw_below_drewN | apply below_drew1) | exact HB.out)) hb); have n1_ := Aside0.mk (hbox); have n2_ := Aside0.mk ((by rw [hg]; exact (below_size (by repeat (first | (with_reducible first | exact HB.out | apply below_alloc | apply pw_below_drewN | apply below_drew1) | exact HB.out))) : w.heap.size ≤ gb225)); have n3_ := Aside0.mk ((by rw [hg]; exact (below_size (by repeat (first | (with_reducible first | exact HB.out | apply below_alloc | apply pw_below_drewN | apply below_drew1) | exact HB.out))) : w.heap.size ≤ gb225)); clear HB; have HB := n0_; have BK225 := n1_; have GW225 := n2_; have GE225 := n3_; clear n0_ n1_ n2_ n3_; clear hb hbox hg; have hcz10_0 : w9.cell? ⟨gb225, 0, none⟩ = some (.int .i64 a0_0) := (blk_cell BK225.out 0).trans rfl; have hcz10_1 : w9.cell? ⟨gb225, 1, none⟩ = some (.slice A0_1 l0_1.length c0_1) := (blk_cell BK225.out 1).trans rfl; have hcz10_2 : w9.cell? ⟨gb225, 2, none⟩ = some (.slice A0_2 l0_2.length c0_2) := (blk_cell BK225.out 2).trans rfl; have hfz10_0 := blk_frozen BK225.out 0; have hfz10_1 := blk_frozen BK225.out 1; have hfz10_2 := blk_frozen BK225.out 2) | ((with_reducible refine gate_callee (f := 52) rfl ?_); refine goesL_ (some 8) rfl rfl Try.func52 (by kernel_rfl) rfl #[.slice A0_1 l0_1.length c0_1, .int .i64 a1] rfl (by (try simp only [List.map_toArray, List.map_cons, List.map_nil]); first | done | rfl | (simp only [List.length_drop, List.length_take]; rfl)) ?_; (with_reducible refine (laws_szUint64S.calls _ _ l0_1 a1 t226 _ ?side1 ?side2 A3.out).mono ?_); (case side1 => repeat (first | exact (Kd.C_below HR0_1.out HB.out) | (with_reducible refine Kd.C_alloc ?_ _) | (with_reducible refine Kd.C_drewN ?_ _) | (with_reducible refine Kd.C_drew ?_))); (case side2 => exact HC0_1.out); rintro e w' ⟨rfl, ⟨nd, rfl⟩⟩; refine ⟨_, rfl, ?_⟩) | ((with_reducible refine gate_callee (f := 53) rfl ?_); refine goesL_ (some 14) rfl rfl Try.func53 (by kernel_rfl) rfl #[.slice A0_2 l0_2.length c0_2, .int .i64 t226] rfl (by (try simp only [List.map_toArray, List.map_cons, List.map_nil]); first | done | rfl | (simp only [List.length_drop, List.length_take]; rfl)) ?_; (with_reducible refine (laws_szStringS.calls k _ _ l0_2 t226 t227 _ ?side1 ?side2 A7.out).mono ?_); (case side1 => repeat (first | exact (Kd.C_below HR0_2.out (by repeat (first | (with_reducible first | exact HB.out | apply below_alloc | apply pw_below_drewN | apply below_drew1 | refine below_set ?_ GE225.out) | exact HB.out))) | (with_reducible refine Kd.C_alloc ?_ _) | (with_reducible refine Kd.C_drewN ?_ _) | (with_reducible refine Kd.C_drew ?_))); (case side2 => exact HC0_2.out); rintro e w' ⟨rfl, ⟨nd, rfl⟩⟩; refine ⟨_, rfl, ?_⟩))
      go_ret
      exact ⟨by first | rfl | (simp [errW_none, errW_some] <;> rfl) | (simp [*, errW_none, errW_some] <;> rfl), by repeat (first | (with_reducible first | exact HB.out | apply below_alloc | apply pw_below_drewN | apply below_drew1 | refine below_set ?_ GE225.out) | exact HB.out)⟩
    · rw [if_neg c8] at H
      have c8b0 : decide (t227 < 0) = false := decide_eq_false c8
      clear c8
      obtain rfl := Option.some.inj H
      go_enter Try.func24, Try.ntmps24
      go_wp2_with (first | ((with_reducible refine gate_dst (N := 2) rfl ?_); refine box_event ?hg (N := 2) ?hd (cs := #[.int .i64 a0_0, .slice A0_1 l0_1.length c0_1, .slice A0_2 l0_2.length c0_2]) (t := 39) ?hr ?_; (case hd => rfl); (case hg => rfl); (case hr => first | (go_simp; done) | (go_simp; rfl)); intro gb225 hg w11 hbox hb; have n0_ := Aside0.mk (below_step (by repeat (first | (with_reducible first | exact HB.out | apply below_alloc | apply pw_below_drewN | apply below_drew1) | exact HB.out)) hb); have n1_ := Aside0.mk (hbox); have n2_ := Aside0.mk ((by rw [hg]; exact (below_size (by repeat (first | (with_reducible first | exact HB.out | apply below_alloc | apply pw_below_drewN | apply below_drew1) | exact HB.out))) : w.heap.size ≤ gb225)); have n3_ := Aside0.mk ((by rw [hg]; exact (below_size (by repeat (first | (with_reducible first | exact HB.out | apply below_alloc | apply pw_below_drewN | apply below_drew1) | exact HB.out))) : w.heap.size ≤ gb225)); clear HB; have HB := n0_; have BK225 := n1_; have GW225 := n2_; have GE225 := n3_; clear n0_ n1_ n2_ n3_; clear hb hbox hg; have hcz12_0 : w11.cell? ⟨gb225, 0, none⟩ = some (.int .i64 a0_0) := (blk_cell BK225.out 0).trans rfl; have hcz12_1 : w11.cell? ⟨gb225, 1, none⟩ = some (.slice A0_1 l0_1.length c0_1) := (blk_cell BK225.out 1).trans rfl; have hcz12_2 : w11.cell? ⟨gb225, 2, none⟩ = some (.slice A0_2 l0_2.length c0_2) := (blk_cell BK225.out 2).trans rfl; have hfz12_0 := blk_frozen BK225.out 0; have hfz12_1 := blk_frozen BK225.out 1; have hfz12_2 := blk_frozen BK225.out 2) | ((with_reducible refine gate_callee (f := 52) rfl ?_); refine goesL_ (some 8) rfl rfl Try.func52 (by kernel_rfl) rfl #[.slice A0_1 l0_1.length c0_1, .int .i64 a1] rfl (by (try simp only [List.map_toArray, List.map_cons, List.map_nil]); first | done | rfl | (simp only [List.length_drop, List.length_take]; rfl)) ?_; (with_reducible refine (laws_szUint64S.calls _ _ l0_1 a1 t226 _ ?side1 ?side2 A3.out).mono ?_); (case side1 => repeat (first | exact (Kd.C_below HR0_1.out HB.out) | (with_reducible refine Kd.C_alloc ?_ _) | (with_reducible refine Kd.C_drewN ?_ _) | (with_reducible refine Kd.C_drew ?_))); (case side2 => exact HC0_1.out); rintro e w' ⟨rfl, ⟨nd, rfl⟩⟩; refine ⟨_, rfl, ?_⟩) | ((with_reducible refine gate_callee (f := 53) rfl ?_); refine goesL_ (some 14) rfl rfl Try.func53 (by kernel_rfl) rfl #[.slice A0_2 l0_2.length c0_2, .int .i64 t226] rfl (by (try simp only [List.map_toArray, List.map_cons, List.map_nil]); first | done | rfl | (simp only [List.length_drop, List.length_take]; rfl)) ?_; (with_reducible refine (laws_szStringS.calls k _ _ l0_2 t226 t227 _ ?side1 ?side2 A7.out).mono ?_); (case side1 => repeat (first | exact (Kd.C_below HR0_2.out (by repeat (first | (with_reducible first | exact HB.out | apply below_alloc | apply pw_below_drewN | apply below_drew1 | refine below_set ?_ GE225.out) | exact HB.out))) | (with_reducible refine Kd.C_alloc ?_ _) | (with_reducible refine Kd.C_drewN ?_ _) | (with_reducible refine Kd.C_drew ?_))); (case side2 => exact HC0_2.out); rintro e w' ⟨rfl, ⟨nd, rfl⟩⟩; refine ⟨_, rfl, ?_⟩))
      go_ret
      exact ⟨by first | rfl | (simp [errW_none, errW_some] <;> rfl) | (simp [*, errW_none, errW_some] <;> rfl), by repeat (first | (with_reducible first | exact HB.out | apply below_alloc | apply pw_below_drewN | apply below_drew1 | refine below_set ?_ GE225.out) | exact HB.out)⟩

end Go.Proofs.Ytgdebfaoohjikaa.F

namespace Go.Proofs.Ytgdebfaoohjikaa.F
open Go.RowKit Go.Proofs.YtgdebfaoohjikaaW.PrintWords Go.Proofs.YtgdebfaoohjikaaW.PrintLast Go.Proofs.YtgdebfaoohjikaaW.PrintMore
attribute [local go_sem] max2_int min2_int max_two min_two max_three min_three max_four min_four   -- for this text's walks alone
set_option linter.unusedVariables false
set_option linter.unusedSimpArgs false

/-! ### laws_toUint64S: function 54 -/
def laws_toUint64S.l0 : Nat → List Int → List Int → Int → Option (List Int)
  | 0, _, _, _ => none
  | k + 1, x0, x3, x4 => if x4 < (x0.length : Int) then (if 0 ≤ x4 then (if x4 < (x3.length : Int) then (laws_toUint64S.l0 k x0 (x3.set (x4 : Int).toNat (rd x0 x4)) (wrap64 (x4 + 1))) else (none)) else (none)) else (some x3)
def laws_toUint64S.f (k : Nat) (l0 : List Int) : Option (List Int) := if 0 ≤ (l0.length : Int) then (if ((l0.length : Int) : Int).toNat ≤ 35184372088832 then (laws_toUint64S.l0 k l0 (List.replicate ((l0.length : Int) : Int).toNat 0) 0) else (none)) else (none)
theorem laws_toUint64S.mono_l : ∀ k, (∀ y0 y1 y2, LeO (laws_toUint64S.l0 k y0 y1 y2) (laws_toUint64S.l0 (k + 1) y0 y1 y2))
  | 0 => fun _ _ _ r h => by simp [laws_toUint64S.l0] at h
  | k + 1 => by
    have ih0 := laws_toUint64S.mono_l k
    · intro y0 y1 y2
      unfold laws_toUint64S.l0
      repeat' first
      | (with_reducible exact ih0 _ _ _)
      | (with_reducible exact LeO.refl _)
      | (with_reducible exact LeO.none _)
      | (with_reducible refine LeO.ite ?_ ?_)
      | (with_reducible refine LeO.bind ?_ (fun _ => ?_))
      | exact ih0 _ _ _
      | exact LeO.none _
      | refine LeO.ite ?_ ?_
      | refine LeO.bind ?_ (fun _ => ?_)
theorem laws_toUint64S.mono : ∀ a0 k, LeO (laws_toUint64S.f k a0) (laws_toUint64S.f (k + 1) a0) := by
  intro a0 k
  have ih0 := laws_toUint64S.mono_l k
  unfold laws_toUint64S.f
  repeat' first
      | (with_reducible exact ih0 _ _ _)
      | (with_reducible exact LeO.refl _)
      | (with_reducible exact LeO.none _)
      | (with_reducible refine LeO.ite ?_ ?_)
      | (with_reducible refine LeO.bind ?_ (fun _ => ?_))
      | exact ih0 _ _ _
      | exact LeO.none _
      | refine LeO.ite ?_ ?_
      | refine LeO.bind ?_ (fun _ => ?_)
set_option maxHeartbeats 8000000 in
set_option maxRecDepth 100000 in
theorem laws_toUint64S.calls (k : Nat) (A0 : Option Addr) (c0 : Nat) (l0 : List Int) (r : List Int) (w : World) (hr0 : Kd.C (Kd.int .u64) w A0 l0.length l0) (hc0 : l0.length ≤ c0) (h : laws_toUint64S.f k l0 = some r) :
    Calls Try.prog 54 #[.slice A0 l0.length c0] w fun e w' => ∃ v0_ : Value, e = .returned (v0_) ∧ Kd.R (Kd.int .u64) 23 w' w.heap.size (fun _ => True) v0_ r ∧ Below w.heap.size w w' := by
  have HR0 := Aside0.mk hr0
  have HC0 := Aside0.mk hc0
  clear hr0 hc0
  have HB := Aside0.mk (Below.refl w.heap.size w)
  have H : (if 0 ≤ (l0.length : Int) then (if ((l0.length : Int) : Int).toNat ≤ 35184372088832 then (laws_toUint64S.l0 k l0 (List.replicate ((l0.length : Int) : Int).toNat 0) 0) else (none)) else (none)) = some r := h
  clear h
  by_cases c2 : 0 ≤ (l0.length : Int)
  · rw [if_pos c2] at H
    have c2b0 := eq_true c2
    have c2b1 : decide (0 ≤ (l0.length : Int)) = true := decide_eq_true c2
    clear c2
    by_cases c3 : ((l0.length : Int) : Int).toNat ≤ 35184372088832
    · rw [if_pos c3] at H
      have c3b0 := eq_true c3
      have c3b1 : decide (((l0.length : Int) : Int).toNat ≤ 35184372088832) = true := decide_eq_true c3
      clear c3
      obtain ⟨y231, hy231⟩ : ∃ y_ : List Int, y_ = (List.replicate ((l0.length : Int) : Int).toNat 0) := ⟨_, rfl⟩
      replace H : (laws_toUint64S.l0 k l0 y231 0) = some r := by first | (rw [hy231]; with_reducible exact H) | (have H2_ := (Option.bind_some _ _).symm.trans H; rw [hy231]; with_reducible exact H2_) | (have H2_ := (Option.bind_some _ _).symm.trans H; with_reducible exact H2_) | with_reducible exact H | (rw [hy231]; exact H) | exact H
      have Ny231 := Aside0.mk hy231
      clear hy231
      have H' := Aside0.mk H
      clear H
      go_enter Try.func54, Try.ntmps54
      go_wp2_with (first | ((with_reducible refine gate_dst (N := 7) rfl ?_); refine Kd.R_make (Kd.int .u64) _ 23 rfl (N := 7) rfl 36 _ _ rfl (l0.length : Int) rfl rfl Try.underlying36 (.int .u64 0) 8 info23 rfl (by decide) (by omega) 0 (ok := fun _ => True) (okp := fun _ => True) rfl (fun _ hk => hk) trivial (of_decide_eq_true (by first | (with_reducible assumption) | assumption)) (Nat.le_trans (Nat.mul_le_mul_right _ (of_decide_eq_true (by first | (with_reducible assumption) | assumption) : (l0.length : Int).toNat ≤ 35184372088832)) (by omega)) (Below.refl _ _) (Nat.le_refl _) ?_; intro v232 w4 ho5 hb hg_ hnew_; clear hg_ hnew_; (first | rw [← Ny231.out] at ho5 | (simp only [Int.reduceToNat] at ho5; rw [← Ny231.out] at ho5)); have n0_ := Aside0.mk (Kd.R_lower ho5 (below_size (by repeat (first | (with_reducible first | exact HB.out | apply below_alloc | apply pw_below_drewN | apply below_drew1) | exact HB.out)))); have n1_ := Aside0.mk (below_step (by repeat (first | (with_reducible first | exact HB.out | apply below_alloc | apply pw_below_drewN | apply below_drew1) | exact HB.out)) hb); clear HB; have HO233 := n0_; have HB := n1_; clear n0_ n1_; clear hb ho5))
      go_loopg [4] k (fun kq v4 w' => ∃ (x3_1 : List Int) (x4_1 : Int), v4 = .int .i64 x4_1 ∧ Aside0 (laws_toUint64S.l0 kq l0 x3_1 x4_1 = some r) ∧ Aside0 (kq ≤ k) ∧ Aside0 (Kd.R (Kd.int .u64) 23 w' w.heap.size (fun _ => True) v232 x3_1) ∧ Aside0 (Below w.heap.size w w'))
      case atStart => exact ⟨(y231), (0), (by first | rfl | (simp; done) | (simp [*]; done)), H', ⟨Nat.le_refl _⟩, ⟨by (with_reducible repeat (first | apply Kd.R_alloc | apply Kd.R_drewN | apply Kd.R_drew)); exact HO233.out⟩, ⟨by repeat (first | (with_reducible first | exact HB.out | apply below_alloc | apply pw_below_drewN | apply below_drew1) | exact HB.out)⟩⟩
      case round =>
        clear H'
        try clear c2
        try clear c2b0
        try clear c2b1
        try clear p2
        try clear c3
        try clear c3b0
        try clear c3b1
        try clear c5
        obtain ⟨x3_1, x4_1, rfl, HA, HK1, HO_3, HB⟩ := hrel
        cases gk with
        | zero => exact absurd HA.out (by simp [laws_toUint64S.l0])
        | succ k1 =>
          have H := HA.out
          clear HA
          simp only [laws_toUint64S.l0] at H
          by_cases c6 : x4_1 < (l0.length : Int)
          · rw [if_pos c6] at H
            have c6b0 : decide (x4_1 < (l0.length : Int)) = true := decide_eq_true c6
            clear c6
            by_cases c7 : 0 ≤ x4_1
            · rw [if_pos c7] at H
              have c7b0 : decide (0 ≤ x4_1) = true := decide_eq_true c7
              clear c7
              by_cases c8 : x4_1 < (x3_1.length : Int)
              · rw [if_pos c8] at H
                have c8b0 : decide (x4_1 < (x3_1.length : Int)) = true := decide_eq_true c8
                clear c8
                obtain ⟨y235, hy235⟩ : ∃ y_ : List Int, y_ = (x3_1.set (x4_1 : Int).toNat (rd l0 x4_1)) := ⟨_, rfl⟩
                replace H : (laws_toUint64S.l0 k1 l0 y235 (wrap64 (x4_1 + 1))) = some r := by first | (rw [hy235]; with_reducible exact H) | (have H2_ := (Option.bind_some _ _).symm.trans H; rw [hy235]; with_reducible exact H2_) | (have H2_ := (Option.bind_some _ _).symm.trans H; with_reducible exact H2_) | with_reducible exact H | (rw [hy235]; exact H) | exact H
                have Ny235 := Aside0.mk hy235
                clear hy235
                have H' := Aside0.mk H
                clear H
                have p234 : 0 ≤ (x4_1 : Int) := of_decide_eq_true (by first | (with_reducible assumption) | assumption)
                have q234 : x4_1 < (l0.length : Int) := of_decide_eq_true (by first | (with_reducible assumption) | assumption)
                obtain ⟨ad234, e234, hx234_0⟩ := Kd.at_int HR0.out x4_1 p234 q234
                cases e234
                replace hx234_0 := (HB.out.cell (World.block_lt_of_cell? w _ hx234_0)).trans hx234_0
                replace p234 := eq_true p234
                replace q234 := eq_true q234
                have p9 : 0 ≤ (x4_1 : Int) := of_decide_eq_true (by first | (with_reducible assumption) | assumption)
                have q9 : (x4_1 : Int) < ((x3_1.length : Int) : Int) := of_decide_eq_true (by first | (with_reducible assumption) | assumption)
                obtain ⟨go9, co9, eo9, gb9, gl9, cl9, HG9⟩ := Kd.R_form HO_3.out (by omega)
                (first | cases eo9 | (injection eo9 with ea_ en_ ec_; (first | subst ea_ | (injection ea_ with ea_; subst ea_)); subst ec_; clear en_))
                have GB9 := Aside0.mk gb9
                have GG9 := Aside0.mk HG9
                clear gb9 gl9 HG9
                obtain ⟨hx9_0, hf9_0⟩ := Kd.R_celln 0 HO_3.out (x4_1 : Int) p9 q9
                replace p9 := eq_true p9
                replace q9 := eq_true q9
                have HP10 := Kd.R_putg HO_3.out (x4_1 : Int) (rd l0 x4_1)
                go_wp2_with (first | ((with_reducible refine gate_store (t := 23) (p := 20) rfl ?_); refine store_event (t := 23) (p := 20) (v := ?vo_w11) (w1 := (wr.setCell ⟨go9, (x4_1 : Int).toNat, none⟩ (.int .u64 (rd l0 x4_1)))) ?hg ?ho ?hn ?hr ?_; (case ho => rfl); (case hg => rfl); (case hn => rfl); (case hr => first | (go_simp; done) | (go_simp; rfl)); intro w11 hw; have hg : wr.grownBy w11 (some go9) := (by rw [hw]; exact HP10.2); have hp_ : Kd.R (Kd.int .u64) 23 w11 w.heap.size (fun _ => True) (.slice (some ⟨go9, 0, none⟩) x3_1.length co9) y235 := (by rw [hw, Ny235.out]; exact HP10.1); clear HP10; have n0_ := Aside0.mk (hp_); have n1_ := Aside0.mk ((by rw [hw]; exact below_set (HB.out) GB9.out : Below w.heap.size w w11)); clear HO_3; clear HB; have HO_3 := n0_; have HB := n1_; clear n0_ n1_; clear hg hw hp_))
                go_roundg k1
                case measure => have := HK1.out; omega
                case rel => exact ⟨(y235), (wrap64 (x4_1 + 1)), (by first | rfl | (simp; done) | (simp [*]; done)), H', ⟨by have := HK1.out; omega⟩, ⟨by (with_reducible repeat (first | apply Kd.R_alloc | apply Kd.R_drewN | apply Kd.R_drew)); exact HO_3.out⟩, ⟨by repeat (first | (with_reducible first | exact HB.out | apply below_alloc | apply pw_below_drewN | apply below_drew1) | exact HB.out)⟩⟩
              · rw [if_neg c8] at H
                exact absurd H (by simp)
            · rw [if_neg c7] at H
              exact absurd H (by simp)
          · rw [if_neg c6] at H
            have c6b0 : decide (x4_1 < (l0.length : Int)) = false := decide_eq_false c6
            clear c6
            obtain rfl := Option.some.inj H
            go_wp2
            go_ret
            exact ⟨_, by first | rfl | (simp [errW_none, errW_some] <;> rfl) | (simp [*, errW_none, errW_some] <;> rfl), by (with_reducible repeat (first | apply Kd.R_alloc | apply Kd.R_drewN | apply Kd.R_drew)); exact HO_3.out, by repeat (first | (with_reducible first | exact HB.out | apply below_alloc | apply pw_below_drewN | apply below_drew1) | exact HB.out)⟩
    · rw [if_neg c3] at H
      exact absurd H (by simp)
  · rw [if_neg c2] at H
    exact absurd H (by simp)

end Go.Proofs.Ytgdebfaoohjikaa.F

namespace Go.Proofs.Ytgdebfaoohjikaa.F
open Go.RowKit Go.Proofs.YtgdebfaoohjikaaW.PrintWords Go.Proofs.YtgdebfaoohjikaaW.PrintLast Go.Proofs.YtgdebfaoohjikaaW.PrintMore
attribute [local go_sem] max2_int min2_int max_two min_two max_three min_three max_four min_four   -- for this text's walks alone
set_option linter.unusedVariables false
set_option linter.unusedSimpArgs false

/-! ### laws_toStringS: function 55 -/
def laws_toStringS.l0 : Nat → List ByteArray → List ByteArray → Int → Option (List ByteArray)
  | 0, _, _, _ => none
  | k + 1, x0, x3, x4 => if x4 < (x0.length : Int) then (if 0 ≤ x4 then (if x4 < (x3.length : Int) then (laws_toStringS.l0 k x0 (x3.set (x4 : Int).toNat (rdOf ByteArray.empty x0 x4)) (wrap64 (x4 + 1))) else (none)) else (none)) else (some x3)
def laws_toStringS.f (k : Nat) (l0 : List ByteArray) : Option (List ByteArray) := if 0 ≤ (l0.length : Int) then (if ((l0.length : Int) : Int).toNat ≤ 17592186044416 then (laws_toStringS.l0 k l0 (List.replicate ((l0.length : Int) : Int).toNat (⟨#[]⟩ : ByteArray)) 0) else (none)) else (none)
theorem laws_toStringS.mono_l : ∀ k, (∀ y0 y1 y2, LeO (laws_toStringS.l0 k y0 y1 y2) (laws_toStringS.l0 (k + 1) y0 y1 y2))
  | 0 => fun _ _ _ r h => by simp [laws_toStringS.l0] at h
  | k + 1 => by
    have ih0 := laws_toStringS.mono_l k
    · intro y0 y1 y2
      unfold laws_toStringS.l0
      repeat' first
      | (with_reducible exact ih0 _ _ _)
      | (with_reducible exact LeO.refl _)
      | (with_reducible exact LeO.none _)
      | (with_reducible refine LeO.ite ?_ ?_)
      | (with_reducible refine LeO.bind ?_ (fun _ => ?_))
      | exact ih0 _ _ _
      | exact LeO.none _
      | refine LeO.ite ?_ ?_
      | refine LeO.bind ?_ (fun _ => ?_)
theorem laws_toStringS.mono : ∀ a0 k, LeO (laws_toStringS.f k a0) (laws_toStringS.f (k + 1) a0) := by
  intro a0 k
  have ih0 := laws_toStringS.mono_l k
  unfold laws_toStringS.f
  repeat' first
      | (with_reducible exact ih0 _ _ _)
      | (with_reducible exact LeO.refl _)
      | (with_reducible exact LeO.none _)
      | (with_reducible refine LeO.ite ?_ ?_)
      | (with_reducible refine LeO.bind ?_ (fun _ => ?_))
      | exact ih0 _ _ _
      | exact LeO.none _
      | refine LeO.ite ?_ ?_
      | refine LeO.bind ?_ (fun _ => ?_)
set_option maxHeartbeats 8000000 in
set_option maxRecDepth 100000 in
theorem laws_toStringS.calls (k : Nat) (A0 : Option Addr) (c0 : Nat) (l0 : List ByteArray) (r : List ByteArray) (w : World) (hr0 : Kd.C Kd.string w A0 l0.length l0) (hc0 : l0.length ≤ c0) (h : laws_toStringS.f k l0 = some r) :
    Calls Try.prog 55 #[.slice A0 l0.length c0] w fun e w' => ∃ v0_ : Value, e = .returned (v0_) ∧ Kd.R Kd.string 9 w' w.heap.size (fun _ => True) v0_ r ∧ Below w.heap.size w w' := by
  have HR0 := Aside0.mk hr0
  have HC0 := Aside0.mk hc0
  clear hr0 hc0
  have HB := Aside0.mk (Below.refl w.heap.size w)
  have H : (if 0 ≤ (l0.length : Int) then (if ((l0.length : Int) : Int).toNat ≤ 17592186044416 then (laws_toStringS.l0 k l0 (List.replicate ((l0.length : Int) : Int).toNat (⟨#[]⟩ : ByteArray)) 0) else (none)) else (none)) = some r := h
  clear h
  by_cases c2 : 0 ≤ (l0.length : Int)
  · rw [if_pos c2] at H
    have c2b0 := eq_true c2
    have c2b1 : decide (0 ≤ (l0.length : Int)) = true := decide_eq_true c2
    clear c2
    by_cases c3 : ((l0.length : Int) : Int).toNat ≤ 17592186044416
    · rw [if_pos c3] at H
      have c3b0 := eq_true c3
      have c3b1 : decide (((l0.length : Int) : Int).toNat ≤ 17592186044416) = true := decide_eq_true c3
      clear c3
      obtain ⟨y236, hy236⟩ : ∃ y_ : List ByteArray, y_ = (List.replicate ((l0.length : Int) : Int).toNat (⟨#[]⟩ : ByteArray)) := ⟨_, rfl⟩
      replace H : (laws_toStringS.l0 k l0 y236 0) = some r := by first | (rw [hy236]; with_reducible exact H) | (have H2_ := (Option.bind_some _ _).symm.trans H; rw [hy236]; with_reducible exact H2_) | (have H2_ := (Option.bind_some _ _).symm.trans H; with_reducible exact H2_) | with_reducible exact H | (rw [hy236]; exact H) | exact H
      have Ny236 := Aside0.mk hy236
      clear hy236
      have H' := Aside0.mk H
      clear H
      go_enter Try.func55, Try.ntmps55
      go_wp2_with (first | ((with_reducible refine gate_dst (N := 7) rfl ?_); refine Kd.R_make Kd.string _ 9 rfl (N := 7) rfl 37 _ _ rfl (l0.length : Int) rfl rfl Try.underlying37 (.string ⟨#[]⟩) 16 info9 rfl (by decide) (by omega) (⟨#[]⟩ : ByteArray) (ok := fun _ => True) (okp := fun _ => True) rfl (fun _ hk => hk) trivial (of_decide_eq_true (by first | (with_reducible assumption) | assumption)) (Nat.le_trans (Nat.mul_le_mul_right _ (of_decide_eq_true (by first | (with_reducible assumption) | assumption) : (l0.length : Int).toNat ≤ 17592186044416)) (by omega)) (Below.refl _ _) (Nat.le_refl _) ?_; intro v237 w4 ho5 hb hg_ hnew_; clear hg_ hnew_; (first | rw [← Ny236.out] at ho5 | (simp only [Int.reduceToNat] at ho5; rw [← Ny236.out] at ho5)); have n0_ := Aside0.mk (Kd.R_lower ho5 (below_size (by repeat (first | (with_reducible first | exact HB.out | apply below_alloc | apply pw_below_drewN | apply below_drew1) | exact HB.out)))); have n1_ := Aside0.mk (below_step (by repeat (first | (with_reducible first | exact HB.out | apply below_alloc | apply pw_below_drewN | apply below_drew1) | exact HB.out)) hb); clear HB; have HO238 := n0_; have HB := n1_; clear n0_ n1_; clear hb ho5))
      go_loopg [4] k (fun kq v4 w' => ∃ (x3_1 : List ByteArray) (x4_1 : Int), v4 = .int .i64 x4_1 ∧ Aside0 (laws_toStringS.l0 kq l0 x3_1 x4_1 = some r) ∧ Aside0 (kq ≤ k) ∧ Aside0 (Kd.R Kd.string 9 w' w.heap.size (fun _ => True) v237 x3_1) ∧ Aside0 (Below w.heap.size w w'))
      case atStart => exact ⟨(y236), (0), (by first | rfl | (simp; done) | (simp [*]; done)), H', ⟨Nat.le_refl _⟩, ⟨by (with_reducible repeat (first | apply Kd.R_alloc | apply Kd.R_drewN | apply Kd.R_drew)); exact HO238.out⟩, ⟨by repeat (first | (with_reducible first | exact HB.out | apply below_alloc | apply pw_below_drewN | apply below_drew1) | exact HB.out)⟩⟩
      case round =>
        clear H'
        try clear c2
        try clear c2b0
        try clear c2b1
        try clear p2
        try clear c3
        try clear c3b0
        try clear c3b1
        try clear c5
        obtain ⟨x3_1, x4_1, rfl, HA, HK1, HO_3, HB⟩ := hrel
        cases gk with
        | zero => exact absurd HA.out (by simp [laws_toStringS.l0])
        | succ k1 =>
          have H := HA.out
          clear HA
          simp only [laws_toStringS.l0] at H
          by_cases c6 : x4_1 < (l0.length : Int)
          · rw [if_pos c6] at H
            have c6b0 : decide (x4_1 < (l0.length : Int)) = true := decide_eq_true c6
            clear c6
            by_cases c7 : 0 ≤ x4_1
            · rw [if_pos c7] at H
              have c7b0 : decide (0 ≤ x4_1) = true := decide_eq_true c7
              clear c7
              by_cases c8 : x4_1 < (x3_1.length : Int)
              · rw [if_pos c8] at H
                have c8b0 : decide (x4_1 < (x3_1.length : Int)) = true := decide_eq_true c8
                clear c8
                obtain ⟨y240, hy240⟩ : ∃ y_ : List ByteArray, y_ = (x3_1.set (x4_1 : Int).toNat (rdOf ByteArray.empty l0 x4_1)) := ⟨_, rfl⟩
                replace H : (laws_toStringS.l0 k1 l0 y240 (wrap64 (x4_1 + 1))) = some r := by first | (rw [hy240]; with_reducible exact H) | (have H2_ := (Option.bind_some _ _).symm.trans H; rw [hy240]; with_reducible exact H2_) | (have H2_ := (Option.bind_some _ _).symm.trans H; with_reducible exact H2_) | with_reducible exact H | (rw [hy240]; exact H) | exact H
                have Ny240 := Aside0.mk hy240
                clear hy240
                have H' := Aside0.mk H
                clear H
                have p239 : 0 ≤ (x4_1 : Int) := of_decide_eq_true (by first | (with_reducible assumption) | assumption)
                have q239 : x4_1 < (l0.length : Int) := of_decide_eq_true (by first | (with_reducible assumption) | assumption)
                obtain ⟨ad239, e239, hx239_0⟩ := Kd.at_string HR0.out x4_1 p239 q239
                cases e239
                replace hx239_0 := (HB.out.cell (World.block_lt_of_cell? w _ hx239_0)).trans hx239_0
                replace p239 := eq_true p239
                replace q239 := eq_true q239
                have p9 : 0 ≤ (x4_1 : Int) := of_decide_eq_true (by first | (with_reducible assumption) | assumption)
                have q9 : (x4_1 : Int) < ((x3_1.length : Int) : Int) := of_decide_eq_true (by first | (with_reducible assumption) | assumption)
                obtain ⟨go9, co9, eo9, gb9, gl9, cl9, HG9⟩ := Kd.R_form HO_3.out (by omega)
                (first | cases eo9 | (injection eo9 with ea_ en_ ec_; (first | subst ea_ | (injection ea_ with ea_; subst ea_)); subst ec_; clear en_))
                have GB9 := Aside0.mk gb9
                have GG9 := Aside0.mk HG9
                clear gb9 gl9 HG9
                obtain ⟨hx9_0, hf9_0⟩ := Kd.R_celln (⟨#[]⟩ : ByteArray) HO_3.out (x4_1 : Int) p9 q9
                replace p9 := eq_true p9
                replace q9 := eq_true q9
                have HP10 := Kd.R_putg HO_3.out (x4_1 : Int) (rdOf ByteArray.empty l0 x4_1)
                go_wp2_with (first | ((with_reducible refine gate_store (t := 9) (p := 20) rfl ?_); refine store_event (t := 9) (p := 20) (v := ?vo_w11) (w1 := (wr.setCell ⟨go9, (x4_1 : Int).toNat, none⟩ (.string (rdOf ByteArray.empty l0 x4_1)))) ?hg ?ho ?hn ?hr ?_; (case ho => rfl); (case hg => rfl); (case hn => rfl); (case hr => first | (go_simp; done) | (go_simp; rfl)); intro w11 hw; have hg : wr.grownBy w11 (some go9) := (by rw [hw]; exact HP10.2); have hp_ : Kd.R Kd.string 9 w11 w.heap.size (fun _ => True) (.slice (some ⟨go9, 0, none⟩) x3_1.length co9) y240 := (by rw [hw, Ny240.out]; exact HP10.1); clear HP10; have n0_ := Aside0.mk (hp_); have n1_ := Aside0.mk ((by rw [hw]; exact below_set (HB.out) GB9.out : Below w.heap.size w w11)); clear HO_3; clear HB; have HO_3 := n0_; have HB := n1_; clear n0_ n1_; clear hg hw hp_))
                go_roundg k1
                case measure => have := HK1.out; omega
                case rel => exact ⟨(y240), (wrap64 (x4_1 + 1)), (by first | rfl | (simp; done) | (simp [*]; done)), H', ⟨by have := HK1.out; omega⟩, ⟨by (with_reducible repeat (first | apply Kd.R_alloc | apply Kd.R_drewN | apply Kd.R_drew)); exact HO_3.out⟩, ⟨by repeat (first | (with_reducible first | exact HB.out | apply below_alloc | apply pw_below_drewN | apply below_drew1) | exact HB.out)⟩⟩
              · rw [if_neg c8] at H
                exact absurd H (by simp)
            · rw [if_neg c7] at H
              exact absurd H (by simp)
          · rw [if_neg c6] at H
            have c6b0 : decide (x4_1 < (l0.length : Int)) = false := decide_eq_false c6
            clear c6
            obtain rfl := Option.some.inj H
            go_wp2
            go_ret
            exact ⟨_, by first | rfl | (simp [errW_none, errW_some] <;> rfl) | (simp [*, errW_none, errW_some] <;> rfl), by (with_reducible repeat (first | apply Kd.R_alloc | apply Kd.R_drewN | apply Kd.R_drew)); exact HO_3.out, by repeat (first | (with_reducible first | exact HB.out | apply below_alloc | apply pw_below_drewN | apply below_drew1) | exact HB.out)⟩
    · rw [if_neg c3] at H
      exact absurd H (by simp)
  · rw [if_neg c2] at H
    exact absurd H (by simp)

end Go.Proofs.Ytgdebfaoohjikaa.F

namespace Go.Proofs.Ytgdebfaoohjikaa.F
open Go.RowKit Go.Proofs.YtgdebfaoohjikaaW.PrintWords Go.Proofs.YtgdebfaoohjikaaW.PrintLast Go.Proofs.YtgdebfaoohjikaaW.PrintMore
attribute [local go_sem] max2_int min2_int max_two min_two max_three min_three max_four min_four   -- for this text's walks alone
set_option linter.unusedVariables false
set_option linter.unusedSimpArgs false

/-! ### laws_toRecord: function 26 -/
def laws_toRecord.f (k : Nat) (a0_0 : Int) (l0_1 : List Int) (l0_2 : List ByteArray) : Option (Int × List Int × List ByteArray) := (laws_toUint64S.f k l0_1).bind fun t244 => ((laws_toStringS.f k l0_2).bind fun t247 => (some (a0_0, t244, t247)))
theorem laws_toRecord.mono : ∀ a0 a1 a2 k, LeO (laws_toRecord.f k a0 a1 a2) (laws_toRecord.f (k + 1) a0 a1 a2) := by
  intro a0 a1 a2 k
  unfold laws_toRecord.f
  repeat' first
      | (with_reducible exact laws_toStringS.mono _ _)
      | (with_reducible exact laws_toUint64S.mono _ _)
      | (with_reducible exact LeO.refl _)
      | (with_reducible exact LeO.none _)
      | (with_reducible refine LeO.ite ?_ ?_)
      | (with_reducible refine LeO.bind ?_ (fun _ => ?_))
      | exact laws_toStringS.mono _ _
      | exact laws_toUint64S.mono _ _
      | exact LeO.none _
      | refine LeO.ite ?_ ?_
      | refine LeO.bind ?_ (fun _ => ?_)
set_option maxHeartbeats 8000000 in
set_option maxRecDepth 100000 in
theorem laws_toRecord.calls (k : Nat) (a0_0 : Int) (A0_1 : Option Addr) (c0_1 : Nat) (l0_1 : List Int) (A0_2 : Option Addr) (c0_2 : Nat) (l0_2 : List ByteArray) (r1 : Int) (r2 : List Int) (r3 : List ByteArray) (w : World) (hr0_1 : Kd.C (Kd.int .u64) w A0_1 l0_1.length l0_1) (hc0_1 : l0_1.length ≤ c0_1) (hr0_2 : Kd.C Kd.string w A0_2 l0_2.length l0_2) (hc0_2 : l0_2.length ≤ c0_2) (h : laws_toRecord.f k a0_0 l0_1 l0_2 = some (r1, r2, r3)) :
    Calls Try.prog 26 #[.agg #[.int .i64 a0_0, .slice A0_1 l0_1.length c0_1, .slice A0_2 l0_2.length c0_2]] w fun e w' => ∃ v1_ v2_ : Value, e = .returned (.agg #[.int .i64 r1, v1_, v2_]) ∧ Kd.R (Kd.int .u64) 23 w' w.heap.size (fun _ => True) v1_ r2 ∧ Kd.R Kd.string 9 w' w.heap.size (fun _ => True) v2_ r3 ∧ Below w.heap.size w w' := by
  have hu39 := Try.underlying39
  have hu42 := Try.underlying42
  have HR0_1 := Aside0.mk hr0_1
  have HC0_1 := Aside0.mk hc0_1
  clear hr0_1 hc0_1
  have HR0_2 := Aside0.mk hr0_2
  have HC0_2 := Aside0.mk hc0_2
  clear hr0_2 hc0_2
  have HB := Aside0.mk (Below.refl w.heap.size w)
  have H : ((laws_toUint64S.f k l0_1).bind fun t244 => ((laws_toStringS.f k l0_2).bind fun t247 => (some (a0_0, t244, t247)))) = some (r1, r2, r3) := h
  clear h
  replace H := Option.bind_eq_some_iff.mp H
  obtain ⟨t244, A20, H⟩ := H
  replace H : ((laws_toStringS.f k l0_2).bind fun t247 => (some (a0_0, t244, t247))) = some (r1, r2, r3) := H
  have A2 := Aside0.mk A20
  clear A20
  replace H := Option.bind_eq_some_iff.mp H
  obtain ⟨t247, A30, H⟩ := H
  replace H : (some (a0_0, t244, t247)) = some (r1, r2, r3) := H
  have A3 := Aside0.mk A30
  clear A30
  simp only [Option.some.injEq, Prod.mk.injEq] at H
  obtain ⟨rfl, rfl, rfl⟩ := H
  go_enter Try.func26, Try.ntmps26
  go_wp2_with (first | ((with_reducible refine gate_dst (N := 1) rfl ?_); refine box_event ?hg (N := 1) ?hd (cs := #[.int .i64 a0_0, .slice A0_1 l0_1.length c0_1, .slice A0_2 l0_2.length c0_2]) (t := 39) ?hr ?_; (case hd => rfl); (case hg => rfl); (case hr => first | (go_simp; done) | (go_simp; rfl)); intro gb241 hg w4 hbox hb; have n0_ := Aside0.mk (below_step (by repeat (first | (with_reducible first | exact HB.out | apply below_alloc | apply pw_below_drewN | apply below_drew1) | exact HB.out)) hb); have n1_ := Aside0.mk (hbox); have n2_ := Aside0.mk ((by rw [hg]; exact (below_size (by repeat (first | (with_reducible first | exact HB.out | apply below_alloc | apply pw_below_drewN | apply below_drew1) | exact HB.out))) : w.heap.size ≤ gb241)); have n3_ := Aside0.mk ((by rw [hg]; exact (below_size (by repeat (first | (with_reducible first | exact HB.out | apply below_alloc | apply pw_below_drewN | apply below_drew1) | exact HB.out))) : w.heap.size ≤ gb241)); clear HB; have HB := n0_; have BK241 := n1_; have GW241 := n2_; have GE241 := n3_; clear n0_ n1_ n2_ n3_; clear hb hbox hg) | ((with_reducible refine gate_dst (N := 2) rfl ?_); refine box_event ?hg (N := 2) ?hd (cs := #[.int .i64 0, .slice none 0 0, .slice none 0 0]) (t := 42) ?hr ?_; (case hd => rfl); (case hg => rfl); (case hr => first | (go_simp; done) | (go_simp; rfl)); intro gb242 hg w5 hbox hb; have n0_ := Aside0.mk (blk_below (g := gb241) (o := .cells #[.int .i64 a0_0, .slice A0_1 l0_1.length c0_1, .slice A0_2 l0_2.length c0_2] 39 (0, 0)) (by (with_reducible repeat (first | refine blk_drewN ?_ _ | refine blk_drew ?_ | refine blk_alloc ?_ _)); exact BK241.out) hb); have n1_ := Aside0.mk (below_step (by repeat (first | (with_reducible first | exact HB.out | apply below_alloc | apply pw_below_drewN | apply below_drew1 | refine below_set ?_ GE241.out) | exact HB.out)) hb); have n2_ := Aside0.mk (hbox); have n3_ := Aside0.mk ((by rw [hg]; exact (below_size (by repeat (first | (with_reducible first | exact HB.out | apply below_alloc | apply pw_below_drewN | apply below_drew1 | refine below_set ?_ GE241.out) | exact HB.out))) : w.heap.size ≤ gb242)); have n4_ := Aside0.mk ((by rw [hg]; exact (below_size (by repeat (first | (with_reducible first | exact HB.out | apply below_alloc | apply pw_below_drewN | apply below_drew1 | refine below_set ?_ GE241.out) | exact HB.out))) : w.heap.size ≤ gb242)); have n5_ := Aside0.mk ((by rw [hg]; exact Nat.ne_of_lt (blk_lt (g := gb241) (o := .cells #[.int .i64 a0_0, .slice A0_1 l0_1.length c0_1, .slice A0_2 l0_2.length c0_2] 39 (0, 0)) (by (with_reducible repeat (first | refine blk_drewN ?_ _ | refine blk_drew ?_ | refine blk_alloc ?_ _)); exact BK241.out)) : gb241 ≠ gb242)); have n6_ := Aside0.mk ((by rw [hg]; exact Nat.ne_of_gt (blk_lt (g := gb241) (o := .cells #[.int .i64 a0_0, .slice A0_1 l0_1.length c0_1, .slice A0_2 l0_2.length c0_2] 39 (0, 0)) (by (with_reducible repeat (first | refine blk_drewN ?_ _ | refine blk_drew ?_ | refine blk_alloc ?_ _)); exact BK241.out)) : gb242 ≠ gb241)); clear BK241; clear HB; have BK241 := n0_; have HB := n1_; have BK242 := n2_; have GW242 := n3_; have GE242 := n4_; have NB241_242 := n5_; have NB242_241 := n6_; clear n0_ n1_ n2_ n3_ n4_ n5_ n6_; clear hb hbox hg) | ((with_reducible refine gate_dst (N := 3) rfl ?_); refine box_event ?hg (N := 3) ?hd (cs := #[.int .i64 0, .slice none 0 0, .slice none 0 0]) (t := 42) ?hr ?_; (case hd => rfl); (case hg => rfl); (case hr => first | (go_simp; done) | (go_simp; rfl)); intro gb243 hg w6 hbox hb; have n0_ := Aside0.mk (blk_below (g := gb241) (o := .cells #[.int .i64 a0_0, .slice A0_1 l0_1.length c0_1, .slice A0_2 l0_2.length c0_2] 39 (0, 0)) (by (with_reducible repeat (first | refine blk_drewN ?_ _ | refine blk_drew ?_ | refine blk_alloc ?_ _)); exact BK241.out) hb); have n1_ := Aside0.mk (blk_below (g := gb242) (o := .cells #[.int .i64 0, .slice none 0 0, .slice none 0 0] 42 (0, 0)) (by (with_reducible repeat (first | refine blk_drewN ?_ _ | refine blk_drew ?_ | refine blk_alloc ?_ _)); exact BK242.out) hb); have n2_ := Aside0.mk (below_step (by repeat (first | (with_reducible first | exact HB.out | apply below_alloc | apply pw_below_drewN | apply below_drew1 | refine below_set ?_ GE241.out | refine below_set ?_ GE242.out) | exact HB.out)) hb); have n3_ := Aside0.mk (hbox); have n4_ := Aside0.mk ((by rw [hg]; exact (below_size (by repeat (first | (with_reducible first | exact HB.out | apply below_alloc | apply pw_below_drewN | apply below_drew1 | refine below_set ?_ GE241.out | refine below_set ?_ GE242.out) | exact HB.out))) : w.heap.size ≤ gb243)); have n5_ := Aside0.mk ((by rw [hg]; exact (below_size (by repeat (first | (with_reducible first | exact HB.out | apply below_alloc | apply pw_below_drewN | apply below_drew1 | refine below_set ?_ GE241.out | refine below_set ?_ GE242.out) | exact HB.out))) : w.heap.size ≤ gb243)); have n6_ := Aside0.mk ((by rw [hg]; exact Nat.ne_of_lt (blk_lt (g := gb241) (o := .cells #[.int .i64 a0_0, .slice A0_1 l0_1.length c0_1, .slice A0_2 l0_2.length c0_2] 39 (0, 0)) (by (with_reducible repeat (first | refine blk_drewN ?_ _ | refine blk_drew ?_ | refine blk_alloc ?_ _)); exact BK241.out)) : gb241 ≠ gb243)); have n7_ := Aside0.mk ((by rw [hg]; exact Nat.ne_of_gt (blk_lt (g := gb241) (o := .cells #[.int .i64 a0_0, .slice A0_1 l0_1.length c0_1, .slice A0_2 l0_2.length c0_2] 39 (0, 0)) (by (with_reducible repeat (first | refine blk_drewN ?_ _ | refine blk_drew ?_ | refine blk_alloc ?_ _)); exact BK241.out)) : gb243 ≠ gb241)); have n8_ := Aside0.mk ((by rw [hg]; exact Nat.ne_of_lt (blk_lt (g := gb242) (o := .cells #[.int .i64 0, .slice none 0 0, .slice none 0 0] 42 (0, 0)) (by (with_reducible repeat (first | refine blk_drewN ?_ _ | refine blk_drew ?_ | refine blk_alloc ?_ _)); exact BK242.out)) : gb242 ≠ gb243)); have n9_ := Aside0.mk ((by rw [hg]; exact Nat.ne_of_gt (blk_lt (g := gb242) (o := .cells #[.int .i64 0, .slice none 0 0, .slice none 0 0] 42 (0, 0)) (by (with_reducible repeat (first | refine blk_drewN ?_ _ | refine blk_drew ?_ | refine blk_alloc ?_ _)); exact BK242.out)) : gb243 ≠ gb242)); clear BK241; clear BK242; clear HB; have BK241 := n0_; have BK242 := n1_; have HB := n2_; have BK243 := n3_; have GW243 := n4_; have GE243 := n5_; have NB241_243 := n6_; have NB243_241 := n7_; have NB242_243 := n8_; have NB243_242 := n9_; clear n0_ n1_ n2_ n3_ n4_ n5_ n6_ n7_ n8_ n9_; clear hb hbox hg; have hnb7 := NB241_242.out; have hnc7 := NB242_241.out; have hnb8 := NB241_243.out; have hnc8 := NB243_241.out; have hcz9_0 : w6.cell? ⟨gb241, 0, none⟩ = some (.int .i64 a0_0) := (blk_cell BK241.out 0).trans rfl; have hcz9_1 : w6.cell? ⟨gb241, 1, none⟩ = some (.slice A0_1 l0_1.length c0_1) := (blk_cell BK241.out 1).trans rfl; have hcz9_2 : w6.cell? ⟨gb241, 2, none⟩ = some (.slice A0_2 l0_2.length c0_2) := (blk_cell BK241.out 2).trans rfl; have hfz9_0 := blk_frozen BK241.out 0; have hfz9_1 := blk_frozen BK241.out 1; have hfz9_2 := blk_frozen BK241.out 2; have hnb10 := NB243_242.out; have hnc10 := NB242_243.out; have hcz11_0 : w6.cell? ⟨gb243, 0, none⟩ = some (.int .i64 0) := (blk_cell BK243.out 0).trans rfl; have hcz11_1 : w6.cell? ⟨gb243, 1, none⟩ = some (.slice none 0 0) := (blk_cell BK243.out 1).trans rfl; have hcz11_2 : w6.cell? ⟨gb243, 2, none⟩ = some (.slice none 0 0) := (blk_cell BK243.out 2).trans rfl; have hfz11_0 := blk_frozen BK243.out 0; have hfz11_1 := blk_frozen BK243.out 1; have hfz11_2 := blk_frozen BK243.out 2) | ((with_reducible refine gate_callee (f := 54) rfl ?_); refine goesL_ (some 9) rfl rfl Try.func54 (by kernel_rfl) rfl #[.slice A0_1 l0_1.length c0_1] rfl (by (try simp only [List.map_toArray, List.map_cons, List.map_nil]); first | done | rfl | (simp only [List.length_drop, List.length_take]; rfl)) ?_; (with_reducible refine (laws_toUint64S.calls k _ _ l0_1 t244 _ ?side1 ?side2 A2.out).mono ?_); (case side1 => exact Kd.C_below HR0_1.out (by repeat (first | (with_reducible first | exact HB.out | apply below_alloc | apply pw_below_drewN | apply below_drew1 | refine below_set ?_ GE241.out | refine below_set ?_ GE242.out | refine below_set ?_ GE243.out) | exact HB.out))); (case side2 => exact HC0_1.out); rintro e w12 ⟨v245, rfl, ho0, hb⟩; refine ⟨_, rfl, ?_⟩; have n0_ := Aside0.mk (Kd.R_lower ho0 (below_size (by repeat (first | (with_reducible first | exact HB.out | apply below_alloc | apply pw_below_drewN | apply below_drew1 | refine below_set ?_ GE241.out | refine below_set ?_ GE242.out | refine below_set ?_ GE243.out) | exact HB.out)))); have n1_ := Aside0.mk (blk_below (g := gb241) (o := .cells #[.int .i64 a0_0, .slice A0_1 l0_1.length c0_1, .slice A0_2 l0_2.length c0_2] 39 (0, 0)) (by (with_reducible repeat (first | refine blk_drewN ?_ _ | refine blk_drew ?_ | refine blk_alloc ?_ _)); refine blk_far ?_ NB241_243.out _; (with_reducible repeat (first | refine blk_drewN ?_ _ | refine blk_drew ?_ | refine blk_alloc ?_ _)); exact BK241.out) hb); have n2_ := Aside0.mk (blk_below (g := gb242) (o := .cells #[.int .i64 0, .slice none 0 0, .slice none 0 0] 42 (0, 0)) (by (with_reducible repeat (first | refine blk_drewN ?_ _ | refine blk_drew ?_ | refine blk_alloc ?_ _)); refine blk_far ?_ NB242_243.out _; (with_reducible repeat (first | refine blk_drewN ?_ _ | refine blk_drew ?_ | refine blk_alloc ?_ _)); exact BK242.out) hb); have n3_ := Aside0.mk (blk_below (g := gb243) (o := .cells #[.int .i64 a0_0, .slice none 0 0, .slice none 0 0] 42 (0, 0)) (by (with_reducible repeat (first | refine blk_drewN ?_ _ | refine blk_drew ?_ | refine blk_alloc ?_ _)); refine blk_put (cs := #[.int .i64 0, .slice none 0 0, .slice none 0 0]) ?_ 0 _ rfl; (with_reducible repeat (first | refine blk_drewN ?_ _ | refine blk_drew ?_ | refine blk_alloc ?_ _)); exact BK243.out) hb); have n4_ := Aside0.mk (below_step (by repeat (first | (with_reducible first | exact HB.out | apply below_alloc | apply pw_below_drewN | apply below_drew1 | refine below_set ?_ GE241.out | refine below_set ?_ GE242.out | refine below_set ?_ GE243.out) | exact HB.out)) hb); clear BK241; clear BK242; clear BK243; clear HB; have HO246 := n0_; have BK241 := n1_; have BK242 := n2_; have BK243 := n3_; have HB := n4_; clear n0_ n1_ n2_ n3_ n4_; (try clear hb); (try clear hb2); (try clear hk); (try clear hi); (try clear ho0); obtain ⟨Ao13, co13, eo13⟩ := Kd.R_slice HO246.out; subst eo13; have hcz14_0 : w12.cell? ⟨gb243, 0, none⟩ = some (.int .i64 a0_0) := (blk_cell BK243.out 0).trans rfl; have hcz14_1 : w12.cell? ⟨gb243, 1, none⟩ = some (.slice none 0 0) := (blk_cell BK243.out 1).trans rfl; have hcz14_2 : w12.cell? ⟨gb243, 2, none⟩ = some (.slice none 0 0) := (blk_cell BK243.out 2).trans rfl; have hfz14_0 := blk_frozen BK243.out 0; have hfz14_1 := blk_frozen BK243.out 1; have hfz14_2 := blk_frozen BK243.out 2; have hcz15_0 : w12.cell? ⟨gb241, 0, none⟩ = some (.int .i64 a0_0) := (blk_cell BK241.out 0).trans rfl; have hcz15_1 : w12.cell? ⟨gb241, 1, none⟩ = some (.slice A0_1 l0_1.length c0_1) := (blk_cell BK241.out 1).trans rfl; have hcz15_2 : w12.cell? ⟨gb241, 2, none⟩ = some (.slice A0_2 l0_2.length c0_2) := (blk_cell BK241.out 2).trans rfl; have hfz15_0 := blk_frozen BK241.out 0; have hfz15_1 := blk_frozen BK241.out 1; have hfz15_2 := blk_frozen BK241.out 2) | ((with_reducible refine gate_callee (f := 55) rfl ?_); refine goesL_ (some 13) rfl rfl Try.func55 (by kernel_rfl) rfl #[.slice A0_2 l0_2.length c0_2] rfl (by (try simp only [List.map_toArray, List.map_cons, List.map_nil]); first | done | rfl | (simp only [List.length_drop, List.length_take]; rfl)) ?_; (with_reducible refine (laws_toStringS.calls k _ _ l0_2 t247 _ ?side1 ?side2 A3.out).mono ?_); (case side1 => exact Kd.C_below HR0_2.out (by repeat (first | (with_reducible first | exact HB.out | apply below_alloc | apply pw_below_drewN | apply below_drew1 | refine below_set ?_ GE241.out | refine below_set ?_ GE242.out | refine below_set ?_ GE243.out) | exact HB.out))); (case side2 => exact HC0_2.out); rintro e w16 ⟨v248, rfl, ho0, hb⟩; refine ⟨_, rfl, ?_⟩; have n0_ := Aside0.mk (Kd.R_below (by (with_reducible repeat (first | apply Kd.R_alloc | apply Kd.R_drewN | apply Kd.R_drew)); exact (Kd.R_mono (Kd.R_far (p := ⟨gb243, 1, none⟩) (Kd.R_types HO246.out BK243.out (by decide)) (fun _ hk => hk.2) (.slice Ao13 t244.length co13)) (fun _ h_ => h_.1))) hb); have n1_ := Aside0.mk (Kd.R_lower ho0 (below_size (by repeat (first | (with_reducible first | exact HB.out | apply below_alloc | apply pw_below_drewN | apply below_drew1 | refine below_set ?_ GE241.out | refine below_set ?_ GE242.out | refine below_set ?_ GE243.out) | exact HB.out)))); have n2_ := Aside0.mk (blk_below (g := gb241) (o := .cells #[.int .i64 a0_0, .slice A0_1 l0_1.length c0_1, .slice A0_2 l0_2.length c0_2] 39 (0, 0)) (by (with_reducible repeat (first | refine blk_drewN ?_ _ | refine blk_drew ?_ | refine blk_alloc ?_ _)); refine blk_far ?_ NB241_243.out _; (with_reducible repeat (first | refine blk_drewN ?_ _ | refine blk_drew ?_ | refine blk_alloc ?_ _)); exact BK241.out) hb); have n3_ := Aside0.mk (blk_below (g := gb242) (o := .cells #[.int .i64 0, .slice none 0 0, .slice none 0 0] 42 (0, 0)) (by (with_reducible repeat (first | refine blk_drewN ?_ _ | refine blk_drew ?_ | refine blk_alloc ?_ _)); refine blk_far ?_ NB242_243.out _; (with_reducible repeat (first | refine blk_drewN ?_ _ | refine blk_drew ?_ | refine blk_alloc ?_ _)); exact BK242.out) hb); have n4_ := Aside0.mk (blk_below (g := gb243) (o := .cells #[.int .i64 a0_0, .slice Ao13 t244.length co13, .slice none 0 0] 42 (0, 0)) (by (with_reducible repeat (first | refine blk_drewN ?_ _ | refine blk_drew ?_ | refine blk_alloc ?_ _)); refine blk_put (cs := #[.int .i64 a0_0, .slice none 0 0, .slice none 0 0]) ?_ 1 _ rfl; (with_reducible repeat (first | refine blk_drewN ?_ _ | refine blk_drew ?_ | refine blk_alloc ?_ _)); exact BK243.out) hb); have n5_ := Aside0.mk (below_step (by repeat (first | (with_reducible first | exact HB.out | apply below_alloc | apply pw_below_drewN | apply below_drew1 | refine below_set ?_ GE241.out | refine below_set ?_ GE242.out | refine below_set ?_ GE243.out) | exact HB.out)) hb); clear HO246; clear BK241; clear BK242; clear BK243; clear HB; have HO246 := n0_; have HO249 := n1_; have BK241 := n2_; have BK242 := n3_; have BK243 := n4_; have HB := n5_; clear n0_ n1_ n2_ n3_ n4_ n5_; (try clear hb); (try clear hb2); (try clear hk); (try clear hi); (try clear ho0); obtain ⟨Ao17, co17, eo17⟩ := Kd.R_slice HO249.out; subst eo17; have hcz18_0 : w16.cell? ⟨gb243, 0, none⟩ = some (.int .i64 a0_0) := (blk_cell BK243.out 0).trans rfl; have hcz18_1 : w16.cell? ⟨gb243, 1, none⟩ = some (.slice Ao13 t244.length co13) := (blk_cell BK243.out 1).trans rfl; have hcz18_2 : w16.cell? ⟨gb243, 2, none⟩ = some (.slice none 0 0) := (blk_cell BK243.out 2).trans rfl; have hfz18_0 := blk_frozen BK243.out 0; have hfz18_1 := blk_frozen BK243.out 1; have hfz18_2 := blk_frozen BK243.out 2; have hcz19_0 : w16.cell? ⟨gb242, 0, none⟩ = some (.int .i64 0) := (blk_cell BK242.out 0).trans rfl; have hcz19_1 : w16.cell? ⟨gb242, 1, none⟩ = some (.slice none 0 0) := (blk_cell BK242.out 1).trans rfl; have hcz19_2 : w16.cell? ⟨gb242, 2, none⟩ = some (.slice none 0 0) := (blk_cell BK242.out 2).trans rfl; have hfz19_0 := blk_frozen BK242.out 0; have hfz19_1 := blk_frozen BK242.out 1; have hfz19_2 := blk_frozen BK242.out 2))
  refine bodyPost_ret (results_cell_row rfl _ _ gb242 42 #[.int .i64 a0_0, .slice Ao13 t244.length co13, .slice Ao17 t247.length co17] (0, 0) _ rfl (by (with_reducible repeat (first | refine blk_drewN ?_ _ | refine blk_drew ?_ | refine blk_alloc ?_ _)); refine blk_put (cs := #[.int .i64 a0_0, .slice Ao13 t244.length co13, .slice none 0 0]) ?_ 2 _ rfl; (with_reducible repeat (first | refine blk_drewN ?_ _ | refine blk_drew ?_ | refine blk_alloc ?_ _)); refine blk_put (cs := #[.int .i64 a0_0, .slice none 0 0, .slice none 0 0]) ?_ 1 _ rfl; (with_reducible repeat (first | refine blk_drewN ?_ _ | refine blk_drew ?_ | refine blk_alloc ?_ _)); refine blk_put (cs := #[.int .i64 0, .slice none 0 0, .slice none 0 0]) ?_ 0 _ rfl; (with_reducible repeat (first | refine blk_drewN ?_ _ | refine blk_drew ?_ | refine blk_alloc ?_ _)); refine blk_far ?_ NB242_243.out _; (with_reducible repeat (first | refine blk_drewN ?_ _ | refine blk_drew ?_ | refine blk_alloc ?_ _)); exact BK242.out) Try.underlying42 rfl (by kernel_rfl)) rfl ?_
  exact ⟨_, _, by first | rfl | (simp [errW_none, errW_some] <;> rfl) | (simp [*, errW_none, errW_some] <;> rfl), by (with_reducible repeat (first | apply Kd.R_alloc | apply Kd.R_drewN | apply Kd.R_drew)); exact Kd.R_mono (Kd.R_far (p := ⟨gb242, 2, none⟩) (Kd.R_far (p := ⟨gb242, 1, none⟩) (Kd.R_far (p := ⟨gb242, 0, none⟩) (Kd.R_far (p := ⟨gb243, 2, none⟩) (Kd.R_types (Kd.R_types HO246.out BK243.out (by decide)) BK242.out (by decide)) (fun _ hk => hk.1.2) (.slice Ao17 t247.length co17)) (fun _ hk => hk.2) (.int .i64 a0_0)) (fun _ hk => hk.2) (.slice Ao13 t244.length co13)) (fun _ hk => hk.2) (.slice Ao17 t247.length co17)) (fun _ hk => trivial), by (with_reducible repeat (first | apply Kd.R_alloc | apply Kd.R_drewN | apply Kd.R_drew)); exact Kd.R_mono (Kd.R_far (p := ⟨gb242, 2, none⟩) (Kd.R_far (p := ⟨gb242, 1, none⟩) (Kd.R_far (p := ⟨gb242, 0, none⟩) (Kd.R_far (p := ⟨gb243, 2, none⟩) (Kd.R_types (Kd.R_types HO249.out BK243.out (by decide)) BK242.out (by decide)) (fun _ hk => hk.1.2) (.slice Ao17 t247.length co17)) (fun _ hk => hk.2) (.int .i64 a0_0)) (fun _ hk => hk.2) (.slice Ao13 t244.length co13)) (fun _ hk => hk.2) (.slice Ao17 t247.length co17)) (fun _ hk => trivial), by repeat (first | (with_reducible first | exact HB.out | apply below_alloc | apply pw_below_drewN | apply below_drew1 | refine below_set ?_ GE241.out | refine below_set ?_ GE242.out | refine below_set ?_ GE243.out) | exact HB.out)⟩

end Go.Proofs.Ytgdebfaoohjikaa.F

namespace Go.Proofs.Ytgdebfaoohjikaa.KR
set_option linter.unusedVariables false
set_option linter.unusedSimpArgs false
open Go.RowKit Go.Proofs.Ytgdebfaoohjikaa.F Go.Proofs.Ytgdebfaoohjikaa.PK Go.Proofs.YtgdebfaoohjikaaW.PrintWords Go.Proofs.YtgdebfaoohjikaaW.PrintLast Go.Proofs.YtgdebfaoohjikaaW.PrintMore
theorem rd_at (l : List Int) (i : Nat) (h : i < l.length) : rd l (i : Int) = l[i] := getD_nat l _ i h
theorem nxt (i n : Nat) (h : i < n) (hn : n ≤ 9223372036854775807) : wrap64 ((i : Int) + 1) = ((i + 1 : Nat) : Int) := by rw [w64 (by omega) (by omega)]; omega
theorem rs_at (l : List ByteArray) (i : Nat) (h : i < l.length) : rdOf ByteArray.empty l (i : Int) = l[i] := getD_nat l _ i h
theorem toUint64S (l : List Int) (hl : l.length ≤ 1048576) : Ev (fun k => laws_toUint64S.f k l) l := by
  have key := up (P := fun i => ∀ x : List Int, x.length = l.length → (∀ j : Nat, (j : Int) < i → x[j]? = l[j]?) → Ev (fun k => laws_toUint64S.l0 k l x i) l) l.length
      (fun x h0 h1 => by
        have : x = l := List.ext_getElem? fun j => by
          by_cases hj : j < l.length
          · exact h1 j (by omega)
          · rw [List.getElem?_eq_none (by omega), List.getElem?_eq_none (by omega)]
        subst this
        exact EvS (by simp only [laws_toUint64S.l0, Int.lt_irrefl, if_false]; exact EvN))
      (fun i hi ih x h0 h1 => by
        refine EvS ?_
        simp only [laws_toUint64S.l0, rd_at l i hi, Option.bind_some, h0, Int.toNat_natCast, if_pos (show (i : Int) < (l.length : Int) by omega), if_pos (show 0 ≤ (i : Int) by omega), nxt i _ hi (by omega)]
        refine ih _ (by simpa using h0) fun j hj => ?_
        by_cases hji : j = i
        · subst hji
          rw [List.getElem?_set_self (by omega)]
          simp [List.getElem?_eq_getElem hi]
        · rw [List.getElem?_set_ne (by omega)]
          exact h1 j (by omega))
  have := key 0 (Nat.zero_le _) (List.replicate l.length 0) (by simp) (fun j hj => absurd hj (by omega))
  unfold laws_toUint64S.f
  have hS : (l.length ≤ 35184372088832) = True := eq_true (by omega)
  simp only [Int.toNat_natCast, if_pos (show 0 ≤ (l.length : Int) by omega), hS, if_true]
  exact this
theorem eqUint64S (x : List Int) (hx : x.length ≤ 9223372036854775807) : Ev (fun k => laws_eqUint64S.f k x x) true := by
  have key := up (P := fun i => Ev (fun k => laws_eqUint64S.l0 k x x i) true) x.length
    (EvS (by simp only [laws_eqUint64S.l0, Int.lt_irrefl, if_false]; exact EvN))
    (fun i hi ih => EvS (by simp only [laws_eqUint64S.l0, if_true, Option.bind_some, if_pos (show (i : Int) < (x.length : Int) by omega), if_pos (show 0 ≤ (i : Int) by omega), nxt i _ hi hx]; exact ih))
  have := key 0 (Nat.zero_le _)
  unfold laws_eqUint64S.f
  simp only [if_true]
  exact this
theorem toStringS (l : List ByteArray) (hl : l.length ≤ 1048576) : Ev (fun k => laws_toStringS.f k l) l := by
  have key := up (P := fun i => ∀ x : List ByteArray, x.length = l.length → (∀ j : Nat, (j : Int) < i → x[j]? = l[j]?) → Ev (fun k => laws_toStringS.l0 k l x i) l) l.length
      (fun x h0 h1 => by
        have : x = l := List.ext_getElem? fun j => by
          by_cases hj : j < l.length
          · exact h1 j (by omega)
          · rw [List.getElem?_eq_none (by omega), List.getElem?_eq_none (by omega)]
        subst this
        exact EvS (by simp only [laws_toStringS.l0, Int.lt_irrefl, if_false]; exact EvN))
      (fun i hi ih x h0 h1 => by
        refine EvS ?_
        simp only [laws_toStringS.l0, rs_at l i hi, Option.bind_some, h0, Int.toNat_natCast, if_pos (show (i : Int) < (l.length : Int) by omega), if_pos (show 0 ≤ (i : Int) by omega), nxt i _ hi (by omega)]
        refine ih _ (by simpa using h0) fun j hj => ?_
        by_cases hji : j = i
        · subst hji
          rw [List.getElem?_set_self (by omega)]
          simp [List.getElem?_eq_getElem hi]
        · rw [List.getElem?_set_ne (by omega)]
          exact h1 j (by omega))
  have := key 0 (Nat.zero_le _) (List.replicate l.length (⟨#[]⟩ : ByteArray)) (by simp) (fun j hj => absurd hj (by omega))
  unfold laws_toStringS.f
  have hS : (l.length ≤ 17592186044416) = True := eq_true (by omega)
  simp only [Int.toNat_natCast, if_pos (show 0 ≤ (l.length : Int) by omega), hS, if_true]
  exact this
theorem eqStringS (x : List ByteArray) (hx : x.length ≤ 9223372036854775807) : Ev (fun k => laws_eqStringS.f k x x) true := by
  have key := up (P := fun i => Ev (fun k => laws_eqStringS.l0 k x x i) true) x.length
    (EvS (by simp only [laws_eqStringS.l0, Int.lt_irrefl, if_false]; exact EvN))
    (fun i hi ih => EvS (by simp only [laws_eqStringS.l0, if_true, Option.bind_some, if_pos (show (i : Int) < (x.length : Int) by omega), if_pos (show 0 ≤ (i : Int) by omega), nxt i _ hi hx]; exact ih))
  have := key 0 (Nat.zero_le _)
  unfold laws_eqStringS.f
  simp only [if_true]
  exact this
theorem szUint64S (l : List Int) (c : Int) (h0 : 0 ≤ c) (h1 : c ≤ 1048576) (hl : l.length ≤ 9223372036854775807) : ∃ t, laws_szUint64S.f l c = some t ∧ t ≤ c ∧ (0 ≤ t → (l.length : Int) ≤ c) := by
  unfold laws_szUint64S.f
  rw [w64 (by omega) (by omega)]
  split
  · exact ⟨_, rfl, by omega, by omega⟩
  · exact ⟨_, rfl, by omega, by omega⟩
theorem szStringS (l : List ByteArray) (c : Int) (h0 : 0 ≤ c) (h1 : c ≤ 1048576) (hl : l.length ≤ 9223372036854775807) (hs : ∀ y ∈ l, y.size ≤ 9223372036854775807) : ∃ t, Ev (fun k => laws_szStringS.f k l c) t ∧ t ≤ c ∧ (0 ≤ t → (l.length : Int) ≤ c) := by
  by_cases h : (c - (l.length : Int)) < 0
  · refine ⟨-1, ?_, by omega, by omega⟩
    unfold laws_szStringS.f
    rw [w64 (by omega) (by omega)]
    simp only [if_pos h]
    exact EvN
  · have key := up (P := fun i => ∀ x, 0 ≤ x → x ≤ 1048576 → ∃ t, Ev (fun k => laws_szStringS.l0 k l x i) t ∧ t ≤ x) l.length
      (fun x g0 g1 => ⟨x, EvS (by simp only [laws_szStringS.l0, Int.lt_irrefl, if_false]; exact EvN), Int.le_refl _⟩)
      (fun i hi ih x g0 g1 => by
        have hz := hs _ (List.getElem_mem hi)
        by_cases h2 : x - (l[i].size : Int) < 0
        · refine ⟨-1, EvS ?_, by omega⟩
          simp only [laws_szStringS.l0, rs_at l i hi, w64 (show -9223372036854775808 ≤ x - (l[i].size : Int) by omega) (show x - (l[i].size : Int) ≤ 9223372036854775807 by omega), if_pos h2, if_pos (show (i : Int) < (l.length : Int) by omega), if_pos (show 0 ≤ (i : Int) by omega)]
          exact EvN
        · obtain ⟨t', h3, h4⟩ := ih (x - (l[i].size : Int)) (by omega) (by omega)
          refine ⟨t', EvS ?_, by omega⟩
          simp only [laws_szStringS.l0, rs_at l i hi, w64 (show -9223372036854775808 ≤ x - (l[i].size : Int) by omega) (show x - (l[i].size : Int) ≤ 9223372036854775807 by omega), if_neg h2, if_pos (show (i : Int) < (l.length : Int) by omega), if_pos (show 0 ≤ (i : Int) by omega), nxt i _ hi hl]
          exact h3)
    obtain ⟨t, h2, h3⟩ := key 0 (Nat.zero_le _) (c - (l.length : Int)) (by omega) (by omega)
    refine ⟨t, ?_, by omega, by omega⟩
    unfold laws_szStringS.f
    rw [w64 (by omega) (by omega)]
    simp only [if_neg h]
    exact h2
theorem szRecord (a : Int) (n : List Int) (s : List ByteArray) (c : Int) (h0 : 0 ≤ c) (h1 : c ≤ 1048576) (hn : n.length ≤ 9223372036854775807) (hl : s.length ≤ 9223372036854775807) (hs : ∀ y ∈ s, y.size ≤ 9223372036854775807) : ∃ t, Ev (fun k => laws_szRecord.f k a n s c) t ∧ t ≤ c ∧ (0 ≤ t → n.length ≤ 1048576 ∧ s.length ≤ 1048576) := by
  obtain ⟨t, e, a1, a2⟩ := szUint64S n c h0 h1 hn
  unfold laws_szRecord.f
  by_cases g : t < 0
  · exact ⟨-1, by simp only [e, Option.bind_some, if_pos g]; exact EvN, by omega, by omega⟩
  obtain ⟨t1, e1, b1, b2⟩ := szStringS s t (by omega) (by omega) hl hs
  by_cases g1 : t1 < 0
  · exact ⟨-1, by simp only [e, Option.bind_some, if_neg g, EvB e1, if_pos g1]; exact EvN, by omega, by omega⟩
  · exact ⟨t1, by simp only [e, Option.bind_some, if_neg g, EvB e1, if_neg g1]; exact EvN, by omega, by omega⟩
theorem toRecord (a : Int) (n : List Int) (s : List ByteArray) (hn : n.length ≤ 1048576) (hs : s.length ≤ 1048576) : Ev (fun k => laws_toRecord.f k a n s) (a, n, s) := by
  unfold laws_toRecord.f
  simp only [EvB (toUint64S n hn), EvB (toStringS s hs)]
  exact EvN
theorem eqRecord (a : Int) (n : List Int) (s : List ByteArray) (hn : n.length ≤ 9223372036854775807) (hs : s.length ≤ 9223372036854775807) : Ev (fun k => laws_eqRecord.f k a n s a n s) true := by
  unfold laws_eqRecord.f
  simp only [EvB (eqUint64S n hn), EvB (eqStringS s hs), if_true]
  exact EvN
def longM (s : List ByteArray) : Bool := s.any fun x => decide ((x.size : Int) > 40)
def okRec (a : Int) (n : List Int) (s : List ByteArray) : Bool := decide (0 ≤ a ∧ a ≤ 250 ∧ n.length ≤ 24 ∧ s.length ≤ 6) && !longM s
theorem okRec_bd {a : Int} {n : List Int} {s : List ByteArray} (h : okRec a n s = true) : 0 ≤ a ∧ a ≤ 250 ∧ n.length ≤ 24 ∧ s.length ≤ 6 := by
  simp only [okRec, Bool.and_eq_true, decide_eq_true_eq] at h
  exact h.1
theorem spec_rec (a : Int) (n : List Int) (s : List ByteArray) (hs : s.length ≤ 9223372036854775807) : Ev (fun k => spec_RecordOk.f k a n s) (okRec a n s) := by
  have key := up0 (P := fun i => Ev (fun k => spec_RecordOk.l0 k i a n s) (decide (0 ≤ a ∧ a ≤ 250 ∧ n.length ≤ 24 ∧ s.length ≤ 6) && !longM (s.drop i.toNat))) s.length
    (EvS (by
      simp only [spec_RecordOk.l0, spec_l01In.f, Int.lt_irrefl, if_false, Int.toNat_natCast, List.drop_length, longM, List.any_nil, Bool.not_false, Bool.and_true]
      by_cases h1 : 0 ≤ a
      · by_cases h2 : a ≤ 250
        · by_cases h3 : (n.length : Int) ≤ 24
          · simp only [if_pos h1, decide_eq_true h2, Option.bind_some, if_true, if_pos h3]
            rw [show decide ((s.length : Int) ≤ 6) = decide (0 ≤ a ∧ a ≤ 250 ∧ n.length ≤ 24 ∧ s.length ≤ 6) from decide_eq_decide.2 (by omega)]
            exact EvN
          · simp only [if_pos h1, decide_eq_true h2, Option.bind_some, if_true, if_neg h3, decide_eq_false (show ¬ (0 ≤ a ∧ a ≤ 250 ∧ n.length ≤ 24 ∧ s.length ≤ 6) by omega)]; exact EvN
        · simp only [if_pos h1, decide_eq_false h2, Option.bind_some, Bool.false_eq_true, if_false, decide_eq_false (show ¬ (0 ≤ a ∧ a ≤ 250 ∧ n.length ≤ 24 ∧ s.length ≤ 6) by omega)]; exact EvN
      · simp only [if_neg h1, Option.bind_some, Bool.false_eq_true, if_false, decide_eq_false (show ¬ (0 ≤ a ∧ a ≤ 250 ∧ n.length ≤ 24 ∧ s.length ≤ 6) by omega)]; exact EvN))
    (fun i hi ih => EvS (by
      rw [Int.toNat_natCast] at *
      rw [drop_at s i hi]
      simp only [spec_RecordOk.l0, if_pos (show (i : Int) < (s.length : Int) by omega), if_pos (show 0 ≤ (i : Int) by omega), rs_at s i hi, nxt i _ hi hs, longM, List.any_cons]
      by_cases h1 : (s[i].size : Int) > 40
      · simp only [if_pos h1, decide_eq_true h1, Bool.true_or, Bool.not_true, Bool.and_false]; exact EvN
      · simp only [if_neg h1, decide_eq_false h1, Bool.false_or]; exact ih))
  exact key
theorem impl_rec (a : Int) (n : List Int) (s : List ByteArray) (hs : s.length ≤ 9223372036854775807) : impl_isRecord.f a n s = some (okRec a n s) := by
  unfold impl_isRecord.f okRec
  by_cases h1 : a ≥ 0
  · by_cases h2 : a ≤ 250
    · by_cases h3 : (n.length : Int) ≤ 24
      · by_cases h4 : (s.length : Int) ≤ 6
        · simp only [if_pos h1, if_pos h2, if_pos h3, if_pos h4, impl_isRecord_long.f, if_pos hs, Option.bind_some, decide_eq_true (show (0 ≤ a ∧ a ≤ 250 ∧ n.length ≤ 24 ∧ s.length ≤ 6) by omega), Bool.true_and]
          rfl
        · simp only [if_pos h1, if_pos h2, if_pos h3, if_neg h4, decide_eq_false (show ¬ (0 ≤ a ∧ a ≤ 250 ∧ n.length ≤ 24 ∧ s.length ≤ 6) by omega), Bool.false_and]
      · simp only [if_pos h1, if_pos h2, if_neg h3, decide_eq_false (show ¬ (0 ≤ a ∧ a ≤ 250 ∧ n.length ≤ 24 ∧ s.length ≤ 6) by omega), Bool.false_and]
    · simp only [if_pos h1, if_neg h2, decide_eq_false (show ¬ (0 ≤ a ∧ a ≤ 250 ∧ n.length ≤ 24 ∧ s.length ≤ 6) by omega), Bool.false_and]
  · simp only [if_neg h1, decide_eq_false (show ¬ (0 ≤ a ∧ a ≤ 250 ∧ n.length ≤ 24 ∧ s.length ≤ 6) by omega), Bool.false_and]
end Go.Proofs.Ytgdebfaoohjikaa.KR
