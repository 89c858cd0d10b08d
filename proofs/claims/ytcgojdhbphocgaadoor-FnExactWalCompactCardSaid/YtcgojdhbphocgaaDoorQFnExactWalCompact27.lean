/- Merged texts below the law FnExactWalCompact: Go functions as Lean functions, their contracts, and plain lemmas. -/
import Derived.Test.YtcgojdhbphocgaaDoorQFnExactWalCompact23
import Derived.Test.YtcgojdhbphocgaaDoorQFnExactWalCompact26
namespace Go.Proofs.YtcgojdhbphocgaaDoor.F
open Go.RowKit Go.Proofs.YtcgojdhbphocgaaDoorW.PrintWords Go.Proofs.YtcgojdhbphocgaaDoorW.PrintWords.Kd Go.Proofs.YtcgojdhbphocgaaDoorW.PrintMore.Kd Go.Proofs.YtcgojdhbphocgaaDoorW.PrintLast Go.Proofs.YtcgojdhbphocgaaDoorW.PrintMore
attribute [local go_sem] max2_int min2_int max_two min_two max_three min_three max_four min_four   -- for this text's walks alone
set_option linter.unusedVariables false
set_option linter.unusedSimpArgs false
mutual
def impl_walRead.j0 : Nat → Int → Bool → List (S55) → Option ((List (List Int)) × Int × Int)
 | 0, _, _, _ => none
 | k + 1, x5, x18, x406000 => if x18 = true then (some (([] : List (List Int)), 0, 3)) else (if 0 ≤ x5 then (if x5 < (x406000.length : Int) then ((impl_File_content.f ((rd_T55 x406000 x5).f0) ((rd_T55 x406000 x5).f1) ((rd_T55 x406000 x5).f2)).bind fun t409 => ((impl_scanFrames.f k t409).bind fun bt412 => (if bt412.2 = (t409.length : Int) then (some (bt412.1, bt412.2, 0)) else (impl_walRead.l0 k t409 bt412.1 bt412.2 (wrap64 (bt412.2 + 1)))))) else (none)) else (none))
def impl_walRead.l0 : Nat → List Int → List (List Int) → Int → Int → Option ((List (List Int)) × Int × Int)
 | 0, _, _, _, _ => none
 | k + 1, x6, x7, x8, x9 => if x9 < (x6.length : Int) then (if 0 ≤ x9 then (if x9 ≤ (x6.length : Int) then ((impl_beginsFrame.f k (x6.drop (x9 : Int).toNat)).bind fun t420 => (if t420 = true then (some (x7, x8, 2)) else (impl_walRead.l0 k x6 x7 x8 (wrap64 (x9 + 1))))) else (none)) else (none)) else (some (x7, x8, 1))
end
def impl_walRead.f (k : Nat) (l0_0 : List (S55)) : Option ((List (List Int)) × Int × Int) := (impl_fileOf.f l0_0 (⟨#[108, 111, 103]⟩ : ByteArray)).bind fun t406 => ((impl_isDisk.f k l0_0).bind fun t407 => (if t407 = true then (impl_walRead.j0 k t406 (decide (t406 < 0)) l0_0) else (impl_walRead.j0 k t406 true l0_0)))
set_option maxHeartbeats 8000000 in
set_option maxRecDepth 100000 in
theorem impl_walRead.calls (k : Nat) (A0_0 : Option Addr) (c0_0 : Nat) (l0_0 : List (S55)) (r1 : List (List Int)) (r2 : Int) (r3 : Int) (w : World) (hr0_0 : Kd.C k55 w A0_0 l0_0.length l0_0) (hc0_0 : l0_0.length ≤ c0_0) (h : impl_walRead.f k l0_0 = some (r1, r2, r3)) :
  Calls Tryd.prog 49 #[.agg #[.slice A0_0 l0_0.length c0_0]] w fun e w' => ∃ v0_ : Value, e = .returned (.tuple #[v0_, .int .i64 r2, .int .i64 r3]) ∧ Kd.S (Kd.slice 5 (Kd.int .u8)) 41 w' w.heap.size (fun _ => True) v0_ r1 ∧ Below w.heap.size w w' := by
 have hu28 := Tryd.underlying28
 have hu55 := Tryd.underlying55
 have HR0_0 := Zh hr0_0
 have HC0_0 := Zh hc0_0
 clear hr0_0 hc0_0
 have HB := Zh (Below.refl w.heap.size w)
 have H : ((impl_fileOf.f l0_0 (⟨#[108, 111, 103]⟩ : ByteArray)).bind fun t406 => ((impl_isDisk.f k l0_0).bind fun t407 => (if t407 = true then (impl_walRead.j0 k t406 (decide (t406 < 0)) l0_0) else (impl_walRead.j0 k t406 true l0_0)))) = some (r1, r2, r3) := h
 clear h
 replace H := Option.bind_eq_some_iff.mp H
 obtain ⟨t406, A20, H⟩ := H
 replace H : ((impl_isDisk.f k l0_0).bind fun t407 => (if t407 = true then (impl_walRead.j0 k t406 (decide (t406 < 0)) l0_0) else (impl_walRead.j0 k t406 true l0_0))) = some (r1, r2, r3) := H
 have A2 := Zh A20
 clear A20
 have HC3 := Zh H
 clear H
 go_enter Tryd.func49, Tryd.ntmps49
 go_upto_region 2 with (first | ((with_reducible refine gate_dst (N := 1) rfl ?_); refine box_event ?hg (N := 1) ?hd (cs := #[.slice A0_0 l0_0.length c0_0]) (t := 28) ?hr ?_; (case hd => rfl); (case hg => rfl); (case hr => first | (go_simp; done) | (go_simp; rfl)); intro gb405 hg w4 hbox hb; have n0_ := Zh (Zl Zs hb); have n1_ := Zh (hbox); have n2_ := Zh ((by rw [hg]; exact (below_size Zs) : w.heap.size ≤ gb405)); have n3_ := Zh ((by rw [hg]; exact (below_size Zs) : w.heap.size ≤ gb405)); clear HB; have HB := n0_; have BK405 := n1_; have GW405 := n2_; have GE405 := n3_; clear n0_ n1_ n2_ n3_; clear hb hbox hg; have hcz5_0 : w4.cell? ⟨gb405, 0, none⟩ = some (.slice A0_0 l0_0.length c0_0) := (blk_cell BK405.out 0).trans rfl; have hfz5_0 := Zn BK405.out 0) | ((with_reducible refine gate_callee (f := 74) rfl ?_); refine goesL_ (some 11) rfl rfl Tryd.func74 (by kernel_rfl) rfl #[.agg #[.slice A0_0 l0_0.length c0_0], .string (⟨#[108, 111, 103]⟩ : ByteArray)] rfl (by (try simp only [List.map_toArray, List.map_cons, List.map_nil]); first | done | rfl | (simp only [List.length_drop, List.length_take]; rfl)) ?_; (with_reducible refine (impl_fileOf.calls _ _ l0_0 (⟨#[108, 111, 103]⟩ : ByteArray) t406 _ ?side1 ?side2 A2.out).mono ?_); (case side1 => repeat (first | exact (C_below HR0_0.out HB.out) | (with_reducible refine C_alloc ?_ _) | (with_reducible refine C_drewN ?_ _) | (with_reducible refine C_drew ?_))); (case side2 => exact HC0_0.out); rintro e w6 ⟨rfl, hb⟩; refine ⟨_, rfl, ?_⟩; have n0_ := Zh (Zm (g := gb405) (o := .cells #[.slice A0_0 l0_0.length c0_0] 28 (0, 0)) Zk hb); have n1_ := Zh (Zl Zs hb); clear BK405; clear HB; have BK405 := n0_; have HB := n1_; clear n0_ n1_; (try clear hb); (try clear hb2); (try clear hk); (try clear hi)))
 (try simp only [Act.put, List.setIfInBounds_toArray, List.set_cons_zero, List.set_cons_succ])
 go_cut [18] (fun v18 wc => ∃ (kq : Nat) (x18_2 : Bool), v18 = .bool x18_2 ∧ Aside0 (impl_walRead.j0 kq t406 x18_2 l0_0 = some (r1, r2, r3)) ∧ Aside0 (kq ≤ k) ∧ Aside0 (wc.heap[gb405]? = some (.cells #[(.slice A0_0 l0_0.length c0_0)] 28 (0, 0))) ∧ Aside0 (Below w.heap.size w wc))
 case first =>
  have H := HC3.out
  clear HC3
  replace H := Option.bind_eq_some_iff.mp H
  obtain ⟨t407, A70, H⟩ := H
  replace H : (if t407 = true then (impl_walRead.j0 k t406 (decide (t406 < 0)) l0_0) else (impl_walRead.j0 k t406 true l0_0)) = some (r1, r2, r3) := H
  have A7 := Zh A70
  clear A70
  by_cases c8 : t407 = true
  ·
   subst c8
   have H1 : (impl_walRead.j0 k t406 (decide (t406 < 0)) l0_0) = some (r1, r2, r3) := by rw [if_pos rfl] at H; exact H
   clear H
   have H := H1
   clear H1
   have H' := Zh H
   clear H
   have hcz9_0 : w6.cell? ⟨gb405, 0, none⟩ = some (.slice A0_0 l0_0.length c0_0) := (blk_cell BK405.out 0).trans rfl
   have hfz9_0 := Zn BK405.out 0
   go_wp2_with (first | ((with_reducible refine gate_callee (f := 72) rfl ?_); refine goesL_ (some 13) rfl rfl Tryd.func72 (by kernel_rfl) rfl #[.agg #[.slice A0_0 l0_0.length c0_0]] rfl (by (try simp only [List.map_toArray, List.map_cons, List.map_nil]); first | done | rfl | (simp only [List.length_drop, List.length_take]; rfl)) ?_; (with_reducible refine (impl_isDisk.calls k _ _ l0_0 true _ ?side1 ?side2 A7.out).mono ?_); (case side1 => repeat (first | exact (C_below HR0_0.out HB.out) | (with_reducible refine C_alloc ?_ _) | (with_reducible refine C_drewN ?_ _) | (with_reducible refine C_drew ?_))); (case side2 => exact HC0_0.out); rintro e w10 ⟨rfl, hb⟩; refine ⟨_, rfl, ?_⟩; have n0_ := Zh (Zm (g := gb405) (o := .cells #[.slice A0_0 l0_0.length c0_0] 28 (0, 0)) Zk hb); have n1_ := Zh (Zl Zs hb); clear BK405; clear HB; have BK405 := n0_; have HB := n1_; clear n0_ n1_; (try clear hb); (try clear hb2); (try clear hk); (try clear hi)))
   go_meet
   case rel => exact ⟨_, (decide (t406 < 0)), (by first | rfl | (simp; done) | (simp [*]; done)), H', ⟨by first | omega | exact Nat.le_refl _⟩, ⟨by (with_reducible repeat (first | refine Za ?_ _ | refine Zb ?_ | refine blk_alloc ?_ _)); exact BK405.out⟩, ⟨by repeat (first | (with_reducible first | exact HB.out | apply Zf | apply Zd | apply Ze | refine Zg ?_ GE405.out) | exact HB.out)⟩⟩
  replace c8 := Bool.eq_false_iff.mpr c8
  subst c8
  have H1 : (impl_walRead.j0 k t406 true l0_0) = some (r1, r2, r3) := by rw [if_neg (show ¬ (false = true) by decide)] at H; exact H
  clear H
  have H := H1
  clear H1
  have H' := Zh H
  clear H
  have hcz11_0 : w6.cell? ⟨gb405, 0, none⟩ = some (.slice A0_0 l0_0.length c0_0) := (blk_cell BK405.out 0).trans rfl
  have hfz11_0 := Zn BK405.out 0
  go_wp2_with (first | ((with_reducible refine gate_callee (f := 72) rfl ?_); refine goesL_ (some 13) rfl rfl Tryd.func72 (by kernel_rfl) rfl #[.agg #[.slice A0_0 l0_0.length c0_0]] rfl (by (try simp only [List.map_toArray, List.map_cons, List.map_nil]); first | done | rfl | (simp only [List.length_drop, List.length_take]; rfl)) ?_; (with_reducible refine (impl_isDisk.calls k _ _ l0_0 false _ ?side1 ?side2 A7.out).mono ?_); (case side1 => repeat (first | exact (C_below HR0_0.out HB.out) | (with_reducible refine C_alloc ?_ _) | (with_reducible refine C_drewN ?_ _) | (with_reducible refine C_drew ?_))); (case side2 => exact HC0_0.out); rintro e w12 ⟨rfl, hb⟩; refine ⟨_, rfl, ?_⟩; have n0_ := Zh (Zm (g := gb405) (o := .cells #[.slice A0_0 l0_0.length c0_0] 28 (0, 0)) Zk hb); have n1_ := Zh (Zl Zs hb); clear BK405; clear HB; have BK405 := n0_; have HB := n1_; clear n0_ n1_; (try clear hb); (try clear hb2); (try clear hk); (try clear hi)))
  go_meet
  case rel => exact ⟨_, (true), (by first | rfl | (simp; done) | (simp [*]; done)), H', ⟨by first | omega | exact Nat.le_refl _⟩, ⟨by (with_reducible repeat (first | refine Za ?_ _ | refine Zb ?_ | refine blk_alloc ?_ _)); exact BK405.out⟩, ⟨by repeat (first | (with_reducible first | exact HB.out | apply Zf | apply Zd | apply Ze | refine Zg ?_ GE405.out) | exact HB.out)⟩⟩
 case rest =>
  clear HC3
  try clear p2
  try clear c4
  try clear c7
  try clear c8
  try clear hcz11_0
  try clear hcz5_0
  try clear hcz9_0
  try clear hfz11_0
  try clear hfz5_0
  try clear hfz9_0
  obtain ⟨kq, x18_2, rfl, HA, HJ2, BK405, HB⟩ := hcut
  cases kq with
  | zero => exact absurd HA.out (by simp [impl_walRead.j0])
  | succ kj2 =>
   have H := HA.out
   clear HA
   simp only [impl_walRead.j0] at H
   by_cases c13 : x18_2 = true
   ·
    subst c13
    have H1 : (some (([] : List (List Int)), 0, 3)) = some (r1, r2, r3) := by rw [if_pos rfl] at H; exact H
    clear H
    have H := H1
    clear H1
    simp only [Option.some.injEq, Prod.mk.injEq] at H
    obtain ⟨rfl, rfl, rfl⟩ := H
    go_wp2
    go_ret3
    exact ⟨_, by first | rfl | (simp [errW_none, errW_some] <;> rfl) | (simp [*, errW_none, errW_some] <;> rfl), by first | exact S_nil _ _ _ _ _ | exact N_nil _ _ _ _ _ | exact V_nil _ _ _ _ _ | exact Q_nil _ _ _ _ _ | exact R_nil _ _ _ _ _, by repeat (first | (with_reducible first | exact HB.out | apply Zf | apply Zd | apply Ze | refine Zg ?_ GE405.out) | exact HB.out)⟩
   replace c13 := Bool.eq_false_iff.mpr c13
   subst c13
   have H1 : (if 0 ≤ t406 then (if t406 < (l0_0.length : Int) then ((impl_File_content.f ((rd_T55 l0_0 t406).f0) ((rd_T55 l0_0 t406).f1) ((rd_T55 l0_0 t406).f2)).bind fun t409 => ((impl_scanFrames.f kj2 t409).bind fun bt412 => (if bt412.2 = (t409.length : Int) then (some (bt412.1, bt412.2, 0)) else (impl_walRead.l0 kj2 t409 bt412.1 bt412.2 (wrap64 (bt412.2 + 1)))))) else (none)) else (none)) = some (r1, r2, r3) := by rw [if_neg (show ¬ (false = true) by decide)] at H; exact H
   clear H
   have H := H1
   clear H1
   by_cases c14 : 0 ≤ t406
   ·
    rw [if_pos c14] at H
    have c14b0 : decide (0 ≤ t406) = true := decide_eq_true c14
    clear c14
    by_cases c15 : t406 < (l0_0.length : Int)
    ·
     rw [if_pos c15] at H
     have c15b0 : decide (t406 < (l0_0.length : Int)) = true := decide_eq_true c15
     clear c15
     replace H := Option.bind_eq_some_iff.mp H
     obtain ⟨t409, A160, H⟩ := H
     replace H : ((impl_scanFrames.f kj2 t409).bind fun bt412 => (if bt412.2 = (t409.length : Int) then (some (bt412.1, bt412.2, 0)) else (impl_walRead.l0 kj2 t409 bt412.1 bt412.2 (wrap64 (bt412.2 + 1))))) = some (r1, r2, r3) := H
     have A16 := Zh A160
     clear A160
     replace H := Option.bind_eq_some_iff.mp H
     obtain ⟨⟨t412, t413⟩, A170, H⟩ := H
     replace H : (if t413 = (t409.length : Int) then (some (t412, t413, 0)) else (impl_walRead.l0 kj2 t409 t412 t413 (wrap64 (t413 + 1)))) = some (r1, r2, r3) := H
     have A17 := Zh A170
     clear A170
     by_cases c18 : t413 = (t409.length : Int)
     ·
      rw [if_pos c18] at H
      have c18b0 : (t413 == (t409.length : Int)) = true := beq_iff_eq.mpr c18
      have c18b1 : (t413 != (t409.length : Int)) = false := bne_eq_false_iff_eq.mpr c18
      clear c18
      simp only [Option.some.injEq, Prod.mk.injEq] at H
      obtain ⟨rfl, rfl, rfl⟩ := H
      have hcz19_0 : wc.cell? ⟨gb405, 0, none⟩ = some (.slice A0_0 l0_0.length c0_0) := (blk_cell BK405.out 0).trans rfl
      have hfz19_0 := Zn BK405.out 0
      have p408 : 0 ≤ (t406 : Int) := Zo
      have q408 : t406 < (l0_0.length : Int) := Zo
      obtain ⟨ad408, A408_1, c408_1, A408_2, c408_2, e408, hx408_0, hx408_1, hx408_2, hl408_1, hi408_1, hl408_2, hi408_2⟩ := at_T55 HR0_0.out t406 p408 q408
      cases e408
      replace hx408_0 := Zc HB.out hx408_0
      replace hx408_1 := Zc HB.out hx408_1
      replace hx408_2 := Zc HB.out hx408_2
      have HR408_1 := Zh hi408_1
      have HC408_1 := Zh hl408_1
      clear hi408_1 hl408_1
      have HR408_2 := Zh hi408_2
      have HC408_2 := Zh hl408_2
      clear hi408_2 hl408_2
      replace p408 := eq_true p408
      replace q408 := eq_true q408
      go_wp2_with (first | ((with_reducible refine gate_callee (f := 75) rfl ?_); refine goesL_ (some 24) rfl rfl Tryd.func75 (by kernel_rfl) rfl #[.agg #[.string ((rd_T55 l0_0 t406).f0), .slice A408_1 ((rd_T55 l0_0 t406).f1).length c408_1, .slice A408_2 ((rd_T55 l0_0 t406).f2).length c408_2]] rfl (by (try simp only [List.map_toArray, List.map_cons, List.map_nil]); first | done | rfl | (simp only [List.length_drop, List.length_take]; rfl)) ?_; (with_reducible refine (impl_File_content.calls ((rd_T55 l0_0 t406).f0) _ _ ((rd_T55 l0_0 t406).f1) _ _ ((rd_T55 l0_0 t406).f2) t409 _ ?side1 ?side2 ?side3 ?side4 A16.out).mono ?_); (case side1 => repeat (first | exact (C_below HR408_1.out HB.out) | (with_reducible refine C_alloc ?_ _) | (with_reducible refine C_drewN ?_ _) | (with_reducible refine C_drew ?_))); (case side2 => exact HC408_1.out); (case side3 => repeat (first | exact (C_below HR408_2.out HB.out) | (with_reducible refine C_alloc ?_ _) | (with_reducible refine C_drewN ?_ _) | (with_reducible refine C_drew ?_))); (case side4 => exact HC408_2.out); rintro e w20 ⟨v410, rfl, ho0, hb⟩; refine ⟨_, rfl, ?_⟩; have n0_ := Zh (R_lower ho0 (below_size Zs)); have n1_ := Zh (Zm (g := gb405) (o := .cells #[.slice (some ad408) l0_0.length c0_0] 28 (0, 0)) Zk hb); have n2_ := Zh (Zl Zs hb); clear BK405; clear HB; have HO411 := n0_; have BK405 := n1_; have HB := n2_; clear n0_ n1_ n2_; (try clear hb); (try clear hb2); (try clear hk); (try clear hi); (try clear ho0); obtain ⟨Ao21, co21, eo21⟩ := R_slice HO411.out; subst eo21) | ((with_reducible refine gate_callee (f := 81) rfl ?_); refine goesL_ (some 27) rfl rfl Tryd.func81 (by kernel_rfl) rfl #[.slice Ao21 t409.length co21] rfl (by (try simp only [List.map_toArray, List.map_cons, List.map_nil]); first | done | rfl | (simp only [List.length_drop, List.length_take]; rfl)) ?_; (with_reducible refine (impl_scanFrames.calls kj2 _ _ t409 t412 t413 _ ?side1 ?side2 A17.out).mono ?_); (case side1 => repeat (first | exact (R_reads' HO411.out).2.2 | (with_reducible refine C_alloc ?_ _) | (with_reducible refine C_drewN ?_ _) | (with_reducible refine C_drew ?_))); (case side2 => exact (R_reads' HO411.out).2.1); rintro e w22 ⟨v414, rfl, ho0, hb⟩; refine ⟨_, rfl, ?_⟩; have n0_ := Zh (R_below (by (with_reducible repeat (first | apply R_alloc | apply R_drewN | apply R_drew)); exact HO411.out) hb); have n1_ := Zh (S_lower (S_new' ho0 (R_lt (by (with_reducible repeat (first | apply R_alloc | apply R_drewN | apply R_drew)); exact HO411.out))) (below_size Zs)); have n2_ := Zh (Zm (g := gb405) (o := .cells #[.slice (some ad408) l0_0.length c0_0] 28 (0, 0)) Zk hb); have n3_ := Zh (Zl Zs hb); clear HO411; clear BK405; clear HB; have HO411 := n0_; have HO415 := n1_; have BK405 := n2_; have HB := n3_; clear n0_ n1_ n2_ n3_; (try clear hb); (try clear hb2); (try clear hk); (try clear hi); (try clear ho0)))
      go_ret3
      exact ⟨_, by first | rfl | (simp [errW_none, errW_some] <;> rfl) | (simp [*, errW_none, errW_some] <;> rfl), by (with_reducible repeat (first | apply S_alloc | apply S_drewN | apply S_drew)); exact S_mono HO415.out (fun _ hk => trivial), by repeat (first | (with_reducible first | exact HB.out | apply Zf | apply Zd | apply Ze | refine Zg ?_ GE405.out) | exact HB.out)⟩
     rw [if_neg c18] at H
     have c18b0 : (t413 == (t409.length : Int)) = false := beq_eq_false_iff_ne.mpr c18
     have c18b1 : (t413 != (t409.length : Int)) = true := bne_iff_ne.mpr c18
     have H' := Zh H
     clear H
     have hcz23_0 : wc.cell? ⟨gb405, 0, none⟩ = some (.slice A0_0 l0_0.length c0_0) := (blk_cell BK405.out 0).trans rfl
     have hfz23_0 := Zn BK405.out 0
     have p408 : 0 ≤ (t406 : Int) := Zo
     have q408 : t406 < (l0_0.length : Int) := Zo
     obtain ⟨ad408, A408_1, c408_1, A408_2, c408_2, e408, hx408_0, hx408_1, hx408_2, hl408_1, hi408_1, hl408_2, hi408_2⟩ := at_T55 HR0_0.out t406 p408 q408
     cases e408
     replace hx408_0 := Zc HB.out hx408_0
     replace hx408_1 := Zc HB.out hx408_1
     replace hx408_2 := Zc HB.out hx408_2
     have HR408_1 := Zh hi408_1
     have HC408_1 := Zh hl408_1
     clear hi408_1 hl408_1
     have HR408_2 := Zh hi408_2
     have HC408_2 := Zh hl408_2
     clear hi408_2 hl408_2
     replace p408 := eq_true p408
     replace q408 := eq_true q408
     go_wp2_with (first | ((with_reducible refine gate_callee (f := 75) rfl ?_); refine goesL_ (some 24) rfl rfl Tryd.func75 (by kernel_rfl) rfl #[.agg #[.string ((rd_T55 l0_0 t406).f0), .slice A408_1 ((rd_T55 l0_0 t406).f1).length c408_1, .slice A408_2 ((rd_T55 l0_0 t406).f2).length c408_2]] rfl (by (try simp only [List.map_toArray, List.map_cons, List.map_nil]); first | done | rfl | (simp only [List.length_drop, List.length_take]; rfl)) ?_; (with_reducible refine (impl_File_content.calls ((rd_T55 l0_0 t406).f0) _ _ ((rd_T55 l0_0 t406).f1) _ _ ((rd_T55 l0_0 t406).f2) t409 _ ?side1 ?side2 ?side3 ?side4 A16.out).mono ?_); (case side1 => repeat (first | exact (C_below HR408_1.out HB.out) | (with_reducible refine C_alloc ?_ _) | (with_reducible refine C_drewN ?_ _) | (with_reducible refine C_drew ?_))); (case side2 => exact HC408_1.out); (case side3 => repeat (first | exact (C_below HR408_2.out HB.out) | (with_reducible refine C_alloc ?_ _) | (with_reducible refine C_drewN ?_ _) | (with_reducible refine C_drew ?_))); (case side4 => exact HC408_2.out); rintro e w24 ⟨v410, rfl, ho0, hb⟩; refine ⟨_, rfl, ?_⟩; have n0_ := Zh (R_lower ho0 (below_size Zs)); have n1_ := Zh (Zm (g := gb405) (o := .cells #[.slice (some ad408) l0_0.length c0_0] 28 (0, 0)) Zk hb); have n2_ := Zh (Zl Zs hb); clear BK405; clear HB; have HO411 := n0_; have BK405 := n1_; have HB := n2_; clear n0_ n1_ n2_; (try clear hb); (try clear hb2); (try clear hk); (try clear hi); (try clear ho0); obtain ⟨Ao25, co25, eo25⟩ := R_slice HO411.out; subst eo25) | ((with_reducible refine gate_callee (f := 81) rfl ?_); refine goesL_ (some 27) rfl rfl Tryd.func81 (by kernel_rfl) rfl #[.slice Ao25 t409.length co25] rfl (by (try simp only [List.map_toArray, List.map_cons, List.map_nil]); first | done | rfl | (simp only [List.length_drop, List.length_take]; rfl)) ?_; (with_reducible refine (impl_scanFrames.calls kj2 _ _ t409 t412 t413 _ ?side1 ?side2 A17.out).mono ?_); (case side1 => repeat (first | exact (R_reads' HO411.out).2.2 | (with_reducible refine C_alloc ?_ _) | (with_reducible refine C_drewN ?_ _) | (with_reducible refine C_drew ?_))); (case side2 => exact (R_reads' HO411.out).2.1); rintro e w26 ⟨v414, rfl, ho0, hb⟩; refine ⟨_, rfl, ?_⟩; have n0_ := Zh (R_below (by (with_reducible repeat (first | apply R_alloc | apply R_drewN | apply R_drew)); exact HO411.out) hb); have n1_ := Zh (S_lower (S_new' ho0 (R_lt (by (with_reducible repeat (first | apply R_alloc | apply R_drewN | apply R_drew)); exact HO411.out))) (below_size Zs)); have n2_ := Zh (Zm (g := gb405) (o := .cells #[.slice (some ad408) l0_0.length c0_0] 28 (0, 0)) Zk hb); have n3_ := Zh (Zl Zs hb); clear HO411; clear BK405; clear HB; have HO411 := n0_; have HO415 := n1_; have BK405 := n2_; have HB := n3_; clear n0_ n1_ n2_ n3_; (try clear hb); (try clear hb2); (try clear hk); (try clear hi); (try clear ho0)))
     go_loopg [9] kj2 (fun kq v9 w' => ∃ (x9_2 : Int), v9 = .int .i64 x9_2 ∧ Aside0 (impl_walRead.l0 kq t409 t412 t413 x9_2 = some (r1, r2, r3)) ∧ Aside0 (kq ≤ kj2) ∧ Aside0 (Kd.R (Kd.int .u8) 5 w' w.heap.size (fun _ => True) (.slice Ao25 t409.length co25) t409) ∧ Aside0 (Kd.S (Kd.slice 5 (Kd.int .u8)) 41 w' w.heap.size (fun k_ => some k_ ≠ ((.slice Ao25 t409.length co25) : Value).ownBlock) v414 t412) ∧ Aside0 (w'.heap[gb405]? = some (.cells #[(.slice (some ad408) l0_0.length c0_0)] 28 (0, 0))) ∧ Aside0 (Below w.heap.size w w'))
     case atStart => exact ⟨(wrap64 (t413 + 1)), (by first | rfl | (simp; done) | (simp [*]; done)), H', ⟨Nat.le_refl _⟩, ⟨by (with_reducible repeat (first | apply R_alloc | apply R_drewN | apply R_drew)); exact HO411.out⟩, ⟨by (with_reducible repeat (first | apply S_alloc | apply S_drewN | apply S_drew)); exact S_mono HO415.out (fun _ hk => hk.2)⟩, ⟨by (with_reducible repeat (first | refine Za ?_ _ | refine Zb ?_ | refine blk_alloc ?_ _)); exact BK405.out⟩, ⟨by repeat (first | (with_reducible first | exact HB.out | apply Zf | apply Zd | apply Ze | refine Zg ?_ GE405.out) | exact HB.out)⟩⟩
     case round =>
      clear H'
      try clear c1
      try clear p2
      try clear c4
      try clear p4
      try clear q4
      try clear hx4
      try clear p6
      try clear c7
      try clear c8
      try clear c13
      try clear c14
      try clear c14b0
      try clear c15
      try clear c15b0
      try clear c18
      try clear c18b0
      try clear c18b1
      try clear hcz11_0
      try clear hcz19_0
      try clear hcz23_0
      try clear hcz5_0
      try clear hcz9_0
      try clear hfz11_0
      try clear hfz19_0
      try clear hfz23_0
      try clear hfz5_0
      try clear hfz9_0
      try clear hx408_0
      try clear hx408_1
      try clear hx408_2
      try clear p2
      try clear p408
      try clear q408
      obtain ⟨x9_2, rfl, HA, HK2, HO_6, HO_7, BK405, HB⟩ := hrel
      cases gk with
      | zero => exact absurd HA.out (by simp [impl_walRead.l0])
      | succ k2 =>
       have H := HA.out
       clear HA
       simp only [impl_walRead.l0] at H
       by_cases c27 : x9_2 < (t409.length : Int)
       ·
        rw [if_pos c27] at H
        have c27b0 : decide (x9_2 < (t409.length : Int)) = true := decide_eq_true c27
        clear c27
        by_cases c28 : 0 ≤ x9_2
        ·
         rw [if_pos c28] at H
         have c28b0 := eq_true c28
         have c28b1 : decide (0 ≤ x9_2) = true := decide_eq_true c28
         clear c28
         by_cases c29 : x9_2 ≤ (t409.length : Int)
         ·
          rw [if_pos c29] at H
          have c29b0 := eq_true c29
          have c29b1 : decide (x9_2 ≤ (t409.length : Int)) = true := decide_eq_true c29
          clear c29
          obtain ⟨y416, hy416⟩ : ∃ y_ : List Int, y_ = (t409.drop (x9_2 : Int).toNat) := ⟨_, rfl⟩
          replace H : ((impl_beginsFrame.f k2 y416).bind fun t420 => (if t420 = true then (some (t412, t413, 2)) else (impl_walRead.l0 k2 t409 t412 t413 (wrap64 (x9_2 + 1))))) = some (r1, r2, r3) := by first | (rw [hy416]; with_reducible exact H) | (have H2_ := (Option.bind_some _ _).symm.trans H; rw [hy416]; with_reducible exact H2_) | (have H2_ := (Option.bind_some _ _).symm.trans H; with_reducible exact H2_) | with_reducible exact H | (rw [hy416]; exact H) | exact H
          have Ny416 := Zh hy416
          clear hy416
          replace H := Option.bind_eq_some_iff.mp H
          obtain ⟨t420, A300, H⟩ := H
          replace H : (if t420 = true then (some (t412, t413, 2)) else (impl_walRead.l0 k2 t409 t412 t413 (wrap64 (x9_2 + 1)))) = some (r1, r2, r3) := H
          have A30 := Zh A300
          clear A300
          by_cases c31 : t420 = true
          ·
           subst c31
           have H1 : (some (t412, t413, 2)) = some (r1, r2, r3) := by rw [if_pos rfl] at H; exact H
           clear H
           have H := H1
           clear H1
           simp only [Option.some.injEq, Prod.mk.injEq] at H
           obtain ⟨rfl, rfl, rfl⟩ := H
           have q32 : (x9_2 : Int) ≤ ((t409.length : Int) : Int) := Zo
           obtain ⟨i032, hi032, _, hsz32, _⟩ := info_parts info5
           have hroom32 : t409.length ≤ co25 := (R_reads' HO_6.out).2.1
           have hC32 : Kd.C (Kd.int .u8) _ Ao25 t409.length t409 := (R_reads' HO_6.out).2.2
           have q032 : (0 : Int) ≤ (x9_2 : Int) := Zo
           have hcut32 := cut_from (P := Tryd.prog) 41 5 .i64 Tryd.underlying41 hi032 1 hsz32 Ao25 t409.length co25 x9_2 q032 q32
           have hr32 := C_drop (m := (x9_2 : Int).toNat) (c := co25) hC32 (by omega) hroom32
           obtain ⟨A32, hA32⟩ : ∃ A1, A1 = (if co25 = (x9_2 : Int).toNat then Ao25 else (Ao25 : Option Addr).map (·.add ((x9_2 : Int).toNat * 1))) := ⟨_, rfl⟩
           obtain ⟨c32, hc32⟩ : ∃ c1, c1 = co25 - (x9_2 : Int).toNat := ⟨_, rfl⟩
           have hy32 : y416.length = t409.length - (x9_2 : Int).toNat := (by rw [Ny416.out, List.length_drop] <;> omega)
           rw [show (t409).drop (x9_2 : Int).toNat = y416 from Ny416.out.symm] at hr32
           replace hr32 : Kd.C (Kd.int .u8) _ A32 y416.length y416 := (by rw [hA32]; exact hr32)
           rw [← hy32, ← hA32, ← hc32] at hcut32
           have HR419 := Zh hr32
           have HC419 := Zh (show y416.length ≤ c32 from by rw [hy32, hc32]; exact Nat.sub_le_sub_right hroom32 _)
           clear hr32 hC32 hroom32 hi032 hsz32 hc32
           have KY32 := Zh hy32
           have KA32 := Zh hA32
           clear hy32 hA32
           have KL32 := Zh (show (x9_2 : Int).toNat ≤ t409.length from by omega)
           replace q32 := eq_true q32
           go_wp2_with (first | ((with_reducible refine gate_callee (f := 82) rfl ?_); refine goesL_ (some 47) rfl rfl Tryd.func82 (by kernel_rfl) rfl #[.slice A32 y416.length c32] rfl (by (try simp only [List.map_toArray, List.map_cons, List.map_nil]); first | done | rfl | (simp only [List.length_drop, List.length_take]; rfl)) ?_; (with_reducible refine (impl_beginsFrame.calls k2 _ _ y416 true _ ?side1 ?side2 A30.out).mono ?_); (case side1 => repeat (first | exact (by repeat (first | (with_reducible exact HR419.out) | (with_reducible refine C_alloc ?_ _) | (with_reducible refine C_drewN ?_ _) | (with_reducible refine C_drew ?_) | exact HR419.out)) | (with_reducible refine C_alloc ?_ _) | (with_reducible refine C_drewN ?_ _) | (with_reducible refine C_drew ?_))); (case side2 => exact HC419.out); rintro e w33 ⟨rfl, hb⟩; refine ⟨_, rfl, ?_⟩; have n0_ := Zh (R_below (by (with_reducible repeat (first | apply R_alloc | apply R_drewN | apply R_drew)); exact HO_6.out) hb); have n1_ := Zh (S_below (by (with_reducible repeat (first | apply S_alloc | apply S_drewN | apply S_drew)); exact HO_7.out) hb); have n2_ := Zh (Zm (g := gb405) (o := .cells #[.slice (some ad408) l0_0.length c0_0] 28 (0, 0)) Zk hb); have n3_ := Zh (C_below (by repeat (first | (with_reducible exact HR419.out) | (with_reducible refine C_alloc ?_ _) | (with_reducible refine C_drewN ?_ _) | (with_reducible refine C_drew ?_) | exact HR419.out)) hb); have n4_ := Zh (Zl Zs hb); clear HO_6; clear HO_7; clear BK405; clear HR419; clear HB; have HO_6 := n0_; have HO_7 := n1_; have BK405 := n2_; have HR419 := n3_; have HB := n4_; clear n0_ n1_ n2_ n3_ n4_; (try clear hb); (try clear hb2); (try clear hk); (try clear hi)))
           go_ret3
           exact ⟨_, by first | rfl | (simp [errW_none, errW_some] <;> rfl) | (simp [*, errW_none, errW_some] <;> rfl), by (with_reducible repeat (first | apply S_alloc | apply S_drewN | apply S_drew)); exact S_mono HO_7.out (fun _ hk => trivial), by repeat (first | (with_reducible first | exact HB.out | apply Zf | apply Zd | apply Ze | refine Zg ?_ GE405.out) | exact HB.out)⟩
          replace c31 := Bool.eq_false_iff.mpr c31
          subst c31
          have H1 : (impl_walRead.l0 k2 t409 t412 t413 (wrap64 (x9_2 + 1))) = some (r1, r2, r3) := by rw [if_neg (show ¬ (false = true) by decide)] at H; exact H
          clear H
          have H := H1
          clear H1
          have H' := Zh H
          clear H
          have q34 : (x9_2 : Int) ≤ ((t409.length : Int) : Int) := Zo
          obtain ⟨i034, hi034, _, hsz34, _⟩ := info_parts info5
          have hroom34 : t409.length ≤ co25 := (R_reads' HO_6.out).2.1
          have hC34 : Kd.C (Kd.int .u8) _ Ao25 t409.length t409 := (R_reads' HO_6.out).2.2
          have q034 : (0 : Int) ≤ (x9_2 : Int) := Zo
          have hcut34 := cut_from (P := Tryd.prog) 41 5 .i64 Tryd.underlying41 hi034 1 hsz34 Ao25 t409.length co25 x9_2 q034 q34
          have hr34 := C_drop (m := (x9_2 : Int).toNat) (c := co25) hC34 (by omega) hroom34
          obtain ⟨A34, hA34⟩ : ∃ A1, A1 = (if co25 = (x9_2 : Int).toNat then Ao25 else (Ao25 : Option Addr).map (·.add ((x9_2 : Int).toNat * 1))) := ⟨_, rfl⟩
          obtain ⟨c34, hc34⟩ : ∃ c1, c1 = co25 - (x9_2 : Int).toNat := ⟨_, rfl⟩
          have hy34 : y416.length = t409.length - (x9_2 : Int).toNat := (by rw [Ny416.out, List.length_drop] <;> omega)
          rw [show (t409).drop (x9_2 : Int).toNat = y416 from Ny416.out.symm] at hr34
          replace hr34 : Kd.C (Kd.int .u8) _ A34 y416.length y416 := (by rw [hA34]; exact hr34)
          rw [← hy34, ← hA34, ← hc34] at hcut34
          have HR419 := Zh hr34
          have HC419 := Zh (show y416.length ≤ c34 from by rw [hy34, hc34]; exact Nat.sub_le_sub_right hroom34 _)
          clear hr34 hC34 hroom34 hi034 hsz34 hc34
          have KY34 := Zh hy34
          have KA34 := Zh hA34
          clear hy34 hA34
          have KL34 := Zh (show (x9_2 : Int).toNat ≤ t409.length from by omega)
          replace q34 := eq_true q34
          go_wp2_with (first | ((with_reducible refine gate_callee (f := 82) rfl ?_); refine goesL_ (some 47) rfl rfl Tryd.func82 (by kernel_rfl) rfl #[.slice A34 y416.length c34] rfl (by (try simp only [List.map_toArray, List.map_cons, List.map_nil]); first | done | rfl | (simp only [List.length_drop, List.length_take]; rfl)) ?_; (with_reducible refine (impl_beginsFrame.calls k2 _ _ y416 false _ ?side1 ?side2 A30.out).mono ?_); (case side1 => repeat (first | exact (by repeat (first | (with_reducible exact HR419.out) | (with_reducible refine C_alloc ?_ _) | (with_reducible refine C_drewN ?_ _) | (with_reducible refine C_drew ?_) | exact HR419.out)) | (with_reducible refine C_alloc ?_ _) | (with_reducible refine C_drewN ?_ _) | (with_reducible refine C_drew ?_))); (case side2 => exact HC419.out); rintro e w35 ⟨rfl, hb⟩; refine ⟨_, rfl, ?_⟩; have n0_ := Zh (R_below (by (with_reducible repeat (first | apply R_alloc | apply R_drewN | apply R_drew)); exact HO_6.out) hb); have n1_ := Zh (S_below (by (with_reducible repeat (first | apply S_alloc | apply S_drewN | apply S_drew)); exact HO_7.out) hb); have n2_ := Zh (Zm (g := gb405) (o := .cells #[.slice (some ad408) l0_0.length c0_0] 28 (0, 0)) Zk hb); have n3_ := Zh (C_below (by repeat (first | (with_reducible exact HR419.out) | (with_reducible refine C_alloc ?_ _) | (with_reducible refine C_drewN ?_ _) | (with_reducible refine C_drew ?_) | exact HR419.out)) hb); have n4_ := Zh (Zl Zs hb); clear HO_6; clear HO_7; clear BK405; clear HR419; clear HB; have HO_6 := n0_; have HO_7 := n1_; have BK405 := n2_; have HR419 := n3_; have HB := n4_; clear n0_ n1_ n2_ n3_ n4_; (try clear hb); (try clear hb2); (try clear hk); (try clear hi)))
          go_roundg k2
          case measure => have := HJ2.out; have := HK2.out; omega
          case rel => exact ⟨(wrap64 (x9_2 + 1)), (by first | rfl | (simp; done) | (simp [*]; done)), H', ⟨by have := HJ2.out; have := HK2.out; omega⟩, ⟨by (with_reducible repeat (first | apply R_alloc | apply R_drewN | apply R_drew)); exact HO_6.out⟩, ⟨by (with_reducible repeat (first | apply S_alloc | apply S_drewN | apply S_drew)); exact HO_7.out⟩, ⟨by (with_reducible repeat (first | refine Za ?_ _ | refine Zb ?_ | refine blk_alloc ?_ _)); exact BK405.out⟩, ⟨by repeat (first | (with_reducible first | exact HB.out | apply Zf | apply Zd | apply Ze | refine Zg ?_ GE405.out) | exact HB.out)⟩⟩
         rw [if_neg c29] at H
         exact absurd H (by simp)
        rw [if_neg c28] at H
        exact absurd H (by simp)
       rw [if_neg c27] at H
       have c27b0 : decide (x9_2 < (t409.length : Int)) = false := decide_eq_false c27
       clear c27
       simp only [Option.some.injEq, Prod.mk.injEq] at H
       obtain ⟨rfl, rfl, rfl⟩ := H
       go_wp2
       go_ret3
       exact ⟨_, by first | rfl | (simp [errW_none, errW_some] <;> rfl) | (simp [*, errW_none, errW_some] <;> rfl), by (with_reducible repeat (first | apply S_alloc | apply S_drewN | apply S_drew)); exact S_mono HO_7.out (fun _ hk => trivial), by repeat (first | (with_reducible first | exact HB.out | apply Zf | apply Zd | apply Ze | refine Zg ?_ GE405.out) | exact HB.out)⟩
    rw [if_neg c15] at H
    exact absurd H (by simp)
   rw [if_neg c14] at H
   exact absurd H (by simp)
end Go.Proofs.YtcgojdhbphocgaaDoor.F
