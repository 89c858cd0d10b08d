/- Merged texts below the law FnCrash: Go functions as Lean functions, their contracts, and plain lemmas. -/
import Derived.Test.YtmgeffgcihfpcaaDoorQFnCrash23
import Derived.Test.YtmgeffgcihfpcaaDoorQFnCrash25
import Derived.Test.YtmgeffgcihfpcaaDoorQFnCrash26
import Derived.Test.YtmgeffgcihfpcaaDoorVFnCrashOT
import Derived.Deep.DeepCutAuto
import Derived.Deep.CutBlock
import Derived.Test.YtmgeffgcihfpcaaDoorQFnCrash13
namespace Go.Proofs.YtmgeffgcihfpcaaDoor.F
open Go.RowKit Go.Proofs.YtmgeffgcihfpcaaDoorW.PrintWords Go.Proofs.YtmgeffgcihfpcaaDoorW.PrintWords.Kd Go.Proofs.YtmgeffgcihfpcaaDoorW.PrintMore.Kd Go.Proofs.YtmgeffgcihfpcaaDoorW.PrintLast Go.Proofs.YtmgeffgcihfpcaaDoorW.PrintMore
attribute [local go_sem] max2_int min2_int max_two min_two max_three min_three max_four min_four   -- for this text's walks alone
set_option linter.unusedVariables false
set_option linter.unusedSimpArgs false
def spec_RenameFile.j0 : Nat → ByteArray → ByteArray → Int → Bool → List (S74) → Option ((List (S74)) × Bool)
 | 0, _, _, _, _, _ => none
 | k + 1, x1, x2, x8, x24, x427000 => if x24 = true then ((spec_l03Copy.f k x427000).bind fun t431 => (some (t431, false))) else (if 0 ≤ x8 then (if x8 < (x427000.length : Int) then ((spec_l03Without.f k x427000 x1).bind fun t436 => ((spec_l03Put.f k t436 x2 ((rd_T74 x427000 x8).f1) ((rd_T74 x427000 x8).f2)).bind fun t439 => (some (t439, true)))) else (none)) else (none))
def spec_RenameFile.f (k : Nat) (l0_0 : List (S74)) (a1 : ByteArray) (a2 : ByteArray) : Option ((List (S74)) × Bool) := (spec_l03Find.f k l0_0 a1).bind fun t428 => ((spec_DiskOk.f k l0_0).bind fun t429 => (if t429 = true then (if t428 < 0 then (spec_RenameFile.j0 k a1 a2 t428 true l0_0) else ((spec_l01Name.f k a2).bind fun t430 => (spec_RenameFile.j0 k a1 a2 t428 (!t430) l0_0))) else (spec_RenameFile.j0 k a1 a2 t428 true l0_0)))
set_option maxHeartbeats 8000000 in
set_option maxRecDepth 100000 in
theorem spec_RenameFile.calls (k : Nat) (A0_0 : Option Addr) (c0_0 : Nat) (l0_0 : List (S74)) (a1 : ByteArray) (a2 : ByteArray) (r1 : List (S74)) (r2 : Bool) (w : World) (hr0_0 : Kd.C k74 w A0_0 l0_0.length l0_0) (hc0_0 : l0_0.length ≤ c0_0) (h : spec_RenameFile.f k l0_0 a1 a2 = some (r1, r2)) :
  Calls Tryd.prog 40 #[.agg #[.slice A0_0 l0_0.length c0_0], .string a1, .string a2] w fun e w' => ∃ v0_ : Value, e = .returned (.tuple #[.agg #[v0_], .bool r2]) ∧ Kd.S k74 74 w' w.heap.size (fun _ => True) v0_ r1 ∧ Below w.heap.size w w' := by
 have hu29 := Tryd.underlying29
 have hu74 := Tryd.underlying74
 have HR0_0 := Zh hr0_0
 have HC0_0 := Zh hc0_0
 clear hr0_0 hc0_0
 have HB := Zh (Below.refl w.heap.size w)
 have H : ((spec_l03Find.f k l0_0 a1).bind fun t428 => ((spec_DiskOk.f k l0_0).bind fun t429 => (if t429 = true then (if t428 < 0 then (spec_RenameFile.j0 k a1 a2 t428 true l0_0) else ((spec_l01Name.f k a2).bind fun t430 => (spec_RenameFile.j0 k a1 a2 t428 (!t430) l0_0))) else (spec_RenameFile.j0 k a1 a2 t428 true l0_0)))) = some (r1, r2) := h
 clear h
 replace H := Option.bind_eq_some_iff.mp H
 obtain ⟨t428, A40, H⟩ := H
 replace H : ((spec_DiskOk.f k l0_0).bind fun t429 => (if t429 = true then (if t428 < 0 then (spec_RenameFile.j0 k a1 a2 t428 true l0_0) else ((spec_l01Name.f k a2).bind fun t430 => (spec_RenameFile.j0 k a1 a2 t428 (!t430) l0_0))) else (spec_RenameFile.j0 k a1 a2 t428 true l0_0))) = some (r1, r2) := H
 have A4 := Zh A40
 clear A40
 have HC5 := Zh H
 clear H
 go_enter Tryd.func40, Tryd.ntmps40
 go_upto_region 2 with (first | ((with_reducible refine gate_dst (N := 3) rfl ?_); refine box_event ?hg (N := 3) ?hd (cs := #[.slice A0_0 l0_0.length c0_0]) (t := 29) ?hr ?_; (case hd => rfl); (case hg => rfl); (case hr => first | (go_simp; done) | (go_simp; rfl)); intro gb426 hg w6 hbox hb; have BK426 := Zh (hbox); have GW426 := Zh ((by rw [hg]; exact (below_size Zs) : w.heap.size ≤ gb426)); have GE426 := Zh ((by rw [hg]; exact (below_size Zs) : w.heap.size ≤ gb426)); replace HB := Zh (Zl Zs hb); clear hb hbox hg) | ((with_reducible refine gate_dst (N := 6) rfl ?_); refine box_event ?hg (N := 6) ?hd (cs := #[.slice none 0 0]) (t := 29) ?hr ?_; (case hd => rfl); (case hg => rfl); (case hr => first | (go_simp; done) | (go_simp; rfl)); intro gb427 hg w7 hbox hb; have BK427 := Zh (hbox); have GW427 := Zh ((by rw [hg]; exact (below_size Zs) : w.heap.size ≤ gb427)); have GE427 := Zh ((by rw [hg]; exact (below_size Zs) : w.heap.size ≤ gb427)); replace HB := Zh (Zl Zs hb); have NB426_427 := Zh ((by rw [hg]; exact Nat.ne_of_lt (blk_lt (g := gb426) (o := .cells #[.slice A0_0 l0_0.length c0_0] 29 (0, 0)) Zk) : gb426 ≠ gb427)); have NB427_426 := Zh ((by rw [hg]; exact Nat.ne_of_gt (blk_lt (g := gb426) (o := .cells #[.slice A0_0 l0_0.length c0_0] 29 (0, 0)) Zk) : gb427 ≠ gb426)); replace BK426 := Zh (Zm (g := gb426) (o := .cells #[.slice A0_0 l0_0.length c0_0] 29 (0, 0)) Zk hb); clear hb hbox hg; have hnb8 := NB426_427.out; have hnc8 := NB427_426.out; have hcz9_0 : w7.cell? ⟨gb426, 0, none⟩ = some (.slice A0_0 l0_0.length c0_0) := (blk_cell BK426.out 0).trans rfl; have hfz9_0 := Zn BK426.out 0) | ((with_reducible refine gate_callee (f := 61) rfl ?_); refine ZG (some 12) Tryd.func61 #[.agg #[.slice A0_0 l0_0.length c0_0], .string a1] rfl ?_; (with_reducible refine (spec_l03Find.calls k _ _ l0_0 a1 t428 _ ?side1 ?side2 A4.out).mono ?_); (case side1 => repeat (first | exact (C_below HR0_0.out HB.out) | (with_reducible refine C_alloc ?_ _) | (with_reducible refine C_drewN ?_ _) | (with_reducible refine C_drew ?_))); (case side2 => exact HC0_0.out); rintro e w10 ⟨rfl, hb⟩; refine ⟨_, rfl, ?_⟩; replace BK426 := Zh (Zm (g := gb426) (o := .cells #[.slice A0_0 l0_0.length c0_0] 29 (0, 0)) Zk hb); replace BK427 := Zh (Zm (g := gb427) (o := .cells #[.slice none 0 0] 29 (0, 0)) Zk hb); replace HB := Zh (Zl Zs hb); (try clear hb); (try clear hb2); (try clear hk); (try clear hi)))
 (try simp only [Act.put, List.setIfInBounds_toArray, List.set_cons_zero, List.set_cons_succ])
 go_cut [24] (fun v24 wc => ∃ (kq : Nat) (x24_4 : Bool), v24 = .bool x24_4 ∧ Aside0 (spec_RenameFile.j0 kq a1 a2 t428 x24_4 l0_0 = some (r1, r2)) ∧ Aside0 (kq ≤ k) ∧ Aside0 (wc.heap[gb426]? = some (.cells #[(.slice A0_0 l0_0.length c0_0)] 29 (0, 0))) ∧ Aside0 (wc.heap[gb427]? = some (.cells #[(.slice none 0 0)] 29 (0, 0))) ∧ Aside0 (Below w.heap.size w wc))
 case first =>
  have H := HC5.out
  clear HC5
  replace H := Option.bind_eq_some_iff.mp H
  obtain ⟨t429, A110, H⟩ := H
  replace H : (if t429 = true then (if t428 < 0 then (spec_RenameFile.j0 k a1 a2 t428 true l0_0) else ((spec_l01Name.f k a2).bind fun t430 => (spec_RenameFile.j0 k a1 a2 t428 (!t430) l0_0))) else (spec_RenameFile.j0 k a1 a2 t428 true l0_0)) = some (r1, r2) := H
  have A11 := Zh A110
  clear A110
  by_cases c12 : t429 = true
  ·
   subst c12
   have H1 : (if t428 < 0 then (spec_RenameFile.j0 k a1 a2 t428 true l0_0) else ((spec_l01Name.f k a2).bind fun t430 => (spec_RenameFile.j0 k a1 a2 t428 (!t430) l0_0))) = some (r1, r2) := by rw [if_pos rfl] at H; exact H
   clear H
   have H := H1
   clear H1
   by_cases c13 : t428 < 0
   ·
    rw [if_pos c13] at H
    have c13b0 : decide (t428 < 0) = true := decide_eq_true c13
    clear c13
    (first | rw [c13b0] | (simp only [i64_w, i32_w]; rw [c13b0]) | skip)
    have H' := Zh H
    clear H
    have hnb14 := NB426_427.out
    have hnc14 := NB427_426.out
    have hcz15_0 : w10.cell? ⟨gb426, 0, none⟩ = some (.slice A0_0 l0_0.length c0_0) := (blk_cell BK426.out 0).trans rfl
    have hfz15_0 := Zn BK426.out 0
    go_wp2_with (first | ((with_reducible refine gate_callee (f := 15) rfl ?_); refine ZG (some 14) Tryd.func15 #[.agg #[.slice A0_0 l0_0.length c0_0]] rfl ?_; (with_reducible refine (spec_DiskOk.calls k _ _ l0_0 true _ ?side1 ?side2 A11.out).mono ?_); (case side1 => repeat (first | exact (C_below HR0_0.out HB.out) | (with_reducible refine C_alloc ?_ _) | (with_reducible refine C_drewN ?_ _) | (with_reducible refine C_drew ?_))); (case side2 => exact HC0_0.out); rintro e w16 ⟨rfl, hb⟩; refine ⟨_, rfl, ?_⟩; replace BK426 := Zh (Zm (g := gb426) (o := .cells #[.slice A0_0 l0_0.length c0_0] 29 (0, 0)) Zk hb); replace BK427 := Zh (Zm (g := gb427) (o := .cells #[.slice none 0 0] 29 (0, 0)) Zk hb); replace HB := Zh (Zl Zs hb); (try clear hb); (try clear hb2); (try clear hk); (try clear hi)))
    go_meet
    case rel => exact ⟨_, (true), (by first | rfl | (simp; done) | (simp [*]; done)), H', ⟨by first | omega | exact Nat.le_refl _⟩, ⟨Zk⟩, ⟨Zk⟩, ⟨Zs⟩⟩
   rw [if_neg c13] at H
   have c13b0 : decide (t428 < 0) = false := decide_eq_false c13
   clear c13
   (first | rw [c13b0] | (simp only [i64_w, i32_w]; rw [c13b0]) | skip)
   replace H := Option.bind_eq_some_iff.mp H
   obtain ⟨t430, A170, H⟩ := H
   replace H : (spec_RenameFile.j0 k a1 a2 t428 (!t430) l0_0) = some (r1, r2) := H
   have A17 := Zh A170
   clear A170
   have H' := Zh H
   clear H
   have hnb18 := NB426_427.out
   have hnc18 := NB427_426.out
   have hcz19_0 : w10.cell? ⟨gb426, 0, none⟩ = some (.slice A0_0 l0_0.length c0_0) := (blk_cell BK426.out 0).trans rfl
   have hfz19_0 := Zn BK426.out 0
   go_wp2_with (first | ((with_reducible refine gate_callee (f := 15) rfl ?_); refine ZG (some 14) Tryd.func15 #[.agg #[.slice A0_0 l0_0.length c0_0]] rfl ?_; (with_reducible refine (spec_DiskOk.calls k _ _ l0_0 true _ ?side1 ?side2 A11.out).mono ?_); (case side1 => repeat (first | exact (C_below HR0_0.out HB.out) | (with_reducible refine C_alloc ?_ _) | (with_reducible refine C_drewN ?_ _) | (with_reducible refine C_drew ?_))); (case side2 => exact HC0_0.out); rintro e w20 ⟨rfl, hb⟩; refine ⟨_, rfl, ?_⟩; replace BK426 := Zh (Zm (g := gb426) (o := .cells #[.slice A0_0 l0_0.length c0_0] 29 (0, 0)) Zk hb); replace BK427 := Zh (Zm (g := gb427) (o := .cells #[.slice none 0 0] 29 (0, 0)) Zk hb); replace HB := Zh (Zl Zs hb); (try clear hb); (try clear hb2); (try clear hk); (try clear hi)) | (go_at_call 57; (with_reducible refine (spec_l01Name.calls k a2 t430 _ A17.out).mono ?_); rintro e w' ⟨rfl, ⟨nd, rfl⟩⟩))
   go_meet
   case rel => exact ⟨_, (!t430), (by first | rfl | (simp; done) | (simp [*]; done)), H', ⟨by first | omega | exact Nat.le_refl _⟩, ⟨Zk⟩, ⟨Zk⟩, ⟨Zs⟩⟩
  replace c12 := Bool.eq_false_iff.mpr c12
  subst c12
  have H1 : (spec_RenameFile.j0 k a1 a2 t428 true l0_0) = some (r1, r2) := by rw [if_neg (show ¬ (false = true) by decide)] at H; exact H
  clear H
  have H := H1
  clear H1
  have H' := Zh H
  clear H
  have hnb21 := NB426_427.out
  have hnc21 := NB427_426.out
  have hcz22_0 : w10.cell? ⟨gb426, 0, none⟩ = some (.slice A0_0 l0_0.length c0_0) := (blk_cell BK426.out 0).trans rfl
  have hfz22_0 := Zn BK426.out 0
  go_wp2_with (first | ((with_reducible refine gate_callee (f := 15) rfl ?_); refine ZG (some 14) Tryd.func15 #[.agg #[.slice A0_0 l0_0.length c0_0]] rfl ?_; (with_reducible refine (spec_DiskOk.calls k _ _ l0_0 false _ ?side1 ?side2 A11.out).mono ?_); (case side1 => repeat (first | exact (C_below HR0_0.out HB.out) | (with_reducible refine C_alloc ?_ _) | (with_reducible refine C_drewN ?_ _) | (with_reducible refine C_drew ?_))); (case side2 => exact HC0_0.out); rintro e w23 ⟨rfl, hb⟩; refine ⟨_, rfl, ?_⟩; replace BK426 := Zh (Zm (g := gb426) (o := .cells #[.slice A0_0 l0_0.length c0_0] 29 (0, 0)) Zk hb); replace BK427 := Zh (Zm (g := gb427) (o := .cells #[.slice none 0 0] 29 (0, 0)) Zk hb); replace HB := Zh (Zl Zs hb); (try clear hb); (try clear hb2); (try clear hk); (try clear hi)))
  go_meet
  case rel => exact ⟨_, (true), (by first | rfl | (simp; done) | (simp [*]; done)), H', ⟨by first | omega | exact Nat.le_refl _⟩, ⟨Zk⟩, ⟨Zk⟩, ⟨Zs⟩⟩
 case rest =>
  clear HC5
  try clear c1
  try clear c2
  try clear p2
  try clear c4
  try clear c6
  try clear c8
  try clear c12
  try clear c13
  try clear c13b0
  try clear c14
  try clear c15
  try clear c18
  try clear c21
  try clear hcz15_0
  try clear hcz19_0
  try clear hcz22_0
  try clear hcz9_0
  try clear hfz15_0
  try clear hfz19_0
  try clear hfz22_0
  try clear hfz9_0
  obtain ⟨kq, x24_4, rfl, HA, HJ4, BK426, BK427, HB⟩ := hcut
  cases kq with
  | zero => exact absurd HA.out (by simp [spec_RenameFile.j0])
  | succ kj4 =>
   have H := HA.out
   clear HA
   simp only [spec_RenameFile.j0] at H
   by_cases c24 : x24_4 = true
   ·
    subst c24
    have H1 : ((spec_l03Copy.f kj4 l0_0).bind fun t431 => (some (t431, false))) = some (r1, r2) := by rw [if_pos rfl] at H; exact H
    clear H
    have H := H1
    clear H1
    replace H := Option.bind_eq_some_iff.mp H
    obtain ⟨t431, A250, H⟩ := H
    replace H : (some (t431, false)) = some (r1, r2) := H
    have A25 := Zh A250
    clear A250
    simp only [Option.some.injEq, Prod.mk.injEq] at H
    obtain ⟨rfl, rfl⟩ := H
    have hnb26 := NB426_427.out
    have hnc26 := NB427_426.out
    have hcz27_0 : wc.cell? ⟨gb426, 0, none⟩ = some (.slice A0_0 l0_0.length c0_0) := (blk_cell BK426.out 0).trans rfl
    have hfz27_0 := Zn BK426.out 0
    go_wp2_with (first | ((with_reducible refine gate_callee (f := 66) rfl ?_); refine ZG (some 26) Tryd.func66 #[.agg #[.slice A0_0 l0_0.length c0_0]] rfl ?_; (with_reducible refine (spec_l03Copy.calls kj4 _ _ l0_0 t431 _ ?side1 ?side2 A25.out).mono ?_); (case side1 => repeat (first | exact (C_below HR0_0.out HB.out) | (with_reducible refine C_alloc ?_ _) | (with_reducible refine C_drewN ?_ _) | (with_reducible refine C_drew ?_))); (case side2 => exact HC0_0.out); rintro e w28 ⟨v432, rfl, ho0, hb⟩; refine ⟨_, rfl, ?_⟩; have HO433 := Zh (S_lower ho0 (below_size Zs)); replace BK426 := Zh (Zm (g := gb426) (o := .cells #[.slice A0_0 l0_0.length c0_0] 29 (0, 0)) Zk hb); replace BK427 := Zh (Zm (g := gb427) (o := .cells #[.slice none 0 0] 29 (0, 0)) Zk hb); replace HB := Zh (Zl Zs hb); (try clear hb); (try clear hb2); (try clear hk); (try clear hi); (try clear ho0); obtain ⟨Ao29, co29, eo29⟩ := S_slice HO433.out; subst eo29; have hcz30_0 : w28.cell? ⟨gb427, 0, none⟩ = some (.slice none 0 0) := (blk_cell BK427.out 0).trans rfl; have hfz30_0 := Zn BK427.out 0))
    refine Zq (results_ct rfl _ _ gb427 29 #[.slice Ao29 t431.length co29] (0, 0) _ rfl (by (with_reducible repeat (first | refine Za ?_ _ | refine Zb ?_ | refine blk_alloc ?_ _)); refine blk_put (cs := #[.slice none 0 0]) ?_ 0 _ rfl; (with_reducible repeat (first | refine Za ?_ _ | refine Zb ?_ | refine blk_alloc ?_ _)); exact BK427.out) Tryd.underlying29 rfl (by kernel_rfl)) rfl ?_
    exact ⟨_, ZE, ZS (S_mono (S_far (p := ⟨gb427, 0, none⟩) (S_types HO433.out BK427.out (by decide)) (fun _ hk => hk.2) (.slice Ao29 t431.length co29)) (fun _ hk => trivial)), Zs⟩
   replace c24 := Bool.eq_false_iff.mpr c24
   subst c24
   have H1 : (if 0 ≤ t428 then (if t428 < (l0_0.length : Int) then ((spec_l03Without.f kj4 l0_0 a1).bind fun t436 => ((spec_l03Put.f kj4 t436 a2 ((rd_T74 l0_0 t428).f1) ((rd_T74 l0_0 t428).f2)).bind fun t439 => (some (t439, true)))) else (none)) else (none)) = some (r1, r2) := by rw [if_neg (show ¬ (false = true) by decide)] at H; exact H
   clear H
   have H := H1
   clear H1
   by_cases c31 : 0 ≤ t428
   ·
    rw [if_pos c31] at H
    have c31b0 : decide (0 ≤ t428) = true := decide_eq_true c31
    clear c31
    by_cases c32 : t428 < (l0_0.length : Int)
    ·
     rw [if_pos c32] at H
     have c32b0 : decide (t428 < (l0_0.length : Int)) = true := decide_eq_true c32
     clear c32
     replace H := Option.bind_eq_some_iff.mp H
     obtain ⟨t436, A330, H⟩ := H
     replace H : ((spec_l03Put.f kj4 t436 a2 ((rd_T74 l0_0 t428).f1) ((rd_T74 l0_0 t428).f2)).bind fun t439 => (some (t439, true))) = some (r1, r2) := H
     have A33 := Zh A330
     clear A330
     replace H := Option.bind_eq_some_iff.mp H
     obtain ⟨t439, A340, H⟩ := H
     replace H : (some (t439, true)) = some (r1, r2) := H
     have A34 := Zh A340
     clear A340
     simp only [Option.some.injEq, Prod.mk.injEq] at H
     obtain ⟨rfl, rfl⟩ := H
     have hnb35 := NB426_427.out
     have hnc35 := NB427_426.out
     have hcz36_0 : wc.cell? ⟨gb426, 0, none⟩ = some (.slice A0_0 l0_0.length c0_0) := (blk_cell BK426.out 0).trans rfl
     have hfz36_0 := Zn BK426.out 0
     have p434 : 0 ≤ (t428 : Int) := Zo
     have q434 : t428 < (l0_0.length : Int) := Zo
     obtain ⟨ad434, A434_1, c434_1, A434_2, c434_2, e434, hx434_0, hx434_1, hx434_2, hl434_1, hi434_1, hl434_2, hi434_2⟩ := at_T74 HR0_0.out t428 p434 q434
     cases e434
     replace hx434_0 := Zc HB.out hx434_0
     replace hx434_1 := Zc HB.out hx434_1
     replace hx434_2 := Zc HB.out hx434_2
     have HR434_1 := Zh hi434_1
     have HC434_1 := Zh hl434_1
     clear hi434_1 hl434_1
     have HR434_2 := Zh hi434_2
     have HC434_2 := Zh hl434_2
     clear hi434_2 hl434_2
     replace p434 := eq_true p434
     replace q434 := eq_true q434
     try go_wp2_with (first | ((with_reducible refine gate_dst (N := 9) rfl ?_); refine box_event ?hg (N := 9) ?hd (cs := #[.string (⟨#[]⟩ : ByteArray), .slice none 0 0, .slice none 0 0]) (t := 74) ?hr ?_; (case hd => rfl); (case hg => rfl); (case hr => first | (go_simp; done) | (go_simp; rfl)); intro gb435 hg w37 hbox hb; have BK435 := Zh (hbox); have GW435 := Zh ((by rw [hg]; exact (below_size Zs) : w.heap.size ≤ gb435)); have GE435 := Zh ((by rw [hg]; exact (below_size Zs) : w.heap.size ≤ gb435)); replace HB := Zh (Zl Zs hb); have NB426_435 := Zh ((by rw [hg]; exact Nat.ne_of_lt (blk_lt (g := gb426) (o := .cells #[.slice (some ad434) l0_0.length c0_0] 29 (0, 0)) Zk) : gb426 ≠ gb435)); have NB435_426 := Zh ((by rw [hg]; exact Nat.ne_of_gt (blk_lt (g := gb426) (o := .cells #[.slice (some ad434) l0_0.length c0_0] 29 (0, 0)) Zk) : gb435 ≠ gb426)); replace BK426 := Zh (Zm (g := gb426) (o := .cells #[.slice (some ad434) l0_0.length c0_0] 29 (0, 0)) Zk hb); have NB427_435 := Zh ((by rw [hg]; exact Nat.ne_of_lt (blk_lt (g := gb427) (o := .cells #[.slice none 0 0] 29 (0, 0)) Zk) : gb427 ≠ gb435)); have NB435_427 := Zh ((by rw [hg]; exact Nat.ne_of_gt (blk_lt (g := gb427) (o := .cells #[.slice none 0 0] 29 (0, 0)) Zk) : gb435 ≠ gb427)); replace BK427 := Zh (Zm (g := gb427) (o := .cells #[.slice none 0 0] 29 (0, 0)) Zk hb); clear hb hbox hg; have hnb38 := NB435_426.out; have hnc38 := NB426_435.out; have hnb39 := NB435_427.out; have hnc39 := NB427_435.out; have hcz40_0 : w37.cell? ⟨gb435, 0, none⟩ = some (.string (⟨#[]⟩ : ByteArray)) := (blk_cell BK435.out 0).trans rfl; have hcz40_1 : w37.cell? ⟨gb435, 1, none⟩ = some (.slice none 0 0) := (blk_cell BK435.out 1).trans rfl; have hcz40_2 : w37.cell? ⟨gb435, 2, none⟩ = some (.slice none 0 0) := (blk_cell BK435.out 2).trans rfl; have hfz40_0 := Zn BK435.out 0; have hfz40_1 := Zn BK435.out 1; have hfz40_2 := Zn BK435.out 2))
     have n0_ : Aside0 (((((w37.setCell ⟨gb435, 0, none⟩ (.string ((rd_T74 l0_0 t428).f0))).setCell ⟨gb435, 1, none⟩ (.slice A434_1 ((rd_T74 l0_0 t428).f1).length c434_1)).setCell ⟨gb435, 2, none⟩ (.slice A434_2 ((rd_T74 l0_0 t428).f2).length c434_2)).setCell ⟨gb435, 0, none⟩ (.string a2)).heap[gb426]? = some (.cells #[.slice (some ad434) l0_0.length c0_0] 29 (0, 0))) := ⟨by (with_reducible repeat (first | refine Za ?_ _ | refine Zb ?_ | refine blk_alloc ?_ _)); refine blk_far ?_ NB426_435.out _; (with_reducible repeat (first | refine Za ?_ _ | refine Zb ?_ | refine blk_alloc ?_ _)); refine blk_far ?_ NB426_435.out _; (with_reducible repeat (first | refine Za ?_ _ | refine Zb ?_ | refine blk_alloc ?_ _)); refine blk_far ?_ NB426_435.out _; (with_reducible repeat (first | refine Za ?_ _ | refine Zb ?_ | refine blk_alloc ?_ _)); refine blk_far ?_ NB426_435.out _; (with_reducible repeat (first | refine Za ?_ _ | refine Zb ?_ | refine blk_alloc ?_ _)); exact BK426.out⟩
     have n1_ : Aside0 (((((w37.setCell ⟨gb435, 0, none⟩ (.string ((rd_T74 l0_0 t428).f0))).setCell ⟨gb435, 1, none⟩ (.slice A434_1 ((rd_T74 l0_0 t428).f1).length c434_1)).setCell ⟨gb435, 2, none⟩ (.slice A434_2 ((rd_T74 l0_0 t428).f2).length c434_2)).setCell ⟨gb435, 0, none⟩ (.string a2)).heap[gb427]? = some (.cells #[.slice none 0 0] 29 (0, 0))) := ⟨by (with_reducible repeat (first | refine Za ?_ _ | refine Zb ?_ | refine blk_alloc ?_ _)); refine blk_far ?_ NB427_435.out _; (with_reducible repeat (first | refine Za ?_ _ | refine Zb ?_ | refine blk_alloc ?_ _)); refine blk_far ?_ NB427_435.out _; (with_reducible repeat (first | refine Za ?_ _ | refine Zb ?_ | refine blk_alloc ?_ _)); refine blk_far ?_ NB427_435.out _; (with_reducible repeat (first | refine Za ?_ _ | refine Zb ?_ | refine blk_alloc ?_ _)); refine blk_far ?_ NB427_435.out _; (with_reducible repeat (first | refine Za ?_ _ | refine Zb ?_ | refine blk_alloc ?_ _)); exact BK427.out⟩
     have n2_ : Aside0 (((((w37.setCell ⟨gb435, 0, none⟩ (.string ((rd_T74 l0_0 t428).f0))).setCell ⟨gb435, 1, none⟩ (.slice A434_1 ((rd_T74 l0_0 t428).f1).length c434_1)).setCell ⟨gb435, 2, none⟩ (.slice A434_2 ((rd_T74 l0_0 t428).f2).length c434_2)).setCell ⟨gb435, 0, none⟩ (.string a2)).heap[gb435]? = some (.cells #[.string a2, .slice A434_1 ((rd_T74 l0_0 t428).f1).length c434_1, .slice A434_2 ((rd_T74 l0_0 t428).f2).length c434_2] 74 (0, 0))) := ⟨by (with_reducible repeat (first | refine Za ?_ _ | refine Zb ?_ | refine blk_alloc ?_ _)); refine blk_put (cs := #[.string ((rd_T74 l0_0 t428).f0), .slice A434_1 ((rd_T74 l0_0 t428).f1).length c434_1, .slice A434_2 ((rd_T74 l0_0 t428).f2).length c434_2]) ?_ 0 _ rfl; (with_reducible repeat (first | refine Za ?_ _ | refine Zb ?_ | refine blk_alloc ?_ _)); refine blk_put (cs := #[.string ((rd_T74 l0_0 t428).f0), .slice A434_1 ((rd_T74 l0_0 t428).f1).length c434_1, .slice none 0 0]) ?_ 2 _ rfl; (with_reducible repeat (first | refine Za ?_ _ | refine Zb ?_ | refine blk_alloc ?_ _)); refine blk_put (cs := #[.string ((rd_T74 l0_0 t428).f0), .slice none 0 0, .slice none 0 0]) ?_ 1 _ rfl; (with_reducible repeat (first | refine Za ?_ _ | refine Zb ?_ | refine blk_alloc ?_ _)); refine blk_put (cs := #[.string (⟨#[]⟩ : ByteArray), .slice none 0 0, .slice none 0 0]) ?_ 0 _ rfl; (with_reducible repeat (first | refine Za ?_ _ | refine Zb ?_ | refine blk_alloc ?_ _)); exact BK435.out⟩
     have n3_ : Aside0 (Below w.heap.size w ((((w37.setCell ⟨gb435, 0, none⟩ (.string ((rd_T74 l0_0 t428).f0))).setCell ⟨gb435, 1, none⟩ (.slice A434_1 ((rd_T74 l0_0 t428).f1).length c434_1)).setCell ⟨gb435, 2, none⟩ (.slice A434_2 ((rd_T74 l0_0 t428).f2).length c434_2)).setCell ⟨gb435, 0, none⟩ (.string a2))) := ⟨Zs⟩
     (try clear BK426)
     (try clear BK427)
     (try clear BK435)
     (try clear HB)
     generalize ((((w37.setCell ⟨gb435, 0, none⟩ (.string ((rd_T74 l0_0 t428).f0))).setCell ⟨gb435, 1, none⟩ (.slice A434_1 ((rd_T74 l0_0 t428).f1).length c434_1)).setCell ⟨gb435, 2, none⟩ (.slice A434_2 ((rd_T74 l0_0 t428).f2).length c434_2)).setCell ⟨gb435, 0, none⟩ (.string a2)) = w41 at n0_ n1_ n2_ n3_ ⊢
     have BK426 := n0_
     have BK427 := n1_
     have BK435 := n2_
     have HB := n3_
     clear n0_ n1_ n2_ n3_
     replace BK426 := Zh (Zb BK426.out)
     replace BK427 := Zh (Zb BK427.out)
     replace BK435 := Zh (Zb BK435.out)
     replace HB := Zh (Ze HB.out)
     refine start_ (n := 7) (S := fun w' => w'.cell? ⟨gb426, 0, none⟩ = some (.slice (some ad434) l0_0.length c0_0) ∧ w'.cell? ⟨gb435, 0, none⟩ = some (.string a2) ∧ w'.cell? ⟨gb435, 1, none⟩ = some (.slice A434_1 ((rd_T74 l0_0 t428).f1).length c434_1) ∧ w'.cell? ⟨gb435, 2, none⟩ = some (.slice A434_2 ((rd_T74 l0_0 t428).f2).length c434_2)) (ds := []) #[false, false, false, false, false, false, false] (by kernel_rfl) rfl rfl ⟨(blk_cell BK426.out 0).trans rfl, (blk_cell BK435.out 0).trans rfl, (blk_cell BK435.out 1).trans rfl, (blk_cell BK435.out 2).trans rfl⟩ (fun hHeld => ?_)
     generalize w41.drew = w42 at BK426 BK427 BK435 HB hHeld ⊢
     refine pure_ (i := 1) (N := some 35) (v := ?_) (a' := ?_) #[false, true, false, false, false, false, false] rfl rfl (by kernel_rfl) (fun _ _ _ h => h) (Or.inl ⟨by rfl, ?_⟩) ?_ ?_
     rotate_left
     ·
      intro w'
      go_simp
      with_reducible rfl
     rotate_left
     ·
      simp only [Act.put, List.setIfInBounds_toArray, List.set_cons_zero, List.set_cons_succ, i64_w, i32_w]
      rfl
     refine take_ (i := 0) (N := some 34) (v := ?_) (a' := ?_) #[true, true, false, false, false, false, false] rfl rfl (by kernel_rfl) (fun _ _ _ h => h) (Or.inl ⟨by rfl, ?_⟩) hHeld ?_ ?_
     rotate_left
     ·
      rintro w' ⟨s0, s1, s2, s3⟩
      go_simp
      with_reducible rfl
     rotate_left
     ·
      simp only [Act.put, List.setIfInBounds_toArray, List.set_cons_zero, List.set_cons_succ, i64_w, i32_w]
      rfl
     refine take_ (i := 3) (N := some 37) (v := ?_) (a' := ?_) #[true, true, false, true, false, false, false] rfl rfl (by kernel_rfl) (fun _ _ _ h => h) (Or.inl ⟨by rfl, ?_⟩) hHeld ?_ ?_
     rotate_left
     ·
      rintro w' ⟨s0, s1, s2, s3⟩
      go_simp
      with_reducible rfl
     rotate_left
     ·
      simp only [Act.put, List.setIfInBounds_toArray, List.set_cons_zero, List.set_cons_succ, i64_w, i32_w]
      rfl
     refine one_ (i := 2) (N := some 36) #[true, true, true, true, false, false, false] rfl rfl (by kernel_rfl) (by decide) (fun K hK => ?_)
     refine goes_ Tryd.func67 (by kernel_rfl) rfl #[.agg #[.slice (some ad434) l0_0.length c0_0], .string a1] (by rfl) rfl rfl (by (try simp only [List.map_toArray, List.map_cons, List.map_nil]); first | done | rfl | (simp only [List.length_drop, List.length_take]; rfl)) ?_
     with_reducible refine (spec_l03Without.calls kj4 _ _ l0_0 a1 t436 _ ?side1 ?side2 A33.out).mono ?_
     (case side1 => repeat (first | exact (C_below HR0_0.out HB.out) | (with_reducible refine C_alloc ?_ _) | (with_reducible refine C_drewN ?_ _) | (with_reducible refine C_drew ?_)))
     (case side2 => exact HC0_0.out)
     rintro e w43 ⟨v437, rfl, ho0, hb⟩
     refine ⟨_, rfl, ?_⟩
     have HO438 := Zh (S_lower (S_newB ho0 (g := gb435) (o := .cells #[.string a2, .slice A434_1 ((rd_T74 l0_0 t428).f1).length c434_1, .slice A434_2 ((rd_T74 l0_0 t428).f2).length c434_2] 74 (0, 0)) Zk) (below_size Zs))
     replace BK426 := Zh (Zm (g := gb426) (o := .cells #[.slice (some ad434) l0_0.length c0_0] 29 (0, 0)) Zk hb)
     replace BK427 := Zh (Zm (g := gb427) (o := .cells #[.slice none 0 0] 29 (0, 0)) Zk hb)
     replace BK435 := Zh (Zm (g := gb435) (o := .cells #[.string a2, .slice A434_1 ((rd_T74 l0_0 t428).f1).length c434_1, .slice A434_2 ((rd_T74 l0_0 t428).f2).length c434_2] 74 (0, 0)) Zk hb)
     replace HB := Zh (Zl Zs hb)
     (try clear hb)
     (try clear hb2)
     (try clear hk)
     (try clear hi)
     (try clear ho0)
     obtain ⟨Ao44, co44, eo44⟩ := S_slice HO438.out
     (first | subst eo44 | (injection eo44 with f1_ f2_ f3_; have f4_ := f1_.symm; have f5_ := f3_.symm; clear f1_ f2_ f3_; subst f4_; subst f5_))
     refine hK.out _ _ ⟨(blk_cell BK426.out 0).trans rfl, (blk_cell BK435.out 0).trans rfl, (blk_cell BK435.out 1).trans rfl, (blk_cell BK435.out 2).trans rfl⟩ (fun hHeld => ?_)
     clear hK K
     refine norm_ (a' := ?_) ?_ ?_
     rotate_left
     ·
      show Act.put _ (some 36) _ = _
      simp only [Act.put, List.setIfInBounds_toArray, List.set_cons_zero, List.set_cons_succ, i64_w, i32_w]
      rfl
     refine one_ (i := 4) (N := some 38) #[true, true, true, true, true, false, false] rfl rfl (by kernel_rfl) (by decide) (fun K hK => ?_)
     refine goes_ Tryd.func70 (by kernel_rfl) rfl #[.agg #[.slice Ao44 t436.length co44], .agg #[.string a2, .slice A434_1 ((rd_T74 l0_0 t428).f1).length c434_1, .slice A434_2 ((rd_T74 l0_0 t428).f2).length c434_2]] (by rfl) rfl rfl (by (try simp only [List.map_toArray, List.map_cons, List.map_nil]); first | done | rfl | (simp only [List.length_drop, List.length_take]; rfl)) ?_
     with_reducible refine (spec_l03Put.calls kj4 _ _ t436 a2 _ _ ((rd_T74 l0_0 t428).f1) _ _ ((rd_T74 l0_0 t428).f2) t439 _ ?side1 ?side2 ?side3 ?side4 ?side5 ?side6 A34.out).mono ?_
     (case side1 => repeat (first | exact (S_reads' HO438.out).2.2 | (with_reducible refine C_alloc ?_ _) | (with_reducible refine C_drewN ?_ _) | (with_reducible refine C_drew ?_)))
     (case side2 => exact (S_reads' HO438.out).2.1)
     (case side3 => repeat (first | exact (C_below HR434_1.out HB.out) | (with_reducible refine C_alloc ?_ _) | (with_reducible refine C_drewN ?_ _) | (with_reducible refine C_drew ?_)))
     (case side4 => exact HC434_1.out)
     (case side5 => repeat (first | exact (C_below HR434_2.out HB.out) | (with_reducible refine C_alloc ?_ _) | (with_reducible refine C_drewN ?_ _) | (with_reducible refine C_drew ?_)))
     (case side6 => exact HC434_2.out)
     rintro e w45 ⟨v440, rfl, ho0, hb⟩
     refine ⟨_, rfl, ?_⟩
     have HO441 := Zh (S_lower (S_newB (S_new' ho0 (S_lt (ZS HO438.out))) (g := gb435) (o := .cells #[.string a2, .slice A434_1 ((rd_T74 l0_0 t428).f1).length c434_1, .slice A434_2 ((rd_T74 l0_0 t428).f2).length c434_2] 74 (0, 0)) Zk) (below_size Zs))
     replace HO438 := Zh (S_elder' (ZS HO438.out) (S_base ho0) hb)
     replace BK426 := Zh (Zm (g := gb426) (o := .cells #[.slice (some ad434) l0_0.length c0_0] 29 (0, 0)) Zk hb)
     replace BK427 := Zh (Zm (g := gb427) (o := .cells #[.slice none 0 0] 29 (0, 0)) Zk hb)
     replace BK435 := Zh (Zm (g := gb435) (o := .cells #[.string a2, .slice A434_1 ((rd_T74 l0_0 t428).f1).length c434_1, .slice A434_2 ((rd_T74 l0_0 t428).f2).length c434_2] 74 (0, 0)) Zk hb)
     replace HB := Zh (Zl Zs hb)
     (try clear hb)
     (try clear hb2)
     (try clear hk)
     (try clear hi)
     (try clear ho0)
     obtain ⟨Ao46, co46, eo46⟩ := S_slice HO441.out
     (first | subst eo46 | (injection eo46 with f1_ f2_ f3_; have f4_ := f1_.symm; have f5_ := f3_.symm; clear f1_ f2_ f3_; subst f4_; subst f5_))
     refine hK.out _ _ ⟨(blk_cell BK426.out 0).trans rfl, (blk_cell BK435.out 0).trans rfl, (blk_cell BK435.out 1).trans rfl, (blk_cell BK435.out 2).trans rfl⟩ (fun hHeld => ?_)
     clear hK K
     refine norm_ (a' := ?_) ?_ ?_
     rotate_left
     ·
      show Act.put _ (some 38) _ = _
      simp only [Act.put, List.setIfInBounds_toArray, List.set_cons_zero, List.set_cons_succ, i64_w, i32_w]
      rfl
     refine one_ (i := 5) (N := none) #[true, true, true, true, true, true, false] rfl rfl (by kernel_rfl) (by decide) (fun K hK => ?_)
     have hs47 : w45.cell? ⟨gb427, 0, none⟩ = some (.slice none 0 0) := (blk_cell BK427.out 0).trans rfl
     have hfs47 := Zn BK427.out 0
     have hns47_0 := NB426_427.out
     have hns47_2 := NB435_427.out
     have hms47_0 := NB427_426.out
     have hms47_2 := NB427_435.out
     refine skip_ (w1 := ?_) (by rfl) rfl ?_ ?_
     rotate_left
     ·
      go_simp
      rfl
     refine hK.out _ _ ⟨((cell_far (p := ⟨gb427, _, none⟩) NB426_427.out _).trans (hHeld.1)), ((cell_far (p := ⟨gb427, _, none⟩) NB435_427.out _).trans (hHeld.2.1)), ((cell_far (p := ⟨gb427, _, none⟩) NB435_427.out _).trans (hHeld.2.2.1)), ((cell_far (p := ⟨gb427, _, none⟩) NB435_427.out _).trans (hHeld.2.2.2))⟩ (fun hHeld => ?_)
     clear hK K
     refine pure_ (i := 6) (N := some 7) (v := ?_) (a' := ?_) #[true, true, true, true, true, true, true] rfl rfl (by kernel_rfl) (fun _ _ _ h => h) (Or.inl ⟨by rfl, ?_⟩) ?_ ?_
     rotate_left
     ·
      intro w'
      go_simp
      with_reducible rfl
     rotate_left
     ·
      simp only [Act.put, List.setIfInBounds_toArray, List.set_cons_zero, List.set_cons_succ, i64_w, i32_w]
      rfl
     refine done_ (by kernel_rfl) ?_
     try go_wp2
     refine Zq (results_ct rfl _ _ gb427 29 #[.slice Ao46 t439.length co46] (0, 0) _ rfl (by (with_reducible repeat (first | refine Za ?_ _ | refine Zb ?_ | refine blk_alloc ?_ _)); refine blk_put (cs := #[.slice none 0 0]) ?_ 0 _ rfl; (with_reducible repeat (first | refine Za ?_ _ | refine Zb ?_ | refine blk_alloc ?_ _)); exact BK427.out) Tryd.underlying29 rfl (by kernel_rfl)) rfl ?_
     exact ⟨_, ZE, ZS (S_mono (S_far (p := ⟨gb427, 0, none⟩) (S_types HO441.out BK427.out (by decide)) (fun _ hk => hk.2) (.slice Ao46 t439.length co46)) (fun _ hk => trivial)), Zs⟩
    rw [if_neg c32] at H
    exact absurd H (by simp)
   rw [if_neg c31] at H
   exact absurd H (by simp)
def spec_RemoveFile.j0 : Nat → ByteArray → Bool → List (S74) → Option ((List (S74)) × Bool)
 | 0, _, _, _ => none
 | k + 1, x1, x14, x219000 => if x14 = true then ((spec_l03Copy.f k x219000).bind fun t222 => (some (t222, false))) else ((spec_l03Without.f k x219000 x1).bind fun t225 => (some (t225, true)))
def spec_RemoveFile.f (k : Nat) (l0_0 : List (S74)) (a1 : ByteArray) : Option ((List (S74)) × Bool) := (spec_DiskOk.f k l0_0).bind fun t220 => (if t220 = true then ((spec_l03Find.f k l0_0 a1).bind fun t221 => (spec_RemoveFile.j0 k a1 (decide (t221 < 0)) l0_0)) else (spec_RemoveFile.j0 k a1 true l0_0))
set_option maxHeartbeats 8000000 in
set_option maxRecDepth 100000 in
theorem spec_RemoveFile.calls (k : Nat) (A0_0 : Option Addr) (c0_0 : Nat) (l0_0 : List (S74)) (a1 : ByteArray) (r1 : List (S74)) (r2 : Bool) (w : World) (hr0_0 : Kd.C k74 w A0_0 l0_0.length l0_0) (hc0_0 : l0_0.length ≤ c0_0) (h : spec_RemoveFile.f k l0_0 a1 = some (r1, r2)) :
  Calls Tryd.prog 25 #[.agg #[.slice A0_0 l0_0.length c0_0], .string a1] w fun e w' => ∃ v0_ : Value, e = .returned (.tuple #[.agg #[v0_], .bool r2]) ∧ Kd.S k74 74 w' w.heap.size (fun _ => True) v0_ r1 ∧ Below w.heap.size w w' := by
 have hu29 := Tryd.underlying29
 have HR0_0 := Zh hr0_0
 have HC0_0 := Zh hc0_0
 clear hr0_0 hc0_0
 have HB := Zh (Below.refl w.heap.size w)
 have H : ((spec_DiskOk.f k l0_0).bind fun t220 => (if t220 = true then ((spec_l03Find.f k l0_0 a1).bind fun t221 => (spec_RemoveFile.j0 k a1 (decide (t221 < 0)) l0_0)) else (spec_RemoveFile.j0 k a1 true l0_0))) = some (r1, r2) := h
 clear h
 have HC3 := Zh H
 clear H
 go_enter Tryd.func25, Tryd.ntmps25
 go_upto_region 1 with (first | ((with_reducible refine gate_dst (N := 2) rfl ?_); refine box_event ?hg (N := 2) ?hd (cs := #[.slice A0_0 l0_0.length c0_0]) (t := 29) ?hr ?_; (case hd => rfl); (case hg => rfl); (case hr => first | (go_simp; done) | (go_simp; rfl)); intro gb218 hg w4 hbox hb; have BK218 := Zh (hbox); have GW218 := Zh ((by rw [hg]; exact (below_size Zs) : w.heap.size ≤ gb218)); have GE218 := Zh ((by rw [hg]; exact (below_size Zs) : w.heap.size ≤ gb218)); replace HB := Zh (Zl Zs hb); clear hb hbox hg) | ((with_reducible refine gate_dst (N := 4) rfl ?_); refine box_event ?hg (N := 4) ?hd (cs := #[.slice none 0 0]) (t := 29) ?hr ?_; (case hd => rfl); (case hg => rfl); (case hr => first | (go_simp; done) | (go_simp; rfl)); intro gb219 hg w5 hbox hb; have BK219 := Zh (hbox); have GW219 := Zh ((by rw [hg]; exact (below_size Zs) : w.heap.size ≤ gb219)); have GE219 := Zh ((by rw [hg]; exact (below_size Zs) : w.heap.size ≤ gb219)); replace HB := Zh (Zl Zs hb); have NB218_219 := Zh ((by rw [hg]; exact Nat.ne_of_lt (blk_lt (g := gb218) (o := .cells #[.slice A0_0 l0_0.length c0_0] 29 (0, 0)) Zk) : gb218 ≠ gb219)); have NB219_218 := Zh ((by rw [hg]; exact Nat.ne_of_gt (blk_lt (g := gb218) (o := .cells #[.slice A0_0 l0_0.length c0_0] 29 (0, 0)) Zk) : gb219 ≠ gb218)); replace BK218 := Zh (Zm (g := gb218) (o := .cells #[.slice A0_0 l0_0.length c0_0] 29 (0, 0)) Zk hb); clear hb hbox hg))
 (try simp only [Act.put, List.setIfInBounds_toArray, List.set_cons_zero, List.set_cons_succ])
 go_cut [14] (fun v14 wc => ∃ (kq : Nat) (x14_2 : Bool), v14 = .bool x14_2 ∧ Aside0 (spec_RemoveFile.j0 kq a1 x14_2 l0_0 = some (r1, r2)) ∧ Aside0 (kq ≤ k) ∧ Aside0 (wc.heap[gb218]? = some (.cells #[(.slice A0_0 l0_0.length c0_0)] 29 (0, 0))) ∧ Aside0 (wc.heap[gb219]? = some (.cells #[(.slice none 0 0)] 29 (0, 0))) ∧ Aside0 (Below w.heap.size w wc))
 case first =>
  have H := HC3.out
  clear HC3
  replace H := Option.bind_eq_some_iff.mp H
  obtain ⟨t220, A60, H⟩ := H
  replace H : (if t220 = true then ((spec_l03Find.f k l0_0 a1).bind fun t221 => (spec_RemoveFile.j0 k a1 (decide (t221 < 0)) l0_0)) else (spec_RemoveFile.j0 k a1 true l0_0)) = some (r1, r2) := H
  have A6 := Zh A60
  clear A60
  by_cases c7 : t220 = true
  ·
   subst c7
   have H1 : ((spec_l03Find.f k l0_0 a1).bind fun t221 => (spec_RemoveFile.j0 k a1 (decide (t221 < 0)) l0_0)) = some (r1, r2) := by rw [if_pos rfl] at H; exact H
   clear H
   have H := H1
   clear H1
   replace H := Option.bind_eq_some_iff.mp H
   obtain ⟨t221, A80, H⟩ := H
   replace H : (spec_RemoveFile.j0 k a1 (decide (t221 < 0)) l0_0) = some (r1, r2) := H
   have A8 := Zh A80
   clear A80
   have H' := Zh H
   clear H
   have hnb9 := NB218_219.out
   have hnc9 := NB219_218.out
   have hcz10_0 : w5.cell? ⟨gb218, 0, none⟩ = some (.slice A0_0 l0_0.length c0_0) := (blk_cell BK218.out 0).trans rfl
   have hfz10_0 := Zn BK218.out 0
   go_wp2_with (first | ((with_reducible refine gate_callee (f := 15) rfl ?_); refine ZG (some 7) Tryd.func15 #[.agg #[.slice A0_0 l0_0.length c0_0]] rfl ?_; (with_reducible refine (spec_DiskOk.calls k _ _ l0_0 true _ ?side1 ?side2 A6.out).mono ?_); (case side1 => repeat (first | exact (C_below HR0_0.out HB.out) | (with_reducible refine C_alloc ?_ _) | (with_reducible refine C_drewN ?_ _) | (with_reducible refine C_drew ?_))); (case side2 => exact HC0_0.out); rintro e w11 ⟨rfl, hb⟩; refine ⟨_, rfl, ?_⟩; replace BK218 := Zh (Zm (g := gb218) (o := .cells #[.slice A0_0 l0_0.length c0_0] 29 (0, 0)) Zk hb); replace BK219 := Zh (Zm (g := gb219) (o := .cells #[.slice none 0 0] 29 (0, 0)) Zk hb); replace HB := Zh (Zl Zs hb); (try clear hb); (try clear hb2); (try clear hk); (try clear hi); have hcz12_0 : w11.cell? ⟨gb218, 0, none⟩ = some (.slice A0_0 l0_0.length c0_0) := (blk_cell BK218.out 0).trans rfl; have hfz12_0 := Zn BK218.out 0) | (go_at_call 61; (with_reducible refine (spec_l03Find.calls k _ _ l0_0 a1 t221 _ ?side1 ?side2 A8.out).mono ?_); (case side1 => repeat (first | exact (C_below HR0_0.out HB.out) | (with_reducible refine C_alloc ?_ _) | (with_reducible refine C_drewN ?_ _) | (with_reducible refine C_drew ?_))); (case side2 => exact HC0_0.out); rintro e w13 ⟨rfl, hb⟩; replace BK218 := Zh (Zm (g := gb218) (o := .cells #[.slice A0_0 l0_0.length c0_0] 29 (0, 0)) Zk hb); replace BK219 := Zh (Zm (g := gb219) (o := .cells #[.slice none 0 0] 29 (0, 0)) Zk hb); replace HB := Zh (Zl Zs hb); (try clear hb); (try clear hb2); (try clear hk); (try clear hi)))
   go_meet
   case rel => exact ⟨_, (decide (t221 < 0)), (by first | rfl | (simp; done) | (simp [*]; done)), H', ⟨by first | omega | exact Nat.le_refl _⟩, ⟨Zk⟩, ⟨Zk⟩, ⟨Zs⟩⟩
  replace c7 := Bool.eq_false_iff.mpr c7
  subst c7
  have H1 : (spec_RemoveFile.j0 k a1 true l0_0) = some (r1, r2) := by rw [if_neg (show ¬ (false = true) by decide)] at H; exact H
  clear H
  have H := H1
  clear H1
  have H' := Zh H
  clear H
  have hnb14 := NB218_219.out
  have hnc14 := NB219_218.out
  have hcz15_0 : w5.cell? ⟨gb218, 0, none⟩ = some (.slice A0_0 l0_0.length c0_0) := (blk_cell BK218.out 0).trans rfl
  have hfz15_0 := Zn BK218.out 0
  go_wp2_with (first | ((with_reducible refine gate_callee (f := 15) rfl ?_); refine ZG (some 7) Tryd.func15 #[.agg #[.slice A0_0 l0_0.length c0_0]] rfl ?_; (with_reducible refine (spec_DiskOk.calls k _ _ l0_0 false _ ?side1 ?side2 A6.out).mono ?_); (case side1 => repeat (first | exact (C_below HR0_0.out HB.out) | (with_reducible refine C_alloc ?_ _) | (with_reducible refine C_drewN ?_ _) | (with_reducible refine C_drew ?_))); (case side2 => exact HC0_0.out); rintro e w16 ⟨rfl, hb⟩; refine ⟨_, rfl, ?_⟩; replace BK218 := Zh (Zm (g := gb218) (o := .cells #[.slice A0_0 l0_0.length c0_0] 29 (0, 0)) Zk hb); replace BK219 := Zh (Zm (g := gb219) (o := .cells #[.slice none 0 0] 29 (0, 0)) Zk hb); replace HB := Zh (Zl Zs hb); (try clear hb); (try clear hb2); (try clear hk); (try clear hi)))
  go_meet
  case rel => exact ⟨_, (true), (by first | rfl | (simp; done) | (simp [*]; done)), H', ⟨by first | omega | exact Nat.le_refl _⟩, ⟨Zk⟩, ⟨Zk⟩, ⟨Zs⟩⟩
 case rest =>
  clear HC3
  try clear c1
  try clear c2
  try clear p2
  try clear c7
  try clear c9
  try clear c14
  try clear c15
  try clear hcz10_0
  try clear hcz12_0
  try clear hcz15_0
  try clear hfz10_0
  try clear hfz12_0
  try clear hfz15_0
  obtain ⟨kq, x14_2, rfl, HA, HJ2, BK218, BK219, HB⟩ := hcut
  cases kq with
  | zero => exact absurd HA.out (by simp [spec_RemoveFile.j0])
  | succ kj2 =>
   have H := HA.out
   clear HA
   simp only [spec_RemoveFile.j0] at H
   by_cases c17 : x14_2 = true
   ·
    subst c17
    have H1 : ((spec_l03Copy.f kj2 l0_0).bind fun t222 => (some (t222, false))) = some (r1, r2) := by rw [if_pos rfl] at H; exact H
    clear H
    have H := H1
    clear H1
    replace H := Option.bind_eq_some_iff.mp H
    obtain ⟨t222, A180, H⟩ := H
    replace H : (some (t222, false)) = some (r1, r2) := H
    have A18 := Zh A180
    clear A180
    simp only [Option.some.injEq, Prod.mk.injEq] at H
    obtain ⟨rfl, rfl⟩ := H
    have hnb19 := NB218_219.out
    have hnc19 := NB219_218.out
    have hcz20_0 : wc.cell? ⟨gb218, 0, none⟩ = some (.slice A0_0 l0_0.length c0_0) := (blk_cell BK218.out 0).trans rfl
    have hfz20_0 := Zn BK218.out 0
    go_wp2_with (first | ((with_reducible refine gate_callee (f := 66) rfl ?_); refine ZG (some 16) Tryd.func66 #[.agg #[.slice A0_0 l0_0.length c0_0]] rfl ?_; (with_reducible refine (spec_l03Copy.calls kj2 _ _ l0_0 t222 _ ?side1 ?side2 A18.out).mono ?_); (case side1 => repeat (first | exact (C_below HR0_0.out HB.out) | (with_reducible refine C_alloc ?_ _) | (with_reducible refine C_drewN ?_ _) | (with_reducible refine C_drew ?_))); (case side2 => exact HC0_0.out); rintro e w21 ⟨v223, rfl, ho0, hb⟩; refine ⟨_, rfl, ?_⟩; have HO224 := Zh (S_lower ho0 (below_size Zs)); replace BK218 := Zh (Zm (g := gb218) (o := .cells #[.slice A0_0 l0_0.length c0_0] 29 (0, 0)) Zk hb); replace BK219 := Zh (Zm (g := gb219) (o := .cells #[.slice none 0 0] 29 (0, 0)) Zk hb); replace HB := Zh (Zl Zs hb); (try clear hb); (try clear hb2); (try clear hk); (try clear hi); (try clear ho0); obtain ⟨Ao22, co22, eo22⟩ := S_slice HO224.out; subst eo22; have hcz23_0 : w21.cell? ⟨gb219, 0, none⟩ = some (.slice none 0 0) := (blk_cell BK219.out 0).trans rfl; have hfz23_0 := Zn BK219.out 0))
    refine Zq (results_ct rfl _ _ gb219 29 #[.slice Ao22 t222.length co22] (0, 0) _ rfl (by (with_reducible repeat (first | refine Za ?_ _ | refine Zb ?_ | refine blk_alloc ?_ _)); refine blk_put (cs := #[.slice none 0 0]) ?_ 0 _ rfl; (with_reducible repeat (first | refine Za ?_ _ | refine Zb ?_ | refine blk_alloc ?_ _)); exact BK219.out) Tryd.underlying29 rfl (by kernel_rfl)) rfl ?_
    exact ⟨_, ZE, ZS (S_mono (S_far (p := ⟨gb219, 0, none⟩) (S_types HO224.out BK219.out (by decide)) (fun _ hk => hk.2) (.slice Ao22 t222.length co22)) (fun _ hk => trivial)), Zs⟩
   replace c17 := Bool.eq_false_iff.mpr c17
   subst c17
   have H1 : ((spec_l03Without.f kj2 l0_0 a1).bind fun t225 => (some (t225, true))) = some (r1, r2) := by rw [if_neg (show ¬ (false = true) by decide)] at H; exact H
   clear H
   have H := H1
   clear H1
   replace H := Option.bind_eq_some_iff.mp H
   obtain ⟨t225, A240, H⟩ := H
   replace H : (some (t225, true)) = some (r1, r2) := H
   have A24 := Zh A240
   clear A240
   simp only [Option.some.injEq, Prod.mk.injEq] at H
   obtain ⟨rfl, rfl⟩ := H
   have hnb25 := NB218_219.out
   have hnc25 := NB219_218.out
   have hcz26_0 : wc.cell? ⟨gb218, 0, none⟩ = some (.slice A0_0 l0_0.length c0_0) := (blk_cell BK218.out 0).trans rfl
   have hfz26_0 := Zn BK218.out 0
   go_wp2_with (first | ((with_reducible refine gate_callee (f := 67) rfl ?_); refine ZG (some 19) Tryd.func67 #[.agg #[.slice A0_0 l0_0.length c0_0], .string a1] rfl ?_; (with_reducible refine (spec_l03Without.calls kj2 _ _ l0_0 a1 t225 _ ?side1 ?side2 A24.out).mono ?_); (case side1 => repeat (first | exact (C_below HR0_0.out HB.out) | (with_reducible refine C_alloc ?_ _) | (with_reducible refine C_drewN ?_ _) | (with_reducible refine C_drew ?_))); (case side2 => exact HC0_0.out); rintro e w27 ⟨v226, rfl, ho0, hb⟩; refine ⟨_, rfl, ?_⟩; have HO227 := Zh (S_lower ho0 (below_size Zs)); replace BK218 := Zh (Zm (g := gb218) (o := .cells #[.slice A0_0 l0_0.length c0_0] 29 (0, 0)) Zk hb); replace BK219 := Zh (Zm (g := gb219) (o := .cells #[.slice none 0 0] 29 (0, 0)) Zk hb); replace HB := Zh (Zl Zs hb); (try clear hb); (try clear hb2); (try clear hk); (try clear hi); (try clear ho0); obtain ⟨Ao28, co28, eo28⟩ := S_slice HO227.out; subst eo28; have hcz29_0 : w27.cell? ⟨gb219, 0, none⟩ = some (.slice none 0 0) := (blk_cell BK219.out 0).trans rfl; have hfz29_0 := Zn BK219.out 0))
   refine Zq (results_ct rfl _ _ gb219 29 #[.slice Ao28 t225.length co28] (0, 0) _ rfl (by (with_reducible repeat (first | refine Za ?_ _ | refine Zb ?_ | refine blk_alloc ?_ _)); refine blk_put (cs := #[.slice none 0 0]) ?_ 0 _ rfl; (with_reducible repeat (first | refine Za ?_ _ | refine Zb ?_ | refine blk_alloc ?_ _)); exact BK219.out) Tryd.underlying29 rfl (by kernel_rfl)) rfl ?_
   exact ⟨_, ZE, ZS (S_mono (S_far (p := ⟨gb219, 0, none⟩) (S_types HO227.out BK219.out (by decide)) (fun _ hk => hk.2) (.slice Ao28 t225.length co28)) (fun _ hk => trivial)), Zs⟩
end Go.Proofs.YtmgeffgcihfpcaaDoor.F

namespace Go.Proofs.YtmgeffgcihfpcaaDoor.F
open Go.RowKit Go.Proofs.YtmgeffgcihfpcaaDoorW.PrintWords Go.Proofs.YtmgeffgcihfpcaaDoorW.PrintLast Go.Proofs.YtmgeffgcihfpcaaDoorW.PrintMore
open Go.Proofs.YtmgeffgcihfpcaaDoor
set_option linter.unusedVariables false
set_option linter.unusedSimpArgs false
def spec_PlayDisk.step (k : Nat) (d : List S74) (x : List S71) (i : Int) : Option (List S74 × Bool) := if (rd_T71 x i).f0 = 0 then spec_AppendFile.f k d (rd_T71 x i).f1 (rd_T71 x i).f3 else if (rd_T71 x i).f0 = 1 then spec_SyncFile.f k d (rd_T71 x i).f1 else if (rd_T71 x i).f0 = 2 then spec_CutFile.f k d (rd_T71 x i).f1 (rd_T71 x i).f4 else if (rd_T71 x i).f0 = 3 then spec_RenameFile.f k d (rd_T71 x i).f1 (rd_T71 x i).f2 else if (rd_T71 x i).f0 = 4 then spec_RemoveFile.f k d (rd_T71 x i).f1 else some (d, false)
def spec_PlayDisk.l0 : Nat → List S71 → List S74 → List Bool → Int → Option (List S74 × List Bool)
  | 0, _, _, _, _ => none
  | k + 1, x, d, t, i => if i < (x.length : Int) then (if 0 ≤ i then (spec_PlayDisk.step k d x i).bind fun q => (if t.length < 140737488355328 then spec_PlayDisk.l0 k x q.1 (t ++ [q.2]) (wrap64 (i + 1)) else none) else none) else some (d, t)
def spec_PlayDisk.f (k : Nat) (l : List S74) (x : List S71) : Option (List S74 × List Bool) := (spec_DiskOk.f k l).bind fun t => if t = true then (if (x.length : Int) > 200 then some ([], []) else (spec_l03Copy.f k l).bind fun o => spec_PlayDisk.l0 k x o [] 0) else some ([], [])
set_option maxHeartbeats 16000000 in
set_option maxRecDepth 100000 in
theorem spec_PlayDisk.calls (k : Nat) (A0_0 : Option Addr) (c0_0 : Nat) (l0_0 : List (S74)) (A1 : Option Addr) (c1 : Nat) (l1 : List (S71)) (r1 : List (S74)) (r2 : List Bool) (w : World) (hr0_0 : Kd.C k74 w A0_0 l0_0.length l0_0) (hc0_0 : l0_0.length ≤ c0_0) (hr1 : Kd.C k71 w A1 l1.length l1) (hc1 : l1.length ≤ c1) (h : spec_PlayDisk.f k l0_0 l1 = some (r1, r2)) :
    Calls Tryd.prog 43 #[.agg #[.slice A0_0 l0_0.length c0_0], .slice A1 l1.length c1] w fun e w' => ∃ v0_ v1_ : Value, e = .returned (.tuple #[.agg #[v0_], v1_]) ∧ Kd.S k74 74 w' w.heap.size (fun k_ => some k_ ≠ v1_.ownBlock) v0_ r1 ∧ Kd.R Kd.bool 4 w' w.heap.size (fun _ => True) v1_ r2 ∧ Below w.heap.size w w' := by
  have HR := Zh hr0_0
  have HC := Zh hc0_0
  have HR1 := Zh hr1
  clear hr0_0 hc0_0 hr1 hc1
  have ST := Zh (LW.St.start w)
  have hu29 := Tryd.underlying29
  have hu71 := Tryd.underlying71
  unfold spec_PlayDisk.f at h
  replace h := Option.bind_eq_some_iff.mp h
  obtain ⟨tt, HA1, h⟩ := h
  replace HA1 := Zh HA1
  have H := Zh h
  clear h
  go_enter Tryd.func43, Tryd.ntmps43
  go_wp2_with fail
  replace ST := Zh (ST.out.alloc #[.slice A0_0 l0_0.length c0_0] 29 (g := w.heap.size) rfl)
  replace ST := Zh (ST.out.alloc #[.slice none 0 0] 29 (g := w.heap.size + 1) (by simp))
  with_reducible refine (spec_DiskOk.calls k _ _ l0_0 tt _ (Kd.C_below HR.out ST.out.b) HC.out HA1.out).mono ?_
  rintro e w1 ⟨rfl, hb⟩
  replace ST := Zh (ST.out.step hb)
  clear hb
  have h := H.out
  clear H
  have hbad : ∀ c : Bool, c = c := fun _ => rfl
  have hc0 := ST.out.cell 1 rfl 0 (u := .slice A0_0 l0_0.length c0_0) rfl
  have hl0 := ST.out.lt 1 rfl
  have hc3 := ST.out.cell 0 rfl 0 (u := .slice none 0 0) rfl
  have hl3 := ST.out.lt 0 rfl
  have hf3 := ST.out.frozen 0 rfl 0
  cases tt with
  | false =>
    rw [if_neg (by decide)] at h
    obtain ⟨rfl, rfl⟩ := Prod.mk.inj (Option.some.inj h)
    clear h
    go_wp2_with fail
    replace ST := Zh (ST.out.set 0 rfl 0 (.slice none 0 0))
    refine Zq (results_ct rfl _ _ (w.heap.size + 1) 29 #[.slice none 0 0] (0, 0) _ rfl (ST.out.blk 0 rfl) Tryd.underlying29 rfl (by kernel_rfl)) rfl ?_
    exact ⟨_, _, rfl, Kd.S_nil _ _ _ _ _, Kd.R_nil _ _ _ _ _, ST.out.b⟩
  | true =>
    rw [if_pos rfl] at h
    by_cases c2 : (l1.length : Int) > 200
    · rw [if_pos c2] at h
      obtain ⟨rfl, rfl⟩ := Prod.mk.inj (Option.some.inj h)
      have q2 : decide (200 < (l1.length : Int)) = true := decide_eq_true c2
      have q3 : decide (200 < l1.length) = true := decide_eq_true (by omega)
      clear h c2
      go_wp2_with fail
      replace ST := Zh (ST.out.set 0 rfl 0 (.slice none 0 0))
      refine Zq (results_ct rfl _ _ (w.heap.size + 1) 29 #[.slice none 0 0] (0, 0) _ rfl (ST.out.blk 0 rfl) Tryd.underlying29 rfl (by kernel_rfl)) rfl ?_
      exact ⟨_, _, rfl, Kd.S_nil _ _ _ _ _, Kd.R_nil _ _ _ _ _, ST.out.b⟩
    rw [if_neg c2] at h
    have q2 : decide (200 < (l1.length : Int)) = false := decide_eq_false c2
    have q3 : decide (200 < l1.length) = false := decide_eq_false (by omega)
    replace h := Option.bind_eq_some_iff.mp h
    obtain ⟨o, HA2, h⟩ := h
    replace HA2 := Zh HA2
    have H := Zh h
    clear h c2
    go_wp2_with fail
    with_reducible refine (spec_l03Copy.calls k _ _ l0_0 o _ (Kd.C_below HR.out ST.out.b) HC.out HA2.out).mono ?_
    rintro e w2 ⟨v2, rfl, ho, hb⟩
    obtain ⟨Ao, co, rfl⟩ := Kd.S_slice ho
    replace ST := Zh (ST.out.row hb ho)
    clear hb ho hc0 hl0 hc3 hl3 hf3 q2 q3
    go_wp2_with fail
    replace ST := Zh (ST.out.alloc #[.slice Ao o.length co] 29 (g := w2.heap.size) rfl)
    replace ST := Zh (ST.out.rowR (d := Kd.bool) (e := 4) (xs := []) rfl (Zf (Below.refl _ _) (.cells #[] 4)) (R_emptyB _))
    replace ST := Zh (ST.out.sel [0, 2, 1, 3] (by decide))
    have e6 : (w2.alloc (.cells #[.slice Ao o.length co] 29)).heap.size = w2.heap.size + 1 := by simp
    rw [e6] at ST
    generalize hW : (w2.alloc (.cells #[.slice Ao o.length co] 29)).alloc (.cells #[] 4) = W at ST ⊢
    clear hW
    go_loopg [7, 8] k (fun kq va vb w' => ∃ (d : List S74) (t : List Bool) (i : Int) (Fd Ft : Nat → Prop) (Ad : Option Addr) (cd : Nat) (At : Option Addr) (ct : Nat), va = .slice At t.length ct ∧ vb = .int .i64 i ∧ Aside0 (spec_PlayDisk.l0 kq l1 d t i = some (r1, r2)) ∧ Aside0 (LW.St w w' [LW.row Kd.bool 4 w.heap.size (.slice At t.length ct) t Ft, LW.row k74 74 w.heap.size (.slice Ad d.length cd) d Fd, LW.box w2.heap.size #[.slice Ad d.length cd] 29, LW.box (w.heap.size + 1) #[.slice none 0 0] 29]))
    case atStart => exact ⟨o, [], 0, _, _, Ao, co, some ⟨w2.heap.size + 1, 0, none⟩, 0, rfl, rfl, H, ST⟩
    case round =>
      clear ST H
      obtain ⟨d, t, i, Fd, Ft, Az, cz, At, ct, rfl, rfl, HA, ST⟩ := hrel
      cases gk with
      | zero => exact absurd HA.out (by simp [spec_PlayDisk.l0])
      | succ k1 =>
        have h := HA.out
        clear HA
        simp only [spec_PlayDisk.l0] at h
        by_cases c3 : i < (l1.length : Int)
        · rw [if_pos c3] at h
          by_cases c4 : 0 ≤ i
          · rw [if_pos c4] at h
            obtain ⟨⟨d', okk⟩, HS, h⟩ := Option.bind_eq_some_iff.mp h
            by_cases c5 : t.length < 140737488355328
            · rw [if_pos c5] at h
              have H' := Zh h
              have HSZ := Zh c5
              clear h c5
              obtain ⟨ad, A3, c3_, e, E0, E1, E2, E3, E4, g3l, g3⟩ := at_T71 HR1.out i c4 c3
              cases e
              have HI3 := Zh g3
              have HL3 := Zh g3l
              have hx0 := (ST.out.b.cell (Zi w _ E0)).trans E0
              have hx1 := (ST.out.b.cell (Zi w _ E1)).trans E1
              have hx2 := (ST.out.b.cell (Zi w _ E2)).trans E2
              have hx3 := (ST.out.b.cell (Zi w _ E3)).trans E3
              have hx4 := (ST.out.b.cell (Zi w _ E4)).trans E4
              have q3 := decide_eq_true c3
              have p3 := eq_true c3
              have p4 := eq_true c4
              clear E0 E1 E2 E3 E4 g3l g3 c3 c4
              simp only [spec_PlayDisk.step] at HS
              have hc0 := ST.out.cell 2 rfl 0 (u := .slice Az d.length cz) rfl
              have hl0 := ST.out.lt 2 rfl
              go_upto_block 2 with fail
              replace ST := Zh (ST.out.alloc #[.int .i64 (rd_T71 l1 i).f0, .string (rd_T71 l1 i).f1, .string (rd_T71 l1 i).f2, .slice A3 (rd_T71 l1 i).f3.length c3_, .int .i64 (rd_T71 l1 i).f4] 71 (g := wr.heap.size) rfl)
              replace ST := Zh (ST.out.alloc #[.slice Az d.length cz] 29 (g := wr.heap.size + 1) (by simp))
              generalize (wr.alloc (.cells #[.int .i64 (rd_T71 l1 i).f0, .string (rd_T71 l1 i).f1, .string (rd_T71 l1 i).f2, .slice A3 (rd_T71 l1 i).f3.length c3_, .int .i64 (rd_T71 l1 i).f4] 71)).alloc (.cells #[.slice Az d.length cz] 29) = w4 at ST ⊢
              clear hx0 hx1 hx2 hx3 hx4 hc0 hl0
              have hx0 := ST.out.cell 1 rfl 0 (u := .int .i64 (rd_T71 l1 i).f0) rfl
              have hx1 := ST.out.cell 1 rfl 1 (u := .string (rd_T71 l1 i).f1) rfl
              have hx2 := ST.out.cell 1 rfl 2 (u := .string (rd_T71 l1 i).f2) rfl
              have hx3 := ST.out.cell 1 rfl 3 (u := .slice A3 (rd_T71 l1 i).f3.length c3_) rfl
              have hx4 := ST.out.cell 1 rfl 4 (u := .int .i64 (rd_T71 l1 i).f4) rfl
              have hl0 := ST.out.lt 1 rfl
              have hc0 := ST.out.cell 4 rfl 0 (u := .slice Az d.length cz) rfl
              have hl1 := ST.out.lt 4 rfl
              go_cut [10] (fun vk wc => ∃ (Ad : Option Addr) (cd : Nat) (Fd Ft : Nat → Prop), vk = .bool okk ∧ Aside0 (LW.St w wc [LW.row Kd.bool 4 w.heap.size (.slice At t.length ct) t Ft, LW.row k74 74 w.heap.size (.slice Ad d'.length cd) d' Fd, LW.box (wr.heap.size + 1) #[.slice Ad d'.length cd] 29, LW.box w2.heap.size #[.slice Az d.length cz] 29, LW.box (w.heap.size + 1) #[.slice none 0 0] 29]))
              case first =>
                by_cases g0 : (rd_T71 l1 i).f0 = 0
                · rw [if_pos g0] at HS
                  replace HS := Zh HS
                  have n0 : ((rd_T71 l1 i).f0 == 0) = true := beq_iff_eq.mpr g0
                  clear g0
                  go_wp2_with fail
                  with_reducible refine (spec_AppendFile.calls k1 _ _ d (rd_T71 l1 i).f1 _ _ (rd_T71 l1 i).f3 d' okk _ ((ST.out.reads 3 rfl).2.2) (ST.out.reads 3 rfl).2.1 (Kd.C_below HI3.out ST.out.b) HL3.out HS.out).mono ?_
                  rintro e w5 ⟨v5, rfl, ho, hb⟩
                  obtain ⟨A5, c5, rfl⟩ := Kd.S_slice ho
                  replace ST := Zh (ST.out.row hb ho)
                  clear hb ho hx0 hx1 hx2 hx3 hx4 hl0 hc0 hl1
                  have hc0 := ST.out.cell 1 rfl 0 (u := .slice Az d.length cz) rfl
                  have hl0 := ST.out.lt 1 rfl
                  have hf0 := ST.out.frozen 1 rfl 0
                  go_wp2
                  replace ST := Zh ((ST.out.set 1 rfl 0 (.slice A5 d'.length c5)).sel [3, 0, 1, 5, 6] (by decide))
                  go_meet
                  case rel => exact ⟨A5, c5, _, _, rfl, ST⟩
                have n0 : ((rd_T71 l1 i).f0 == 0) = false := by rw [beq_eq_false_iff_ne]; exact g0
                by_cases g1 : (rd_T71 l1 i).f0 = 1
                · rw [if_neg g0, if_pos g1] at HS
                  replace HS := Zh HS
                  have n1 : ((rd_T71 l1 i).f0 == 1) = true := beq_iff_eq.mpr g1
                  clear g0 g1
                  go_wp2_with fail
                  with_reducible refine (spec_SyncFile.calls k1 _ _ d (rd_T71 l1 i).f1 d' okk _ ((ST.out.reads 3 rfl).2.2) (ST.out.reads 3 rfl).2.1 HS.out).mono ?_
                  rintro e w5 ⟨v5, rfl, ho, hb⟩
                  obtain ⟨A5, c5, rfl⟩ := Kd.S_slice ho
                  replace ST := Zh (ST.out.row hb ho)
                  clear hb ho hx0 hx1 hx2 hx3 hx4 hl0 hc0 hl1
                  have hc0 := ST.out.cell 1 rfl 0 (u := .slice Az d.length cz) rfl
                  have hl0 := ST.out.lt 1 rfl
                  have hf0 := ST.out.frozen 1 rfl 0
                  go_wp2
                  replace ST := Zh ((ST.out.set 1 rfl 0 (.slice A5 d'.length c5)).sel [3, 0, 1, 5, 6] (by decide))
                  go_meet
                  case rel => exact ⟨A5, c5, _, _, rfl, ST⟩
                have n1 : ((rd_T71 l1 i).f0 == 1) = false := by rw [beq_eq_false_iff_ne]; exact g1
                by_cases g2 : (rd_T71 l1 i).f0 = 2
                · rw [if_neg g0, if_neg g1, if_pos g2] at HS
                  replace HS := Zh HS
                  have n2 : ((rd_T71 l1 i).f0 == 2) = true := beq_iff_eq.mpr g2
                  clear g0 g1 g2
                  go_wp2_with fail
                  with_reducible refine (spec_CutFile.calls k1 _ _ d (rd_T71 l1 i).f1 (rd_T71 l1 i).f4 d' okk _ ((ST.out.reads 3 rfl).2.2) (ST.out.reads 3 rfl).2.1 HS.out).mono ?_
                  rintro e w5 ⟨v5, rfl, ho, hb⟩
                  obtain ⟨A5, c5, rfl⟩ := Kd.S_slice ho
                  replace ST := Zh (ST.out.row hb ho)
                  clear hb ho hx0 hx1 hx2 hx3 hx4 hl0 hc0 hl1
                  have hc0 := ST.out.cell 1 rfl 0 (u := .slice Az d.length cz) rfl
                  have hl0 := ST.out.lt 1 rfl
                  have hf0 := ST.out.frozen 1 rfl 0
                  go_wp2
                  replace ST := Zh ((ST.out.set 1 rfl 0 (.slice A5 d'.length c5)).sel [3, 0, 1, 5, 6] (by decide))
                  go_meet
                  case rel => exact ⟨A5, c5, _, _, rfl, ST⟩
                have n2 : ((rd_T71 l1 i).f0 == 2) = false := by rw [beq_eq_false_iff_ne]; exact g2
                by_cases g3 : (rd_T71 l1 i).f0 = 3
                · rw [if_neg g0, if_neg g1, if_neg g2, if_pos g3] at HS
                  replace HS := Zh HS
                  have n3 : ((rd_T71 l1 i).f0 == 3) = true := beq_iff_eq.mpr g3
                  clear g0 g1 g2 g3
                  go_wp2_with fail
                  with_reducible refine (spec_RenameFile.calls k1 _ _ d (rd_T71 l1 i).f1 (rd_T71 l1 i).f2 d' okk _ ((ST.out.reads 3 rfl).2.2) (ST.out.reads 3 rfl).2.1 HS.out).mono ?_
                  rintro e w5 ⟨v5, rfl, ho, hb⟩
                  obtain ⟨A5, c5, rfl⟩ := Kd.S_slice ho
                  replace ST := Zh (ST.out.row hb ho)
                  clear hb ho hx0 hx1 hx2 hx3 hx4 hl0 hc0 hl1
                  have hc0 := ST.out.cell 1 rfl 0 (u := .slice Az d.length cz) rfl
                  have hl0 := ST.out.lt 1 rfl
                  have hf0 := ST.out.frozen 1 rfl 0
                  go_wp2
                  replace ST := Zh ((ST.out.set 1 rfl 0 (.slice A5 d'.length c5)).sel [3, 0, 1, 5, 6] (by decide))
                  go_meet
                  case rel => exact ⟨A5, c5, _, _, rfl, ST⟩
                have n3 : ((rd_T71 l1 i).f0 == 3) = false := by rw [beq_eq_false_iff_ne]; exact g3
                by_cases g4 : (rd_T71 l1 i).f0 = 4
                · rw [if_neg g0, if_neg g1, if_neg g2, if_neg g3, if_pos g4] at HS
                  replace HS := Zh HS
                  have n4 : ((rd_T71 l1 i).f0 == 4) = true := beq_iff_eq.mpr g4
                  clear g0 g1 g2 g3 g4
                  go_wp2_with fail
                  with_reducible refine (spec_RemoveFile.calls k1 _ _ d (rd_T71 l1 i).f1 d' okk _ ((ST.out.reads 3 rfl).2.2) (ST.out.reads 3 rfl).2.1 HS.out).mono ?_
                  rintro e w5 ⟨v5, rfl, ho, hb⟩
                  obtain ⟨A5, c5, rfl⟩ := Kd.S_slice ho
                  replace ST := Zh (ST.out.row hb ho)
                  clear hb ho hx0 hx1 hx2 hx3 hx4 hl0 hc0 hl1
                  have hc0 := ST.out.cell 1 rfl 0 (u := .slice Az d.length cz) rfl
                  have hl0 := ST.out.lt 1 rfl
                  have hf0 := ST.out.frozen 1 rfl 0
                  go_wp2
                  replace ST := Zh ((ST.out.set 1 rfl 0 (.slice A5 d'.length c5)).sel [3, 0, 1, 5, 6] (by decide))
                  go_meet
                  case rel => exact ⟨A5, c5, _, _, rfl, ST⟩
                have n4 : ((rd_T71 l1 i).f0 == 4) = false := by rw [beq_eq_false_iff_ne]; exact g4
                rw [if_neg g0, if_neg g1, if_neg g2, if_neg g3, if_neg g4] at HS
                obtain ⟨rfl, rfl⟩ := Prod.mk.inj (Option.some.inj HS)
                clear HS g0 g1 g2 g3 g4
                go_wp2
                replace ST := Zh (ST.out.sel [2, 3, 0, 4, 5] (by decide))
                go_meet
                case rel => exact ⟨_, _, _, _, rfl, ST⟩
              case rest =>
              clear ST hx0 hx1 hx2 hx3 hx4 hl0 hc0 hl1 HS p3 p4 q3
              obtain ⟨Ad, cd, Fd, Ft, rfl, ST⟩ := hcut
              have hc0 := ST.out.cell 2 rfl 0 (u := .slice Ad d'.length cd) rfl
              have hl0 := ST.out.lt 2 rfl
              have hc1 := ST.out.cell 3 rfl 0 (u := .slice Az d.length cz) rfl
              have hl1 := ST.out.lt 3 rfl
              have hf1 := ST.out.frozen 3 rfl 0
              have hne := ST.out.ne 2 3 (by decide) rfl rfl
              have hne' := hne.symm
              go_upto_region 23 with fail
              replace ST := Zh ((ST.out.set 3 rfl 0 (.slice Ad d'.length cd)).sel [0, 1, 3, 4] (by decide))
              generalize wc.setCell ⟨w2.heap.size, 0, none⟩ (.slice Ad d'.length cd) = w7 at ST ⊢
              clear hc0 hl0 hc1 hl1 hf1 hne hne'
              go_wp2_with ((with_reducible refine gate_builtin (b := .append) (xs := #[.tmp 89, .tmp 91]) rfl ?_); at_builtin; refine Kd.R_append Kd.bool (w0 := w) w.heap.size rfl (.tmp 89) (.tmp 91) 57 4 (.bool false) 1 rfl Tryd.underlying57 (by kernel_rfl) rfl (by decide) (by omega) (.slice At t.length ct) t okk [.bool okk] (fun k => Ft k ∨ w7.heap.size ≤ k) (fun _ => False) rfl rfl rfl (fun _ h => h.elim) (fun k hk => .inr hk) (Kd.R_mono (Kd.S_R (ST.out.own 0 rfl)) (fun k hk => .inl hk)) ST.out.b ST.out.b.size (by have := HSZ.out; omega) ?_; intro v1 w6 s1 s2 s3 s4; obtain ⟨A8, c8, hv⟩ := Kd.R_slice s1; rw [List.length_append] at hv; subst hv; have Q := Zh (And.intro s1 (And.intro s2 s3)); clear s1 s2 s3 s4)
              obtain ⟨s1, s2, s3⟩ := Q.out
              have hST := ST.out.grow 0 rfl (LW.row Kd.bool 4 w.heap.size (.slice A8 (t.length + 1) c8) (t ++ [okk]) (fun k => Ft k ∨ (w7.heap.size ≤ k ∧ k < w6.heap.size))) (fun k hk => hk) (LW.S_flat rfl (Kd.R_mono (Kd.R_tight rfl s1) (fun k hk => (s1.1 k hk.symm).elim .inl (fun a => .inr ⟨a, Kd.R_lt s1 k hk.symm⟩)))) s2 ⟨s3.size, fun k hk hn => s3.block k hk (fun he => hn ((Kd.S_R (ST.out.own 0 rfl)).1 k he.symm))⟩
              clear s1 s2 s3 Q
              go_roundg k1
              case measure => omega
              case rel => exact ⟨_, t ++ [okk], _, _, _, Ad, cd, A8, c8, by rw [List.length_append]; rfl, rfl, H', ⟨by rw [List.length_append]; exact hST⟩⟩
            rw [if_neg c5] at h; exact absurd h (by simp)
          rw [if_neg c4] at h; exact absurd h (by simp)
        rw [if_neg c3] at h
        obtain ⟨rfl, rfl⟩ := Prod.mk.inj (Option.some.inj h)
        have q3 := decide_eq_false c3
        clear h c3
        have hc0 := ST.out.cell 2 rfl 0 (u := .slice Az d.length cz) rfl
        have hl0 := ST.out.lt 2 rfl
        have hc1 := ST.out.cell 3 rfl 0 (u := .slice none 0 0) rfl
        have hl1 := ST.out.lt 3 rfl
        have hf1 := ST.out.frozen 3 rfl 0
        have hne := ST.out.ne 2 3 (by decide) rfl rfl
        have hne' := hne.symm
        go_wp2_with fail
        replace ST := Zh (ST.out.set 3 rfl 0 (.slice Az d.length cz))
        refine Zq (results_ct rfl _ _ (w.heap.size + 1) 29 #[.slice Az d.length cz] (0, 0) _ rfl (ST.out.blk 3 rfl) Tryd.underlying29 rfl (by kernel_rfl)) rfl ?_
        have hd := LW.Its.disj ST.out.i 1 0 _ _ (by decide) rfl rfl
        exact ⟨_, _, rfl, Kd.S_mono (ST.out.own 1 rfl) (fun k hk he => hd k hk ((Kd.S_R (ST.out.own 0 rfl)).1 k he.symm)), Kd.R_mono (Kd.S_R (ST.out.own 0 rfl)) (fun _ _ => trivial), ST.out.b⟩
theorem lendSynced {w0 w : World} {l : List LW.It} {g n c : Nat} {xs : List S74} {F : Nat → Prop} (h : LW.St w0 w l) (q : Nat) (hq : l[q]? = some (LW.row k74 74 w0.heap.size (.slice (some ⟨g, 0, none⟩) n c) xs F)) (i : Int) (h0 : 0 ≤ i) (h1 : i < n) :
    ∃ (u1 u2 : Value) (ok1 ok2 : Nat → Prop), w.cell? ⟨g, i.toNat * 3, none⟩ = some (.string (rd_T74 xs i).f0) ∧ w.cell? ⟨g, i.toNat * 3 + 1, none⟩ = some u1 ∧ w.cell? ⟨g, i.toNat * 3 + 2, none⟩ = some u2 ∧ w.frozen? ⟨g, i.toNat * 3 + 1, none⟩ = false ∧ w.frozen? ⟨g, i.toNat * 3 + 2, none⟩ = false ∧ Kd.R (Kd.int .u8) 5 w w0.heap.size ok1 u1 (rd_T74 xs i).f1 ∧ Kd.R (Kd.int .u8) 5 w w0.heap.size ok2 u2 (rd_T74 xs i).f2 ∧ (∀ k, ok1 k → k ≠ g) ∧ (∀ k, u1.ownBlock = some k → F k) ∧
      ∀ (v1 : Value) (w1 : World) (zs : List Int), (∀ ok : Nat → Prop, (∀ k, v1.ownBlock = some k → ok k) → Kd.R (Kd.int .u8) 5 w1 w0.heap.size ok v1 zs) → Below w0.heap.size w0 w1 → w.grownBy w1 u1.ownBlock → (v1.ownBlock = u1.ownBlock ∨ ∃ b, v1.ownBlock = some b ∧ w.heap.size ≤ b) →
        LW.St w0 ((w1.setCell ⟨g, i.toNat * 3 + 1, none⟩ v1).setCell ⟨g, i.toNat * 3 + 2, none⟩ (.slice none 0 0)) (l.set q (LW.row k74 74 w0.heap.size (.slice (some ⟨g, 0, none⟩) n c) (xs.set i.toNat ⟨(rd_T74 xs i).f0, zs, []⟩) (fun k => F k ∨ (w.heap.size ≤ k ∧ k < w1.heap.size)))) := by
  have hS := h.own q hq
  have hFg : F g := (Kd.S_R hS).1 g (by simp [Value.ownBlock])
  have hbg := (h.i.all _ (List.mem_of_getElem? hq)).2 g hFg
  obtain ⟨oki, cs, hcl, hM, hcc, hfr, hoki, hH⟩ := Kd.S_elem (Kd.S_mono hS (fun k hk => (.inl hk : F k ∨ w.heap.size ≤ k))) z74 i h0 h1
  obtain ⟨pp, u1, u2, rfl, hA1, hA2⟩ := k74_openA hM
  refine ⟨u1, u2, fun k => oki k ∧ pp k, fun k => oki k ∧ ¬ pp k, hcc 0 _ rfl, hcc 1 _ rfl, hcc 2 _ rfl, hfr 1, hfr 2, hA1, hA2, fun k hk => (hoki k hk.1).2, fun k hk => ((hoki k (hA1.1 k hk).1).1).elim id (fun a => absurd (Kd.R_lt hA1 k hk) (by omega)), fun v1 w1 zs hR hB hg hat => ?_⟩
  have hu1 : ∀ k, u1.ownBlock = some k → oki k := fun k hk => (hA1.1 k hk).1
  have H1 := Kd.H_grown (Kd.H_widen hH) hg (fun k hk => .inl (hu1 k hk))
  have hR1 := hR (fun k => oki k ∨ w.heap.size ≤ k) (fun k hk => by
    rcases hat with e | ⟨b, e, hb⟩
    · exact .inl (hu1 k (e ▸ hk))
    rw [e] at hk
    injection hk with hk
    exact .inr (hk ▸ hb))
  have hM1 := k74_mkM w1 w0.heap.size (fun k => oki k ∨ w.heap.size ≤ k) (⟨(xs.getD i.toNat z74).f0, zs, []⟩ : S74) hR1 (Kd.R_nil _ _ _ _ _) AP.nil_ne
  have hP := Kd.S_seg (okg := fun _ => False) (seg := [v1, .slice none 0 0]) (j := 1) (x' := (⟨(xs.getD i.toNat z74).f0, zs, []⟩ : S74)) (Kd.H_mono H1 (fun k hk => (⟨hk, fun hf => hf⟩ : (F k ∨ w.heap.size ≤ k) ∧ ¬ False))) h0 h1 (show 1 + 2 ≤ 3 by decide) hM1 (fun k hk => hk.elim (fun a => .inl (.inl a)) (fun a => .inl (.inr ⟨.inr a, a⟩))) (fun k hk => hk.elim)
  have hPS : Kd.S k74 74 ((w1.setCell ⟨g, i.toNat * 3 + 1, none⟩ v1).setCell ⟨g, i.toNat * 3 + 2, none⟩ (.slice none 0 0)) w0.heap.size (fun k => F k ∨ w.heap.size ≤ k) (.slice (some ⟨g, 0, none⟩) n c) (xs.set i.toNat ⟨(xs.getD i.toNat z74).f0, zs, []⟩) := hP.1
  refine h.grow q hq (LW.row k74 74 w0.heap.size (.slice (some ⟨g, 0, none⟩) n c) (xs.set i.toNat ⟨(xs.getD i.toNat z74).f0, zs, []⟩) (fun k => F k ∨ (w.heap.size ≤ k ∧ k < w1.heap.size))) (fun k hk => ?_) (Kd.S_mono (Kd.S_bound hPS) (fun k hk => ?_)) (Zg (Zg hB hbg.1) hbg.1) ⟨?_, fun k hk hn => ?_⟩
  · rw [LW.setCell_size, LW.setCell_size]; exact hk
  · have h2 := hk.2.2.1
    rw [LW.setCell_size, LW.setCell_size] at h2
    exact hk.1.elim .inl (fun a => .inr ⟨a, h2⟩)
  · rw [LW.setCell_size, LW.setCell_size]; exact hg.size
  rw [Below.heap_setCell _ _ _ k (fun he => hn (by rw [he]; exact hFg)), Below.heap_setCell _ _ _ k (fun he => hn (by rw [he]; exact hFg))]
  exact hg.block k hk (fun he => hn (by
    have := hu1 k he.symm
    rcases (hoki k this).1 with a | a
    · exact a
    omega))
end Go.Proofs.YtmgeffgcihfpcaaDoor.F

namespace Go.Proofs.YtmgeffgcihfpcaaDoor.F
open Go.RowKit Go.Proofs.YtmgeffgcihfpcaaDoorW.PrintWords Go.Proofs.YtmgeffgcihfpcaaDoorW.PrintWords.Kd Go.Proofs.YtmgeffgcihfpcaaDoorW.PrintMore.Kd Go.Proofs.YtmgeffgcihfpcaaDoorW.PrintLast Go.Proofs.YtmgeffgcihfpcaaDoorW.PrintMore
attribute [local go_sem] max2_int min2_int max_two min_two max_three min_three max_four min_four   -- for this text's walks alone
set_option linter.unusedVariables false
set_option linter.unusedSimpArgs false
def impl_torn.f (l0 : List Int) (a1 : Int) (a2 : Int) : Option (List Int) := (some (([] : List Int) : List Int)).bind fun y330 => (if 0 ≤ (mn (mx a1 0) (l0.length : Int)) then (if (mn (mx a1 0) (l0.length : Int)) ≤ (l0.length : Int) then (if y330.length + (l0.take ((mn (mx a1 0) (l0.length : Int)) : Int).toNat).length < 140737488355328 then ((some (y330 ++ (l0.take ((mn (mx a1 0) (l0.length : Int)) : Int).toNat) : List Int)).bind fun y334 => (if a2 ≥ 0 then (if a2 < (y334.length : Int) then (if 0 ≤ a2 then (some (y334.set (a2 : Int).toNat (Go.bits .xor .u8 255 (rd y334 a2)))) else (none)) else (some y334)) else (some y334))) else (none)) else (none)) else (none))
set_option maxHeartbeats 8000000 in
set_option maxRecDepth 100000 in
theorem impl_torn.calls (A0 : Option Addr) (c0 : Nat) (l0 : List Int) (a1 : Int) (a2 : Int) (r : List Int) (w : World) (hr0 : Kd.C (Kd.int .u8) w A0 l0.length l0) (hc0 : l0.length ≤ c0) (h : impl_torn.f l0 a1 a2 = some r) :
  Calls Tryd.prog 77 #[.slice A0 l0.length c0, .int .i64 a1, .int .i64 a2] w fun e w' => ∃ v0_ : Value, e = .returned (v0_) ∧ Kd.R (Kd.int .u8) 5 w' w.heap.size (fun _ => True) v0_ r ∧ Below w.heap.size w w' := by
 have HR0 := Zh hr0
 have HC0 := Zh hc0
 clear hr0 hc0
 have HB := Zh (Below.refl w.heap.size w)
 have H : ((some (([] : List Int) : List Int)).bind fun y330 => (if 0 ≤ (mn (mx a1 0) (l0.length : Int)) then (if (mn (mx a1 0) (l0.length : Int)) ≤ (l0.length : Int) then (if y330.length + (l0.take ((mn (mx a1 0) (l0.length : Int)) : Int).toNat).length < 140737488355328 then ((some (y330 ++ (l0.take ((mn (mx a1 0) (l0.length : Int)) : Int).toNat) : List Int)).bind fun y334 => (if a2 ≥ 0 then (if a2 < (y334.length : Int) then (if 0 ≤ a2 then (some (y334.set (a2 : Int).toNat (Go.bits .xor .u8 255 (rd y334 a2)))) else (none)) else (some y334)) else (some y334))) else (none)) else (none)) else (none))) = some r := h
 clear h
 obtain ⟨y330, hy330⟩ : ∃ y_ : List Int, y_ = (([] : List Int)) := ⟨_, rfl⟩
 replace H : (if 0 ≤ (mn (mx a1 0) (l0.length : Int)) then (if (mn (mx a1 0) (l0.length : Int)) ≤ (l0.length : Int) then (if y330.length + (l0.take ((mn (mx a1 0) (l0.length : Int)) : Int).toNat).length < 140737488355328 then ((some (y330 ++ (l0.take ((mn (mx a1 0) (l0.length : Int)) : Int).toNat) : List Int)).bind fun y334 => (if a2 ≥ 0 then (if a2 < (y334.length : Int) then (if 0 ≤ a2 then (some (y334.set (a2 : Int).toNat (Go.bits .xor .u8 255 (rd y334 a2)))) else (none)) else (some y334)) else (some y334))) else (none)) else (none)) else (none)) = some r := by first | (rw [hy330]; with_reducible exact H) | (have H2_ := (Option.bind_some _ _).symm.trans H; rw [hy330]; with_reducible exact H2_) | (have H2_ := (Option.bind_some _ _).symm.trans H; with_reducible exact H2_) | with_reducible exact H | (rw [hy330]; exact H) | exact H
 have Ny330 := Zh hy330
 clear hy330
 obtain ⟨ji4, hji4⟩ : ∃ j_ : Int, (mx a1 0) = j_ := ⟨_, rfl⟩
 replace H : (if 0 ≤ (mn (ji4) (l0.length : Int)) then (if (mn (ji4) (l0.length : Int)) ≤ (l0.length : Int) then (if y330.length + (l0.take ((mn (ji4) (l0.length : Int)) : Int).toNat).length < 140737488355328 then ((some (y330 ++ (l0.take ((mn (ji4) (l0.length : Int)) : Int).toNat) : List Int)).bind fun y334 => (if a2 ≥ 0 then (if a2 < (y334.length : Int) then (if 0 ≤ a2 then (some (y334.set (a2 : Int).toNat (Go.bits .xor .u8 255 (rd y334 a2)))) else (none)) else (some y334)) else (some y334))) else (none)) else (none)) else (none)) = some r := by first | (rw [hji4] at H; exact H) | (simp only [hji4] at H ⊢; exact H)
 (try (have hji4l : 0 ≤ ji4 := by (rw [← hji4]; unfold mx; (repeat' split) <;> omega)))
 (try (have hji4m : 0 ≤ ji4 := by omega))
 have hji4_ : (if a1 < 0 then 0 else a1) = ji4 := hji4
 obtain ⟨ji5, hji5⟩ : ∃ j_ : Int, (mn (ji4) (l0.length : Int)) = j_ := ⟨_, rfl⟩
 replace H : (if 0 ≤ (ji5) then (if (ji5) ≤ (l0.length : Int) then (if y330.length + (l0.take ((ji5) : Int).toNat).length < 140737488355328 then ((some (y330 ++ (l0.take ((ji5) : Int).toNat) : List Int)).bind fun y334 => (if a2 ≥ 0 then (if a2 < (y334.length : Int) then (if 0 ≤ a2 then (some (y334.set (a2 : Int).toNat (Go.bits .xor .u8 255 (rd y334 a2)))) else (none)) else (some y334)) else (some y334))) else (none)) else (none)) else (none)) = some r := by first | (rw [hji5] at H; exact H) | (simp only [hji5] at H ⊢; exact H)
 have hji5_ : (if (l0.length : Int) < (ji4) then (l0.length : Int) else (ji4)) = ji5 := hji5
 by_cases c6 : 0 ≤ (ji5)
 ·
  rw [if_pos c6] at H
  have c6b0 := eq_true c6
  have c6b1 : decide (0 ≤ (ji5)) = true := decide_eq_true c6
  clear c6
  by_cases c7 : (ji5) ≤ (l0.length : Int)
  ·
   rw [if_pos c7] at H
   have c7b0 := eq_true c7
   have c7b1 : decide ((ji5) ≤ (l0.length : Int)) = true := decide_eq_true c7
   clear c7
   by_cases c8 : y330.length + (l0.take ((ji5) : Int).toNat).length < 140737488355328
   ·
    rw [if_pos c8] at H
    have LMc8 := Zh c8
    clear c8
    obtain ⟨y334, hy334⟩ : ∃ y_ : List Int, y_ = (y330 ++ (l0.take ((ji5) : Int).toNat)) := ⟨_, rfl⟩
    replace H : (if a2 ≥ 0 then (if a2 < (y334.length : Int) then (if 0 ≤ a2 then (some (y334.set (a2 : Int).toNat (Go.bits .xor .u8 255 (rd y334 a2)))) else (none)) else (some y334)) else (some y334)) = some r := by first | (rw [hy334]; with_reducible exact H) | (have H2_ := (Option.bind_some _ _).symm.trans H; rw [hy334]; with_reducible exact H2_) | (have H2_ := (Option.bind_some _ _).symm.trans H; with_reducible exact H2_) | with_reducible exact H | (rw [hy334]; exact H) | exact H
    have Ny334 := Zh hy334
    clear hy334
    by_cases c9 : a2 ≥ 0
    ·
     rw [if_pos c9] at H
     have c9b0 : decide (0 ≤ a2) = true := decide_eq_true c9
     clear c9
     by_cases c10 : a2 < (y334.length : Int)
     ·
      rw [if_pos c10] at H
      have c10b0 : decide (a2 < (y334.length : Int)) = true := decide_eq_true c10
      clear c10
      by_cases c11 : 0 ≤ a2
      ·
       rw [if_pos c11] at H
       have c11b0 : decide (0 ≤ a2) = true := decide_eq_true c11
       clear c11
       obtain ⟨y338, hy338⟩ : ∃ y_ : List Int, y_ = (y334.set (a2 : Int).toNat (Go.bits .xor .u8 255 (rd y334 a2))) := ⟨_, rfl⟩
       replace H : (some y338) = some r := by first | (rw [hy338]; with_reducible exact H) | (have H2_ := (Option.bind_some _ _).symm.trans H; rw [hy338]; with_reducible exact H2_) | (have H2_ := (Option.bind_some _ _).symm.trans H; with_reducible exact H2_) | with_reducible exact H | (rw [hy338]; exact H) | exact H
       have Ny338 := Zh hy338
       clear hy338
       obtain rfl := Option.some.inj H
       go_enter Tryd.func77, Tryd.ntmps77
       go_wp2_with (first | ((with_reducible refine gate_dst (N := 8) rfl ?_); (try (refine gate_guard (by rfl) ?_; dsimp only)); refine R_lit (Kd.int .u8) _ 5 ?hg (N := 8) ?hd (xs := ([] : List Int)) (inner := []) (ok := fun _ => True) (okp := fun _ => True) ?hr ?hp (fun _ hk => hk) trivial (Below.refl _ _) (Nat.le_refl _) (by simp) ?_; (case hd => rfl); (case hg => rfl); (case hr => first | (go_simp; done) | (go_simp; rfl)); (case hp => exact (Reps.none _ _)); intro v331 w13 ho14 hb hg_ hnew_; clear hg_ hnew_; (first | rw [← Ny330.out] at ho14 | (simp only [Int.reduceToNat] at ho14; rw [← Ny330.out] at ho14)); have HO332 := Zh (R_lower ho14 (below_size Zs)); replace HB := Zh (Zl Zs hb); clear hb ho14; obtain ⟨i015, hi015, _, hsz15, _⟩ := info_parts info5; obtain ⟨hcut15, hA15, hC15⟩ := print_take_of (P := Tryd.prog) (Value.int .u8) 0 33 5 .i64 Tryd.underlying33 hi015 hsz15 A0 c0 l0 (ji5) (Zo) (Zo) HC0.out; have HR333 := Zh (C_of_reads (h1 := fun _ => rfl) (hA15 _ (Kd.reads_of_C HR0.out))); have HC333 := Zh hC15; clear hA15 hC15 hi015 hsz15) | ((with_reducible refine gate_builtin (b := .append) (xs := #[.tmp 8, .tmp 15]) rfl ?_); (try (refine gate_guard (by rfl) ?_; dsimp only)); at_builtin; refine R_append_rows (Kd.int .u8) (w0 := w) w.heap.size rfl (.tmp 8) (.tmp 15) 33 5 (.int .u8 0) 1 rfl Tryd.underlying33 info5 rfl (by decide) (by omega) v331 y330 (l0.take ((ji5) : Int).toNat) _ _ _ (fun _ => True) (fun _ => False) rfl rfl ?aO ?aR (fun _ _ h => h) (fun _ h => h.elim) ?aF ?aB ?aS ?aL ?_; (case aR => first | ((conv => arg 5; rw [← show (l0.take ((ji5) : Int).toNat).length = (ji5).toNat from (by rw [List.length_take]; have h_ : ((ji5) : Int) ≤ (l0.length : Int) := Zo; omega)]); (repeat (first | exact (C_below HR333.out HB.out) | (with_reducible refine C_alloc ?_ _) | (with_reducible refine C_drewN ?_ _) | (with_reducible refine C_drew ?_)))) | (rw [← show (l0.take ((ji5) : Int).toNat).length = (ji5).toNat from (by rw [List.length_take]; have h_ : ((ji5) : Int) ≤ (l0.length : Int) := Zo; omega)]; repeat (first | exact (C_below HR333.out HB.out) | (with_reducible refine C_alloc ?_ _) | (with_reducible refine C_drewN ?_ _) | (with_reducible refine C_drew ?_))) | (repeat (first | exact (C_below HR333.out HB.out) | (with_reducible refine C_alloc ?_ _) | (with_reducible refine C_drewN ?_ _) | (with_reducible refine C_drew ?_)))); (case aB => exact Zs); (case aF => exact (fun _ _ => trivial)); (case aO => exact (ZR HO332.out)); (case aS => exact (below_size Zs)); (case aL => have := LMc8.out; have hlx_ := (show (l0.take ((ji5) : Int).toNat).length = (ji5).toNat from (by rw [List.length_take]; have h_ : ((ji5) : Int) ≤ (l0.length : Int) := Zo; omega)); omega); intro v335 w16 ho hb hg hat; rw [← Ny334.out] at ho; have n0_ := Zh (hb); have n1_ := Zh (ho); clear HB; clear HO332; have HB := n0_; have HO336 := n1_; clear n0_ n1_; clear ho hb hg hat; obtain ⟨Ao17, co17, eo17⟩ := R_slice HO336.out; subst eo17; have p337 : 0 ≤ (a2 : Int) := Zo; have q337 : a2 < (y334.length : Int) := Zo; obtain ⟨ad337, e337, hx337_0⟩ := Kd.at_int (R_reads' HO336.out).2.2 a2 p337 q337; cases e337; replace p337 := eq_true p337; replace q337 := eq_true q337; have p12 : 0 ≤ (a2 : Int) := Zo; have q12 : (a2 : Int) < ((y334.length : Int) : Int) := Zo; obtain ⟨go12, co12, eo12, gb12, gl12, cl12, HG12⟩ := R_form HO336.out (by omega); (first | cases eo12 | (injection eo12 with ea_ en_ ec_; (first | subst ea_ | (injection ea_ with ea_; subst ea_)); subst ec_; clear en_)); have GB12 := Zh gb12; have GG12 := Zh HG12; clear gb12 gl12 HG12; (first | simp only [add_plain] at hx337_0 | skip); obtain ⟨hx12_0, hf12_0⟩ := R_celln 0 HO336.out (a2 : Int) p12 q12; replace p12 := eq_true p12; replace q12 := eq_true q12; obtain ⟨hy18_, hz18_⟩ := R_celln 0 HO336.out (a2 : Int) (Zo) (Zo); have HP18 := R_putg HO336.out (a2 : Int) (Go.bits .xor .u8 255 (rd y334 a2))) | ((with_reducible refine gate_store (t := 5) (p := 32) rfl ?_); refine store_event (t := 5) (p := 32) (v := ?vo_w19) (w1 := (w16.setCell ⟨go12, (a2 : Int).toNat, none⟩ (.int .u8 (Go.bits .xor .u8 255 (rd y334 a2))))) ?hg ?ho ?hn ?hr ?_; (case ho => rfl); (case hg => rfl); (case hn => rfl); (case hr => first | (go_simp; done) | (go_simp; rfl)); intro w19 hw; have hg : w16.grownBy w19 (some go12) := (by rw [hw]; exact HP18.2); have hp_ : Kd.R (Kd.int .u8) 5 w19 w.heap.size (fun _ => True) (.slice (some ⟨go12, 0, none⟩) y334.length co17) y338 := (by rw [hw, Ny338.out]; exact HP18.1); clear HP18; replace HO336 := Zh (hp_); replace HB := Zh ((by rw [hw]; exact Zg (HB.out) GB12.out : Below w.heap.size w w19)); clear hg hw hp_))
       go_ret
       exact ⟨_, by first | rfl | (simp [errW_none, errW_some] <;> rfl) | (simp only [← hji4, ← hji5]; first | rfl | (simp [errW_none, errW_some] <;> rfl)) | (simp [*, errW_none, errW_some] <;> rfl), ZR HO336.out, Zs⟩
      rw [if_neg c11] at H
      exact absurd H (by simp)
     rw [if_neg c10] at H
     have c10b0 : decide (a2 < (y334.length : Int)) = false := decide_eq_false c10
     clear c10
     obtain rfl := Option.some.inj H
     go_enter Tryd.func77, Tryd.ntmps77
     go_wp2_with (first | ((with_reducible refine gate_dst (N := 8) rfl ?_); (try (refine gate_guard (by rfl) ?_; dsimp only)); refine R_lit (Kd.int .u8) _ 5 ?hg (N := 8) ?hd (xs := ([] : List Int)) (inner := []) (ok := fun _ => True) (okp := fun _ => True) ?hr ?hp (fun _ hk => hk) trivial (Below.refl _ _) (Nat.le_refl _) (by simp) ?_; (case hd => rfl); (case hg => rfl); (case hr => first | (go_simp; done) | (go_simp; rfl)); (case hp => exact (Reps.none _ _)); intro v331 w20 ho21 hb hg_ hnew_; clear hg_ hnew_; (first | rw [← Ny330.out] at ho21 | (simp only [Int.reduceToNat] at ho21; rw [← Ny330.out] at ho21)); have HO332 := Zh (R_lower ho21 (below_size Zs)); replace HB := Zh (Zl Zs hb); clear hb ho21; obtain ⟨i022, hi022, _, hsz22, _⟩ := info_parts info5; obtain ⟨hcut22, hA22, hC22⟩ := print_take_of (P := Tryd.prog) (Value.int .u8) 0 33 5 .i64 Tryd.underlying33 hi022 hsz22 A0 c0 l0 (ji5) (Zo) (Zo) HC0.out; have HR333 := Zh (C_of_reads (h1 := fun _ => rfl) (hA22 _ (Kd.reads_of_C HR0.out))); have HC333 := Zh hC22; clear hA22 hC22 hi022 hsz22) | ((with_reducible refine gate_builtin (b := .append) (xs := #[.tmp 8, .tmp 15]) rfl ?_); (try (refine gate_guard (by rfl) ?_; dsimp only)); at_builtin; refine R_append_rows (Kd.int .u8) (w0 := w) w.heap.size rfl (.tmp 8) (.tmp 15) 33 5 (.int .u8 0) 1 rfl Tryd.underlying33 info5 rfl (by decide) (by omega) v331 y330 (l0.take ((ji5) : Int).toNat) _ _ _ (fun _ => True) (fun _ => False) rfl rfl ?aO ?aR (fun _ _ h => h) (fun _ h => h.elim) ?aF ?aB ?aS ?aL ?_; (case aR => first | ((conv => arg 5; rw [← show (l0.take ((ji5) : Int).toNat).length = (ji5).toNat from (by rw [List.length_take]; have h_ : ((ji5) : Int) ≤ (l0.length : Int) := Zo; omega)]); (repeat (first | exact (C_below HR333.out HB.out) | (with_reducible refine C_alloc ?_ _) | (with_reducible refine C_drewN ?_ _) | (with_reducible refine C_drew ?_)))) | (rw [← show (l0.take ((ji5) : Int).toNat).length = (ji5).toNat from (by rw [List.length_take]; have h_ : ((ji5) : Int) ≤ (l0.length : Int) := Zo; omega)]; repeat (first | exact (C_below HR333.out HB.out) | (with_reducible refine C_alloc ?_ _) | (with_reducible refine C_drewN ?_ _) | (with_reducible refine C_drew ?_))) | (repeat (first | exact (C_below HR333.out HB.out) | (with_reducible refine C_alloc ?_ _) | (with_reducible refine C_drewN ?_ _) | (with_reducible refine C_drew ?_)))); (case aB => exact Zs); (case aF => exact (fun _ _ => trivial)); (case aO => exact (ZR HO332.out)); (case aS => exact (below_size Zs)); (case aL => have := LMc8.out; have hlx_ := (show (l0.take ((ji5) : Int).toNat).length = (ji5).toNat from (by rw [List.length_take]; have h_ : ((ji5) : Int) ≤ (l0.length : Int) := Zo; omega)); omega); intro v335 w23 ho hb hg hat; rw [← Ny334.out] at ho; have n0_ := Zh (hb); have n1_ := Zh (ho); clear HB; clear HO332; have HB := n0_; have HO336 := n1_; clear n0_ n1_; clear ho hb hg hat; obtain ⟨Ao24, co24, eo24⟩ := R_slice HO336.out; subst eo24))
     go_ret
     exact ⟨_, by first | rfl | (simp [errW_none, errW_some] <;> rfl) | (simp only [← hji4, ← hji5]; first | rfl | (simp [errW_none, errW_some] <;> rfl)) | (simp [*, errW_none, errW_some] <;> rfl), ZR HO336.out, Zs⟩
    rw [if_neg c9] at H
    have c9b0 : decide (0 ≤ a2) = false := decide_eq_false c9
    clear c9
    obtain rfl := Option.some.inj H
    go_enter Tryd.func77, Tryd.ntmps77
    go_wp2_with (first | ((with_reducible refine gate_dst (N := 8) rfl ?_); (try (refine gate_guard (by rfl) ?_; dsimp only)); refine R_lit (Kd.int .u8) _ 5 ?hg (N := 8) ?hd (xs := ([] : List Int)) (inner := []) (ok := fun _ => True) (okp := fun _ => True) ?hr ?hp (fun _ hk => hk) trivial (Below.refl _ _) (Nat.le_refl _) (by simp) ?_; (case hd => rfl); (case hg => rfl); (case hr => first | (go_simp; done) | (go_simp; rfl)); (case hp => exact (Reps.none _ _)); intro v331 w25 ho26 hb hg_ hnew_; clear hg_ hnew_; (first | rw [← Ny330.out] at ho26 | (simp only [Int.reduceToNat] at ho26; rw [← Ny330.out] at ho26)); have HO332 := Zh (R_lower ho26 (below_size Zs)); replace HB := Zh (Zl Zs hb); clear hb ho26; obtain ⟨i027, hi027, _, hsz27, _⟩ := info_parts info5; obtain ⟨hcut27, hA27, hC27⟩ := print_take_of (P := Tryd.prog) (Value.int .u8) 0 33 5 .i64 Tryd.underlying33 hi027 hsz27 A0 c0 l0 (ji5) (Zo) (Zo) HC0.out; have HR333 := Zh (C_of_reads (h1 := fun _ => rfl) (hA27 _ (Kd.reads_of_C HR0.out))); have HC333 := Zh hC27; clear hA27 hC27 hi027 hsz27) | ((with_reducible refine gate_builtin (b := .append) (xs := #[.tmp 8, .tmp 15]) rfl ?_); (try (refine gate_guard (by rfl) ?_; dsimp only)); at_builtin; refine R_append_rows (Kd.int .u8) (w0 := w) w.heap.size rfl (.tmp 8) (.tmp 15) 33 5 (.int .u8 0) 1 rfl Tryd.underlying33 info5 rfl (by decide) (by omega) v331 y330 (l0.take ((ji5) : Int).toNat) _ _ _ (fun _ => True) (fun _ => False) rfl rfl ?aO ?aR (fun _ _ h => h) (fun _ h => h.elim) ?aF ?aB ?aS ?aL ?_; (case aR => first | ((conv => arg 5; rw [← show (l0.take ((ji5) : Int).toNat).length = (ji5).toNat from (by rw [List.length_take]; have h_ : ((ji5) : Int) ≤ (l0.length : Int) := Zo; omega)]); (repeat (first | exact (C_below HR333.out HB.out) | (with_reducible refine C_alloc ?_ _) | (with_reducible refine C_drewN ?_ _) | (with_reducible refine C_drew ?_)))) | (rw [← show (l0.take ((ji5) : Int).toNat).length = (ji5).toNat from (by rw [List.length_take]; have h_ : ((ji5) : Int) ≤ (l0.length : Int) := Zo; omega)]; repeat (first | exact (C_below HR333.out HB.out) | (with_reducible refine C_alloc ?_ _) | (with_reducible refine C_drewN ?_ _) | (with_reducible refine C_drew ?_))) | (repeat (first | exact (C_below HR333.out HB.out) | (with_reducible refine C_alloc ?_ _) | (with_reducible refine C_drewN ?_ _) | (with_reducible refine C_drew ?_)))); (case aB => exact Zs); (case aF => exact (fun _ _ => trivial)); (case aO => exact (ZR HO332.out)); (case aS => exact (below_size Zs)); (case aL => have := LMc8.out; have hlx_ := (show (l0.take ((ji5) : Int).toNat).length = (ji5).toNat from (by rw [List.length_take]; have h_ : ((ji5) : Int) ≤ (l0.length : Int) := Zo; omega)); omega); intro v335 w28 ho hb hg hat; rw [← Ny334.out] at ho; have n0_ := Zh (hb); have n1_ := Zh (ho); clear HB; clear HO332; have HB := n0_; have HO336 := n1_; clear n0_ n1_; clear ho hb hg hat))
    go_ret
    exact ⟨_, by first | rfl | (simp [errW_none, errW_some] <;> rfl) | (simp only [← hji4, ← hji5]; first | rfl | (simp [errW_none, errW_some] <;> rfl)) | (simp [*, errW_none, errW_some] <;> rfl), ZR HO336.out, Zs⟩
   rw [if_neg c8] at H
   exact absurd H (by simp)
  rw [if_neg c7] at H
  exact absurd H (by simp)
 rw [if_neg c6] at H
 exact absurd H (by simp)
end Go.Proofs.YtmgeffgcihfpcaaDoor.F

namespace Go.Proofs.YtmgeffgcihfpcaaDoor.F
open Go.RowKit Go.Proofs.YtmgeffgcihfpcaaDoorW.PrintWords Go.Proofs.YtmgeffgcihfpcaaDoorW.PrintLast Go.Proofs.YtmgeffgcihfpcaaDoorW.PrintMore
open Go.Proofs.YtmgeffgcihfpcaaDoor
set_option linter.unusedVariables false
set_option linter.unusedSimpArgs false
theorem St_tail {w0 w : World} {i : LW.It} {l : List LW.It} (h : LW.St w0 w (i :: l)) : LW.St w0 w l := ⟨h.b, h.i.2.2.2⟩
def impl_Crash.one (a b : List Int) (i : Int) (y : S74) : Option S74 := (impl_torn.f y.f2 (if i < (a.length : Int) then rd a i else 0) (if i < (b.length : Int) then rd b i else -1)).bind fun t => if y.f1.length + t.length ≤ 140737488355328 then some ⟨y.f0, y.f1 ++ t, []⟩ else none
def impl_Crash.l0 (a b : List Int) : Nat → List S74 → Int → Option (List S74)
  | 0, _, _ => none
  | k + 1, x, i => if i < (x.length : Int) then (if 0 ≤ i then (impl_Crash.one a b i (rd_T74 x i)).bind fun y => impl_Crash.l0 a b k (x.set i.toNat y) (wrap64 (i + 1)) else none) else some x
def impl_Crash.f (k : Nat) (l0_0 : List S74) (a b : List Int) : Option (List S74) := (impl_isDisk.f k l0_0).bind fun t => if t = true then (impl_copyDisk.f k l0_0).bind fun o => impl_Crash.l0 a b k o 0 else some []
set_option maxHeartbeats 8000000 in
set_option maxRecDepth 100000 in
theorem impl_Crash.calls (k : Nat) (A0_0 : Option Addr) (c0_0 : Nat) (l0_0 : List S74) (A1 : Option Addr) (c1 : Nat) (l1 : List Int) (A2 : Option Addr) (c2 : Nat) (l2 : List Int) (r : List S74) (w : World) (hr0_0 : Kd.C k74 w A0_0 l0_0.length l0_0) (hc0_0 : l0_0.length ≤ c0_0) (hr1 : Kd.C (Kd.int .i64) w A1 l1.length l1) (hc1 : l1.length ≤ c1) (hr2 : Kd.C (Kd.int .i64) w A2 l2.length l2) (hc2 : l2.length ≤ c2) (h : impl_Crash.f k l0_0 l1 l2 = some r) :
    Calls Tryd.prog 34 #[.agg #[.slice A0_0 l0_0.length c0_0], .slice A1 l1.length c1, .slice A2 l2.length c2] w fun e w' => ∃ v0_ : Value, e = .returned (.agg #[v0_]) ∧ Kd.S k74 74 w' w.heap.size (fun _ => True) v0_ r ∧ Below w.heap.size w w' := by
  have HR := Zh hr0_0
  have HC := Zh hc0_0
  have HR1 := Zh hr1
  have HR2 := Zh hr2
  clear hr0_0 hc0_0 hr1 hc1 hr2 hc2
  have ST := Zh (LW.St.start w)
  have hu29 := Tryd.underlying29
  have hu74 := Tryd.underlying74
  unfold impl_Crash.f at h
  replace h := Option.bind_eq_some_iff.mp h
  obtain ⟨t, HA1, h⟩ := h
  replace HA1 := Zh HA1
  have H := Zh h
  clear h
  go_enter Tryd.func34, Tryd.ntmps34
  go_wp2_with fail
  replace ST := Zh (ST.out.alloc #[.slice A0_0 l0_0.length c0_0] 29 (g := w.heap.size) rfl)
  replace ST := Zh (ST.out.alloc #[.slice none 0 0] 29 (g := w.heap.size + 1) (by simp))
  with_reducible refine (impl_isDisk.calls k _ _ l0_0 t _ (Kd.C_below HR.out ST.out.b) HC.out HA1.out).mono ?_
  rintro e w1 ⟨rfl, hb⟩
  replace ST := Zh (ST.out.step hb)
  clear hb
  have h := H.out
  clear H
  by_cases ct : t = true
  · subst ct
    rw [if_pos rfl] at h
    replace h := Option.bind_eq_some_iff.mp h
    obtain ⟨o, HA2, h⟩ := h
    replace HA2 := Zh HA2
    have H := Zh h
    clear h
    have hc1 := ST.out.cell 1 rfl 0 (u := .slice A0_0 l0_0.length c0_0) rfl
    have hl1 := ST.out.lt 1 rfl
    go_wp2_with fail
    with_reducible refine (impl_copyDisk.calls k _ _ l0_0 o _ (Kd.C_below HR.out ST.out.b) HC.out HA2.out).mono ?_
    rintro e w2 ⟨v2, rfl, ho, hb⟩
    obtain ⟨Ao, co, rfl⟩ := Kd.S_slice ho
    replace ST := Zh (ST.out.row hb ho)
    clear hb ho hc1 hl1
    go_wp2_with fail
    replace ST := Zh (ST.out.alloc #[.slice Ao o.length co] 29 (g := w2.heap.size) rfl)
    generalize (w2.alloc (.cells #[.slice Ao o.length co] 29)) = W at ST ⊢
    go_loopg [21] k (fun gg v21 w' => ∃ (i : Int) (x : List S74) (F : Nat → Prop), v21 = .int .i64 i ∧ x.length = o.length ∧ Aside0 (impl_Crash.l0 l1 l2 gg x i = some r) ∧ Aside0 (LW.St w w' [LW.box w2.heap.size #[.slice Ao o.length co] 29, LW.row k74 74 w.heap.size (.slice Ao o.length co) x F, LW.box (w.heap.size + 1) #[.slice none 0 0] 29, LW.box w.heap.size #[.slice A0_0 l0_0.length c0_0] 29]))
    case atStart => exact ⟨0, o, _, rfl, rfl, H, ST⟩
    case round =>
      clear ST H
      obtain ⟨i, x, F, rfl, hx, HA, ST⟩ := hrel
      cases gk with
      | zero => exact absurd HA.out (by simp [impl_Crash.l0])
      | succ k1 =>
        have H := HA.out
        clear HA
        simp only [impl_Crash.l0] at H
        have HX := Zh hx
        by_cases c3 : i < (x.length : Int)
        · rw [if_pos c3] at H
          by_cases c4 : 0 ≤ i
          · rw [if_pos c4] at H
            obtain ⟨y, HY, H⟩ := Option.bind_eq_some_iff.mp H
            unfold impl_Crash.one at HY
            obtain ⟨tt, HT, HY⟩ := Option.bind_eq_some_iff.mp HY
            obtain ⟨m1, hm1⟩ : ∃ m, m = if i < (l1.length : Int) then rd l1 i else 0 := ⟨_, rfl⟩
            obtain ⟨m2, hm2⟩ : ∃ m, m = if i < (l2.length : Int) then rd l2 i else -1 := ⟨_, rfl⟩
            rw [← hm1, ← hm2] at HT
            by_cases c5 : (rd_T74 x i).f1.length + tt.length ≤ 140737488355328
            · rw [if_pos c5] at HY
              obtain rfl := Option.some.inj HY
              clear HY
              have H' := Zh H
              have HTT := Zh HT
              have HSZ := Zh c5
              have HM1 := Zh hm1
              have HM2 := Zh hm2
              have HI0 := Zh c4
              have c3o : i < (o.length : Int) := by rw [← hx]; exact c3
              have HIL := Zh c3o
              clear H HT c5 hm1 hm2
              have q3 := decide_eq_true c3o
              obtain ⟨g, cg, hv, _, _, _⟩ := Kd.S_form (ST.out.own 1 rfl) (by omega)
              injection hv with hv1 hv2 hv3
              subst hv1
              clear hv2 hv3 hx
              have p0 := eq_true c4
              have p1 := eq_true c3o
              have hc2 := ST.out.cell 0 rfl 0 (u := .slice (some ⟨g, 0, none⟩) o.length co) rfl
              have hl2 := ST.out.lt 0 rfl
              clear c3 c4 c3o
              go_upto_if 31 with fail
              go_cut [10] (fun v10 wc => v10 = .int .i64 m1 ∧ wc = wr)
              case first =>
                have hm := HM1.out
                by_cases d1 : i < (l1.length : Int)
                · rw [if_pos d1] at hm
                  obtain ⟨ad, e, hx0⟩ := Kd.at_int (Kd.C_below HR1.out ST.out.b) i HI0.out d1
                  cases e
                  have s1 := decide_eq_true d1
                  have s2 := eq_true d1
                  have s3 := eq_true HI0.out
                  clear d1
                  rw [s1]
                  go_wp2
                  go_meet
                  case rel => exact ⟨by rw [hm], rfl⟩
                rw [if_neg d1] at hm
                have s1 := decide_eq_false d1
                clear d1
                rw [s1]
                go_wp2
                go_meet
                case rel => exact ⟨by rw [hm], rfl⟩
              case rest =>
              obtain ⟨rfl, rfl⟩ := hcut
              go_upto_if 39 with fail
              go_cut [11] (fun v11 wd => v11 = .int .i64 m2 ∧ wd = wc)
              case first =>
                have hm := HM2.out
                by_cases d1 : i < (l2.length : Int)
                · rw [if_pos d1] at hm
                  obtain ⟨ad, e, hx0⟩ := Kd.at_int (Kd.C_below HR2.out ST.out.b) i HI0.out d1
                  cases e
                  have s1 := decide_eq_true d1
                  have s2 := eq_true d1
                  have s3 := eq_true HI0.out
                  clear d1
                  rw [s1]
                  go_wp2
                  go_meet
                  case rel => exact ⟨by rw [hm], rfl⟩
                rw [if_neg d1] at hm
                have s1 := decide_eq_false d1
                clear d1
                rw [s1]
                go_wp2
                go_meet
                case rel => exact ⟨by rw [hm], rfl⟩
              case rest =>
              obtain ⟨rfl, rfl⟩ := hcut
              go_wp2_with fail
              replace ST := Zh ST.out.drew
              clear hc2 hl2
              obtain ⟨u1, u2, ok1, ok2, hy0, hy1, hy2, hz1, hz2, hR1, hR2, hng, hFu, back⟩ := lendSynced ST.out 1 rfl i HI0.out HIL.out
              obtain ⟨B1, d1, rfl⟩ := Kd.R_slice hR1
              obtain ⟨B2, d2, rfl⟩ := Kd.R_slice hR2
              have HRR := Zh hR2
              clear back hng hFu hR1 hR2 hz1 hz2 hy0
              refine start_ (n := 16) (S := fun w' => w'.cell? ⟨g, i.toNat * 3 + 1, none⟩ = some (.slice B1 (rd_T74 x i).f1.length d1) ∧ w'.cell? ⟨g, i.toNat * 3 + 2, none⟩ = some (.slice B2 (rd_T74 x i).f2.length d2)) (ds := [12, 15]) #[false, false, false, false, false, false, false, false, false, false, false, false, false, false, false, false] (by kernel_rfl) rfl rfl ⟨hy1, hy2⟩ (fun hHeld => ?_)
              generalize wc.drew = w8 at ST hHeld HRR hy1 hy2 ⊢
              refine SQ.p0 0 44 ?_
              refine SQ.p0 1 45 ?_
              refine SQ.p0 2 46 ?_
              refine SQ.p0 3 47 ?_
              refine SQ.t0 4 48 hHeld ?_
              refine SQ.p0 5 49 ?_
              refine SQ.p0 6 50 ?_
              refine SQ.p0 7 51 ?_
              refine SQ.t0 8 52 hHeld ?_
              refine SQ.p0 9 53 ?_
              refine SQ.p0 10 54 ?_
              refine one_ (i := 11) (N := some 55) #[true, true, true, true, true, true, true, true, true, true, true, true, false, false, false, false] rfl rfl (by kernel_rfl) (by decide) (fun K hK => ?_)
              refine goes_ Tryd.func77 (by kernel_rfl) rfl #[.slice B2 (rd_T74 x i).f2.length d2, .int .i64 m1, .int .i64 m2] (by rfl) rfl rfl (by (try simp only [List.map_toArray, List.map_cons, List.map_nil]); first | done | rfl) ?_
              with_reducible refine (impl_torn.calls _ _ (rd_T74 x i).f2 m1 m2 tt _ (Kd.R_reads' HRR.out).2.2 (Kd.R_reads' HRR.out).2.1 HTT.out).mono ?_
              rintro e w9 ⟨v9, rfl, ho, hb⟩
              refine ⟨_, rfl, ?_⟩
              obtain ⟨A9, c9, rfl⟩ := Kd.R_slice ho
              have k1c := (hb.cell (Zi w8 _ hy1)).trans hy1
              have k2c := (hb.cell (Zi w8 _ hy2)).trans hy2
              replace ST := Zh (ST.out.rowR rfl hb ho)
              clear hb ho hy1 hy2 HRR HTT hHeld
              obtain ⟨u1, u2, ok1, ok2, hy0, hy1, hy2, hz1, hz2, hR1, hR2, hng, hFu, back⟩ := lendSynced ST.out 2 rfl i HI0.out HIL.out
              obtain rfl : u1 = .slice B1 (rd_T74 x i).f1.length d1 := Option.some.inj (hy1.symm.trans k1c)
              obtain rfl : u2 = .slice B2 (rd_T74 x i).f2.length d2 := Option.some.inj (hy2.symm.trans k2c)
              have HBK := Zh back
              have HRR := Zh hR1
              have HNG := Zh hng
              have HFU := Zh hFu
              clear back hR1 hR2 hng hFu k1c k2c hy0
              refine hK.out _ _ ⟨hy1, hy2⟩ (fun hHeld => ?_)
              clear hK K
              refine norm_ (a' := ?_) ?_ ?_
              rotate_left
              · show Act.put _ (some 55) _ = _
                simp only [Act.put, List.setIfInBounds_toArray, List.set_cons_zero, List.set_cons_succ, i64_w, i32_w]
                rfl
              refine last_ (i := 12) (N := some 56) #[true, true, true, true, true, true, true, true, true, true, true, true, true, false, false, false] rfl rfl (by kernel_rfl) (by decide) (fun K hK => ?_)
              refine Kd.R_append_rows_step (Kd.int .u8) (w0 := w) w.heap.size (by rfl) (.tmp 48) (.tmp 55) 33 5 (.int .u8 0) 1 rfl Tryd.underlying33 info5 rfl (by decide) (by omega) (.slice B1 (rd_T74 x i).f1.length d1) (rd_T74 x i).f1 tt _ _ _ (fun k => ok1 k ∨ w9.heap.size ≤ k) (fun _ => False) (by rfl) (by rfl) (Kd.R_mono HRR.out (fun k hk => .inl hk)) (ST.out.reads 0 rfl).2.2 (fun _ _ h => h) (fun _ h => h.elim) (fun k hk => .inr hk) ST.out.b ST.out.b.size (by have := HSZ.out; omega) ?_
              intro v1 w10 q1 q2 q3 q4
              obtain ⟨A3, c3, rfl⟩ := Kd.R_slice q1
              have hgl := blk_lt_of hy1
              have hgb := q3.block g hgl (fun he => HNG.out g (HRR.out.1 g he.symm) rfl)
              have hcg1 := (cell_blk hgb).trans hy1
              have hcg2 := (cell_blk hgb).trans hy2
              have hfg1 := (frozen_blk hgb).trans hz1
              have hfg2 := (frozen_blk hgb).trans hz2
              have Q := Zh (And.intro q1 (And.intro q2 (And.intro q3 q4)))
              clear q1 q2 q3 q4 hgb hy1 hy2 hz1 hz2 hgl hHeld
              refine hK.out _ _ ?_
              clear hK K
              refine norm_ (a' := ?_) ?_ ?_
              rotate_left
              · show Act.put _ (some 56) _ = _
                simp only [Act.put, List.setIfInBounds_toArray, List.set_cons_zero, List.set_cons_succ, i64_w, i32_w]
                rfl
              refine SQ.p0 13 57 ?_
              refine SQ.p0 14 58 ?_
              refine last_ (i := 15) (N := none) #[true, true, true, true, true, true, true, true, true, true, true, true, true, true, true, true] rfl rfl (by kernel_rfl) (by decide) (fun K hK => ?_)
              refine skip_ (w1 := ?_) (by rfl) rfl ?_ ?_
              rotate_left
              · go_simp
                rfl
              refine hK.out _ _ ?_
              clear hK K
              refine done_ (by kernel_rfl) ?_
              go_wp2
              obtain ⟨q1, q2, q3, q4⟩ := Q.out
              rw [List.length_append] at q1 q4
              have hST := St_tail (HBK.out (.slice A3 ((rd_T74 x i).f1.length + tt.length) c3) w10 ((rd_T74 x i).f1 ++ tt) (fun ok hok => Kd.R_mono (Kd.R_tight rfl q1) (fun k hk => hok k hk.symm)) q2 q3 q4)
              clear q1 q2 q3 q4
              go_roundg k1
              case measure => omega
              case rel => exact ⟨_, _, _, rfl, (by rw [List.length_set]; exact HX.out), H', ⟨hST⟩⟩
            rw [if_neg c5] at HY; exact absurd HY (by simp)
          rw [if_neg c4] at H; exact absurd H (by simp)
        rw [if_neg c3] at H
        obtain rfl := Option.some.inj H
        rw [hx] at c3
        have q3 := decide_eq_false c3
        clear H c3
        have hc2 := ST.out.cell 0 rfl 0 (u := .slice Ao o.length co) rfl
        have hl2 := ST.out.lt 0 rfl
        have hc3 := ST.out.cell 2 rfl 0 (u := .slice none 0 0) rfl
        have hl3 := ST.out.lt 2 rfl
        have hf3 := ST.out.frozen 2 rfl 0
        go_wp2_with fail
        replace ST := Zh (ST.out.set 2 rfl 0 (.slice Ao o.length co))
        refine Zq (results_cell_row rfl _ _ (w.heap.size + 1) 29 #[.slice Ao o.length co] (0, 0) _ rfl (ST.out.blk 2 rfl) Tryd.underlying29 rfl (by kernel_rfl)) rfl ?_
        exact ⟨_, rfl, Kd.S_mono (ST.out.own 1 rfl) (fun _ _ => trivial), ST.out.b⟩
  rw [if_neg ct] at h
  obtain rfl : t = false := by simpa using ct
  obtain rfl := Option.some.inj h
  clear h ct
  have hc3 := ST.out.cell 0 rfl 0 (u := .slice none 0 0) rfl
  have hl3 := ST.out.lt 0 rfl
  have hf3 := ST.out.frozen 0 rfl 0
  go_wp2_with fail
  replace ST := Zh (ST.out.set 0 rfl 0 (.slice none 0 0))
  refine Zq (results_cell_row rfl _ _ (w.heap.size + 1) 29 #[.slice none 0 0] (0, 0) _ rfl (ST.out.blk 0 rfl) Tryd.underlying29 rfl (by kernel_rfl)) rfl ?_
  exact ⟨_, rfl, Kd.S_nil _ _ _ _ _, ST.out.b⟩
end Go.Proofs.YtmgeffgcihfpcaaDoor.F

namespace Go.Proofs.YtmgeffgcihfpcaaDoor.F
open Go.RowKit Go.Proofs.YtmgeffgcihfpcaaDoorW.PrintWords Go.Proofs.YtmgeffgcihfpcaaDoorW.PrintWords.Kd Go.Proofs.YtmgeffgcihfpcaaDoorW.PrintMore.Kd Go.Proofs.YtmgeffgcihfpcaaDoorW.PrintLast Go.Proofs.YtmgeffgcihfpcaaDoorW.PrintMore
attribute [local go_sem] max2_int min2_int max_two min_two max_three min_three max_four min_four   -- for this text's walks alone
set_option linter.unusedVariables false
set_option linter.unusedSimpArgs false
def IsS108 (w0 W : World) (g : Nat) (f0 : List Int) (f1 : Int) (f2 : Int) : Prop := ∃ A0 c0, W.heap[g]? = some (.cells #[.slice A0 f0.length c0, .int .i64 f1, .int .i64 f2] 108 (0, 0)) ∧ w0.heap.size ≤ g ∧ Kd.C (Kd.int .u8) w0 A0 f0.length f0
theorem IsS108.grown {w0 W : World} {g : Nat} {f0 : List Int} {f1 : Int} {f2 : Int} {W1 : World} {row : Option Nat} (h : IsS108 w0 W g f0 f1 f2) (hw : W.grownBy W1 row) (hne : some g ≠ row) : IsS108 w0 W1 g f0 f1 f2 := by
 obtain ⟨A0, c0, hb, hg, hr0⟩ := h
 exact ⟨A0, c0, blk_grown hb hw hne, hg, hr0⟩
theorem IsS108.kept {w0 W : World} {g : Nat} {f0 : List Int} {f1 : Int} {f2 : Int} {W1 : World} {S : Nat → Prop} (h : IsS108 w0 W g f0 f1 f2) (hk : Kept W W1 S) (hne : ¬ S g) : IsS108 w0 W1 g f0 f1 f2 := by
 obtain ⟨A0, c0, hb, hg, hr0⟩ := h
 exact ⟨A0, c0, blk_kept hb hk hne, hg, hr0⟩
theorem IsS108.below {w0 W : World} {g : Nat} {f0 : List Int} {f1 : Int} {f2 : Int} {W1 : World} (h : IsS108 w0 W g f0 f1 f2) (hw : Below W.heap.size W W1) : IsS108 w0 W1 g f0 f1 f2 := h.grown (grown_of_below hw none) (by simp)
theorem IsS108.alloc {w0 W : World} {g : Nat} {f0 : List Int} {f1 : Int} {f2 : Int} (h : IsS108 w0 W g f0 f1 f2) (o : Obj) : IsS108 w0 (W.alloc o) g f0 f1 f2 := h.below (Zf (Below.refl _ _) o)
theorem IsS108.drewN {w0 W : World} {g : Nat} {f0 : List Int} {f1 : Int} {f2 : Int} (h : IsS108 w0 W g f0 f1 f2) (m : Nat) : IsS108 w0 (W.drewN m) g f0 f1 f2 := h
theorem IsS108.drew {w0 W : World} {g : Nat} {f0 : List Int} {f1 : Int} {f2 : Int} (h : IsS108 w0 W g f0 f1 f2) : IsS108 w0 W.drew g f0 f1 f2 := h
theorem IsS108.at_ {w0 W : World} {g : Nat} {f0 : List Int} {f1 : Int} {f2 : Int} {w' : World} {m : Nat} (hq : W.drewN m = w') (h : IsS108 w0 W g f0 f1 f2) : IsS108 w0 w' g f0 f1 f2 := by subst hq; exact IsS108.drewN h m
theorem IsS108.apart {w0 W : World} {g : Nat} {f0 : List Int} {f1 : Int} {f2 : Int} {α : Type} {d : Kd α} {e : Nat} {base : Nat} {ok : Nat → Prop} {v : Value} {xs : List α} (h : IsS108 w0 W g f0 f1 f2) (ho : d.R e W base ok v xs) (ht : ∀ q, q ∈ e :: d.E → q ≠ 108) : d.R e W base (fun k => ok k ∧ k ≠ g) v xs := by
 obtain ⟨A0, c0, hb, hg, hr0⟩ := h
 exact R_types ho hb ht
theorem IsS108.own_ne {w0 W : World} {g : Nat} {f0 : List Int} {f1 : Int} {f2 : Int} {α : Type} {d : Kd α} {e : Nat} {base : Nat} {ok : Nat → Prop} {v : Value} {xs : List α} (h : IsS108 w0 W g f0 f1 f2) (ho : d.R e W base ok v xs) (ht : e ≠ 108) : some g ≠ v.ownBlock := by
 obtain ⟨A0, c0, hb, hg, hr0⟩ := h
 exact R_ne ho hb ht
theorem IsS108.apartS {w0 W : World} {g : Nat} {f0 : List Int} {f1 : Int} {f2 : Int} {α : Type} {d : Kd α} {e : Nat} {base : Nat} {ok : Nat → Prop} {v : Value} {xs : List α} (h : IsS108 w0 W g f0 f1 f2) (ho : d.S e W base ok v xs) (ht : ∀ q, q ∈ e :: d.E → q ≠ 108) : d.S e W base (fun k => ok k ∧ k ≠ g) v xs := by
 obtain ⟨A0, c0, hb, hg, hr0⟩ := h
 exact S_types ho hb ht
theorem IsS108.own_neS {w0 W : World} {g : Nat} {f0 : List Int} {f1 : Int} {f2 : Int} {α : Type} {d : Kd α} {e : Nat} {base : Nat} {ok : Nat → Prop} {v : Value} {xs : List α} (h : IsS108 w0 W g f0 f1 f2) (ho : d.S e W base ok v xs) (ht : e ≠ 108) : some g ≠ v.ownBlock := by
 obtain ⟨A0, c0, hb, hg, hr0⟩ := h
 exact S_ne ho hb ht
theorem IsS108.lt {w0 W : World} {g : Nat} {f0 : List Int} {f1 : Int} {f2 : Int} (h : IsS108 w0 W g f0 f1 f2) : g < W.heap.size := by
 obtain ⟨A0, c0, hb, hg, hr0⟩ := h
 exact blk_lt hb
theorem IsS108.ge {w0 W : World} {g : Nat} {f0 : List Int} {f1 : Int} {f2 : Int} (h : IsS108 w0 W g f0 f1 f2) : w0.heap.size ≤ g := by
 obtain ⟨A0, c0, hb, hg, hr0⟩ := h
 exact hg
theorem IsS108.ne_blk {w0 W : World} {g : Nat} {f0 : List Int} {f1 : Int} {f2 : Int} {a : Nat} {cs : Array Value} {t : TypeId} {fr : Nat × Nat} (h : IsS108 w0 W g f0 f1 f2) (hb2 : W.heap[a]? = some (.cells cs t fr)) (ht : t ≠ 108) : g ≠ a := by
 obtain ⟨A0, c0, hb, hg, hr0⟩ := h
 rintro rfl
 rw [hb] at hb2
 injection hb2 with hb2
 injection hb2 with _ ht2
 exact ht ht2.symm
theorem IsS108.far {w0 W : World} {g : Nat} {f0 : List Int} {f1 : Int} {f2 : Int} {p : Addr} (h : IsS108 w0 W g f0 f1 f2) (hne : g ≠ p.block) (u : Value) : IsS108 w0 (W.setCell p u) g f0 f1 f2 := by
 obtain ⟨A0, c0, hb, hg, hr0⟩ := h
 exact ⟨A0, c0, blk_far hb hne u, hg, hr0⟩
theorem cellS108_0 {W : World} {g : Nat} {A0 : Option Addr} {c0 : Nat} {f0 : List Int} {f1 : Int} {f2 : Int} (h : W.heap[g]? = some (.cells #[.slice A0 f0.length c0, .int .i64 f1, .int .i64 f2] 108 (0, 0))) : W.cell? ⟨g, 0, none⟩ = some (.slice A0 f0.length c0) := (blk_cell h 0).trans rfl
theorem cellS108_1 {W : World} {g : Nat} {A0 : Option Addr} {c0 : Nat} {f0 : List Int} {f1 : Int} {f2 : Int} (h : W.heap[g]? = some (.cells #[.slice A0 f0.length c0, .int .i64 f1, .int .i64 f2] 108 (0, 0))) : W.cell? ⟨g, 1, none⟩ = some (.int .i64 f1) := (blk_cell h 1).trans rfl
theorem IsS108.set_1 {w0 W : World} {g : Nat} {f0 : List Int} {f1 : Int} {f2 : Int} (h : IsS108 w0 W g f0 f1 f2) (x : Int) : IsS108 w0 (W.setCell ⟨g, 1, none⟩ (.int .i64 x)) g f0 x f2 := by
 obtain ⟨A0, c0, hb, hg, hr0⟩ := h
 exact ⟨A0, c0, by simpa using blk_set hb 1 (.int .i64 x), hg, hr0⟩
theorem cellS108_2 {W : World} {g : Nat} {A0 : Option Addr} {c0 : Nat} {f0 : List Int} {f1 : Int} {f2 : Int} (h : W.heap[g]? = some (.cells #[.slice A0 f0.length c0, .int .i64 f1, .int .i64 f2] 108 (0, 0))) : W.cell? ⟨g, 2, none⟩ = some (.int .i64 f2) := (blk_cell h 2).trans rfl
theorem IsS108.set_2 {w0 W : World} {g : Nat} {f0 : List Int} {f1 : Int} {f2 : Int} (h : IsS108 w0 W g f0 f1 f2) (x : Int) : IsS108 w0 (W.setCell ⟨g, 2, none⟩ (.int .i64 x)) g f0 f1 x := by
 obtain ⟨A0, c0, hb, hg, hr0⟩ := h
 exact ⟨A0, c0, by simpa using blk_set hb 2 (.int .i64 x), hg, hr0⟩
def spec_l01New.l0 : Nat → List Int → Int → Int → Option (List Int × Int × Int)
 | 0, _, _, _ => none
 | k + 1, x0, x3, x4 => if x4 < (x0.length : Int) then (if x4 < 4000 then (if 0 ≤ x4 then (spec_l01New.l0 k x0 (Go.bits .and .i64 (wrap64 ((wrap64 ((wrap64 (x3 * 149)) + (wrap64 (rd x0 x4)))) + 11)) 1073741823) (wrap64 (x4 + 1))) else (none)) else (some (x0, 0, x3))) else (some (x0, 0, x3))
def spec_l01New.f (k : Nat) (l0 : List Int) : Option (List Int × Int × Int) := spec_l01New.l0 k l0 (wrap64 (138138 + (l0.length : Int))) 0
set_option maxHeartbeats 8000000 in
set_option maxRecDepth 100000 in
theorem spec_l01New.calls (k : Nat) (A0 : Option Addr) (c0 : Nat) (l0 : List Int) (r1 : List Int) (r2 : Int) (r3 : Int) (w0 w : World) (hB : Below w0.heap.size w0 w) (hr0 : Kd.C (Kd.int .u8) w0 A0 l0.length l0) (hc0 : l0.length ≤ c0) (h : spec_l01New.f k l0 = some (r1, r2, r3)) :
  Calls Tryd.prog 84 #[.slice A0 l0.length c0] w fun e w' => ∃ g_ : Nat, e = .returned (.pointer (some ⟨g_, 0, none⟩)) ∧ IsS108 w0 w' g_ r1 r2 r3 ∧ Below w0.heap.size w0 w' ∧ Below w.heap.size w w' := by
 have hu108 := Tryd.underlying108
 have HR0 := Zh hr0
 have HC0 := Zh hc0
 clear hr0 hc0
 have HBW := Zh (Below.refl w.heap.size w)
 have HW0 := Zh hB.size
 have HB := Zh hB
 clear hB
 have H : (spec_l01New.l0 k l0 (wrap64 (138138 + (l0.length : Int))) 0) = some (r1, r2, r3) := h
 clear h
 have H' := Zh H
 clear H
 go_enter Tryd.func84, Tryd.ntmps84
 go_wp2
 go_loopg [3, 4] k (fun kq v3 v4 w' => ∃ (x3_1 : Int) (x4_1 : Int), v3 = .int .i64 x3_1 ∧ v4 = .int .i64 x4_1 ∧ Aside0 (spec_l01New.l0 kq l0 x3_1 x4_1 = some (r1, r2, r3)) ∧ Aside0 (kq ≤ k) ∧ Aside0 (Below w.heap.size w w') ∧ Aside0 (Below w0.heap.size w0 w'))
 case atStart => exact ⟨(wrap64 (138138 + (l0.length : Int))), (0), (by first | rfl | (simp; done) | (simp [*]; done)), (by first | rfl | (simp; done) | (simp [*]; done)), H', ⟨Nat.le_refl _⟩, ⟨by repeat (first | (with_reducible first | exact HBW.out | apply Zf | apply Zd | apply Ze) | exact HBW.out)⟩, ⟨Zs⟩⟩
 case round =>
  clear H'
  obtain ⟨x3_1, x4_1, rfl, rfl, HA, HK1, HBW, HB⟩ := hrel
  cases gk with
  | zero => exact absurd HA.out (by simp [spec_l01New.l0])
  | succ k1 =>
   have H := HA.out
   clear HA
   simp only [spec_l01New.l0] at H
   by_cases c2 : x4_1 < (l0.length : Int)
   ·
    rw [if_pos c2] at H
    have c2b0 : decide (x4_1 < (l0.length : Int)) = true := decide_eq_true c2
    clear c2
    by_cases c3 : x4_1 < 4000
    ·
     rw [if_pos c3] at H
     have c3b0 : decide (x4_1 < 4000) = true := decide_eq_true c3
     clear c3
     by_cases c4 : 0 ≤ x4_1
     ·
      rw [if_pos c4] at H
      have c4b0 : decide (0 ≤ x4_1) = true := decide_eq_true c4
      clear c4
      have H' := Zh H
      clear H
      have p516 : 0 ≤ (x4_1 : Int) := Zo
      have q516 : x4_1 < (l0.length : Int) := Zo
      obtain ⟨ad516, e516, hx516_0⟩ := Kd.at_int HR0.out x4_1 p516 q516
      cases e516
      replace hx516_0 := pw_cell_below HB.out hx516_0
      replace p516 := eq_true p516
      replace q516 := eq_true q516
      go_wp2
      go_roundg k1
      case measure => have := HK1.out; omega
      case rel => exact ⟨(Go.bits .and .i64 (wrap64 ((wrap64 ((wrap64 (x3_1 * 149)) + (wrap64 (rd l0 x4_1)))) + 11)) 1073741823), (wrap64 (x4_1 + 1)), (by first | rfl | (simp; done) | (simp [*]; done)), (by first | rfl | (simp; done) | (simp [*]; done)), H', ⟨by have := HK1.out; omega⟩, ⟨by repeat (first | (with_reducible first | exact HBW.out | apply Zf | apply Zd | apply Ze) | exact HBW.out)⟩, ⟨Zs⟩⟩
     rw [if_neg c4] at H
     exact absurd H (by simp)
    rw [if_neg c3] at H
    have c3b0 : decide (x4_1 < 4000) = false := decide_eq_false c3
    clear c3
    simp only [Option.some.injEq, Prod.mk.injEq] at H
    obtain ⟨rfl, rfl, rfl⟩ := H
    go_wp2_with (first | ((with_reducible refine gate_dst (N := 31) rfl ?_); refine box_event ?hg (N := 31) ?hd (cs := #[.slice A0 l0.length c0, .int .i64 0, .int .i64 x3_1]) (t := 108) ?hr ?_; (case hd => rfl); (case hg => rfl); (case hr => first | (go_simp; done) | (go_simp; rfl)); intro gb517 hg w5 hbox hb; replace HB := Zh (Zl Zs hb); have BK517 := Zh (hbox); have GW517 := Zh ((by rw [hg]; exact (below_size (by repeat (first | (with_reducible first | exact HBW.out | apply Zf | apply Zd | apply Ze) | exact HBW.out))) : w.heap.size ≤ gb517)); have GE517 := Zh ((Nat.le_trans HW0.out (by rw [hg]; exact (below_size (by repeat (first | (with_reducible first | exact HBW.out | apply Zf | apply Zd | apply Ze) | exact HBW.out))) : w.heap.size ≤ gb517) : w0.heap.size ≤ gb517)); replace HBW := Zh (Zl HBW.out hb); clear hb hbox hg))
    go_ret
    exact ⟨_, rfl, (show IsS108 w0 _ gb517 l0 0 x3_1 from ⟨_, _, Zk, GE517.out, HR0.out⟩), Zs, by repeat (first | (with_reducible first | exact HBW.out | apply Zf | apply Zd | apply Ze | refine Zg ?_ GW517.out) | exact HBW.out)⟩
   rw [if_neg c2] at H
   have c2b0 : decide (x4_1 < (l0.length : Int)) = false := decide_eq_false c2
   clear c2
   simp only [Option.some.injEq, Prod.mk.injEq] at H
   obtain ⟨rfl, rfl, rfl⟩ := H
   go_wp2_with (first | ((with_reducible refine gate_dst (N := 31) rfl ?_); refine box_event ?hg (N := 31) ?hd (cs := #[.slice A0 l0.length c0, .int .i64 0, .int .i64 x3_1]) (t := 108) ?hr ?_; (case hd => rfl); (case hg => rfl); (case hr => first | (go_simp; done) | (go_simp; rfl)); intro gb518 hg w6 hbox hb; replace HB := Zh (Zl Zs hb); have BK518 := Zh (hbox); have GW518 := Zh ((by rw [hg]; exact (below_size (by repeat (first | (with_reducible first | exact HBW.out | apply Zf | apply Zd | apply Ze) | exact HBW.out))) : w.heap.size ≤ gb518)); have GE518 := Zh ((Nat.le_trans HW0.out (by rw [hg]; exact (below_size (by repeat (first | (with_reducible first | exact HBW.out | apply Zf | apply Zd | apply Ze) | exact HBW.out))) : w.heap.size ≤ gb518) : w0.heap.size ≤ gb518)); replace HBW := Zh (Zl HBW.out hb); clear hb hbox hg))
   go_ret
   exact ⟨_, rfl, (show IsS108 w0 _ gb518 l0 0 x3_1 from ⟨_, _, Zk, GE518.out, HR0.out⟩), Zs, by repeat (first | (with_reducible first | exact HBW.out | apply Zf | apply Zd | apply Ze | refine Zg ?_ GW518.out) | exact HBW.out)⟩
def spec_l01Size.f (l0 : List Int) (a1 : Int) : Option (Int) := if (wrap64 (2 + (wrap64 ((l0.length : Int) / 16)))) > a1 then (some a1) else (some (wrap64 (2 + (wrap64 ((l0.length : Int) / 16)))))
set_option maxHeartbeats 8000000 in
set_option maxRecDepth 100000 in
theorem spec_l01Size.calls (A0 : Option Addr) (c0 : Nat) (l0 : List Int) (a1 : Int) (r : Int) (w : World) (hr0 : Kd.C (Kd.int .u8) w A0 l0.length l0) (hc0 : l0.length ≤ c0) (h : spec_l01Size.f l0 a1 = some r) :
  Calls Tryd.prog 100 #[.slice A0 l0.length c0, .int .i64 a1] w fun e w' => e = .returned (.int .i64 r) ∧ Drawn0 w w' := by
 have HR0 := Zh hr0
 have HC0 := Zh hc0
 clear hr0 hc0
 have H : (if (wrap64 (2 + (wrap64 ((l0.length : Int) / 16)))) > a1 then (some a1) else (some (wrap64 (2 + (wrap64 ((l0.length : Int) / 16)))))) = some r := h
 clear h
 by_cases c3 : (wrap64 (2 + (wrap64 ((l0.length : Int) / 16)))) > a1
 ·
  rw [if_pos c3] at H
  have c3b0 : decide (a1 < (wrap64 (2 + (wrap64 ((l0.length : Int) / 16))))) = true := decide_eq_true c3
  clear c3
  obtain rfl := Option.some.inj H
  go_enter Tryd.func100, Tryd.ntmps100
  go_wp2
  go_ret
  exact ⟨by first | rfl | (simp; done) | (simp [*]; done), by repeat (first | exact Drawn0.refl _ | apply Drawn0.step)⟩
 rw [if_neg c3] at H
 have c3b0 : decide (a1 < (wrap64 (2 + (wrap64 ((l0.length : Int) / 16))))) = false := decide_eq_false c3
 clear c3
 obtain rfl := Option.some.inj H
 go_enter Tryd.func100, Tryd.ntmps100
 go_wp2
 go_ret
 exact ⟨by first | rfl | (simp; done) | (simp [*]; done), by repeat (first | exact Drawn0.refl _ | apply Drawn0.step)⟩
def spec_l01Byte.f (s0_0 : List Int) (s0_1 : Int) (s0_2 : Int) : Option (Int × Int × Int) := if s0_1 < (s0_0.length : Int) then (if 0 ≤ s0_1 then (some (Go.bits .and .i64 (wrap64 ((Go.bits .and .i64 (Go.bits .xor .i64 ((wrap64 ((wrap64 (s0_2 * 6364136223846793005)) + 1442695040888963407)) / 8589934592) ((wrap64 ((wrap64 (s0_2 * 6364136223846793005)) + 1442695040888963407)) / 35184372088832)) 255) + (wrap64 (rd s0_0 s0_1)))) 255, wrap64 (s0_1 + 1), wrap64 ((wrap64 (s0_2 * 6364136223846793005)) + 1442695040888963407))) else (none)) else (some (Go.bits .and .i64 (Go.bits .xor .i64 ((wrap64 ((wrap64 (s0_2 * 6364136223846793005)) + 1442695040888963407)) / 8589934592) ((wrap64 ((wrap64 (s0_2 * 6364136223846793005)) + 1442695040888963407)) / 35184372088832)) 255, s0_1, wrap64 ((wrap64 (s0_2 * 6364136223846793005)) + 1442695040888963407)))
set_option maxHeartbeats 8000000 in
set_option maxRecDepth 100000 in
theorem spec_l01Byte.calls (g : Nat) (s0_0 : List Int) (s0_1 : Int) (s0_2 : Int) (r1 : Int) (r2 : Int) (r3 : Int) (w0 w : World) (hI : IsS108 w0 w g s0_0 s0_1 s0_2) (hB : Below w0.heap.size w0 w) (h : spec_l01Byte.f s0_0 s0_1 s0_2 = some (r1, r2, r3)) :
  Calls Tryd.prog 106 #[.pointer (some ⟨g, 0, none⟩)] w fun e w' => e = .returned (.int .i64 r1) ∧ IsS108 w0 w' g s0_0 r2 r3 ∧ Below w0.heap.size w0 w' ∧ KeepBut w w' g none := by
 have HI0 := Zh hI
 have HK := Zh (KeepBut.refl w g none)
 have HL := Zh hB.size
 clear hI
 have HW0 := Zh hB.size
 have HB := Zh hB
 clear hB
 have H : (if s0_1 < (s0_0.length : Int) then (if 0 ≤ s0_1 then (some (Go.bits .and .i64 (wrap64 ((Go.bits .and .i64 (Go.bits .xor .i64 ((wrap64 ((wrap64 (s0_2 * 6364136223846793005)) + 1442695040888963407)) / 8589934592) ((wrap64 ((wrap64 (s0_2 * 6364136223846793005)) + 1442695040888963407)) / 35184372088832)) 255) + (wrap64 (rd s0_0 s0_1)))) 255, wrap64 (s0_1 + 1), wrap64 ((wrap64 (s0_2 * 6364136223846793005)) + 1442695040888963407))) else (none)) else (some (Go.bits .and .i64 (Go.bits .xor .i64 ((wrap64 ((wrap64 (s0_2 * 6364136223846793005)) + 1442695040888963407)) / 8589934592) ((wrap64 ((wrap64 (s0_2 * 6364136223846793005)) + 1442695040888963407)) / 35184372088832)) 255, s0_1, wrap64 ((wrap64 (s0_2 * 6364136223846793005)) + 1442695040888963407)))) = some (r1, r2, r3) := h
 clear h
 by_cases c2 : s0_1 < (s0_0.length : Int)
 ·
  rw [if_pos c2] at H
  have c2b0 : decide (s0_1 < (s0_0.length : Int)) = true := decide_eq_true c2
  clear c2
  by_cases c3 : 0 ≤ s0_1
  ·
   rw [if_pos c3] at H
   have c3b0 : decide (0 ≤ s0_1) = true := decide_eq_true c3
   clear c3
   simp only [Option.some.injEq, Prod.mk.injEq] at H
   obtain ⟨rfl, rfl, rfl⟩ := H
   obtain ⟨ASz4_0, cSz4_0, HGz4, hgz4, HSz4_0⟩ := HI0.out
   have hcz4_0 := cellS108_0 HGz4
   have hcz4_1 := cellS108_1 HGz4
   have hcz4_2 := cellS108_2 HGz4
   have hfz4_1 := Zn HGz4 1
   have hfz4_2 := Zn HGz4 2
   clear HGz4 hgz4
   have p519 : 0 ≤ (s0_1 : Int) := Zo
   have q519 : s0_1 < (s0_0.length : Int) := Zo
   obtain ⟨ad519, e519, hx519_0⟩ := Kd.at_int HSz4_0 s0_1 p519 q519
   cases e519
   have hn519_0 : ad519.block ≠ g := Nat.ne_of_lt (Nat.lt_of_lt_of_le (by have := Zi _ _ hx519_0; first | rwa [add_block] at this | exact this) (IsS108.ge HI0.out))
   replace hx519_0 := pw_cell_below HB.out hx519_0
   replace hx519_0 := (cell_far (p := ⟨g, 2, none⟩) (by first | (rw [add_block]; exact hn519_0) | (show (Addr.add _ _).block ≠ _; rw [add_block]; exact hn519_0) | exact hn519_0) (.int .i64 (wrap64 ((wrap64 (s0_2 * 6364136223846793005)) + 1442695040888963407)))).trans hx519_0
   (try have hy519_0 := fun (n_ : Nat) => (show (((w.drewN n_).setCell ⟨g, 2, none⟩ (.int .i64 (wrap64 ((wrap64 (s0_2 * 6364136223846793005)) + 1442695040888963407))))).cell? _ = some _ from hx519_0))
   clear hn519_0
   replace p519 := eq_true p519
   replace q519 := eq_true q519
   go_enter Tryd.func106, Tryd.ntmps106
   go_wp2
   repeat (go_quiet (fail); try go_wp2)
   go_ret
   exact ⟨ZE, by repeat (first | (with_reducible first | exact HI0.out | apply IsS108.alloc | apply IsS108.drewN | apply IsS108.drew | apply IsS108.set_1 | apply IsS108.set_2) | exact HI0.out), by repeat (first | (with_reducible first | exact HB.out | apply Zf | apply Zd | apply Ze | refine Zg ?_ (IsS108.ge HI0.out)) | exact HB.out), by repeat (first | (with_reducible first | exact HK.out | apply KeepBut.set_ | apply keep_drewN | apply keep_drew | apply keep_alloc) | exact HK.out)⟩
  rw [if_neg c3] at H
  exact absurd H (by simp)
 rw [if_neg c2] at H
 have c2b0 : decide (s0_1 < (s0_0.length : Int)) = false := decide_eq_false c2
 clear c2
 simp only [Option.some.injEq, Prod.mk.injEq] at H
 obtain ⟨rfl, rfl, rfl⟩ := H
 obtain ⟨ASz5_0, cSz5_0, HGz5, hgz5, HSz5_0⟩ := HI0.out
 have hcz5_0 := cellS108_0 HGz5
 have hcz5_1 := cellS108_1 HGz5
 have hcz5_2 := cellS108_2 HGz5
 have hfz5_1 := Zn HGz5 1
 have hfz5_2 := Zn HGz5 2
 clear HGz5 hgz5
 go_enter Tryd.func106, Tryd.ntmps106
 go_wp2
 repeat (go_quiet (fail); try go_wp2)
 go_ret
 exact ⟨ZE, by repeat (first | (with_reducible first | exact HI0.out | apply IsS108.alloc | apply IsS108.drewN | apply IsS108.drew | apply IsS108.set_1 | apply IsS108.set_2) | exact HI0.out), by repeat (first | (with_reducible first | exact HB.out | apply Zf | apply Zd | apply Ze | refine Zg ?_ (IsS108.ge HI0.out)) | exact HB.out), by repeat (first | (with_reducible first | exact HK.out | apply KeepBut.set_ | apply keep_drewN | apply keep_drew | apply keep_alloc) | exact HK.out)⟩
def spec_l01Below.f (s0_0 : List Int) (s0_1 : Int) (s0_2 : Int) (a1 : Int) : Option (Int × Int × Int) := if a1 ≤ 0 then (some (0, s0_1, s0_2)) else (if a1 ≤ 256 then ((spec_l01Byte.f s0_0 s0_1 s0_2).bind fun bt520 => (if a1 = 0 then (none) else (some (Int.tmod bt520.1 a1, bt520.2.1, bt520.2.2)))) else ((spec_l01Byte.f s0_0 s0_1 s0_2).bind fun bt523 => ((spec_l01Byte.f s0_0 bt523.2.1 bt523.2.2).bind fun bt526 => ((spec_l01Byte.f s0_0 bt526.2.1 bt526.2.2).bind fun bt529 => (if a1 = 0 then (none) else (some (Int.tmod (wrap64 ((wrap64 ((wrap64 (bt523.1 * 65536)) + (wrap64 (bt526.1 * 256)))) + bt529.1)) a1, bt529.2.1, bt529.2.2)))))))
set_option maxHeartbeats 8000000 in
set_option maxRecDepth 100000 in
theorem spec_l01Below.calls (g : Nat) (s0_0 : List Int) (s0_1 : Int) (s0_2 : Int) (a1 : Int) (r1 : Int) (r2 : Int) (r3 : Int) (w0 w : World) (hI : IsS108 w0 w g s0_0 s0_1 s0_2) (hB : Below w0.heap.size w0 w) (h : spec_l01Below.f s0_0 s0_1 s0_2 a1 = some (r1, r2, r3)) :
  Calls Tryd.prog 99 #[.pointer (some ⟨g, 0, none⟩), .int .i64 a1] w fun e w' => e = .returned (.int .i64 r1) ∧ IsS108 w0 w' g s0_0 r2 r3 ∧ Below w0.heap.size w0 w' ∧ KeepBut w w' g none := by
 have HI0 := Zh hI
 have HK := Zh (KeepBut.refl w g none)
 have HL := Zh hB.size
 clear hI
 have HW0 := Zh hB.size
 have HB := Zh hB
 clear hB
 have H : (if a1 ≤ 0 then (some (0, s0_1, s0_2)) else (if a1 ≤ 256 then ((spec_l01Byte.f s0_0 s0_1 s0_2).bind fun bt520 => (if a1 = 0 then (none) else (some (Int.tmod bt520.1 a1, bt520.2.1, bt520.2.2)))) else ((spec_l01Byte.f s0_0 s0_1 s0_2).bind fun bt523 => ((spec_l01Byte.f s0_0 bt523.2.1 bt523.2.2).bind fun bt526 => ((spec_l01Byte.f s0_0 bt526.2.1 bt526.2.2).bind fun bt529 => (if a1 = 0 then (none) else (some (Int.tmod (wrap64 ((wrap64 ((wrap64 (bt523.1 * 65536)) + (wrap64 (bt526.1 * 256)))) + bt529.1)) a1, bt529.2.1, bt529.2.2)))))))) = some (r1, r2, r3) := h
 clear h
 by_cases c3 : a1 ≤ 0
 ·
  rw [if_pos c3] at H
  have c3b0 : decide (a1 ≤ 0) = true := decide_eq_true c3
  clear c3
  simp only [Option.some.injEq, Prod.mk.injEq] at H
  obtain ⟨rfl, rfl, rfl⟩ := H
  go_enter Tryd.func99, Tryd.ntmps99
  go_wp2
  go_ret
  exact ⟨ZE, by repeat (first | (with_reducible first | exact HI0.out | apply IsS108.alloc | apply IsS108.drewN | apply IsS108.drew | apply IsS108.set_1 | apply IsS108.set_2) | exact HI0.out), by repeat (first | (with_reducible first | exact HB.out | apply Zf | apply Zd | apply Ze | refine Zg ?_ (IsS108.ge HI0.out)) | exact HB.out), by repeat (first | (with_reducible first | exact HK.out | apply KeepBut.set_ | apply keep_drewN | apply keep_drew | apply keep_alloc) | exact HK.out)⟩
 rw [if_neg c3] at H
 have c3b0 : decide (a1 ≤ 0) = false := decide_eq_false c3
 clear c3
 by_cases c4 : a1 ≤ 256
 ·
  rw [if_pos c4] at H
  have c4b0 : decide (a1 ≤ 256) = true := decide_eq_true c4
  clear c4
  replace H := Option.bind_eq_some_iff.mp H
  obtain ⟨⟨t520, t521, t522⟩, A50, H⟩ := H
  replace H : (if a1 = 0 then (none) else (some (Int.tmod t520 a1, t521, t522))) = some (r1, r2, r3) := H
  have A5 := Zh A50
  clear A50
  by_cases c6 : a1 = 0
  ·
   rw [if_pos c6] at H
   exact absurd H (by simp)
  rw [if_neg c6] at H
  have c6b0 : (a1 == 0) = false := beq_eq_false_iff_ne.mpr c6
  have c6b1 : (a1 != 0) = true := bne_iff_ne.mpr c6
  simp only [Option.some.injEq, Prod.mk.injEq] at H
  obtain ⟨rfl, rfl, rfl⟩ := H
  go_enter Tryd.func99, Tryd.ntmps99
  go_wp2_with (first | ((with_reducible refine gate_callee (f := 106) rfl ?_); refine ZG (some 13) Tryd.func106 #[.pointer (some ⟨g, 0, none⟩)] rfl ?_; (with_reducible refine (spec_l01Byte.calls g s0_0 s0_1 s0_2 t520 t521 t522 w0 _ ?side1 ?side2 A5.out).mono ?_); (case side1 => repeat (first | (with_reducible first | exact HI0.out | apply IsS108.alloc | apply IsS108.drewN | apply IsS108.drew | apply IsS108.set_1 | apply IsS108.set_2) | exact HI0.out)); (case side2 => repeat (first | (with_reducible first | exact HB.out | apply Zf | apply Zd | apply Ze | refine Zg ?_ (IsS108.ge HI0.out)) | exact HB.out)); rintro e w7 ⟨rfl, hi, hb, hk⟩; refine ⟨_, rfl, ?_⟩; replace HK := Zh (KeepBut.trans (by repeat (first | (with_reducible first | exact HK.out | apply KeepBut.set_ | apply keep_drewN | apply keep_drew | apply keep_alloc) | exact HK.out)) hk (.inl rfl)); replace HB := Zh (hb); replace HI0 := Zh (hi); (try clear hb); (try clear hb2); (try clear hk); (try clear hi)))
  go_ret
  exact ⟨ZE, by repeat (first | (with_reducible first | exact HI0.out | apply IsS108.alloc | apply IsS108.drewN | apply IsS108.drew | apply IsS108.set_1 | apply IsS108.set_2) | exact HI0.out), by repeat (first | (with_reducible first | exact HB.out | apply Zf | apply Zd | apply Ze | refine Zg ?_ (IsS108.ge HI0.out)) | exact HB.out), by repeat (first | (with_reducible first | exact HK.out | apply KeepBut.set_ | apply keep_drewN | apply keep_drew | apply keep_alloc) | exact HK.out)⟩
 rw [if_neg c4] at H
 have c4b0 : decide (a1 ≤ 256) = false := decide_eq_false c4
 clear c4
 replace H := Option.bind_eq_some_iff.mp H
 obtain ⟨⟨t523, t524, t525⟩, A80, H⟩ := H
 replace H : ((spec_l01Byte.f s0_0 t524 t525).bind fun bt526 => ((spec_l01Byte.f s0_0 bt526.2.1 bt526.2.2).bind fun bt529 => (if a1 = 0 then (none) else (some (Int.tmod (wrap64 ((wrap64 ((wrap64 (t523 * 65536)) + (wrap64 (bt526.1 * 256)))) + bt529.1)) a1, bt529.2.1, bt529.2.2))))) = some (r1, r2, r3) := H
 have A8 := Zh A80
 clear A80
 replace H := Option.bind_eq_some_iff.mp H
 obtain ⟨⟨t526, t527, t528⟩, A90, H⟩ := H
 replace H : ((spec_l01Byte.f s0_0 t527 t528).bind fun bt529 => (if a1 = 0 then (none) else (some (Int.tmod (wrap64 ((wrap64 ((wrap64 (t523 * 65536)) + (wrap64 (t526 * 256)))) + bt529.1)) a1, bt529.2.1, bt529.2.2)))) = some (r1, r2, r3) := H
 have A9 := Zh A90
 clear A90
 replace H := Option.bind_eq_some_iff.mp H
 obtain ⟨⟨t529, t530, t531⟩, A100, H⟩ := H
 replace H : (if a1 = 0 then (none) else (some (Int.tmod (wrap64 ((wrap64 ((wrap64 (t523 * 65536)) + (wrap64 (t526 * 256)))) + t529)) a1, t530, t531))) = some (r1, r2, r3) := H
 have A10 := Zh A100
 clear A100
 by_cases c11 : a1 = 0
 ·
  rw [if_pos c11] at H
  exact absurd H (by simp)
 rw [if_neg c11] at H
 have c11b0 : (a1 == 0) = false := beq_eq_false_iff_ne.mpr c11
 have c11b1 : (a1 != 0) = true := bne_iff_ne.mpr c11
 simp only [Option.some.injEq, Prod.mk.injEq] at H
 obtain ⟨rfl, rfl, rfl⟩ := H
 go_enter Tryd.func99, Tryd.ntmps99
 go_wp2_with (first | ((with_reducible refine gate_callee (f := 106) rfl ?_); refine ZG (some 17) Tryd.func106 #[.pointer (some ⟨g, 0, none⟩)] rfl ?_; (with_reducible refine (spec_l01Byte.calls g s0_0 s0_1 s0_2 t523 t524 t525 w0 _ ?side1 ?side2 A8.out).mono ?_); (case side1 => repeat (first | (with_reducible first | exact HI0.out | apply IsS108.alloc | apply IsS108.drewN | apply IsS108.drew | apply IsS108.set_1 | apply IsS108.set_2) | exact HI0.out)); (case side2 => repeat (first | (with_reducible first | exact HB.out | apply Zf | apply Zd | apply Ze | refine Zg ?_ (IsS108.ge HI0.out)) | exact HB.out)); rintro e w12 ⟨rfl, hi, hb, hk⟩; refine ⟨_, rfl, ?_⟩; replace HK := Zh (KeepBut.trans (by repeat (first | (with_reducible first | exact HK.out | apply KeepBut.set_ | apply keep_drewN | apply keep_drew | apply keep_alloc) | exact HK.out)) hk (.inl rfl)); replace HB := Zh (hb); replace HI0 := Zh (hi); (try clear hb); (try clear hb2); (try clear hk); (try clear hi)) | ((with_reducible refine gate_callee (f := 106) rfl ?_); refine ZG (some 19) Tryd.func106 #[.pointer (some ⟨g, 0, none⟩)] rfl ?_; (with_reducible refine (spec_l01Byte.calls g s0_0 t524 t525 t526 t527 t528 w0 _ ?side1 ?side2 A9.out).mono ?_); (case side1 => repeat (first | (with_reducible first | exact HI0.out | apply IsS108.alloc | apply IsS108.drewN | apply IsS108.drew | apply IsS108.set_1 | apply IsS108.set_2) | exact HI0.out)); (case side2 => repeat (first | (with_reducible first | exact HB.out | apply Zf | apply Zd | apply Ze | refine Zg ?_ (IsS108.ge HI0.out)) | exact HB.out)); rintro e w13 ⟨rfl, hi, hb, hk⟩; refine ⟨_, rfl, ?_⟩; replace HK := Zh (KeepBut.trans (by repeat (first | (with_reducible first | exact HK.out | apply KeepBut.set_ | apply keep_drewN | apply keep_drew | apply keep_alloc) | exact HK.out)) hk (.inl rfl)); replace HB := Zh (hb); replace HI0 := Zh (hi); (try clear hb); (try clear hb2); (try clear hk); (try clear hi)) | ((with_reducible refine gate_callee (f := 106) rfl ?_); refine ZG (some 21) Tryd.func106 #[.pointer (some ⟨g, 0, none⟩)] rfl ?_; (with_reducible refine (spec_l01Byte.calls g s0_0 t527 t528 t529 t530 t531 w0 _ ?side1 ?side2 A10.out).mono ?_); (case side1 => repeat (first | (with_reducible first | exact HI0.out | apply IsS108.alloc | apply IsS108.drewN | apply IsS108.drew | apply IsS108.set_1 | apply IsS108.set_2) | exact HI0.out)); (case side2 => repeat (first | (with_reducible first | exact HB.out | apply Zf | apply Zd | apply Ze | refine Zg ?_ (IsS108.ge HI0.out)) | exact HB.out)); rintro e w14 ⟨rfl, hi, hb, hk⟩; refine ⟨_, rfl, ?_⟩; replace HK := Zh (KeepBut.trans (by repeat (first | (with_reducible first | exact HK.out | apply KeepBut.set_ | apply keep_drewN | apply keep_drew | apply keep_alloc) | exact HK.out)) hk (.inl rfl)); replace HB := Zh (hb); replace HI0 := Zh (hi); (try clear hb); (try clear hb2); (try clear hk); (try clear hi)))
 go_ret
 exact ⟨ZE, by repeat (first | (with_reducible first | exact HI0.out | apply IsS108.alloc | apply IsS108.drewN | apply IsS108.drew | apply IsS108.set_1 | apply IsS108.set_2) | exact HI0.out), by repeat (first | (with_reducible first | exact HB.out | apply Zf | apply Zd | apply Ze | refine Zg ?_ (IsS108.ge HI0.out)) | exact HB.out), by repeat (first | (with_reducible first | exact HK.out | apply KeepBut.set_ | apply keep_drewN | apply keep_drew | apply keep_alloc) | exact HK.out)⟩
def spec_l01PickInt.f (s0_0 : List Int) (s0_1 : Int) (s0_2 : Int) (l1 : List Int) : Option (Int × Int × Int) := (spec_l01Below.f s0_0 s0_1 s0_2 (l1.length : Int)).bind fun bt532 => (if 0 ≤ bt532.1 then (if bt532.1 < (l1.length : Int) then (some (rd l1 bt532.1, bt532.2.1, bt532.2.2)) else (none)) else (none))
set_option maxHeartbeats 8000000 in
set_option maxRecDepth 100000 in
theorem spec_l01PickInt.calls (g : Nat) (s0_0 : List Int) (s0_1 : Int) (s0_2 : Int) (A1 : Option Addr) (c1 : Nat) (l1 : List Int) (r1 : Int) (r2 : Int) (r3 : Int) (w0 w : World) (hI : IsS108 w0 w g s0_0 s0_1 s0_2) (hB : Below w0.heap.size w0 w) (hr1 : Kd.C (Kd.int .i64) w A1 l1.length l1) (hc1 : l1.length ≤ c1) (hf1 : ∀ ad, A1 = some ad → 0 < l1.length → ad.block ≠ g) (h : spec_l01PickInt.f s0_0 s0_1 s0_2 l1 = some (r1, r2, r3)) :
  Calls Tryd.prog 101 #[.pointer (some ⟨g, 0, none⟩), .slice A1 l1.length c1] w fun e w' => e = .returned (.int .i64 r1) ∧ IsS108 w0 w' g s0_0 r2 r3 ∧ Below w0.heap.size w0 w' ∧ KeepBut w w' g none := by
 have HR1 := Zh hr1
 have HC1 := Zh hc1
 clear hr1 hc1
 have HI0 := Zh hI
 have HK := Zh (KeepBut.refl w g none)
 have HL := Zh hB.size
 clear hI
 have HW0 := Zh hB.size
 have HB := Zh hB
 clear hB
 have H : ((spec_l01Below.f s0_0 s0_1 s0_2 (l1.length : Int)).bind fun bt532 => (if 0 ≤ bt532.1 then (if bt532.1 < (l1.length : Int) then (some (rd l1 bt532.1, bt532.2.1, bt532.2.2)) else (none)) else (none))) = some (r1, r2, r3) := h
 clear h
 replace H := Option.bind_eq_some_iff.mp H
 obtain ⟨⟨t532, t533, t534⟩, A30, H⟩ := H
 replace H : (if 0 ≤ t532 then (if t532 < (l1.length : Int) then (some (rd l1 t532, t533, t534)) else (none)) else (none)) = some (r1, r2, r3) := H
 have A3 := Zh A30
 clear A30
 by_cases c4 : 0 ≤ t532
 ·
  rw [if_pos c4] at H
  have c4b0 : decide (0 ≤ t532) = true := decide_eq_true c4
  clear c4
  by_cases c5 : t532 < (l1.length : Int)
  ·
   rw [if_pos c5] at H
   have c5b0 : decide (t532 < (l1.length : Int)) = true := decide_eq_true c5
   clear c5
   simp only [Option.some.injEq, Prod.mk.injEq] at H
   obtain ⟨rfl, rfl, rfl⟩ := H
   go_enter Tryd.func101, Tryd.ntmps101
   go_wp2_with (first | ((with_reducible refine gate_callee (f := 99) rfl ?_); refine ZG (some 9) Tryd.func99 #[.pointer (some ⟨g, 0, none⟩), .int .i64 (l1.length : Int)] rfl ?_; (with_reducible refine (spec_l01Below.calls g s0_0 s0_1 s0_2 (l1.length : Int) t532 t533 t534 w0 _ ?side1 ?side2 A3.out).mono ?_); (case side1 => repeat (first | (with_reducible first | exact HI0.out | apply IsS108.alloc | apply IsS108.drewN | apply IsS108.drew | apply IsS108.set_1 | apply IsS108.set_2) | exact HI0.out)); (case side2 => repeat (first | (with_reducible first | exact HB.out | apply Zf | apply Zd | apply Ze | refine Zg ?_ (IsS108.ge HI0.out)) | exact HB.out)); rintro e w6 ⟨rfl, hi, hb, hk⟩; refine ⟨_, rfl, ?_⟩; replace HK := Zh (KeepBut.trans (by repeat (first | (with_reducible first | exact HK.out | apply KeepBut.set_ | apply keep_drewN | apply keep_drew | apply keep_alloc) | exact HK.out)) hk (.inl rfl)); replace HB := Zh (hb); replace HI0 := Zh (hi); (try clear hb); (try clear hb2); (try clear hk); (try clear hi); have p535 : 0 ≤ (t532 : Int) := Zo; have q535 : t532 < (l1.length : Int) := Zo; obtain ⟨ad535, e535, hx535_0⟩ := Kd.at_int HR1.out t532 p535 q535; cases e535; replace hx535_0 := keep_cell HK.out hx535_0 (by first | (rw [add_block]; exact hf1 _ rfl (by omega)) | exact hf1 _ rfl (by omega) | exact hf1 ad535 rfl (by omega)); replace p535 := eq_true p535; replace q535 := eq_true q535))
   go_ret
   exact ⟨ZE, by repeat (first | (with_reducible first | exact HI0.out | apply IsS108.alloc | apply IsS108.drewN | apply IsS108.drew | apply IsS108.set_1 | apply IsS108.set_2) | exact HI0.out), by repeat (first | (with_reducible first | exact HB.out | apply Zf | apply Zd | apply Ze | refine Zg ?_ (IsS108.ge HI0.out)) | exact HB.out), by repeat (first | (with_reducible first | exact HK.out | apply KeepBut.set_ | apply keep_drewN | apply keep_drew | apply keep_alloc) | exact HK.out)⟩
  rw [if_neg c5] at H
  exact absurd H (by simp)
 rw [if_neg c4] at H
 exact absurd H (by simp)
def spec_l01Once.f (s0_0 : List Int) (s0_1 : Int) (s0_2 : Int) (a1 : Int) : Option (Bool × Int × Int) := (spec_l01Below.f s0_0 s0_1 s0_2 a1).bind fun bt536 => (some ((bt536.1 == 0), bt536.2.1, bt536.2.2))
set_option maxHeartbeats 8000000 in
set_option maxRecDepth 100000 in
theorem spec_l01Once.calls (g : Nat) (s0_0 : List Int) (s0_1 : Int) (s0_2 : Int) (a1 : Int) (r1 : Bool) (r2 : Int) (r3 : Int) (w0 w : World) (hI : IsS108 w0 w g s0_0 s0_1 s0_2) (hB : Below w0.heap.size w0 w) (h : spec_l01Once.f s0_0 s0_1 s0_2 a1 = some (r1, r2, r3)) :
  Calls Tryd.prog 107 #[.pointer (some ⟨g, 0, none⟩), .int .i64 a1] w fun e w' => e = .returned (.bool r1) ∧ IsS108 w0 w' g s0_0 r2 r3 ∧ Below w0.heap.size w0 w' ∧ KeepBut w w' g none := by
 have HI0 := Zh hI
 have HK := Zh (KeepBut.refl w g none)
 have HL := Zh hB.size
 clear hI
 have HW0 := Zh hB.size
 have HB := Zh hB
 clear hB
 have H : ((spec_l01Below.f s0_0 s0_1 s0_2 a1).bind fun bt536 => (some ((bt536.1 == 0), bt536.2.1, bt536.2.2))) = some (r1, r2, r3) := h
 clear h
 replace H := Option.bind_eq_some_iff.mp H
 obtain ⟨⟨t536, t537, t538⟩, A30, H⟩ := H
 replace H : (some ((t536 == 0), t537, t538)) = some (r1, r2, r3) := H
 have A3 := Zh A30
 clear A30
 simp only [Option.some.injEq, Prod.mk.injEq] at H
 obtain ⟨rfl, rfl, rfl⟩ := H
 go_enter Tryd.func107, Tryd.ntmps107
 go_wp2_with (first | ((with_reducible refine gate_callee (f := 99) rfl ?_); refine ZG (some 7) Tryd.func99 #[.pointer (some ⟨g, 0, none⟩), .int .i64 a1] rfl ?_; (with_reducible refine (spec_l01Below.calls g s0_0 s0_1 s0_2 a1 t536 t537 t538 w0 _ ?side1 ?side2 A3.out).mono ?_); (case side1 => repeat (first | (with_reducible first | exact HI0.out | apply IsS108.alloc | apply IsS108.drewN | apply IsS108.drew | apply IsS108.set_1 | apply IsS108.set_2) | exact HI0.out)); (case side2 => repeat (first | (with_reducible first | exact HB.out | apply Zf | apply Zd | apply Ze | refine Zg ?_ (IsS108.ge HI0.out)) | exact HB.out)); rintro e w4 ⟨rfl, hi, hb, hk⟩; refine ⟨_, rfl, ?_⟩; replace HK := Zh (KeepBut.trans (by repeat (first | (with_reducible first | exact HK.out | apply KeepBut.set_ | apply keep_drewN | apply keep_drew | apply keep_alloc) | exact HK.out)) hk (.inl rfl)); replace HB := Zh (hb); replace HI0 := Zh (hi); (try clear hb); (try clear hb2); (try clear hk); (try clear hi)))
 go_ret
 exact ⟨ZE, by repeat (first | (with_reducible first | exact HI0.out | apply IsS108.alloc | apply IsS108.drewN | apply IsS108.drew | apply IsS108.set_1 | apply IsS108.set_2) | exact HI0.out), by repeat (first | (with_reducible first | exact HB.out | apply Zf | apply Zd | apply Ze | refine Zg ?_ (IsS108.ge HI0.out)) | exact HB.out), by repeat (first | (with_reducible first | exact HK.out | apply KeepBut.set_ | apply keep_drewN | apply keep_drew | apply keep_alloc) | exact HK.out)⟩
def spec_l01PickText.f (s0_0 : List Int) (s0_1 : Int) (s0_2 : Int) (l1 : List ByteArray) : Option (ByteArray × Int × Int) := (spec_l01Below.f s0_0 s0_1 s0_2 (l1.length : Int)).bind fun bt539 => (if 0 ≤ bt539.1 then (if bt539.1 < (l1.length : Int) then (some (rdOf ByteArray.empty l1 bt539.1, bt539.2.1, bt539.2.2)) else (none)) else (none))
set_option maxHeartbeats 8000000 in
set_option maxRecDepth 100000 in
theorem spec_l01PickText.calls (g : Nat) (s0_0 : List Int) (s0_1 : Int) (s0_2 : Int) (A1 : Option Addr) (c1 : Nat) (l1 : List ByteArray) (r1 : ByteArray) (r2 : Int) (r3 : Int) (w0 w : World) (hI : IsS108 w0 w g s0_0 s0_1 s0_2) (hB : Below w0.heap.size w0 w) (hr1 : Kd.C Kd.string w A1 l1.length l1) (hc1 : l1.length ≤ c1) (hf1 : ∀ ad, A1 = some ad → 0 < l1.length → ad.block ≠ g) (h : spec_l01PickText.f s0_0 s0_1 s0_2 l1 = some (r1, r2, r3)) :
  Calls Tryd.prog 108 #[.pointer (some ⟨g, 0, none⟩), .slice A1 l1.length c1] w fun e w' => e = .returned (.string r1) ∧ IsS108 w0 w' g s0_0 r2 r3 ∧ Below w0.heap.size w0 w' ∧ KeepBut w w' g none := by
 have HR1 := Zh hr1
 have HC1 := Zh hc1
 clear hr1 hc1
 have HI0 := Zh hI
 have HK := Zh (KeepBut.refl w g none)
 have HL := Zh hB.size
 clear hI
 have HW0 := Zh hB.size
 have HB := Zh hB
 clear hB
 have H : ((spec_l01Below.f s0_0 s0_1 s0_2 (l1.length : Int)).bind fun bt539 => (if 0 ≤ bt539.1 then (if bt539.1 < (l1.length : Int) then (some (rdOf ByteArray.empty l1 bt539.1, bt539.2.1, bt539.2.2)) else (none)) else (none))) = some (r1, r2, r3) := h
 clear h
 replace H := Option.bind_eq_some_iff.mp H
 obtain ⟨⟨t539, t540, t541⟩, A30, H⟩ := H
 replace H : (if 0 ≤ t539 then (if t539 < (l1.length : Int) then (some (rdOf ByteArray.empty l1 t539, t540, t541)) else (none)) else (none)) = some (r1, r2, r3) := H
 have A3 := Zh A30
 clear A30
 by_cases c4 : 0 ≤ t539
 ·
  rw [if_pos c4] at H
  have c4b0 : decide (0 ≤ t539) = true := decide_eq_true c4
  clear c4
  by_cases c5 : t539 < (l1.length : Int)
  ·
   rw [if_pos c5] at H
   have c5b0 : decide (t539 < (l1.length : Int)) = true := decide_eq_true c5
   clear c5
   simp only [Option.some.injEq, Prod.mk.injEq] at H
   obtain ⟨rfl, rfl, rfl⟩ := H
   go_enter Tryd.func108, Tryd.ntmps108
   go_wp2_with (first | ((with_reducible refine gate_callee (f := 99) rfl ?_); refine ZG (some 9) Tryd.func99 #[.pointer (some ⟨g, 0, none⟩), .int .i64 (l1.length : Int)] rfl ?_; (with_reducible refine (spec_l01Below.calls g s0_0 s0_1 s0_2 (l1.length : Int) t539 t540 t541 w0 _ ?side1 ?side2 A3.out).mono ?_); (case side1 => repeat (first | (with_reducible first | exact HI0.out | apply IsS108.alloc | apply IsS108.drewN | apply IsS108.drew | apply IsS108.set_1 | apply IsS108.set_2) | exact HI0.out)); (case side2 => repeat (first | (with_reducible first | exact HB.out | apply Zf | apply Zd | apply Ze | refine Zg ?_ (IsS108.ge HI0.out)) | exact HB.out)); rintro e w6 ⟨rfl, hi, hb, hk⟩; refine ⟨_, rfl, ?_⟩; replace HK := Zh (KeepBut.trans (by repeat (first | (with_reducible first | exact HK.out | apply KeepBut.set_ | apply keep_drewN | apply keep_drew | apply keep_alloc) | exact HK.out)) hk (.inl rfl)); replace HB := Zh (hb); replace HI0 := Zh (hi); (try clear hb); (try clear hb2); (try clear hk); (try clear hi); have p542 : 0 ≤ (t539 : Int) := Zo; have q542 : t539 < (l1.length : Int) := Zo; obtain ⟨ad542, e542, hx542_0⟩ := Kd.at_string HR1.out t539 p542 q542; cases e542; replace hx542_0 := keep_cell HK.out hx542_0 (by first | (rw [add_block]; exact hf1 _ rfl (by omega)) | exact hf1 _ rfl (by omega) | exact hf1 ad542 rfl (by omega)); replace p542 := eq_true p542; replace q542 := eq_true q542))
   go_ret
   exact ⟨ZE, by repeat (first | (with_reducible first | exact HI0.out | apply IsS108.alloc | apply IsS108.drewN | apply IsS108.drew | apply IsS108.set_1 | apply IsS108.set_2) | exact HI0.out), by repeat (first | (with_reducible first | exact HB.out | apply Zf | apply Zd | apply Ze | refine Zg ?_ (IsS108.ge HI0.out)) | exact HB.out), by repeat (first | (with_reducible first | exact HK.out | apply KeepBut.set_ | apply keep_drewN | apply keep_drew | apply keep_alloc) | exact HK.out)⟩
  rw [if_neg c5] at H
  exact absurd H (by simp)
 rw [if_neg c4] at H
 exact absurd H (by simp)
def spec_l03DrawName.f (s0_0 : List Int) (s0_1 : Int) (s0_2 : Int) : Option (ByteArray × Int × Int) := (spec_l01Once.f s0_0 s0_1 s0_2 30).bind fun bt543 => (if bt543.1 = true then ((spec_l01PickText.f s0_0 bt543.2.1 bt543.2.2 (([(⟨#[]⟩ : ByteArray), (⟨#[65]⟩ : ByteArray), (⟨#[97, 98, 99, 100, 101, 102, 103, 104, 105, 106, 107, 108]⟩ : ByteArray), (⟨#[97, 98, 99, 100, 101, 102, 103, 104, 105, 106, 107, 108, 109]⟩ : ByteArray), (⟨#[97, 32, 98]⟩ : ByteArray)] : List ByteArray))).bind fun bt549 => (some (bt549.1, bt549.2.1, bt549.2.2))) else ((spec_l01PickText.f s0_0 bt543.2.1 bt543.2.2 (([(⟨#[97]⟩ : ByteArray), (⟨#[98]⟩ : ByteArray), (⟨#[108, 111, 103]⟩ : ByteArray), (⟨#[109, 97, 110]⟩ : ByteArray), (⟨#[122, 57]⟩ : ByteArray)] : List ByteArray))).bind fun bt555 => (some (bt555.1, bt555.2.1, bt555.2.2))))
set_option maxHeartbeats 8000000 in
set_option maxRecDepth 100000 in
theorem spec_l03DrawName.calls (g : Nat) (s0_0 : List Int) (s0_1 : Int) (s0_2 : Int) (r1 : ByteArray) (r2 : Int) (r3 : Int) (w0 w : World) (hI : IsS108 w0 w g s0_0 s0_1 s0_2) (hB : Below w0.heap.size w0 w) (h : spec_l03DrawName.f s0_0 s0_1 s0_2 = some (r1, r2, r3)) :
  Calls Tryd.prog 102 #[.pointer (some ⟨g, 0, none⟩)] w fun e w' => e = .returned (.string r1) ∧ IsS108 w0 w' g s0_0 r2 r3 ∧ Below w0.heap.size w0 w' ∧ KeepBut w w' g none := by
 have HI0 := Zh hI
 have HK := Zh (KeepBut.refl w g none)
 have HL := Zh hB.size
 clear hI
 have HW0 := Zh hB.size
 have HB := Zh hB
 clear hB
 have H : ((spec_l01Once.f s0_0 s0_1 s0_2 30).bind fun bt543 => (if bt543.1 = true then ((spec_l01PickText.f s0_0 bt543.2.1 bt543.2.2 (([(⟨#[]⟩ : ByteArray), (⟨#[65]⟩ : ByteArray), (⟨#[97, 98, 99, 100, 101, 102, 103, 104, 105, 106, 107, 108]⟩ : ByteArray), (⟨#[97, 98, 99, 100, 101, 102, 103, 104, 105, 106, 107, 108, 109]⟩ : ByteArray), (⟨#[97, 32, 98]⟩ : ByteArray)] : List ByteArray))).bind fun bt549 => (some (bt549.1, bt549.2.1, bt549.2.2))) else ((spec_l01PickText.f s0_0 bt543.2.1 bt543.2.2 (([(⟨#[97]⟩ : ByteArray), (⟨#[98]⟩ : ByteArray), (⟨#[108, 111, 103]⟩ : ByteArray), (⟨#[109, 97, 110]⟩ : ByteArray), (⟨#[122, 57]⟩ : ByteArray)] : List ByteArray))).bind fun bt555 => (some (bt555.1, bt555.2.1, bt555.2.2))))) = some (r1, r2, r3) := h
 clear h
 replace H := Option.bind_eq_some_iff.mp H
 obtain ⟨⟨t543, t544, t545⟩, A20, H⟩ := H
 replace H : (if t543 = true then ((spec_l01PickText.f s0_0 t544 t545 (([(⟨#[]⟩ : ByteArray), (⟨#[65]⟩ : ByteArray), (⟨#[97, 98, 99, 100, 101, 102, 103, 104, 105, 106, 107, 108]⟩ : ByteArray), (⟨#[97, 98, 99, 100, 101, 102, 103, 104, 105, 106, 107, 108, 109]⟩ : ByteArray), (⟨#[97, 32, 98]⟩ : ByteArray)] : List ByteArray))).bind fun bt549 => (some (bt549.1, bt549.2.1, bt549.2.2))) else ((spec_l01PickText.f s0_0 t544 t545 (([(⟨#[97]⟩ : ByteArray), (⟨#[98]⟩ : ByteArray), (⟨#[108, 111, 103]⟩ : ByteArray), (⟨#[109, 97, 110]⟩ : ByteArray), (⟨#[122, 57]⟩ : ByteArray)] : List ByteArray))).bind fun bt555 => (some (bt555.1, bt555.2.1, bt555.2.2)))) = some (r1, r2, r3) := H
 have A2 := Zh A20
 clear A20
 by_cases c3 : t543 = true
 ·
  subst c3
  have H1 : ((spec_l01PickText.f s0_0 t544 t545 (([(⟨#[]⟩ : ByteArray), (⟨#[65]⟩ : ByteArray), (⟨#[97, 98, 99, 100, 101, 102, 103, 104, 105, 106, 107, 108]⟩ : ByteArray), (⟨#[97, 98, 99, 100, 101, 102, 103, 104, 105, 106, 107, 108, 109]⟩ : ByteArray), (⟨#[97, 32, 98]⟩ : ByteArray)] : List ByteArray))).bind fun bt549 => (some (bt549.1, bt549.2.1, bt549.2.2))) = some (r1, r2, r3) := by rw [if_pos rfl] at H; exact H
  clear H
  have H := H1
  clear H1
  obtain ⟨y546, hy546⟩ : ∃ y_ : List ByteArray, y_ = (([(⟨#[]⟩ : ByteArray), (⟨#[65]⟩ : ByteArray), (⟨#[97, 98, 99, 100, 101, 102, 103, 104, 105, 106, 107, 108]⟩ : ByteArray), (⟨#[97, 98, 99, 100, 101, 102, 103, 104, 105, 106, 107, 108, 109]⟩ : ByteArray), (⟨#[97, 32, 98]⟩ : ByteArray)] : List ByteArray)) := ⟨_, rfl⟩
  replace H : ((spec_l01PickText.f s0_0 t544 t545 y546).bind fun bt549 => (some (bt549.1, bt549.2.1, bt549.2.2))) = some (r1, r2, r3) := by first | (rw [hy546]; with_reducible exact H) | (have H2_ := (Option.bind_some _ _).symm.trans H; rw [hy546]; with_reducible exact H2_) | (have H2_ := (Option.bind_some _ _).symm.trans H; with_reducible exact H2_) | with_reducible exact H | (rw [hy546]; exact H) | exact H
  have Ny546 := Zh hy546
  clear hy546
  replace H := Option.bind_eq_some_iff.mp H
  obtain ⟨⟨t549, t550, t551⟩, A40, H⟩ := H
  replace H : (some (t549, t550, t551)) = some (r1, r2, r3) := H
  have A4 := Zh A40
  clear A40
  simp only [Option.some.injEq, Prod.mk.injEq] at H
  obtain ⟨rfl, rfl, rfl⟩ := H
  go_enter Tryd.func102, Tryd.ntmps102
  go_wp2_with (first | ((with_reducible refine gate_callee (f := 107) rfl ?_); refine ZG (some 4) Tryd.func107 #[.pointer (some ⟨g, 0, none⟩), .int .i64 30] rfl ?_; (with_reducible refine (spec_l01Once.calls g s0_0 s0_1 s0_2 30 true t544 t545 w0 _ ?side1 ?side2 A2.out).mono ?_); (case side1 => repeat (first | (with_reducible first | exact HI0.out | apply IsS108.alloc | apply IsS108.drewN | apply IsS108.drew | apply IsS108.set_1 | apply IsS108.set_2) | exact HI0.out)); (case side2 => repeat (first | (with_reducible first | exact HB.out | apply Zf | apply Zd | apply Ze | refine Zg ?_ (IsS108.ge HI0.out)) | exact HB.out)); rintro e w5 ⟨rfl, hi, hb, hk⟩; refine ⟨_, rfl, ?_⟩; replace HK := Zh (KeepBut.trans (by repeat (first | (with_reducible first | exact HK.out | apply KeepBut.set_ | apply keep_drewN | apply keep_drew | apply keep_alloc) | exact HK.out)) hk (.inl rfl)); replace HB := Zh (hb); replace HI0 := Zh (hi); (try clear hb); (try clear hb2); (try clear hk); (try clear hi)) | ((with_reducible refine gate_dst (N := 6) rfl ?_); refine R_lit Kd.string _ 9 ?hg (N := 6) ?hd (xs := ([(⟨#[]⟩ : ByteArray), (⟨#[65]⟩ : ByteArray), (⟨#[97, 98, 99, 100, 101, 102, 103, 104, 105, 106, 107, 108]⟩ : ByteArray), (⟨#[97, 98, 99, 100, 101, 102, 103, 104, 105, 106, 107, 108, 109]⟩ : ByteArray), (⟨#[97, 32, 98]⟩ : ByteArray)] : List ByteArray)) (inner := [.string (⟨#[]⟩ : ByteArray), .string (⟨#[65]⟩ : ByteArray), .string (⟨#[97, 98, 99, 100, 101, 102, 103, 104, 105, 106, 107, 108]⟩ : ByteArray), .string (⟨#[97, 98, 99, 100, 101, 102, 103, 104, 105, 106, 107, 108, 109]⟩ : ByteArray), .string (⟨#[97, 32, 98]⟩ : ByteArray)]) (ok := fun _ => True) (okp := fun _ => True) ?hr ?hp (fun _ hk => hk) trivial (Below.refl _ _) (Nat.le_refl _) (by simp) ?_; (case hd => rfl); (case hg => rfl); (case hr => first | (go_simp; done) | (go_simp; rfl)); (case hp => exact (Reps.one (show Kd.M Kd.string _ _ _ (⟨#[]⟩ : ByteArray) [.string (⟨#[]⟩ : ByteArray)] from rfl) (Reps.one (show Kd.M Kd.string _ _ _ (⟨#[65]⟩ : ByteArray) [.string (⟨#[65]⟩ : ByteArray)] from rfl) (Reps.one (show Kd.M Kd.string _ _ _ (⟨#[97, 98, 99, 100, 101, 102, 103, 104, 105, 106, 107, 108]⟩ : ByteArray) [.string (⟨#[97, 98, 99, 100, 101, 102, 103, 104, 105, 106, 107, 108]⟩ : ByteArray)] from rfl) (Reps.one (show Kd.M Kd.string _ _ _ (⟨#[97, 98, 99, 100, 101, 102, 103, 104, 105, 106, 107, 108, 109]⟩ : ByteArray) [.string (⟨#[97, 98, 99, 100, 101, 102, 103, 104, 105, 106, 107, 108, 109]⟩ : ByteArray)] from rfl) (Reps.one (show Kd.M Kd.string _ _ _ (⟨#[97, 32, 98]⟩ : ByteArray) [.string (⟨#[97, 32, 98]⟩ : ByteArray)] from rfl) (Reps.none _ _))))))); intro v547 w6 ho7 hb hg_ hnew_; clear hg_ hnew_; (first | rw [← Ny546.out] at ho7 | (simp only [Int.reduceToNat] at ho7; rw [← Ny546.out] at ho7)); have HO548 := Zh (R_lower ho7 (keep_size (w := w) (g := g) (row := none) (by repeat (first | (with_reducible first | exact HK.out | apply KeepBut.set_ | apply keep_drewN | apply keep_drew | apply keep_alloc) | exact HK.out)))); replace HK := Zh (KeepBut.trans (by repeat (first | (with_reducible first | exact HK.out | apply KeepBut.set_ | apply keep_drewN | apply keep_drew | apply keep_alloc) | exact HK.out)) (KeepBut.of_below hb g none) (.inl rfl)); replace HB := Zh (Zl (by repeat (first | (with_reducible first | exact HB.out | apply Zf | apply Zd | apply Ze | refine Zg ?_ (IsS108.ge HI0.out)) | exact HB.out)) hb); replace HI0 := Zh (IsS108.below (by repeat (first | (with_reducible first | exact HI0.out | apply IsS108.alloc | apply IsS108.drewN | apply IsS108.drew | apply IsS108.set_1 | apply IsS108.set_2) | exact HI0.out)) hb); clear hb ho7; obtain ⟨Ao8, co8, eo8⟩ := R_slice HO548.out; subst eo8) | ((with_reducible refine gate_callee (f := 108) rfl ?_); refine ZG (some 7) Tryd.func108 #[.pointer (some ⟨g, 0, none⟩), .slice Ao8 y546.length co8] rfl ?_; (with_reducible refine (spec_l01PickText.calls g s0_0 t544 t545 _ _ y546 t549 t550 t551 w0 _ ?side1 ?side2 ?side3 ?side4 ?side5 A4.out).mono ?_); (case side1 => repeat (first | (with_reducible first | exact HI0.out | apply IsS108.alloc | apply IsS108.drewN | apply IsS108.drew | apply IsS108.set_1 | apply IsS108.set_2) | exact HI0.out)); (case side2 => repeat (first | (with_reducible first | exact HB.out | apply Zf | apply Zd | apply Ze | refine Zg ?_ (IsS108.ge HI0.out)) | exact HB.out)); (case side3 => repeat (first | exact (R_reads' HO548.out).2.2 | (with_reducible refine C_alloc ?_ _) | (with_reducible refine C_drewN ?_ _) | (with_reducible refine C_drew ?_))); (case side4 => exact (R_reads' HO548.out).2.1); (case side5 => exact far_slice (IsS108.own_ne HI0.out HO548.out (by decide))); rintro e w9 ⟨rfl, hi, hb, hk⟩; refine ⟨_, rfl, ?_⟩; replace HO548 := Zh (R_mono (R_keep (IsS108.apart (show IsS108 w0 _ g s0_0 t544 t545 from by repeat (first | (with_reducible first | exact HI0.out | apply IsS108.alloc | apply IsS108.drewN | apply IsS108.drew | apply IsS108.set_1 | apply IsS108.set_2) | exact HI0.out)) (ZR HO548.out) (by decide)) hk (fun _ h => h.2)) (fun _ h => h.1)); replace HK := Zh (KeepBut.trans (by repeat (first | (with_reducible first | exact HK.out | apply KeepBut.set_ | apply keep_drewN | apply keep_drew | apply keep_alloc) | exact HK.out)) hk (.inl rfl)); replace HB := Zh (hb); replace HI0 := Zh (hi); (try clear hb); (try clear hb2); (try clear hk); (try clear hi)))
  go_ret
  exact ⟨ZE, by repeat (first | (with_reducible first | exact HI0.out | apply IsS108.alloc | apply IsS108.drewN | apply IsS108.drew | apply IsS108.set_1 | apply IsS108.set_2) | exact HI0.out), by repeat (first | (with_reducible first | exact HB.out | apply Zf | apply Zd | apply Ze | refine Zg ?_ (IsS108.ge HI0.out)) | exact HB.out), by repeat (first | (with_reducible first | exact HK.out | apply KeepBut.set_ | apply keep_drewN | apply keep_drew | apply keep_alloc) | exact HK.out)⟩
 replace c3 := Bool.eq_false_iff.mpr c3
 subst c3
 have H1 : ((spec_l01PickText.f s0_0 t544 t545 (([(⟨#[97]⟩ : ByteArray), (⟨#[98]⟩ : ByteArray), (⟨#[108, 111, 103]⟩ : ByteArray), (⟨#[109, 97, 110]⟩ : ByteArray), (⟨#[122, 57]⟩ : ByteArray)] : List ByteArray))).bind fun bt555 => (some (bt555.1, bt555.2.1, bt555.2.2))) = some (r1, r2, r3) := by rw [if_neg (show ¬ (false = true) by decide)] at H; exact H
 clear H
 have H := H1
 clear H1
 obtain ⟨y552, hy552⟩ : ∃ y_ : List ByteArray, y_ = (([(⟨#[97]⟩ : ByteArray), (⟨#[98]⟩ : ByteArray), (⟨#[108, 111, 103]⟩ : ByteArray), (⟨#[109, 97, 110]⟩ : ByteArray), (⟨#[122, 57]⟩ : ByteArray)] : List ByteArray)) := ⟨_, rfl⟩
 replace H : ((spec_l01PickText.f s0_0 t544 t545 y552).bind fun bt555 => (some (bt555.1, bt555.2.1, bt555.2.2))) = some (r1, r2, r3) := by first | (rw [hy552]; with_reducible exact H) | (have H2_ := (Option.bind_some _ _).symm.trans H; rw [hy552]; with_reducible exact H2_) | (have H2_ := (Option.bind_some _ _).symm.trans H; with_reducible exact H2_) | with_reducible exact H | (rw [hy552]; exact H) | exact H
 have Ny552 := Zh hy552
 clear hy552
 replace H := Option.bind_eq_some_iff.mp H
 obtain ⟨⟨t555, t556, t557⟩, A100, H⟩ := H
 replace H : (some (t555, t556, t557)) = some (r1, r2, r3) := H
 have A10 := Zh A100
 clear A100
 simp only [Option.some.injEq, Prod.mk.injEq] at H
 obtain ⟨rfl, rfl, rfl⟩ := H
 go_enter Tryd.func102, Tryd.ntmps102
 go_wp2_with (first | ((with_reducible refine gate_callee (f := 107) rfl ?_); refine ZG (some 4) Tryd.func107 #[.pointer (some ⟨g, 0, none⟩), .int .i64 30] rfl ?_; (with_reducible refine (spec_l01Once.calls g s0_0 s0_1 s0_2 30 false t544 t545 w0 _ ?side1 ?side2 A2.out).mono ?_); (case side1 => repeat (first | (with_reducible first | exact HI0.out | apply IsS108.alloc | apply IsS108.drewN | apply IsS108.drew | apply IsS108.set_1 | apply IsS108.set_2) | exact HI0.out)); (case side2 => repeat (first | (with_reducible first | exact HB.out | apply Zf | apply Zd | apply Ze | refine Zg ?_ (IsS108.ge HI0.out)) | exact HB.out)); rintro e w11 ⟨rfl, hi, hb, hk⟩; refine ⟨_, rfl, ?_⟩; replace HK := Zh (KeepBut.trans (by repeat (first | (with_reducible first | exact HK.out | apply KeepBut.set_ | apply keep_drewN | apply keep_drew | apply keep_alloc) | exact HK.out)) hk (.inl rfl)); replace HB := Zh (hb); replace HI0 := Zh (hi); (try clear hb); (try clear hb2); (try clear hk); (try clear hi)) | ((with_reducible refine gate_dst (N := 9) rfl ?_); refine R_lit Kd.string _ 9 ?hg (N := 9) ?hd (xs := ([(⟨#[97]⟩ : ByteArray), (⟨#[98]⟩ : ByteArray), (⟨#[108, 111, 103]⟩ : ByteArray), (⟨#[109, 97, 110]⟩ : ByteArray), (⟨#[122, 57]⟩ : ByteArray)] : List ByteArray)) (inner := [.string (⟨#[97]⟩ : ByteArray), .string (⟨#[98]⟩ : ByteArray), .string (⟨#[108, 111, 103]⟩ : ByteArray), .string (⟨#[109, 97, 110]⟩ : ByteArray), .string (⟨#[122, 57]⟩ : ByteArray)]) (ok := fun _ => True) (okp := fun _ => True) ?hr ?hp (fun _ hk => hk) trivial (Below.refl _ _) (Nat.le_refl _) (by simp) ?_; (case hd => rfl); (case hg => rfl); (case hr => first | (go_simp; done) | (go_simp; rfl)); (case hp => exact (Reps.one (show Kd.M Kd.string _ _ _ (⟨#[97]⟩ : ByteArray) [.string (⟨#[97]⟩ : ByteArray)] from rfl) (Reps.one (show Kd.M Kd.string _ _ _ (⟨#[98]⟩ : ByteArray) [.string (⟨#[98]⟩ : ByteArray)] from rfl) (Reps.one (show Kd.M Kd.string _ _ _ (⟨#[108, 111, 103]⟩ : ByteArray) [.string (⟨#[108, 111, 103]⟩ : ByteArray)] from rfl) (Reps.one (show Kd.M Kd.string _ _ _ (⟨#[109, 97, 110]⟩ : ByteArray) [.string (⟨#[109, 97, 110]⟩ : ByteArray)] from rfl) (Reps.one (show Kd.M Kd.string _ _ _ (⟨#[122, 57]⟩ : ByteArray) [.string (⟨#[122, 57]⟩ : ByteArray)] from rfl) (Reps.none _ _))))))); intro v553 w12 ho13 hb hg_ hnew_; clear hg_ hnew_; (first | rw [← Ny552.out] at ho13 | (simp only [Int.reduceToNat] at ho13; rw [← Ny552.out] at ho13)); have HO554 := Zh (R_lower ho13 (keep_size (w := w) (g := g) (row := none) (by repeat (first | (with_reducible first | exact HK.out | apply KeepBut.set_ | apply keep_drewN | apply keep_drew | apply keep_alloc) | exact HK.out)))); replace HK := Zh (KeepBut.trans (by repeat (first | (with_reducible first | exact HK.out | apply KeepBut.set_ | apply keep_drewN | apply keep_drew | apply keep_alloc) | exact HK.out)) (KeepBut.of_below hb g none) (.inl rfl)); replace HB := Zh (Zl (by repeat (first | (with_reducible first | exact HB.out | apply Zf | apply Zd | apply Ze | refine Zg ?_ (IsS108.ge HI0.out)) | exact HB.out)) hb); replace HI0 := Zh (IsS108.below (by repeat (first | (with_reducible first | exact HI0.out | apply IsS108.alloc | apply IsS108.drewN | apply IsS108.drew | apply IsS108.set_1 | apply IsS108.set_2) | exact HI0.out)) hb); clear hb ho13; obtain ⟨Ao14, co14, eo14⟩ := R_slice HO554.out; subst eo14) | ((with_reducible refine gate_callee (f := 108) rfl ?_); refine ZG (some 10) Tryd.func108 #[.pointer (some ⟨g, 0, none⟩), .slice Ao14 y552.length co14] rfl ?_; (with_reducible refine (spec_l01PickText.calls g s0_0 t544 t545 _ _ y552 t555 t556 t557 w0 _ ?side1 ?side2 ?side3 ?side4 ?side5 A10.out).mono ?_); (case side1 => repeat (first | (with_reducible first | exact HI0.out | apply IsS108.alloc | apply IsS108.drewN | apply IsS108.drew | apply IsS108.set_1 | apply IsS108.set_2) | exact HI0.out)); (case side2 => repeat (first | (with_reducible first | exact HB.out | apply Zf | apply Zd | apply Ze | refine Zg ?_ (IsS108.ge HI0.out)) | exact HB.out)); (case side3 => repeat (first | exact (R_reads' HO554.out).2.2 | (with_reducible refine C_alloc ?_ _) | (with_reducible refine C_drewN ?_ _) | (with_reducible refine C_drew ?_))); (case side4 => exact (R_reads' HO554.out).2.1); (case side5 => exact far_slice (IsS108.own_ne HI0.out HO554.out (by decide))); rintro e w15 ⟨rfl, hi, hb, hk⟩; refine ⟨_, rfl, ?_⟩; replace HO554 := Zh (R_mono (R_keep (IsS108.apart (show IsS108 w0 _ g s0_0 t544 t545 from by repeat (first | (with_reducible first | exact HI0.out | apply IsS108.alloc | apply IsS108.drewN | apply IsS108.drew | apply IsS108.set_1 | apply IsS108.set_2) | exact HI0.out)) (ZR HO554.out) (by decide)) hk (fun _ h => h.2)) (fun _ h => h.1)); replace HK := Zh (KeepBut.trans (by repeat (first | (with_reducible first | exact HK.out | apply KeepBut.set_ | apply keep_drewN | apply keep_drew | apply keep_alloc) | exact HK.out)) hk (.inl rfl)); replace HB := Zh (hb); replace HI0 := Zh (hi); (try clear hb); (try clear hb2); (try clear hk); (try clear hi)))
 go_ret
 exact ⟨ZE, by repeat (first | (with_reducible first | exact HI0.out | apply IsS108.alloc | apply IsS108.drewN | apply IsS108.drew | apply IsS108.set_1 | apply IsS108.set_2) | exact HI0.out), by repeat (first | (with_reducible first | exact HB.out | apply Zf | apply Zd | apply Ze | refine Zg ?_ (IsS108.ge HI0.out)) | exact HB.out), by repeat (first | (with_reducible first | exact HK.out | apply KeepBut.set_ | apply keep_drewN | apply keep_drew | apply keep_alloc) | exact HK.out)⟩
def spec_l01DrawBytes.l0 : Nat → Int → List Int → Int → List Int → Int → Int → Option (List Int × Int × Int)
 | 0, _, _, _, _, _, _ => none
 | k + 1, x1, x5, x6, x1000, x1001, x1002 => if x6 < x1 then ((spec_l01Below.f x1000 x1001 x1002 256).bind fun bt561 => ((spec_l01Below.f x1000 bt561.2.1 bt561.2.2 256).bind fun bt564 => ((spec_l01PickInt.f x1000 bt564.2.1 bt564.2.2 (([0, 1, 255, 128, bt561.1, bt564.1] : List Int))).bind fun bt570 => (if x5.length < 140737488355328 then (spec_l01DrawBytes.l0 k x1 (x5 ++ [(bt570.1) % 256]) (wrap64 (x6 + 1)) x1000 bt570.2.1 bt570.2.2) else (none))))) else (some (x5, x1001, x1002))
def spec_l01DrawBytes.f (k : Nat) (s0_0 : List Int) (s0_1 : Int) (s0_2 : Int) (a1 : Int) : Option (List Int × Int × Int) := spec_l01DrawBytes.l0 k a1 (([] : List Int)) 0 s0_0 s0_1 s0_2
set_option maxHeartbeats 8000000 in
set_option maxRecDepth 100000 in
theorem spec_l01DrawBytes.calls (k : Nat) (g : Nat) (s0_0 : List Int) (s0_1 : Int) (s0_2 : Int) (a1 : Int) (r1 : List Int) (r2 : Int) (r3 : Int) (w0 w : World) (hI : IsS108 w0 w g s0_0 s0_1 s0_2) (hB : Below w0.heap.size w0 w) (h : spec_l01DrawBytes.f k s0_0 s0_1 s0_2 a1 = some (r1, r2, r3)) :
  Calls Tryd.prog 103 #[.pointer (some ⟨g, 0, none⟩), .int .i64 a1] w fun e w' => ∃ v0_ : Value, e = .returned (v0_) ∧ Kd.R (Kd.int .u8) 5 w' w.heap.size (fun _ => True) v0_ r1 ∧ IsS108 w0 w' g s0_0 r2 r3 ∧ Below w0.heap.size w0 w' ∧ KeepBut w w' g none := by
 have HI0 := Zh hI
 have HK := Zh (KeepBut.refl w g none)
 have HL := Zh hB.size
 clear hI
 have HW0 := Zh hB.size
 have HB := Zh hB
 clear hB
 have H : (spec_l01DrawBytes.l0 k a1 (([] : List Int)) 0 s0_0 s0_1 s0_2) = some (r1, r2, r3) := h
 clear h
 obtain ⟨y558, hy558⟩ : ∃ y_ : List Int, y_ = (([] : List Int)) := ⟨_, rfl⟩
 replace H : (spec_l01DrawBytes.l0 k a1 y558 0 s0_0 s0_1 s0_2) = some (r1, r2, r3) := by first | (rw [hy558]; with_reducible exact H) | (have H2_ := (Option.bind_some _ _).symm.trans H; rw [hy558]; with_reducible exact H2_) | (have H2_ := (Option.bind_some _ _).symm.trans H; with_reducible exact H2_) | with_reducible exact H | (rw [hy558]; exact H) | exact H
 have Ny558 := Zh hy558
 clear hy558
 have H' := Zh H
 clear H
 go_enter Tryd.func103, Tryd.ntmps103
 go_wp2_with (first | ((with_reducible refine gate_dst (N := 7) rfl ?_); refine R_lit (Kd.int .u8) _ 5 ?hg (N := 7) ?hd (xs := ([] : List Int)) (inner := []) (ok := fun _ => True) (okp := fun _ => True) ?hr ?hp (fun _ hk => hk) trivial (Below.refl _ _) (Nat.le_refl _) (by simp) ?_; (case hd => rfl); (case hg => rfl); (case hr => first | (go_simp; done) | (go_simp; rfl)); (case hp => exact (Reps.none _ _)); intro v559 w3 ho4 hb hg_ hnew_; clear hg_ hnew_; (first | rw [← Ny558.out] at ho4 | (simp only [Int.reduceToNat] at ho4; rw [← Ny558.out] at ho4)); have HO560 := Zh (R_lower ho4 (keep_size (w := w) (g := g) (row := none) (by repeat (first | (with_reducible first | exact HK.out | apply KeepBut.set_ | apply keep_drewN | apply keep_drew | apply keep_alloc) | exact HK.out)))); replace HK := Zh (KeepBut.trans (by repeat (first | (with_reducible first | exact HK.out | apply KeepBut.set_ | apply keep_drewN | apply keep_drew | apply keep_alloc) | exact HK.out)) (KeepBut.of_below hb g none) (.inl rfl)); replace HB := Zh (Zl (by repeat (first | (with_reducible first | exact HB.out | apply Zf | apply Zd | apply Ze | refine Zg ?_ (IsS108.ge HI0.out)) | exact HB.out)) hb); replace HI0 := Zh (IsS108.below (by repeat (first | (with_reducible first | exact HI0.out | apply IsS108.alloc | apply IsS108.drewN | apply IsS108.drew | apply IsS108.set_1 | apply IsS108.set_2) | exact HI0.out)) hb); clear hb ho4))
 go_loopg [5, 6] k (fun kq v5 v6 w' => ∃ (x5_1 : List Int) (x6_1 : Int) (x1001_1 : Int) (x1002_1 : Int), v6 = .int .i64 x6_1 ∧ Aside0 (spec_l01DrawBytes.l0 kq a1 x5_1 x6_1 s0_0 x1001_1 x1002_1 = some (r1, r2, r3)) ∧ Aside0 (kq ≤ k) ∧ Aside0 (Kd.R (Kd.int .u8) 5 w' w.heap.size (fun _ => True) v5 x5_1) ∧ Aside0 (IsS108 w0 w' g s0_0 x1001_1 x1002_1) ∧ Aside0 (KeepBut w w' g none) ∧ Aside0 (Below w0.heap.size w0 w'))
 case atStart => exact ⟨(y558), (0), (s0_1), (s0_2), (by first | rfl | (simp; done) | (simp [*]; done)), H', ⟨Nat.le_refl _⟩, ⟨ZR HO560.out⟩, ⟨by repeat (first | (with_reducible first | exact HI0.out | apply IsS108.alloc | apply IsS108.drewN | apply IsS108.drew | apply IsS108.set_1 | apply IsS108.set_2) | exact HI0.out)⟩, ⟨by repeat (first | (with_reducible first | exact HK.out | apply KeepBut.set_ | apply keep_drewN | apply keep_drew | apply keep_alloc) | exact HK.out)⟩, ⟨by repeat (first | (with_reducible first | exact HB.out | apply Zf | apply Zd | apply Ze | refine Zg ?_ (IsS108.ge HI0.out)) | exact HB.out)⟩⟩
 case round =>
  clear H'
  try clear c1
  try clear p2
  obtain ⟨x5_1, x6_1, x1001_1, x1002_1, rfl, HA, HK1, HO_5, HI0, HK, HB⟩ := hrel
  cases gk with
  | zero => exact absurd HA.out (by simp [spec_l01DrawBytes.l0])
  | succ k1 =>
   have H := HA.out
   clear HA
   simp only [spec_l01DrawBytes.l0] at H
   by_cases c5 : x6_1 < a1
   ·
    rw [if_pos c5] at H
    have c5b0 : decide (x6_1 < a1) = true := decide_eq_true c5
    clear c5
    replace H := Option.bind_eq_some_iff.mp H
    obtain ⟨⟨t561, t562, t563⟩, A60, H⟩ := H
    replace H : ((spec_l01Below.f s0_0 t562 t563 256).bind fun bt564 => ((spec_l01PickInt.f s0_0 bt564.2.1 bt564.2.2 (([0, 1, 255, 128, t561, bt564.1] : List Int))).bind fun bt570 => (if x5_1.length < 140737488355328 then (spec_l01DrawBytes.l0 k1 a1 (x5_1 ++ [(bt570.1) % 256]) (wrap64 (x6_1 + 1)) s0_0 bt570.2.1 bt570.2.2) else (none)))) = some (r1, r2, r3) := H
    have A6 := Zh A60
    clear A60
    replace H := Option.bind_eq_some_iff.mp H
    obtain ⟨⟨t564, t565, t566⟩, A70, H⟩ := H
    replace H : ((spec_l01PickInt.f s0_0 t565 t566 (([0, 1, 255, 128, t561, t564] : List Int))).bind fun bt570 => (if x5_1.length < 140737488355328 then (spec_l01DrawBytes.l0 k1 a1 (x5_1 ++ [(bt570.1) % 256]) (wrap64 (x6_1 + 1)) s0_0 bt570.2.1 bt570.2.2) else (none))) = some (r1, r2, r3) := H
    have A7 := Zh A70
    clear A70
    obtain ⟨y567, hy567⟩ : ∃ y_ : List Int, y_ = (([0, 1, 255, 128, t561, t564] : List Int)) := ⟨_, rfl⟩
    replace H : ((spec_l01PickInt.f s0_0 t565 t566 y567).bind fun bt570 => (if x5_1.length < 140737488355328 then (spec_l01DrawBytes.l0 k1 a1 (x5_1 ++ [(bt570.1) % 256]) (wrap64 (x6_1 + 1)) s0_0 bt570.2.1 bt570.2.2) else (none))) = some (r1, r2, r3) := by first | (rw [hy567]; with_reducible exact H) | (have H2_ := (Option.bind_some _ _).symm.trans H; rw [hy567]; with_reducible exact H2_) | (have H2_ := (Option.bind_some _ _).symm.trans H; with_reducible exact H2_) | with_reducible exact H | (rw [hy567]; exact H) | exact H
    have Ny567 := Zh hy567
    clear hy567
    replace H := Option.bind_eq_some_iff.mp H
    obtain ⟨⟨t570, t571, t572⟩, A80, H⟩ := H
    replace H : (if x5_1.length < 140737488355328 then (spec_l01DrawBytes.l0 k1 a1 (x5_1 ++ [(t570) % 256]) (wrap64 (x6_1 + 1)) s0_0 t571 t572) else (none)) = some (r1, r2, r3) := H
    have A8 := Zh A80
    clear A80
    by_cases c9 : x5_1.length < 140737488355328
    ·
     rw [if_pos c9] at H
     have LMc9 := Zh c9
     clear c9
     obtain ⟨y573, hy573⟩ : ∃ y_ : List Int, y_ = (x5_1 ++ [(t570) % 256]) := ⟨_, rfl⟩
     replace H : (spec_l01DrawBytes.l0 k1 a1 y573 (wrap64 (x6_1 + 1)) s0_0 t571 t572) = some (r1, r2, r3) := by first | (rw [hy573]; with_reducible exact H) | (have H2_ := (Option.bind_some _ _).symm.trans H; rw [hy573]; with_reducible exact H2_) | (have H2_ := (Option.bind_some _ _).symm.trans H; with_reducible exact H2_) | with_reducible exact H | (rw [hy573]; exact H) | exact H
     have Ny573 := Zh hy573
     clear hy573
     have H' := Zh H
     clear H
     go_wp2_with (first | ((with_reducible refine gate_callee (f := 99) rfl ?_); refine ZG (some 16) Tryd.func99 #[.pointer (some ⟨g, 0, none⟩), .int .i64 256] rfl ?_; (with_reducible refine (spec_l01Below.calls g s0_0 x1001_1 x1002_1 256 t561 t562 t563 w0 _ ?side1 ?side2 A6.out).mono ?_); (case side1 => repeat (first | (with_reducible first | exact HI0.out | apply IsS108.alloc | apply IsS108.drewN | apply IsS108.drew | apply IsS108.set_1 | apply IsS108.set_2) | exact HI0.out)); (case side2 => repeat (first | (with_reducible first | exact HB.out | apply Zf | apply Zd | apply Ze | refine Zg ?_ (IsS108.ge HI0.out)) | exact HB.out)); rintro e w10 ⟨rfl, hi, hb, hk⟩; refine ⟨_, rfl, ?_⟩; replace HO_5 := Zh (R_mono (R_keep (IsS108.apart (show IsS108 w0 _ g s0_0 x1001_1 x1002_1 from by repeat (first | (with_reducible first | exact HI0.out | apply IsS108.alloc | apply IsS108.drewN | apply IsS108.drew | apply IsS108.set_1 | apply IsS108.set_2) | exact HI0.out)) (ZR HO_5.out) (by decide)) hk (fun _ h => h.2)) (fun _ h => h.1)); replace HK := Zh (KeepBut.trans (by repeat (first | (with_reducible first | exact HK.out | apply KeepBut.set_ | apply keep_drewN | apply keep_drew | apply keep_alloc) | exact HK.out)) hk (.inl rfl)); replace HB := Zh (hb); replace HI0 := Zh (hi); (try clear hb); (try clear hb2); (try clear hk); (try clear hi)) | ((with_reducible refine gate_callee (f := 99) rfl ?_); refine ZG (some 18) Tryd.func99 #[.pointer (some ⟨g, 0, none⟩), .int .i64 256] rfl ?_; (with_reducible refine (spec_l01Below.calls g s0_0 t562 t563 256 t564 t565 t566 w0 _ ?side1 ?side2 A7.out).mono ?_); (case side1 => repeat (first | (with_reducible first | exact HI0.out | apply IsS108.alloc | apply IsS108.drewN | apply IsS108.drew | apply IsS108.set_1 | apply IsS108.set_2) | exact HI0.out)); (case side2 => repeat (first | (with_reducible first | exact HB.out | apply Zf | apply Zd | apply Ze | refine Zg ?_ (IsS108.ge HI0.out)) | exact HB.out)); rintro e w11 ⟨rfl, hi, hb, hk⟩; refine ⟨_, rfl, ?_⟩; replace HO_5 := Zh (R_mono (R_keep (IsS108.apart (show IsS108 w0 _ g s0_0 t562 t563 from by repeat (first | (with_reducible first | exact HI0.out | apply IsS108.alloc | apply IsS108.drewN | apply IsS108.drew | apply IsS108.set_1 | apply IsS108.set_2) | exact HI0.out)) (ZR HO_5.out) (by decide)) hk (fun _ h => h.2)) (fun _ h => h.1)); replace HK := Zh (KeepBut.trans (by repeat (first | (with_reducible first | exact HK.out | apply KeepBut.set_ | apply keep_drewN | apply keep_drew | apply keep_alloc) | exact HK.out)) hk (.inl rfl)); replace HB := Zh (hb); replace HI0 := Zh (hi); (try clear hb); (try clear hb2); (try clear hk); (try clear hi)) | ((with_reducible refine gate_dst (N := 19) rfl ?_); refine R_lit (Kd.int .i64) _ 3 ?hg (N := 19) ?hd (xs := ([0, 1, 255, 128, t561, t564] : List Int)) (inner := [.int .i64 0, .int .i64 1, .int .i64 255, .int .i64 128, .int .i64 t561, .int .i64 t564]) (ok := fun _ => True) (okp := fun _ => True) ?hr ?hp (fun _ hk => hk) trivial (Below.refl _ _) (Nat.le_refl _) (by simp) ?_; (case hd => rfl); (case hg => rfl); (case hr => first | (go_simp; done) | (go_simp; rfl)); (case hp => exact (Reps.one (show Kd.M (Kd.int .i64) _ _ _ 0 [.int .i64 0] from rfl) (Reps.one (show Kd.M (Kd.int .i64) _ _ _ 1 [.int .i64 1] from rfl) (Reps.one (show Kd.M (Kd.int .i64) _ _ _ 255 [.int .i64 255] from rfl) (Reps.one (show Kd.M (Kd.int .i64) _ _ _ 128 [.int .i64 128] from rfl) (Reps.one (show Kd.M (Kd.int .i64) _ _ _ t561 [.int .i64 t561] from rfl) (Reps.one (show Kd.M (Kd.int .i64) _ _ _ t564 [.int .i64 t564] from rfl) (Reps.none _ _)))))))); intro v568 w12 ho13 hb hg_ hnew_; clear hg_ hnew_; (first | rw [← Ny567.out] at ho13 | (simp only [Int.reduceToNat] at ho13; rw [← Ny567.out] at ho13)); replace HO_5 := Zh (R_below (ZR HO_5.out) hb); have HO569 := Zh (R_lower ho13 (keep_size (w := w) (g := g) (row := none) (by repeat (first | (with_reducible first | exact HK.out | apply KeepBut.set_ | apply keep_drewN | apply keep_drew | apply keep_alloc) | exact HK.out)))); replace HK := Zh (KeepBut.trans (by repeat (first | (with_reducible first | exact HK.out | apply KeepBut.set_ | apply keep_drewN | apply keep_drew | apply keep_alloc) | exact HK.out)) (KeepBut.of_below hb g none) (.inl rfl)); replace HB := Zh (Zl (by repeat (first | (with_reducible first | exact HB.out | apply Zf | apply Zd | apply Ze | refine Zg ?_ (IsS108.ge HI0.out)) | exact HB.out)) hb); replace HI0 := Zh (IsS108.below (by repeat (first | (with_reducible first | exact HI0.out | apply IsS108.alloc | apply IsS108.drewN | apply IsS108.drew | apply IsS108.set_1 | apply IsS108.set_2) | exact HI0.out)) hb); clear hb ho13; obtain ⟨Ao14, co14, eo14⟩ := R_slice HO569.out; subst eo14) | ((with_reducible refine gate_callee (f := 101) rfl ?_); refine ZG (some 20) Tryd.func101 #[.pointer (some ⟨g, 0, none⟩), .slice Ao14 y567.length co14] rfl ?_; (with_reducible refine (spec_l01PickInt.calls g s0_0 t565 t566 _ _ y567 t570 t571 t572 w0 _ ?side1 ?side2 ?side3 ?side4 ?side5 A8.out).mono ?_); (case side1 => repeat (first | (with_reducible first | exact HI0.out | apply IsS108.alloc | apply IsS108.drewN | apply IsS108.drew | apply IsS108.set_1 | apply IsS108.set_2) | exact HI0.out)); (case side2 => repeat (first | (with_reducible first | exact HB.out | apply Zf | apply Zd | apply Ze | refine Zg ?_ (IsS108.ge HI0.out)) | exact HB.out)); (case side3 => repeat (first | exact (R_reads' HO569.out).2.2 | (with_reducible refine C_alloc ?_ _) | (with_reducible refine C_drewN ?_ _) | (with_reducible refine C_drew ?_))); (case side4 => exact (R_reads' HO569.out).2.1); (case side5 => exact far_slice (IsS108.own_ne HI0.out HO569.out (by decide))); rintro e w15 ⟨rfl, hi, hb, hk⟩; refine ⟨_, rfl, ?_⟩; replace HO_5 := Zh (R_mono (R_keep (IsS108.apart (show IsS108 w0 _ g s0_0 t565 t566 from by repeat (first | (with_reducible first | exact HI0.out | apply IsS108.alloc | apply IsS108.drewN | apply IsS108.drew | apply IsS108.set_1 | apply IsS108.set_2) | exact HI0.out)) (ZR HO_5.out) (by decide)) hk (fun _ h => h.2)) (fun _ h => h.1)); replace HO569 := Zh (R_mono (R_keep (IsS108.apart (show IsS108 w0 _ g s0_0 t565 t566 from by repeat (first | (with_reducible first | exact HI0.out | apply IsS108.alloc | apply IsS108.drewN | apply IsS108.drew | apply IsS108.set_1 | apply IsS108.set_2) | exact HI0.out)) (ZR HO569.out) (by decide)) hk (fun _ h => h.2)) (fun _ h => h.1)); replace HK := Zh (KeepBut.trans (by repeat (first | (with_reducible first | exact HK.out | apply KeepBut.set_ | apply keep_drewN | apply keep_drew | apply keep_alloc) | exact HK.out)) hk (.inl rfl)); replace HB := Zh (hb); replace HI0 := Zh (hi); (try clear hb); (try clear hb2); (try clear hk); (try clear hi)) | ((with_reducible refine gate_builtin (b := .append) (xs := #[.tmp 13, .tmp 22]) rfl ?_); at_builtin; refine R_append (Kd.int .u8) w.heap.size rfl (.tmp 13) (.tmp 22) 33 5 (.int .u8 0) 1 rfl Tryd.underlying33 info5 rfl (by decide) (by omega) u5 x5_1 ((t570) % 256) [.int .u8 ((t570) % 256)] (fun _ => True) (fun _ => False) rfl rfl ?aP (fun _ hk => hk.elim) ?aF ?aO (Below.refl _ _) ?aS ?aL ?_; (case aP => exact rfl); (case aF => exact (fun _ _ => trivial)); (case aO => exact (ZR HO_5.out)); (case aS => exact (keep_size (w := w) (g := g) (row := none) (by repeat (first | (with_reducible first | exact HK.out | apply KeepBut.set_ | apply keep_drewN | apply keep_drew | apply keep_alloc) | exact HK.out)))); (case aL => have := LMc9.out; omega); intro v574 w16 ho hb hg hat; rw [← Ny573.out] at ho; have n0_ := Zh (IsS108.grown (show IsS108 w0 _ g s0_0 t571 t572 from by repeat (first | (with_reducible first | exact HI0.out | apply IsS108.alloc | apply IsS108.drewN | apply IsS108.drew | apply IsS108.set_1 | apply IsS108.set_2) | exact HI0.out)) hg (IsS108.own_ne HI0.out HO_5.out (by decide))); have n1_ := Zh (R_over' (ZR HO569.out) (R_typed (ZR HO_5.out)) (by decide) hg); have n2_ := Zh (below_weaken (by repeat (first | (with_reducible first | exact HB.out | apply Zf | apply Zd | apply Ze | refine Zg ?_ (IsS108.ge HI0.out)) | exact HB.out)) HL.out hb); have n3_ := Zh (KeepBut.trans (by repeat (first | (with_reducible first | exact HK.out | apply KeepBut.set_ | apply keep_drewN | apply keep_drew | apply keep_alloc) | exact HK.out)) (KeepBut.of_grown hg g) (R_base2 HO_5.out)); have n4_ := Zh (ho); clear HI0; clear HO569; clear HB; clear HK; clear HO_5; have HI0 := n0_; have HO569 := n1_; have HB := n2_; have HK := n3_; have HO575 := n4_; clear n0_ n1_ n2_ n3_ n4_; clear ho hb hg hat))
     go_roundg k1
     case measure => have := HK1.out; omega
     case rel => exact ⟨(y573), (wrap64 (x6_1 + 1)), (t571), (t572), (by first | rfl | (simp; done) | (simp [*]; done)), H', ⟨by have := HK1.out; omega⟩, ⟨ZR HO575.out⟩, ⟨by repeat (first | (with_reducible first | exact HI0.out | apply IsS108.alloc | apply IsS108.drewN | apply IsS108.drew | apply IsS108.set_1 | apply IsS108.set_2) | exact HI0.out)⟩, ⟨by repeat (first | (with_reducible first | exact HK.out | apply KeepBut.set_ | apply keep_drewN | apply keep_drew | apply keep_alloc) | exact HK.out)⟩, ⟨by repeat (first | (with_reducible first | exact HB.out | apply Zf | apply Zd | apply Ze | refine Zg ?_ (IsS108.ge HI0.out)) | exact HB.out)⟩⟩
    rw [if_neg c9] at H
    exact absurd H (by simp)
   rw [if_neg c5] at H
   have c5b0 : decide (x6_1 < a1) = false := decide_eq_false c5
   clear c5
   simp only [Option.some.injEq, Prod.mk.injEq] at H
   obtain ⟨rfl, rfl, rfl⟩ := H
   go_wp2
   go_ret
   exact ⟨_, ZE, ZR HO_5.out, by repeat (first | (with_reducible first | exact HI0.out | apply IsS108.alloc | apply IsS108.drewN | apply IsS108.drew | apply IsS108.set_1 | apply IsS108.set_2) | exact HI0.out), by repeat (first | (with_reducible first | exact HB.out | apply Zf | apply Zd | apply Ze | refine Zg ?_ (IsS108.ge HI0.out)) | exact HB.out), by repeat (first | (with_reducible first | exact HK.out | apply KeepBut.set_ | apply keep_drewN | apply keep_drew | apply keep_alloc) | exact HK.out)⟩
def spec_l03DrawOps.l0 : Nat → List (S71) → Int → List Int → Int → Int → Option ((List (S71)) × Int × Int)
 | 0, _, _, _, _, _ => none
 | k + 1, x5, x6, x1000, x1001, x1002 => if x6 > 0 then ((spec_l01Below.f x1000 x1001 x1002 7).bind fun bt583 => ((spec_l01PickInt.f x1000 bt583.2.1 bt583.2.2 (([0, 0, 0, 1, 1, 2, 3, 4, wrap64 (bt583.1 - 1)] : List Int))).bind fun bt589 => ((spec_l03DrawName.f x1000 bt589.2.1 bt589.2.2).bind fun bt593 => ((spec_l03DrawName.f x1000 bt593.2.1 bt593.2.2).bind fun bt596 => ((spec_l01Below.f x1000 bt596.2.1 bt596.2.2 5).bind fun bt599 => ((spec_l01DrawBytes.f k x1000 bt599.2.1 bt599.2.2 bt599.1).bind fun bt602 => ((spec_l01Below.f x1000 bt602.2.1 bt602.2.2 8).bind fun bt607 => (if x5.length < 1954687338268 then (spec_l03DrawOps.l0 k (x5 ++ [(⟨bt589.1, bt593.1, bt596.1, bt602.1, wrap64 (bt607.1 - 1)⟩ : S71)]) (wrap64 (x6 - 1)) x1000 bt607.2.1 bt607.2.2) else (none))))))))) else (some (x5, x1001, x1002))
def spec_l03DrawOps.f (k : Nat) (s0_0 : List Int) (s0_1 : Int) (s0_2 : Int) (l1 : List Int) : Option ((List (S71)) × Int × Int) := (spec_l01Size.f l1 14).bind fun t579 => ((spec_l01Below.f s0_0 s0_1 s0_2 (wrap64 (2 + t579))).bind fun bt580 => (spec_l03DrawOps.l0 k (([] : List (S71))) bt580.1 s0_0 bt580.2.1 bt580.2.2))
set_option maxHeartbeats 8000000 in
set_option maxRecDepth 100000 in
theorem spec_l03DrawOps.calls (k : Nat) (g : Nat) (s0_0 : List Int) (s0_1 : Int) (s0_2 : Int) (A1 : Option Addr) (c1 : Nat) (l1 : List Int) (r1 : List (S71)) (r2 : Int) (r3 : Int) (w0 w : World) (hI : IsS108 w0 w g s0_0 s0_1 s0_2) (hB : Below w0.heap.size w0 w) (hr1 : Kd.C (Kd.int .u8) w A1 l1.length l1) (hc1 : l1.length ≤ c1) (hf1 : ∀ ad, A1 = some ad → 0 < l1.length → ad.block ≠ g) (h : spec_l03DrawOps.f k s0_0 s0_1 s0_2 l1 = some (r1, r2, r3)) :
  Calls Tryd.prog 86 #[.pointer (some ⟨g, 0, none⟩), .slice A1 l1.length c1] w fun e w' => ∃ v0_ : Value, e = .returned (v0_) ∧ Kd.S k71 71 w' w.heap.size (fun _ => True) v0_ r1 ∧ IsS108 w0 w' g s0_0 r2 r3 ∧ Below w0.heap.size w0 w' ∧ KeepBut w w' g none := by
 have hu71 := Tryd.underlying71
 have HR1 := Zh hr1
 have HC1 := Zh hc1
 clear hr1 hc1
 have HI0 := Zh hI
 have HK := Zh (KeepBut.refl w g none)
 have HL := Zh hB.size
 clear hI
 have HW0 := Zh hB.size
 have HB := Zh hB
 clear hB
 have H : ((spec_l01Size.f l1 14).bind fun t579 => ((spec_l01Below.f s0_0 s0_1 s0_2 (wrap64 (2 + t579))).bind fun bt580 => (spec_l03DrawOps.l0 k (([] : List (S71))) bt580.1 s0_0 bt580.2.1 bt580.2.2))) = some (r1, r2, r3) := h
 clear h
 obtain ⟨y576, hy576⟩ : ∃ y_ : List (S71), y_ = (([] : List (S71))) := ⟨_, rfl⟩
 replace H : ((spec_l01Size.f l1 14).bind fun t579 => ((spec_l01Below.f s0_0 s0_1 s0_2 (wrap64 (2 + t579))).bind fun bt580 => (spec_l03DrawOps.l0 k y576 bt580.1 s0_0 bt580.2.1 bt580.2.2))) = some (r1, r2, r3) := by first | (rw [hy576]; with_reducible exact H) | (have H2_ := (Option.bind_some _ _).symm.trans H; rw [hy576]; with_reducible exact H2_) | (have H2_ := (Option.bind_some _ _).symm.trans H; with_reducible exact H2_) | with_reducible exact H | (rw [hy576]; exact H) | exact H
 have Ny576 := Zh hy576
 clear hy576
 replace H := Option.bind_eq_some_iff.mp H
 obtain ⟨t579, A30, H⟩ := H
 replace H : ((spec_l01Below.f s0_0 s0_1 s0_2 (wrap64 (2 + t579))).bind fun bt580 => (spec_l03DrawOps.l0 k y576 bt580.1 s0_0 bt580.2.1 bt580.2.2)) = some (r1, r2, r3) := H
 have A3 := Zh A30
 clear A30
 replace H := Option.bind_eq_some_iff.mp H
 obtain ⟨⟨t580, t581, t582⟩, A40, H⟩ := H
 replace H : (spec_l03DrawOps.l0 k y576 t580 s0_0 t581 t582) = some (r1, r2, r3) := H
 have A4 := Zh A40
 clear A40
 have H' := Zh H
 clear H
 go_enter Tryd.func86, Tryd.ntmps86
 go_wp2_with (first | ((with_reducible refine gate_dst (N := 8) rfl ?_); refine S_lit k71 _ 71 ?hg (N := 8) ?hd (xs := ([] : List (S71))) (inner := []) (ok := fun _ => True) (okp := fun _ => True) ?hr ?hp (fun _ hk => hk) trivial (Below.refl _ _) (Nat.le_refl _) (by simp) ?_; (case hd => rfl); (case hg => rfl); (case hr => first | (go_simp; done) | (go_simp; rfl)); (case hp => exact (Reps.none _ _)); intro v577 w5 ho6 hb hg_ hnew_; clear hg_ hnew_; (first | rw [← Ny576.out] at ho6 | (simp only [Int.reduceToNat] at ho6; rw [← Ny576.out] at ho6)); have HO578 := Zh (S_lower ho6 (keep_size (w := w) (g := g) (row := none) (by repeat (first | (with_reducible first | exact HK.out | apply KeepBut.set_ | apply keep_drewN | apply keep_drew | apply keep_alloc) | exact HK.out)))); replace HK := Zh (KeepBut.trans (by repeat (first | (with_reducible first | exact HK.out | apply KeepBut.set_ | apply keep_drewN | apply keep_drew | apply keep_alloc) | exact HK.out)) (KeepBut.of_below hb g none) (.inl rfl)); replace HB := Zh (Zl (by repeat (first | (with_reducible first | exact HB.out | apply Zf | apply Zd | apply Ze | refine Zg ?_ (IsS108.ge HI0.out)) | exact HB.out)) hb); replace HI0 := Zh (IsS108.below (by repeat (first | (with_reducible first | exact HI0.out | apply IsS108.alloc | apply IsS108.drewN | apply IsS108.drew | apply IsS108.set_1 | apply IsS108.set_2) | exact HI0.out)) hb); clear hb ho6) | ((with_reducible refine gate_callee (f := 100) rfl ?_); refine ZG (some 11) Tryd.func100 #[.slice A1 l1.length c1, .int .i64 14] rfl ?_; (with_reducible refine (spec_l01Size.calls _ _ l1 14 t579 _ ?side1 ?side2 A3.out).mono ?_); (case side1 => exact C_keep 0 HR1.out (by repeat (first | (with_reducible first | exact HK.out | apply KeepBut.set_ | apply keep_drewN | apply keep_drew | apply keep_alloc) | exact HK.out)) hf1); (case side2 => exact HC1.out); rintro e w' ⟨rfl, ⟨nd, rfl⟩⟩; refine ⟨_, rfl, ?_⟩) | ((with_reducible refine gate_callee (f := 99) rfl ?_); refine ZG (some 13) Tryd.func99 #[.pointer (some ⟨g, 0, none⟩), .int .i64 (wrap64 (2 + t579))] rfl ?_; (with_reducible refine (spec_l01Below.calls g s0_0 s0_1 s0_2 (wrap64 (2 + t579)) t580 t581 t582 w0 _ ?side1 ?side2 A4.out).mono ?_); (case side1 => repeat (first | (with_reducible first | exact HI0.out | apply IsS108.alloc | apply IsS108.drewN | apply IsS108.drew | apply IsS108.set_1 | apply IsS108.set_2) | exact HI0.out)); (case side2 => repeat (first | (with_reducible first | exact HB.out | apply Zf | apply Zd | apply Ze | refine Zg ?_ (IsS108.ge HI0.out)) | exact HB.out)); rintro e w7 ⟨rfl, hi, hb, hk⟩; refine ⟨_, rfl, ?_⟩; replace HO578 := Zh (S_mono (S_keep (IsS108.apartS (show IsS108 w0 _ g s0_0 s0_1 s0_2 from by repeat (first | (with_reducible first | exact HI0.out | apply IsS108.alloc | apply IsS108.drewN | apply IsS108.drew | apply IsS108.set_1 | apply IsS108.set_2) | exact HI0.out)) (ZS HO578.out) (by decide)) hk (fun _ h => h.2)) (fun _ h => h.1)); replace HK := Zh (KeepBut.trans (by repeat (first | (with_reducible first | exact HK.out | apply KeepBut.set_ | apply keep_drewN | apply keep_drew | apply keep_alloc) | exact HK.out)) hk (.inl rfl)); replace HB := Zh (hb); replace HI0 := Zh (hi); (try clear hb); (try clear hb2); (try clear hk); (try clear hi)))
 go_loopg [5, 6] k (fun kq v5 v6 w' => ∃ (x5_1 : List (S71)) (x6_1 : Int) (x1001_1 : Int) (x1002_1 : Int), v6 = .int .i64 x6_1 ∧ Aside0 (spec_l03DrawOps.l0 kq x5_1 x6_1 s0_0 x1001_1 x1002_1 = some (r1, r2, r3)) ∧ Aside0 (kq ≤ k) ∧ Aside0 (Kd.S k71 71 w' w.heap.size (fun _ => True) v5 x5_1) ∧ Aside0 (IsS108 w0 w' g s0_0 x1001_1 x1002_1) ∧ Aside0 (KeepBut w w' g none) ∧ Aside0 (Below w0.heap.size w0 w'))
 case atStart => exact ⟨(y576), (t580), (t581), (t582), (by first | rfl | (simp; done) | (simp [*]; done)), H', ⟨Nat.le_refl _⟩, ⟨ZS HO578.out⟩, ⟨by repeat (first | (with_reducible first | exact HI0.out | apply IsS108.alloc | apply IsS108.drewN | apply IsS108.drew | apply IsS108.set_1 | apply IsS108.set_2) | exact HI0.out)⟩, ⟨by repeat (first | (with_reducible first | exact HK.out | apply KeepBut.set_ | apply keep_drewN | apply keep_drew | apply keep_alloc) | exact HK.out)⟩, ⟨by repeat (first | (with_reducible first | exact HB.out | apply Zf | apply Zd | apply Ze | refine Zg ?_ (IsS108.ge HI0.out)) | exact HB.out)⟩⟩
 case round =>
  clear H'
  try clear c1
  try clear p2
  try clear p6
  obtain ⟨x5_1, x6_1, x1001_1, x1002_1, rfl, HA, HK1, HO_5, HI0, HK, HB⟩ := hrel
  cases gk with
  | zero => exact absurd HA.out (by simp [spec_l03DrawOps.l0])
  | succ k1 =>
   have H := HA.out
   clear HA
   simp only [spec_l03DrawOps.l0] at H
   by_cases c8 : x6_1 > 0
   ·
    rw [if_pos c8] at H
    have c8b0 : decide (0 < x6_1) = true := decide_eq_true c8
    clear c8
    replace H := Option.bind_eq_some_iff.mp H
    obtain ⟨⟨t583, t584, t585⟩, A90, H⟩ := H
    replace H : ((spec_l01PickInt.f s0_0 t584 t585 (([0, 0, 0, 1, 1, 2, 3, 4, wrap64 (t583 - 1)] : List Int))).bind fun bt589 => ((spec_l03DrawName.f s0_0 bt589.2.1 bt589.2.2).bind fun bt593 => ((spec_l03DrawName.f s0_0 bt593.2.1 bt593.2.2).bind fun bt596 => ((spec_l01Below.f s0_0 bt596.2.1 bt596.2.2 5).bind fun bt599 => ((spec_l01DrawBytes.f k1 s0_0 bt599.2.1 bt599.2.2 bt599.1).bind fun bt602 => ((spec_l01Below.f s0_0 bt602.2.1 bt602.2.2 8).bind fun bt607 => (if x5_1.length < 1954687338268 then (spec_l03DrawOps.l0 k1 (x5_1 ++ [(⟨bt589.1, bt593.1, bt596.1, bt602.1, wrap64 (bt607.1 - 1)⟩ : S71)]) (wrap64 (x6_1 - 1)) s0_0 bt607.2.1 bt607.2.2) else (none)))))))) = some (r1, r2, r3) := H
    have A9 := Zh A90
    clear A90
    obtain ⟨y586, hy586⟩ : ∃ y_ : List Int, y_ = (([0, 0, 0, 1, 1, 2, 3, 4, wrap64 (t583 - 1)] : List Int)) := ⟨_, rfl⟩
    replace H : ((spec_l01PickInt.f s0_0 t584 t585 y586).bind fun bt589 => ((spec_l03DrawName.f s0_0 bt589.2.1 bt589.2.2).bind fun bt593 => ((spec_l03DrawName.f s0_0 bt593.2.1 bt593.2.2).bind fun bt596 => ((spec_l01Below.f s0_0 bt596.2.1 bt596.2.2 5).bind fun bt599 => ((spec_l01DrawBytes.f k1 s0_0 bt599.2.1 bt599.2.2 bt599.1).bind fun bt602 => ((spec_l01Below.f s0_0 bt602.2.1 bt602.2.2 8).bind fun bt607 => (if x5_1.length < 1954687338268 then (spec_l03DrawOps.l0 k1 (x5_1 ++ [(⟨bt589.1, bt593.1, bt596.1, bt602.1, wrap64 (bt607.1 - 1)⟩ : S71)]) (wrap64 (x6_1 - 1)) s0_0 bt607.2.1 bt607.2.2) else (none)))))))) = some (r1, r2, r3) := by first | (rw [hy586]; with_reducible exact H) | (have H2_ := (Option.bind_some _ _).symm.trans H; rw [hy586]; with_reducible exact H2_) | (have H2_ := (Option.bind_some _ _).symm.trans H; with_reducible exact H2_) | with_reducible exact H | (rw [hy586]; exact H) | exact H
    have Ny586 := Zh hy586
    clear hy586
    replace H := Option.bind_eq_some_iff.mp H
    obtain ⟨⟨t589, t590, t591⟩, A100, H⟩ := H
    replace H : ((spec_l03DrawName.f s0_0 t590 t591).bind fun bt593 => ((spec_l03DrawName.f s0_0 bt593.2.1 bt593.2.2).bind fun bt596 => ((spec_l01Below.f s0_0 bt596.2.1 bt596.2.2 5).bind fun bt599 => ((spec_l01DrawBytes.f k1 s0_0 bt599.2.1 bt599.2.2 bt599.1).bind fun bt602 => ((spec_l01Below.f s0_0 bt602.2.1 bt602.2.2 8).bind fun bt607 => (if x5_1.length < 1954687338268 then (spec_l03DrawOps.l0 k1 (x5_1 ++ [(⟨t589, bt593.1, bt596.1, bt602.1, wrap64 (bt607.1 - 1)⟩ : S71)]) (wrap64 (x6_1 - 1)) s0_0 bt607.2.1 bt607.2.2) else (none))))))) = some (r1, r2, r3) := H
    have A10 := Zh A100
    clear A100
    replace H := Option.bind_eq_some_iff.mp H
    obtain ⟨⟨t593, t594, t595⟩, A110, H⟩ := H
    replace H : ((spec_l03DrawName.f s0_0 t594 t595).bind fun bt596 => ((spec_l01Below.f s0_0 bt596.2.1 bt596.2.2 5).bind fun bt599 => ((spec_l01DrawBytes.f k1 s0_0 bt599.2.1 bt599.2.2 bt599.1).bind fun bt602 => ((spec_l01Below.f s0_0 bt602.2.1 bt602.2.2 8).bind fun bt607 => (if x5_1.length < 1954687338268 then (spec_l03DrawOps.l0 k1 (x5_1 ++ [(⟨t589, t593, bt596.1, bt602.1, wrap64 (bt607.1 - 1)⟩ : S71)]) (wrap64 (x6_1 - 1)) s0_0 bt607.2.1 bt607.2.2) else (none)))))) = some (r1, r2, r3) := H
    have A11 := Zh A110
    clear A110
    replace H := Option.bind_eq_some_iff.mp H
    obtain ⟨⟨t596, t597, t598⟩, A120, H⟩ := H
    replace H : ((spec_l01Below.f s0_0 t597 t598 5).bind fun bt599 => ((spec_l01DrawBytes.f k1 s0_0 bt599.2.1 bt599.2.2 bt599.1).bind fun bt602 => ((spec_l01Below.f s0_0 bt602.2.1 bt602.2.2 8).bind fun bt607 => (if x5_1.length < 1954687338268 then (spec_l03DrawOps.l0 k1 (x5_1 ++ [(⟨t589, t593, t596, bt602.1, wrap64 (bt607.1 - 1)⟩ : S71)]) (wrap64 (x6_1 - 1)) s0_0 bt607.2.1 bt607.2.2) else (none))))) = some (r1, r2, r3) := H
    have A12 := Zh A120
    clear A120
    replace H := Option.bind_eq_some_iff.mp H
    obtain ⟨⟨t599, t600, t601⟩, A130, H⟩ := H
    replace H : ((spec_l01DrawBytes.f k1 s0_0 t600 t601 t599).bind fun bt602 => ((spec_l01Below.f s0_0 bt602.2.1 bt602.2.2 8).bind fun bt607 => (if x5_1.length < 1954687338268 then (spec_l03DrawOps.l0 k1 (x5_1 ++ [(⟨t589, t593, t596, bt602.1, wrap64 (bt607.1 - 1)⟩ : S71)]) (wrap64 (x6_1 - 1)) s0_0 bt607.2.1 bt607.2.2) else (none)))) = some (r1, r2, r3) := H
    have A13 := Zh A130
    clear A130
    replace H := Option.bind_eq_some_iff.mp H
    obtain ⟨⟨t602, t605, t606⟩, A140, H⟩ := H
    replace H : ((spec_l01Below.f s0_0 t605 t606 8).bind fun bt607 => (if x5_1.length < 1954687338268 then (spec_l03DrawOps.l0 k1 (x5_1 ++ [(⟨t589, t593, t596, t602, wrap64 (bt607.1 - 1)⟩ : S71)]) (wrap64 (x6_1 - 1)) s0_0 bt607.2.1 bt607.2.2) else (none))) = some (r1, r2, r3) := H
    have A14 := Zh A140
    clear A140
    replace H := Option.bind_eq_some_iff.mp H
    obtain ⟨⟨t607, t608, t609⟩, A150, H⟩ := H
    replace H : (if x5_1.length < 1954687338268 then (spec_l03DrawOps.l0 k1 (x5_1 ++ [(⟨t589, t593, t596, t602, wrap64 (t607 - 1)⟩ : S71)]) (wrap64 (x6_1 - 1)) s0_0 t608 t609) else (none)) = some (r1, r2, r3) := H
    have A15 := Zh A150
    clear A150
    by_cases c16 : x5_1.length < 1954687338268
    ·
     rw [if_pos c16] at H
     have LMc16 := Zh c16
     clear c16
     obtain ⟨y610, hy610⟩ : ∃ y_ : List (S71), y_ = (x5_1 ++ [(⟨t589, t593, t596, t602, wrap64 (t607 - 1)⟩ : S71)]) := ⟨_, rfl⟩
     replace H : (spec_l03DrawOps.l0 k1 y610 (wrap64 (x6_1 - 1)) s0_0 t608 t609) = some (r1, r2, r3) := by first | (rw [hy610]; with_reducible exact H) | (have H2_ := (Option.bind_some _ _).symm.trans H; rw [hy610]; with_reducible exact H2_) | (have H2_ := (Option.bind_some _ _).symm.trans H; with_reducible exact H2_) | with_reducible exact H | (rw [hy610]; exact H) | exact H
     have Ny610 := Zh hy610
     clear hy610
     have H' := Zh H
     clear H
     go_wp2_with (first | ((with_reducible refine gate_callee (f := 99) rfl ?_); refine ZG (some 20) Tryd.func99 #[.pointer (some ⟨g, 0, none⟩), .int .i64 7] rfl ?_; (with_reducible refine (spec_l01Below.calls g s0_0 x1001_1 x1002_1 7 t583 t584 t585 w0 _ ?side1 ?side2 A9.out).mono ?_); (case side1 => repeat (first | (with_reducible first | exact HI0.out | apply IsS108.alloc | apply IsS108.drewN | apply IsS108.drew | apply IsS108.set_1 | apply IsS108.set_2) | exact HI0.out)); (case side2 => repeat (first | (with_reducible first | exact HB.out | apply Zf | apply Zd | apply Ze | refine Zg ?_ (IsS108.ge HI0.out)) | exact HB.out)); rintro e w17 ⟨rfl, hi, hb, hk⟩; refine ⟨_, rfl, ?_⟩; replace HO_5 := Zh (S_mono (S_keep (IsS108.apartS (show IsS108 w0 _ g s0_0 x1001_1 x1002_1 from by repeat (first | (with_reducible first | exact HI0.out | apply IsS108.alloc | apply IsS108.drewN | apply IsS108.drew | apply IsS108.set_1 | apply IsS108.set_2) | exact HI0.out)) (ZS HO_5.out) (by decide)) hk (fun _ h => h.2)) (fun _ h => h.1)); replace HK := Zh (KeepBut.trans (by repeat (first | (with_reducible first | exact HK.out | apply KeepBut.set_ | apply keep_drewN | apply keep_drew | apply keep_alloc) | exact HK.out)) hk (.inl rfl)); replace HB := Zh (hb); replace HI0 := Zh (hi); (try clear hb); (try clear hb2); (try clear hk); (try clear hi)) | ((with_reducible refine gate_dst (N := 22) rfl ?_); refine R_lit (Kd.int .i64) _ 3 ?hg (N := 22) ?hd (xs := ([0, 0, 0, 1, 1, 2, 3, 4, wrap64 (t583 - 1)] : List Int)) (inner := [.int .i64 0, .int .i64 0, .int .i64 0, .int .i64 1, .int .i64 1, .int .i64 2, .int .i64 3, .int .i64 4, .int .i64 (wrap64 (t583 - 1))]) (ok := fun _ => True) (okp := fun _ => True) ?hr ?hp (fun _ hk => hk) trivial (Below.refl _ _) (Nat.le_refl _) (by simp) ?_; (case hd => rfl); (case hg => rfl); (case hr => first | (go_simp; done) | (go_simp; rfl)); (case hp => exact (Reps.one (show Kd.M (Kd.int .i64) _ _ _ 0 [.int .i64 0] from rfl) (Reps.one (show Kd.M (Kd.int .i64) _ _ _ 0 [.int .i64 0] from rfl) (Reps.one (show Kd.M (Kd.int .i64) _ _ _ 0 [.int .i64 0] from rfl) (Reps.one (show Kd.M (Kd.int .i64) _ _ _ 1 [.int .i64 1] from rfl) (Reps.one (show Kd.M (Kd.int .i64) _ _ _ 1 [.int .i64 1] from rfl) (Reps.one (show Kd.M (Kd.int .i64) _ _ _ 2 [.int .i64 2] from rfl) (Reps.one (show Kd.M (Kd.int .i64) _ _ _ 3 [.int .i64 3] from rfl) (Reps.one (show Kd.M (Kd.int .i64) _ _ _ 4 [.int .i64 4] from rfl) (Reps.one (show Kd.M (Kd.int .i64) _ _ _ (wrap64 (t583 - 1)) [.int .i64 (wrap64 (t583 - 1))] from rfl) (Reps.none _ _))))))))))); intro v587 w18 ho19 hb hg_ hnew_; clear hg_ hnew_; (first | rw [← Ny586.out] at ho19 | (simp only [Int.reduceToNat] at ho19; rw [← Ny586.out] at ho19)); replace HO_5 := Zh (S_below (ZS HO_5.out) hb); have HO588 := Zh (R_lower ho19 (keep_size (w := w) (g := g) (row := none) (by repeat (first | (with_reducible first | exact HK.out | apply KeepBut.set_ | apply keep_drewN | apply keep_drew | apply keep_alloc) | exact HK.out)))); replace HK := Zh (KeepBut.trans (by repeat (first | (with_reducible first | exact HK.out | apply KeepBut.set_ | apply keep_drewN | apply keep_drew | apply keep_alloc) | exact HK.out)) (KeepBut.of_below hb g none) (.inl rfl)); replace HB := Zh (Zl (by repeat (first | (with_reducible first | exact HB.out | apply Zf | apply Zd | apply Ze | refine Zg ?_ (IsS108.ge HI0.out)) | exact HB.out)) hb); replace HI0 := Zh (IsS108.below (by repeat (first | (with_reducible first | exact HI0.out | apply IsS108.alloc | apply IsS108.drewN | apply IsS108.drew | apply IsS108.set_1 | apply IsS108.set_2) | exact HI0.out)) hb); clear hb ho19; obtain ⟨Ao20, co20, eo20⟩ := R_slice HO588.out; subst eo20) | ((with_reducible refine gate_callee (f := 101) rfl ?_); refine ZG (some 23) Tryd.func101 #[.pointer (some ⟨g, 0, none⟩), .slice Ao20 y586.length co20] rfl ?_; (with_reducible refine (spec_l01PickInt.calls g s0_0 t584 t585 _ _ y586 t589 t590 t591 w0 _ ?side1 ?side2 ?side3 ?side4 ?side5 A10.out).mono ?_); (case side1 => repeat (first | (with_reducible first | exact HI0.out | apply IsS108.alloc | apply IsS108.drewN | apply IsS108.drew | apply IsS108.set_1 | apply IsS108.set_2) | exact HI0.out)); (case side2 => repeat (first | (with_reducible first | exact HB.out | apply Zf | apply Zd | apply Ze | refine Zg ?_ (IsS108.ge HI0.out)) | exact HB.out)); (case side3 => repeat (first | exact (R_reads' HO588.out).2.2 | (with_reducible refine C_alloc ?_ _) | (with_reducible refine C_drewN ?_ _) | (with_reducible refine C_drew ?_))); (case side4 => exact (R_reads' HO588.out).2.1); (case side5 => exact far_slice (IsS108.own_ne HI0.out HO588.out (by decide))); rintro e w21 ⟨rfl, hi, hb, hk⟩; refine ⟨_, rfl, ?_⟩; replace HO_5 := Zh (S_mono (S_keep (IsS108.apartS (show IsS108 w0 _ g s0_0 t584 t585 from by repeat (first | (with_reducible first | exact HI0.out | apply IsS108.alloc | apply IsS108.drewN | apply IsS108.drew | apply IsS108.set_1 | apply IsS108.set_2) | exact HI0.out)) (ZS HO_5.out) (by decide)) hk (fun _ h => h.2)) (fun _ h => h.1)); replace HO588 := Zh (R_mono (R_keep (IsS108.apart (show IsS108 w0 _ g s0_0 t584 t585 from by repeat (first | (with_reducible first | exact HI0.out | apply IsS108.alloc | apply IsS108.drewN | apply IsS108.drew | apply IsS108.set_1 | apply IsS108.set_2) | exact HI0.out)) (ZR HO588.out) (by decide)) hk (fun _ h => h.2)) (fun _ h => h.1)); replace HK := Zh (KeepBut.trans (by repeat (first | (with_reducible first | exact HK.out | apply KeepBut.set_ | apply keep_drewN | apply keep_drew | apply keep_alloc) | exact HK.out)) hk (.inl rfl)); replace HB := Zh (hb); replace HI0 := Zh (hi); (try clear hb); (try clear hb2); (try clear hk); (try clear hi)) | ((with_reducible refine gate_dst (N := 7) rfl ?_); refine box_event ?hg (N := 7) ?hd (cs := #[.int .i64 0, .string (⟨#[]⟩ : ByteArray), .string (⟨#[]⟩ : ByteArray), .slice none 0 0, .int .i64 0]) (t := 71) ?hr ?_; (case hd => rfl); (case hg => rfl); (case hr => first | (go_simp; done) | (go_simp; rfl)); intro gb592 hg w22 hbox hb; replace HO_5 := Zh (S_below (S_elderB (ZS HO_5.out) gb592 (Nat.le_of_eq hg.symm)) hb); replace HO588 := Zh (R_below (ZR HO588.out) hb); replace HB := Zh (Zl (by repeat (first | (with_reducible first | exact HB.out | apply Zf | apply Zd | apply Ze | refine Zg ?_ (IsS108.ge HI0.out)) | exact HB.out)) hb); have BK592 := Zh (hbox); have GW592 := Zh ((by rw [hg]; exact (keep_size (w := w) (g := g) (row := none) (by repeat (first | (with_reducible first | exact HK.out | apply KeepBut.set_ | apply keep_drewN | apply keep_drew | apply keep_alloc) | exact HK.out))) : w.heap.size ≤ gb592)); have GE592 := Zh ((Nat.le_trans HW0.out (by rw [hg]; exact (keep_size (w := w) (g := g) (row := none) (by repeat (first | (with_reducible first | exact HK.out | apply KeepBut.set_ | apply keep_drewN | apply keep_drew | apply keep_alloc) | exact HK.out))) : w.heap.size ≤ gb592) : w0.heap.size ≤ gb592)); replace HK := Zh (KeepBut.trans (by repeat (first | (with_reducible first | exact HK.out | apply KeepBut.set_ | apply keep_drewN | apply keep_drew | apply keep_alloc) | exact HK.out)) (KeepBut.of_below hb g none) (.inl rfl)); have NB0_592 := Zh ((by rw [hg]; exact Nat.ne_of_lt (IsS108.lt (show IsS108 w0 _ g s0_0 t590 t591 from by repeat (first | (with_reducible first | exact HI0.out | apply IsS108.alloc | apply IsS108.drewN | apply IsS108.drew | apply IsS108.set_1 | apply IsS108.set_2) | exact HI0.out))) : g ≠ gb592)); have NB592_0 := Zh ((by rw [hg]; exact Nat.ne_of_gt (IsS108.lt (show IsS108 w0 _ g s0_0 t590 t591 from by repeat (first | (with_reducible first | exact HI0.out | apply IsS108.alloc | apply IsS108.drewN | apply IsS108.drew | apply IsS108.set_1 | apply IsS108.set_2) | exact HI0.out))) : gb592 ≠ g)); replace HI0 := Zh (IsS108.below (by repeat (first | (with_reducible first | exact HI0.out | apply IsS108.alloc | apply IsS108.drewN | apply IsS108.drew | apply IsS108.set_1 | apply IsS108.set_2) | exact HI0.out)) hb); clear hb hbox hg; have hnb23 := NB592_0.out; have hnc23 := NB0_592.out; have hcz24_0 : w22.cell? ⟨gb592, 0, none⟩ = some (.int .i64 0) := (blk_cell BK592.out 0).trans rfl; have hcz24_1 : w22.cell? ⟨gb592, 1, none⟩ = some (.string (⟨#[]⟩ : ByteArray)) := (blk_cell BK592.out 1).trans rfl; have hcz24_2 : w22.cell? ⟨gb592, 2, none⟩ = some (.string (⟨#[]⟩ : ByteArray)) := (blk_cell BK592.out 2).trans rfl; have hcz24_3 : w22.cell? ⟨gb592, 3, none⟩ = some (.slice none 0 0) := (blk_cell BK592.out 3).trans rfl; have hcz24_4 : w22.cell? ⟨gb592, 4, none⟩ = some (.int .i64 0) := (blk_cell BK592.out 4).trans rfl; have hfz24_0 := Zn BK592.out 0; have hfz24_1 := Zn BK592.out 1; have hfz24_2 := Zn BK592.out 2; have hfz24_3 := Zn BK592.out 3; have hfz24_4 := Zn BK592.out 4) | ((with_reducible refine gate_callee (f := 102) rfl ?_); refine ZG (some 26) Tryd.func102 #[.pointer (some ⟨g, 0, none⟩)] rfl ?_; (with_reducible refine (spec_l03DrawName.calls g s0_0 t590 t591 t593 t594 t595 w0 _ ?side1 ?side2 A11.out).mono ?_); (case side1 => repeat (first | (with_reducible first | exact HI0.out | apply IsS108.alloc | apply IsS108.drewN | apply IsS108.drew | apply IsS108.set_1 | apply IsS108.set_2 | refine IsS108.far ?_ NB0_592.out _) | exact HI0.out)); (case side2 => repeat (first | (with_reducible first | exact HB.out | apply Zf | apply Zd | apply Ze | refine Zg ?_ (IsS108.ge HI0.out) | refine Zg ?_ GE592.out) | exact HB.out)); rintro e w25 ⟨rfl, hi, hb, hk⟩; refine ⟨_, rfl, ?_⟩; replace HO_5 := Zh (S_mono (S_keep (IsS108.apartS (show IsS108 w0 _ g s0_0 t590 t591 from by repeat (first | (with_reducible first | exact HI0.out | apply IsS108.alloc | apply IsS108.drewN | apply IsS108.drew | apply IsS108.set_1 | apply IsS108.set_2 | refine IsS108.far ?_ NB0_592.out _) | exact HI0.out)) (ZS (S_mono (S_far (p := ⟨gb592, 4, none⟩) (S_far (p := ⟨gb592, 3, none⟩) (S_far (p := ⟨gb592, 2, none⟩) (S_far (p := ⟨gb592, 1, none⟩) (S_far (p := ⟨gb592, 0, none⟩) (S_mono HO_5.out (fun k_ hk => (⟨hk, hk.2⟩ : _ ∧ k_ ≠ gb592))) (fun _ hk => hk.2) (.int .i64 t589)) (fun _ hk => hk.2) (.string (⟨#[]⟩ : ByteArray))) (fun _ hk => hk.2) (.string (⟨#[]⟩ : ByteArray))) (fun _ hk => hk.2) (.slice none 0 0)) (fun _ hk => hk.2) (.int .i64 0)) (fun _ h_ => h_.1))) (by decide)) hk (fun _ h => h.2)) (fun _ h => h.1)); replace HO588 := Zh (R_mono (R_keep (IsS108.apart (show IsS108 w0 _ g s0_0 t590 t591 from by repeat (first | (with_reducible first | exact HI0.out | apply IsS108.alloc | apply IsS108.drewN | apply IsS108.drew | apply IsS108.set_1 | apply IsS108.set_2 | refine IsS108.far ?_ NB0_592.out _) | exact HI0.out)) (ZR (R_mono (R_far (p := ⟨gb592, 4, none⟩) (R_far (p := ⟨gb592, 3, none⟩) (R_far (p := ⟨gb592, 2, none⟩) (R_far (p := ⟨gb592, 1, none⟩) (R_far (p := ⟨gb592, 0, none⟩) (R_types HO588.out BK592.out (by decide)) (fun _ hk => hk.2) (.int .i64 t589)) (fun _ hk => hk.2) (.string (⟨#[]⟩ : ByteArray))) (fun _ hk => hk.2) (.string (⟨#[]⟩ : ByteArray))) (fun _ hk => hk.2) (.slice none 0 0)) (fun _ hk => hk.2) (.int .i64 0)) (fun _ h_ => h_.1))) (by decide)) hk (fun _ h => h.2)) (fun _ h => h.1)); replace BK592 := Zh (KeepBut.blk hk (g' := gb592) (o := .cells #[.int .i64 t589, .string (⟨#[]⟩ : ByteArray), .string (⟨#[]⟩ : ByteArray), .slice none 0 0, .int .i64 0] 71 (0, 0)) (by (with_reducible repeat (first | refine Za ?_ _ | refine Zb ?_ | refine blk_alloc ?_ _)); refine blk_put (cs := #[.int .i64 t589, .string (⟨#[]⟩ : ByteArray), .string (⟨#[]⟩ : ByteArray), .slice none 0 0, .int .i64 0]) ?_ 4 _ rfl; (with_reducible repeat (first | refine Za ?_ _ | refine Zb ?_ | refine blk_alloc ?_ _)); refine blk_put (cs := #[.int .i64 t589, .string (⟨#[]⟩ : ByteArray), .string (⟨#[]⟩ : ByteArray), .slice none 0 0, .int .i64 0]) ?_ 3 _ rfl; (with_reducible repeat (first | refine Za ?_ _ | refine Zb ?_ | refine blk_alloc ?_ _)); refine blk_put (cs := #[.int .i64 t589, .string (⟨#[]⟩ : ByteArray), .string (⟨#[]⟩ : ByteArray), .slice none 0 0, .int .i64 0]) ?_ 2 _ rfl; (with_reducible repeat (first | refine Za ?_ _ | refine Zb ?_ | refine blk_alloc ?_ _)); refine blk_put (cs := #[.int .i64 t589, .string (⟨#[]⟩ : ByteArray), .string (⟨#[]⟩ : ByteArray), .slice none 0 0, .int .i64 0]) ?_ 1 _ rfl; (with_reducible repeat (first | refine Za ?_ _ | refine Zb ?_ | refine blk_alloc ?_ _)); refine blk_put (cs := #[.int .i64 0, .string (⟨#[]⟩ : ByteArray), .string (⟨#[]⟩ : ByteArray), .slice none 0 0, .int .i64 0]) ?_ 0 _ rfl; (with_reducible repeat (first | refine Za ?_ _ | refine Zb ?_ | refine blk_alloc ?_ _)); exact BK592.out) NB592_0.out (by simp)); replace HK := Zh (KeepBut.trans (by repeat (first | (with_reducible first | exact HK.out | apply KeepBut.set_ | apply keep_drewN | apply keep_drew | apply keep_alloc | refine keep_far ?_ GW592.out _) | exact HK.out)) hk (.inl rfl)); replace HB := Zh (hb); replace HI0 := Zh (hi); (try clear hb); (try clear hb2); (try clear hk); (try clear hi); have hcz26_0 : w25.cell? ⟨gb592, 0, none⟩ = some (.int .i64 t589) := (blk_cell BK592.out 0).trans rfl; have hcz26_1 : w25.cell? ⟨gb592, 1, none⟩ = some (.string (⟨#[]⟩ : ByteArray)) := (blk_cell BK592.out 1).trans rfl; have hcz26_2 : w25.cell? ⟨gb592, 2, none⟩ = some (.string (⟨#[]⟩ : ByteArray)) := (blk_cell BK592.out 2).trans rfl; have hcz26_3 : w25.cell? ⟨gb592, 3, none⟩ = some (.slice none 0 0) := (blk_cell BK592.out 3).trans rfl; have hcz26_4 : w25.cell? ⟨gb592, 4, none⟩ = some (.int .i64 0) := (blk_cell BK592.out 4).trans rfl; have hfz26_0 := Zn BK592.out 0; have hfz26_1 := Zn BK592.out 1; have hfz26_2 := Zn BK592.out 2; have hfz26_3 := Zn BK592.out 3; have hfz26_4 := Zn BK592.out 4) | ((with_reducible refine gate_callee (f := 102) rfl ?_); refine ZG (some 29) Tryd.func102 #[.pointer (some ⟨g, 0, none⟩)] rfl ?_; (with_reducible refine (spec_l03DrawName.calls g s0_0 t594 t595 t596 t597 t598 w0 _ ?side1 ?side2 A12.out).mono ?_); (case side1 => repeat (first | (with_reducible first | exact HI0.out | apply IsS108.alloc | apply IsS108.drewN | apply IsS108.drew | apply IsS108.set_1 | apply IsS108.set_2 | refine IsS108.far ?_ NB0_592.out _) | exact HI0.out)); (case side2 => repeat (first | (with_reducible first | exact HB.out | apply Zf | apply Zd | apply Ze | refine Zg ?_ (IsS108.ge HI0.out) | refine Zg ?_ GE592.out) | exact HB.out)); rintro e w27 ⟨rfl, hi, hb, hk⟩; refine ⟨_, rfl, ?_⟩; replace HO_5 := Zh (S_mono (S_keep (IsS108.apartS (show IsS108 w0 _ g s0_0 t594 t595 from by repeat (first | (with_reducible first | exact HI0.out | apply IsS108.alloc | apply IsS108.drewN | apply IsS108.drew | apply IsS108.set_1 | apply IsS108.set_2 | refine IsS108.far ?_ NB0_592.out _) | exact HI0.out)) (ZS (S_mono (S_far (p := ⟨gb592, 1, none⟩) (S_mono HO_5.out (fun k_ hk => (⟨hk, hk.2⟩ : _ ∧ k_ ≠ gb592))) (fun _ hk => hk.2) (.string t593)) (fun _ h_ => h_.1))) (by decide)) hk (fun _ h => h.2)) (fun _ h => h.1)); replace HO588 := Zh (R_mono (R_keep (IsS108.apart (show IsS108 w0 _ g s0_0 t594 t595 from by repeat (first | (with_reducible first | exact HI0.out | apply IsS108.alloc | apply IsS108.drewN | apply IsS108.drew | apply IsS108.set_1 | apply IsS108.set_2 | refine IsS108.far ?_ NB0_592.out _) | exact HI0.out)) (ZR (R_mono (R_far (p := ⟨gb592, 1, none⟩) (R_types HO588.out BK592.out (by decide)) (fun _ hk => hk.2) (.string t593)) (fun _ h_ => h_.1))) (by decide)) hk (fun _ h => h.2)) (fun _ h => h.1)); replace BK592 := Zh (KeepBut.blk hk (g' := gb592) (o := .cells #[.int .i64 t589, .string t593, .string (⟨#[]⟩ : ByteArray), .slice none 0 0, .int .i64 0] 71 (0, 0)) (by (with_reducible repeat (first | refine Za ?_ _ | refine Zb ?_ | refine blk_alloc ?_ _)); refine blk_put (cs := #[.int .i64 t589, .string (⟨#[]⟩ : ByteArray), .string (⟨#[]⟩ : ByteArray), .slice none 0 0, .int .i64 0]) ?_ 1 _ rfl; (with_reducible repeat (first | refine Za ?_ _ | refine Zb ?_ | refine blk_alloc ?_ _)); exact BK592.out) NB592_0.out (by simp)); replace HK := Zh (KeepBut.trans (by repeat (first | (with_reducible first | exact HK.out | apply KeepBut.set_ | apply keep_drewN | apply keep_drew | apply keep_alloc | refine keep_far ?_ GW592.out _) | exact HK.out)) hk (.inl rfl)); replace HB := Zh (hb); replace HI0 := Zh (hi); (try clear hb); (try clear hb2); (try clear hk); (try clear hi); have hcz28_0 : w27.cell? ⟨gb592, 0, none⟩ = some (.int .i64 t589) := (blk_cell BK592.out 0).trans rfl; have hcz28_1 : w27.cell? ⟨gb592, 1, none⟩ = some (.string t593) := (blk_cell BK592.out 1).trans rfl; have hcz28_2 : w27.cell? ⟨gb592, 2, none⟩ = some (.string (⟨#[]⟩ : ByteArray)) := (blk_cell BK592.out 2).trans rfl; have hcz28_3 : w27.cell? ⟨gb592, 3, none⟩ = some (.slice none 0 0) := (blk_cell BK592.out 3).trans rfl; have hcz28_4 : w27.cell? ⟨gb592, 4, none⟩ = some (.int .i64 0) := (blk_cell BK592.out 4).trans rfl; have hfz28_0 := Zn BK592.out 0; have hfz28_1 := Zn BK592.out 1; have hfz28_2 := Zn BK592.out 2; have hfz28_3 := Zn BK592.out 3; have hfz28_4 := Zn BK592.out 4) | ((with_reducible refine gate_callee (f := 99) rfl ?_); refine ZG (some 33) Tryd.func99 #[.pointer (some ⟨g, 0, none⟩), .int .i64 5] rfl ?_; (with_reducible refine (spec_l01Below.calls g s0_0 t597 t598 5 t599 t600 t601 w0 _ ?side1 ?side2 A13.out).mono ?_); (case side1 => repeat (first | (with_reducible first | exact HI0.out | apply IsS108.alloc | apply IsS108.drewN | apply IsS108.drew | apply IsS108.set_1 | apply IsS108.set_2 | refine IsS108.far ?_ NB0_592.out _) | exact HI0.out)); (case side2 => repeat (first | (with_reducible first | exact HB.out | apply Zf | apply Zd | apply Ze | refine Zg ?_ (IsS108.ge HI0.out) | refine Zg ?_ GE592.out) | exact HB.out)); rintro e w29 ⟨rfl, hi, hb, hk⟩; refine ⟨_, rfl, ?_⟩; replace HO_5 := Zh (S_mono (S_keep (IsS108.apartS (show IsS108 w0 _ g s0_0 t597 t598 from by repeat (first | (with_reducible first | exact HI0.out | apply IsS108.alloc | apply IsS108.drewN | apply IsS108.drew | apply IsS108.set_1 | apply IsS108.set_2 | refine IsS108.far ?_ NB0_592.out _) | exact HI0.out)) (ZS (S_mono (S_far (p := ⟨gb592, 2, none⟩) (S_mono HO_5.out (fun k_ hk => (⟨hk, hk.2⟩ : _ ∧ k_ ≠ gb592))) (fun _ hk => hk.2) (.string t596)) (fun _ h_ => h_.1))) (by decide)) hk (fun _ h => h.2)) (fun _ h => h.1)); replace HO588 := Zh (R_mono (R_keep (IsS108.apart (show IsS108 w0 _ g s0_0 t597 t598 from by repeat (first | (with_reducible first | exact HI0.out | apply IsS108.alloc | apply IsS108.drewN | apply IsS108.drew | apply IsS108.set_1 | apply IsS108.set_2 | refine IsS108.far ?_ NB0_592.out _) | exact HI0.out)) (ZR (R_mono (R_far (p := ⟨gb592, 2, none⟩) (R_types HO588.out BK592.out (by decide)) (fun _ hk => hk.2) (.string t596)) (fun _ h_ => h_.1))) (by decide)) hk (fun _ h => h.2)) (fun _ h => h.1)); replace BK592 := Zh (KeepBut.blk hk (g' := gb592) (o := .cells #[.int .i64 t589, .string t593, .string t596, .slice none 0 0, .int .i64 0] 71 (0, 0)) (by (with_reducible repeat (first | refine Za ?_ _ | refine Zb ?_ | refine blk_alloc ?_ _)); refine blk_put (cs := #[.int .i64 t589, .string t593, .string (⟨#[]⟩ : ByteArray), .slice none 0 0, .int .i64 0]) ?_ 2 _ rfl; (with_reducible repeat (first | refine Za ?_ _ | refine Zb ?_ | refine blk_alloc ?_ _)); exact BK592.out) NB592_0.out (by simp)); replace HK := Zh (KeepBut.trans (by repeat (first | (with_reducible first | exact HK.out | apply KeepBut.set_ | apply keep_drewN | apply keep_drew | apply keep_alloc | refine keep_far ?_ GW592.out _) | exact HK.out)) hk (.inl rfl)); replace HB := Zh (hb); replace HI0 := Zh (hi); (try clear hb); (try clear hb2); (try clear hk); (try clear hi)) | ((with_reducible refine gate_callee (f := 103) rfl ?_); refine ZG (some 34) Tryd.func103 #[.pointer (some ⟨g, 0, none⟩), .int .i64 t599] rfl ?_; (with_reducible refine (spec_l01DrawBytes.calls k1 g s0_0 t600 t601 t599 t602 t605 t606 w0 _ ?side1 ?side2 A14.out).mono ?_); (case side1 => repeat (first | (with_reducible first | exact HI0.out | apply IsS108.alloc | apply IsS108.drewN | apply IsS108.drew | apply IsS108.set_1 | apply IsS108.set_2 | refine IsS108.far ?_ NB0_592.out _) | exact HI0.out)); (case side2 => repeat (first | (with_reducible first | exact HB.out | apply Zf | apply Zd | apply Ze | refine Zg ?_ (IsS108.ge HI0.out) | refine Zg ?_ GE592.out) | exact HB.out)); rintro e w30 ⟨v603, rfl, ho0, hi, hb, hk⟩; refine ⟨_, rfl, ?_⟩; replace HO_5 := Zh (S_mono (S_told (S_oldK (IsS108.apartS (show IsS108 w0 _ g s0_0 t600 t601 from by repeat (first | (with_reducible first | exact HI0.out | apply IsS108.alloc | apply IsS108.drewN | apply IsS108.drew | apply IsS108.set_1 | apply IsS108.set_2 | refine IsS108.far ?_ NB0_592.out _) | exact HI0.out)) (ZS HO_5.out) (by decide)) hk) (R_base ho0)) (fun _ h_ => h_.1)); replace HO588 := Zh (R_mono (R_keep (IsS108.apart (show IsS108 w0 _ g s0_0 t600 t601 from by repeat (first | (with_reducible first | exact HI0.out | apply IsS108.alloc | apply IsS108.drewN | apply IsS108.drew | apply IsS108.set_1 | apply IsS108.set_2 | refine IsS108.far ?_ NB0_592.out _) | exact HI0.out)) (ZR HO588.out) (by decide)) hk (fun _ h => h.2)) (fun _ h => h.1)); replace BK592 := Zh (KeepBut.blk hk (g' := gb592) (o := .cells #[.int .i64 t589, .string t593, .string t596, .slice none 0 0, .int .i64 0] 71 (0, 0)) Zk NB592_0.out (by simp)); have HO604 := Zh (R_lower ho0 (keep_size (w := w) (g := g) (row := none) (by repeat (first | (with_reducible first | exact HK.out | apply KeepBut.set_ | apply keep_drewN | apply keep_drew | apply keep_alloc | refine keep_far ?_ GW592.out _) | exact HK.out)))); replace HK := Zh (KeepBut.trans (by repeat (first | (with_reducible first | exact HK.out | apply KeepBut.set_ | apply keep_drewN | apply keep_drew | apply keep_alloc | refine keep_far ?_ GW592.out _) | exact HK.out)) hk (.inl rfl)); replace HB := Zh (hb); replace HI0 := Zh (hi); (try clear hb); (try clear hb2); (try clear hk); (try clear hi); (try clear ho0); obtain ⟨Ao31, co31, eo31⟩ := R_slice HO604.out; subst eo31; have hcz32_0 : w30.cell? ⟨gb592, 0, none⟩ = some (.int .i64 t589) := (blk_cell BK592.out 0).trans rfl; have hcz32_1 : w30.cell? ⟨gb592, 1, none⟩ = some (.string t593) := (blk_cell BK592.out 1).trans rfl; have hcz32_2 : w30.cell? ⟨gb592, 2, none⟩ = some (.string t596) := (blk_cell BK592.out 2).trans rfl; have hcz32_3 : w30.cell? ⟨gb592, 3, none⟩ = some (.slice none 0 0) := (blk_cell BK592.out 3).trans rfl; have hcz32_4 : w30.cell? ⟨gb592, 4, none⟩ = some (.int .i64 0) := (blk_cell BK592.out 4).trans rfl; have hfz32_0 := Zn BK592.out 0; have hfz32_1 := Zn BK592.out 1; have hfz32_2 := Zn BK592.out 2; have hfz32_3 := Zn BK592.out 3; have hfz32_4 := Zn BK592.out 4) | ((with_reducible refine gate_callee (f := 99) rfl ?_); refine ZG (some 37) Tryd.func99 #[.pointer (some ⟨g, 0, none⟩), .int .i64 8] rfl ?_; (with_reducible refine (spec_l01Below.calls g s0_0 t605 t606 8 t607 t608 t609 w0 _ ?side1 ?side2 A15.out).mono ?_); (case side1 => repeat (first | (with_reducible first | exact HI0.out | apply IsS108.alloc | apply IsS108.drewN | apply IsS108.drew | apply IsS108.set_1 | apply IsS108.set_2 | refine IsS108.far ?_ NB0_592.out _) | exact HI0.out)); (case side2 => repeat (first | (with_reducible first | exact HB.out | apply Zf | apply Zd | apply Ze | refine Zg ?_ (IsS108.ge HI0.out) | refine Zg ?_ GE592.out) | exact HB.out)); rintro e w33 ⟨rfl, hi, hb, hk⟩; refine ⟨_, rfl, ?_⟩; replace HO_5 := Zh (S_mono (S_keep (IsS108.apartS (show IsS108 w0 _ g s0_0 t605 t606 from by repeat (first | (with_reducible first | exact HI0.out | apply IsS108.alloc | apply IsS108.drewN | apply IsS108.drew | apply IsS108.set_1 | apply IsS108.set_2 | refine IsS108.far ?_ NB0_592.out _) | exact HI0.out)) (ZS (S_mono (S_far (p := ⟨gb592, 3, none⟩) (S_mono HO_5.out (fun k_ hk => (⟨hk, hk.1.2⟩ : _ ∧ k_ ≠ gb592))) (fun _ hk => hk.2) (.slice Ao31 t602.length co31)) (fun _ h_ => h_.1))) (by decide)) hk (fun _ h => h.2)) (fun _ h => h.1)); replace HO588 := Zh (R_mono (R_keep (IsS108.apart (show IsS108 w0 _ g s0_0 t605 t606 from by repeat (first | (with_reducible first | exact HI0.out | apply IsS108.alloc | apply IsS108.drewN | apply IsS108.drew | apply IsS108.set_1 | apply IsS108.set_2 | refine IsS108.far ?_ NB0_592.out _) | exact HI0.out)) (ZR (R_mono (R_far (p := ⟨gb592, 3, none⟩) (R_types HO588.out BK592.out (by decide)) (fun _ hk => hk.2) (.slice Ao31 t602.length co31)) (fun _ h_ => h_.1))) (by decide)) hk (fun _ h => h.2)) (fun _ h => h.1)); replace HO604 := Zh (R_mono (R_keep (IsS108.apart (show IsS108 w0 _ g s0_0 t605 t606 from by repeat (first | (with_reducible first | exact HI0.out | apply IsS108.alloc | apply IsS108.drewN | apply IsS108.drew | apply IsS108.set_1 | apply IsS108.set_2 | refine IsS108.far ?_ NB0_592.out _) | exact HI0.out)) (ZR (R_mono (R_far (p := ⟨gb592, 3, none⟩) (R_types HO604.out BK592.out (by decide)) (fun _ hk => hk.2) (.slice Ao31 t602.length co31)) (fun _ h_ => h_.1))) (by decide)) hk (fun _ h => h.2)) (fun _ h => h.1)); replace BK592 := Zh (KeepBut.blk hk (g' := gb592) (o := .cells #[.int .i64 t589, .string t593, .string t596, .slice Ao31 t602.length co31, .int .i64 0] 71 (0, 0)) (by (with_reducible repeat (first | refine Za ?_ _ | refine Zb ?_ | refine blk_alloc ?_ _)); refine blk_put (cs := #[.int .i64 t589, .string t593, .string t596, .slice none 0 0, .int .i64 0]) ?_ 3 _ rfl; (with_reducible repeat (first | refine Za ?_ _ | refine Zb ?_ | refine blk_alloc ?_ _)); exact BK592.out) NB592_0.out (by simp)); replace HK := Zh (KeepBut.trans (by repeat (first | (with_reducible first | exact HK.out | apply KeepBut.set_ | apply keep_drewN | apply keep_drew | apply keep_alloc | refine keep_far ?_ GW592.out _) | exact HK.out)) hk (.inl rfl)); replace HB := Zh (hb); replace HI0 := Zh (hi); (try clear hb); (try clear hb2); (try clear hk); (try clear hi); have hcz34_0 : w33.cell? ⟨gb592, 0, none⟩ = some (.int .i64 t589) := (blk_cell BK592.out 0).trans rfl; have hcz34_1 : w33.cell? ⟨gb592, 1, none⟩ = some (.string t593) := (blk_cell BK592.out 1).trans rfl; have hcz34_2 : w33.cell? ⟨gb592, 2, none⟩ = some (.string t596) := (blk_cell BK592.out 2).trans rfl; have hcz34_3 : w33.cell? ⟨gb592, 3, none⟩ = some (.slice Ao31 t602.length co31) := (blk_cell BK592.out 3).trans rfl; have hcz34_4 : w33.cell? ⟨gb592, 4, none⟩ = some (.int .i64 0) := (blk_cell BK592.out 4).trans rfl; have hfz34_0 := Zn BK592.out 0; have hfz34_1 := Zn BK592.out 1; have hfz34_2 := Zn BK592.out 2; have hfz34_3 := Zn BK592.out 3; have hfz34_4 := Zn BK592.out 4) | ((with_reducible refine gate_store (t := 3) (p := 39) rfl ?_); refine store_event (t := 3) (p := 39) (v := ?vo_w35) (w1 := (w33.setCell ⟨gb592, 4, none⟩ (.int .i64 (wrap64 (t607 - 1))))) ?hg ?ho ?hn ?hr ?_; (case ho => rfl); (case hg => rfl); (case hn => rfl); (case hr => first | (go_simp; done) | (go_simp; rfl)); intro w35 hw; have n0_ : Aside0 (Kd.S k71 71 w35 w.heap.size (fun k_ => some k_ ≠ (.slice Ao31 t602.length co31 : Value).ownBlock ∧ k_ ≠ gb592) u5 x5_1) := ⟨(by rw [hw]; exact (ZS (S_mono (S_far (p := ⟨gb592, 4, none⟩) (S_mono HO_5.out (fun k_ hk => (⟨hk, hk.1.2⟩ : _ ∧ k_ ≠ gb592))) (fun _ hk => hk.2) (.int .i64 (wrap64 (t607 - 1)))) (fun _ hk => ⟨hk.1.2, hk.1.1.2⟩))))⟩; have n1_ : Aside0 (Kd.R (Kd.int .i64) 3 w35 w.heap.size (fun _ => True) (.slice Ao20 y586.length co20) y586) := ⟨(by rw [hw]; exact (ZR (R_mono (R_far (p := ⟨gb592, 4, none⟩) (R_types HO588.out BK592.out (by decide)) (fun _ hk => hk.2) (.int .i64 (wrap64 (t607 - 1)))) (fun _ hk => trivial))))⟩; have n2_ : Aside0 (Kd.R (Kd.int .u8) 5 w35 w.heap.size (fun _ => True) (.slice Ao31 t602.length co31) t602) := ⟨(by rw [hw]; exact (ZR (R_mono (R_far (p := ⟨gb592, 4, none⟩) (R_types HO604.out BK592.out (by decide)) (fun _ hk => hk.2) (.int .i64 (wrap64 (t607 - 1)))) (fun _ hk => trivial))))⟩; have n3_ : Aside0 (w35.heap[gb592]? = some (.cells #[.int .i64 t589, .string t593, .string t596, .slice Ao31 t602.length co31, .int .i64 (wrap64 (t607 - 1))] 71 (0, 0))) := ⟨(by rw [hw]; exact (by (with_reducible repeat (first | refine Za ?_ _ | refine Zb ?_ | refine blk_alloc ?_ _)); refine blk_put (cs := #[.int .i64 t589, .string t593, .string t596, .slice Ao31 t602.length co31, .int .i64 0]) ?_ 4 _ rfl; (with_reducible repeat (first | refine Za ?_ _ | refine Zb ?_ | refine blk_alloc ?_ _)); exact BK592.out))⟩; have n4_ : Aside0 (IsS108 w0 w35 g s0_0 t608 t609) := ⟨(by rw [hw]; exact (by repeat (first | (with_reducible first | exact HI0.out | apply IsS108.alloc | apply IsS108.drewN | apply IsS108.drew | apply IsS108.set_1 | apply IsS108.set_2 | refine IsS108.far ?_ NB0_592.out _) | exact HI0.out)))⟩; have n5_ : Aside0 (KeepBut w w35 g none) := ⟨(by rw [hw]; exact (by repeat (first | (with_reducible first | exact HK.out | apply KeepBut.set_ | apply keep_drewN | apply keep_drew | apply keep_alloc | refine keep_far ?_ GW592.out _) | exact HK.out)))⟩; have n6_ : Aside0 (Below w0.heap.size w0 w35) := ⟨(by rw [hw]; exact (by repeat (first | (with_reducible first | exact HB.out | apply Zf | apply Zd | apply Ze | refine Zg ?_ (IsS108.ge HI0.out) | refine Zg ?_ GE592.out) | exact HB.out)))⟩; clear hw; clear HO_5; clear HO588; clear HO604; clear BK592; clear HI0; clear HK; clear HB; have HO_5 := n0_; have HO588 := n1_; have HO604 := n2_; have BK592 := n3_; have HI0 := n4_; have HK := n5_; have HB := n6_; clear n0_ n1_ n2_ n3_ n4_ n5_ n6_; have hcz36_0 : w35.cell? ⟨gb592, 0, none⟩ = some (.int .i64 t589) := (blk_cell BK592.out 0).trans rfl; have hcz36_1 : w35.cell? ⟨gb592, 1, none⟩ = some (.string t593) := (blk_cell BK592.out 1).trans rfl; have hcz36_2 : w35.cell? ⟨gb592, 2, none⟩ = some (.string t596) := (blk_cell BK592.out 2).trans rfl; have hcz36_3 : w35.cell? ⟨gb592, 3, none⟩ = some (.slice Ao31 t602.length co31) := (blk_cell BK592.out 3).trans rfl; have hcz36_4 : w35.cell? ⟨gb592, 4, none⟩ = some (.int .i64 (wrap64 (t607 - 1))) := (blk_cell BK592.out 4).trans rfl; have hfz36_0 := Zn BK592.out 0; have hfz36_1 := Zn BK592.out 1; have hfz36_2 := Zn BK592.out 2; have hfz36_3 := Zn BK592.out 3; have hfz36_4 := Zn BK592.out 4) | ((with_reducible refine gate_builtin (b := .append) (xs := #[.tmp 40, .tmp 42]) rfl ?_); at_builtin; refine S_append k71 w.heap.size rfl (.tmp 40) (.tmp 42) 60 71 (.agg #[(.int .i64 0), (.string ⟨#[]⟩), (.string ⟨#[]⟩), (.slice none 0 0), (.int .i64 0)]) 72 rfl Tryd.underlying60 info71 rfl (by decide) (by omega) u5 x5_1 (⟨t589, t593, t596, t602, wrap64 (t607 - 1)⟩ : S71) [.int .i64 t589, .string t593, .string t596, .slice Ao31 t602.length co31, .int .i64 (wrap64 (t607 - 1))] (fun k_ => k_ ≠ gb592) (fun k_ => some k_ = (.slice Ao31 t602.length co31 : Value).ownBlock) rfl rfl ?aP (fun k_ hk_ => ((R_mono (ok' := fun k_ => ((fun k_ => k_ ≠ gb592)) k_ ∧ some k_ ≠ (u5 : Value).ownBlock) (R_types (R_apart' (HO604.out) (S_typed HO_5.out) (by decide)) BK592.out (by decide)) (fun k_ hk => ⟨hk.2, hk.1.2⟩))).1 k_ hk_.symm) ?aF ?aO (Below.refl _ _) ?aS ?aL ?_; (case aP => exact k71_mkM _ _ _ (⟨t589, t593, t596, t602, wrap64 (t607 - 1)⟩ : S71) (R_mono (R_tight rfl (R_mono (ok' := fun k_ => ((fun k_ => k_ ≠ gb592)) k_ ∧ some k_ ≠ (u5 : Value).ownBlock) (R_types (R_apart' (HO604.out) (S_typed HO_5.out) (by decide)) BK592.out (by decide)) (fun k_ hk => ⟨hk.2, hk.1.2⟩))) (fun _ h_ => h_))); (case aF => exact (fun k_ hk => Kd.freshB (g := gb592) (o := .cells #[.int .i64 t589, .string t593, .string t596, .slice Ao31 t602.length co31, .int .i64 (wrap64 (t607 - 1))] 71 (0, 0)) Zk k_ hk)); (case aO => exact (ZS (S_mono HO_5.out (fun k_ hk => ⟨hk.2, fun e_ => hk.1 e_⟩)))); (case aS => exact (keep_size (w := w) (g := g) (row := none) (by repeat (first | (with_reducible first | exact HK.out | apply KeepBut.set_ | apply keep_drewN | apply keep_drew | apply keep_alloc | refine keep_far ?_ GW592.out _) | exact HK.out)))); (case aL => have := LMc16.out; omega); intro v611 w37 ho hb hg hat; rw [← Ny610.out] at ho; have n0_ := Zh (IsS108.grown (show IsS108 w0 _ g s0_0 t608 t609 from by repeat (first | (with_reducible first | exact HI0.out | apply IsS108.alloc | apply IsS108.drewN | apply IsS108.drew | apply IsS108.set_1 | apply IsS108.set_2 | refine IsS108.far ?_ NB0_592.out _) | exact HI0.out)) hg (IsS108.own_neS HI0.out HO_5.out (by decide))); have n1_ := Zh (R_over' (ZR HO588.out) (S_typed (ZS HO_5.out)) (by decide) hg); have n2_ := Zh (blk_grown (g := gb592) (o := .cells #[.int .i64 t589, .string t593, .string t596, .slice Ao31 t602.length co31, .int .i64 (wrap64 (t607 - 1))] 71 (0, 0)) Zk hg (S_away HO_5.out (fun _ hk => hk.2))); have n3_ := Zh (below_weaken (by repeat (first | (with_reducible first | exact HB.out | apply Zf | apply Zd | apply Ze | refine Zg ?_ (IsS108.ge HI0.out) | refine Zg ?_ GE592.out) | exact HB.out)) HL.out hb); have n4_ := Zh (KeepBut.trans (by repeat (first | (with_reducible first | exact HK.out | apply KeepBut.set_ | apply keep_drewN | apply keep_drew | apply keep_alloc | refine keep_far ?_ GW592.out _) | exact HK.out)) (KeepBut.of_grown hg g) (S_base2 HO_5.out)); have n5_ := Zh (ho); clear HI0; clear HO588; clear BK592; clear HB; clear HK; clear HO_5; clear HO604; have HI0 := n0_; have HO588 := n1_; have BK592 := n2_; have HB := n3_; have HK := n4_; have HO612 := n5_; clear n0_ n1_ n2_ n3_ n4_ n5_; clear ho hb hg hat))
     go_roundg k1
     case measure => have := HK1.out; omega
     case rel => exact ⟨(y610), (wrap64 (x6_1 - 1)), (t608), (t609), (by first | rfl | (simp; done) | (simp [*]; done)), H', ⟨by have := HK1.out; omega⟩, ⟨ZS (S_mono HO612.out (fun _ hk => trivial))⟩, ⟨by repeat (first | (with_reducible first | exact HI0.out | apply IsS108.alloc | apply IsS108.drewN | apply IsS108.drew | apply IsS108.set_1 | apply IsS108.set_2 | refine IsS108.far ?_ NB0_592.out _) | exact HI0.out)⟩, ⟨by repeat (first | (with_reducible first | exact HK.out | apply KeepBut.set_ | apply keep_drewN | apply keep_drew | apply keep_alloc | refine keep_far ?_ GW592.out _) | exact HK.out)⟩, ⟨by repeat (first | (with_reducible first | exact HB.out | apply Zf | apply Zd | apply Ze | refine Zg ?_ (IsS108.ge HI0.out) | refine Zg ?_ GE592.out) | exact HB.out)⟩⟩
    rw [if_neg c16] at H
    exact absurd H (by simp)
   rw [if_neg c8] at H
   have c8b0 : decide (0 < x6_1) = false := decide_eq_false c8
   clear c8
   simp only [Option.some.injEq, Prod.mk.injEq] at H
   obtain ⟨rfl, rfl, rfl⟩ := H
   go_wp2
   go_ret
   exact ⟨_, ZE, ZS HO_5.out, by repeat (first | (with_reducible first | exact HI0.out | apply IsS108.alloc | apply IsS108.drewN | apply IsS108.drew | apply IsS108.set_1 | apply IsS108.set_2) | exact HI0.out), by repeat (first | (with_reducible first | exact HB.out | apply Zf | apply Zd | apply Ze | refine Zg ?_ (IsS108.ge HI0.out)) | exact HB.out), by repeat (first | (with_reducible first | exact HK.out | apply KeepBut.set_ | apply keep_drewN | apply keep_drew | apply keep_alloc) | exact HK.out)⟩
def spec_l03DrawRight.f (k : Nat) (s0_0 : List Int) (s0_1 : Int) (s0_2 : Int) (l1 : List Int) : Option ((List (S74)) × Int × Int) := (spec_l03DrawOps.f k s0_0 s0_1 s0_2 l1).bind fun bt614 => ((spec_PlayDisk.f k ([] : List (S74)) bt614.1).bind fun bt619 => (some (bt619.1, bt614.2.1, bt614.2.2)))
set_option maxHeartbeats 8000000 in
set_option maxRecDepth 100000 in
theorem spec_l03DrawRight.calls (k : Nat) (g : Nat) (s0_0 : List Int) (s0_1 : Int) (s0_2 : Int) (A1 : Option Addr) (c1 : Nat) (l1 : List Int) (r1 : List (S74)) (r2 : Int) (r3 : Int) (w0 w : World) (hI : IsS108 w0 w g s0_0 s0_1 s0_2) (hB : Below w0.heap.size w0 w) (hr1 : Kd.C (Kd.int .u8) w A1 l1.length l1) (hc1 : l1.length ≤ c1) (hf1 : ∀ ad, A1 = some ad → 0 < l1.length → ad.block ≠ g) (h : spec_l03DrawRight.f k s0_0 s0_1 s0_2 l1 = some (r1, r2, r3)) :
  Calls Tryd.prog 85 #[.pointer (some ⟨g, 0, none⟩), .slice A1 l1.length c1] w fun e w' => ∃ v0_ : Value, e = .returned (.agg #[v0_]) ∧ Kd.S k74 74 w' w.heap.size (fun _ => True) v0_ r1 ∧ IsS108 w0 w' g s0_0 r2 r3 ∧ Below w0.heap.size w0 w' ∧ KeepBut w w' g none := by
 have hu29 := Tryd.underlying29
 have HR1 := Zh hr1
 have HC1 := Zh hc1
 clear hr1 hc1
 have HI0 := Zh hI
 have HK := Zh (KeepBut.refl w g none)
 have HL := Zh hB.size
 clear hI
 have HW0 := Zh hB.size
 have HB := Zh hB
 clear hB
 have H : ((spec_l03DrawOps.f k s0_0 s0_1 s0_2 l1).bind fun bt614 => ((spec_PlayDisk.f k ([] : List (S74)) bt614.1).bind fun bt619 => (some (bt619.1, bt614.2.1, bt614.2.2)))) = some (r1, r2, r3) := h
 clear h
 replace H := Option.bind_eq_some_iff.mp H
 obtain ⟨⟨t614, t617, t618⟩, A30, H⟩ := H
 replace H : ((spec_PlayDisk.f k ([] : List (S74)) t614).bind fun bt619 => (some (bt619.1, t617, t618))) = some (r1, r2, r3) := H
 have A3 := Zh A30
 clear A30
 replace H := Option.bind_eq_some_iff.mp H
 obtain ⟨⟨t619, t622⟩, A40, H⟩ := H
 replace H : (some (t619, t617, t618)) = some (r1, r2, r3) := H
 have A4 := Zh A40
 clear A40
 simp only [Option.some.injEq, Prod.mk.injEq] at H
 obtain ⟨rfl, rfl, rfl⟩ := H
 go_enter Tryd.func85, Tryd.ntmps85
 go_wp2_with (first | ((with_reducible refine gate_dst (N := 4) rfl ?_); refine box_event ?hg (N := 4) ?hd (cs := #[.slice none 0 0]) (t := 29) ?hr ?_; (case hd => rfl); (case hg => rfl); (case hr => first | (go_simp; done) | (go_simp; rfl)); intro gb613 hg w5 hbox hb; replace HB := Zh (Zl (by repeat (first | (with_reducible first | exact HB.out | apply Zf | apply Zd | apply Ze | refine Zg ?_ (IsS108.ge HI0.out)) | exact HB.out)) hb); have BK613 := Zh (hbox); have GW613 := Zh ((by rw [hg]; exact (keep_size (w := w) (g := g) (row := none) (by repeat (first | (with_reducible first | exact HK.out | apply KeepBut.set_ | apply keep_drewN | apply keep_drew | apply keep_alloc) | exact HK.out))) : w.heap.size ≤ gb613)); have GE613 := Zh ((Nat.le_trans HW0.out (by rw [hg]; exact (keep_size (w := w) (g := g) (row := none) (by repeat (first | (with_reducible first | exact HK.out | apply KeepBut.set_ | apply keep_drewN | apply keep_drew | apply keep_alloc) | exact HK.out))) : w.heap.size ≤ gb613) : w0.heap.size ≤ gb613)); replace HK := Zh (KeepBut.trans (by repeat (first | (with_reducible first | exact HK.out | apply KeepBut.set_ | apply keep_drewN | apply keep_drew | apply keep_alloc) | exact HK.out)) (KeepBut.of_below hb g none) (.inl rfl)); have NB0_613 := Zh ((by rw [hg]; exact Nat.ne_of_lt (IsS108.lt (show IsS108 w0 _ g s0_0 s0_1 s0_2 from by repeat (first | (with_reducible first | exact HI0.out | apply IsS108.alloc | apply IsS108.drewN | apply IsS108.drew | apply IsS108.set_1 | apply IsS108.set_2) | exact HI0.out))) : g ≠ gb613)); have NB613_0 := Zh ((by rw [hg]; exact Nat.ne_of_gt (IsS108.lt (show IsS108 w0 _ g s0_0 s0_1 s0_2 from by repeat (first | (with_reducible first | exact HI0.out | apply IsS108.alloc | apply IsS108.drewN | apply IsS108.drew | apply IsS108.set_1 | apply IsS108.set_2) | exact HI0.out))) : gb613 ≠ g)); replace HI0 := Zh (IsS108.below (by repeat (first | (with_reducible first | exact HI0.out | apply IsS108.alloc | apply IsS108.drewN | apply IsS108.drew | apply IsS108.set_1 | apply IsS108.set_2) | exact HI0.out)) hb); clear hb hbox hg) | ((with_reducible refine gate_callee (f := 86) rfl ?_); refine ZG (some 11) Tryd.func86 #[.pointer (some ⟨g, 0, none⟩), .slice A1 l1.length c1] rfl ?_; (with_reducible refine (spec_l03DrawOps.calls k g s0_0 s0_1 s0_2 _ _ l1 t614 t617 t618 w0 _ ?side1 ?side2 ?side3 ?side4 ?side5 A3.out).mono ?_); (case side1 => repeat (first | (with_reducible first | exact HI0.out | apply IsS108.alloc | apply IsS108.drewN | apply IsS108.drew | apply IsS108.set_1 | apply IsS108.set_2 | refine IsS108.far ?_ NB0_613.out _) | exact HI0.out)); (case side2 => repeat (first | (with_reducible first | exact HB.out | apply Zf | apply Zd | apply Ze | refine Zg ?_ (IsS108.ge HI0.out) | refine Zg ?_ GE613.out) | exact HB.out)); (case side3 => exact C_keep 0 HR1.out (by repeat (first | (with_reducible first | exact HK.out | apply KeepBut.set_ | apply keep_drewN | apply keep_drew | apply keep_alloc | refine keep_far ?_ GW613.out _) | exact HK.out)) hf1); (case side4 => exact HC1.out); (case side5 => exact hf1); rintro e w6 ⟨v615, rfl, ho0, hi, hb, hk⟩; refine ⟨_, rfl, ?_⟩; replace BK613 := Zh (KeepBut.blk hk (g' := gb613) (o := .cells #[.slice none 0 0] 29 (0, 0)) Zk NB613_0.out (by simp)); have HO616 := Zh (S_lower ho0 (keep_size (w := w) (g := g) (row := none) (by repeat (first | (with_reducible first | exact HK.out | apply KeepBut.set_ | apply keep_drewN | apply keep_drew | apply keep_alloc | refine keep_far ?_ GW613.out _) | exact HK.out)))); replace HK := Zh (KeepBut.trans (by repeat (first | (with_reducible first | exact HK.out | apply KeepBut.set_ | apply keep_drewN | apply keep_drew | apply keep_alloc | refine keep_far ?_ GW613.out _) | exact HK.out)) hk (.inl rfl)); replace HB := Zh (hb); replace HI0 := Zh (hi); (try clear hb); (try clear hb2); (try clear hk); (try clear hi); (try clear ho0); obtain ⟨Ao7, co7, eo7⟩ := S_slice HO616.out; subst eo7) | ((with_reducible refine gate_callee (f := 43) rfl ?_); refine ZG (some 12) Tryd.func43 #[.agg #[.slice none 0 0], .slice Ao7 t614.length co7] rfl ?_; (refine (spec_PlayDisk.calls k _ _ ([] : List (S74)) _ _ t614 t619 t622 _ ?side1 ?side2 ?side3 ?side4 A4.out).mono ?_); (case side1 => exact C_nil _ _); (case side2 => exact Nat.le_refl _); (case side3 => repeat (first | exact (S_reads' HO616.out).2.2 | (with_reducible refine C_alloc ?_ _) | (with_reducible refine C_drewN ?_ _) | (with_reducible refine C_drew ?_))); (case side4 => exact (S_reads' HO616.out).2.1); rintro e w8 ⟨v620, v623, rfl, ho0, ho1, hb⟩; refine ⟨_, rfl, ?_⟩; replace HO616 := Zh (S_below (ZS HO616.out) hb); have HO621 := Zh (S_lower ho0 (keep_size (w := w) (g := g) (row := none) (by repeat (first | (with_reducible first | exact HK.out | apply KeepBut.set_ | apply keep_drewN | apply keep_drew | apply keep_alloc | refine keep_far ?_ GW613.out _) | exact HK.out)))); have HO624 := Zh (R_lower ho1 (keep_size (w := w) (g := g) (row := none) (by repeat (first | (with_reducible first | exact HK.out | apply KeepBut.set_ | apply keep_drewN | apply keep_drew | apply keep_alloc | refine keep_far ?_ GW613.out _) | exact HK.out)))); replace BK613 := Zh (Zm (g := gb613) (o := .cells #[.slice none 0 0] 29 (0, 0)) Zk hb); replace HK := Zh (KeepBut.trans (by repeat (first | (with_reducible first | exact HK.out | apply KeepBut.set_ | apply keep_drewN | apply keep_drew | apply keep_alloc | refine keep_far ?_ GW613.out _) | exact HK.out)) (KeepBut.of_below hb g none) (.inl rfl)); replace HB := Zh (Zl (by repeat (first | (with_reducible first | exact HB.out | apply Zf | apply Zd | apply Ze | refine Zg ?_ (IsS108.ge HI0.out) | refine Zg ?_ GE613.out) | exact HB.out)) hb); replace HI0 := Zh (IsS108.below (by repeat (first | (with_reducible first | exact HI0.out | apply IsS108.alloc | apply IsS108.drewN | apply IsS108.drew | apply IsS108.set_1 | apply IsS108.set_2 | refine IsS108.far ?_ NB0_613.out _) | exact HI0.out)) hb); (try clear hb); (try clear hb2); (try clear hk); (try clear hi); (try clear ho0); (try clear ho1)) | ((with_reducible refine gate_dst (N := 5) rfl ?_); refine box_event ?hg (N := 5) ?hd (cs := #[.slice none 0 0]) (t := 29) ?hr ?_; (case hd => rfl); (case hg => rfl); (case hr => first | (go_simp; done) | (go_simp; rfl)); intro gb625 hg w9 hbox hb; replace HO616 := Zh (S_below (ZS HO616.out) hb); replace HO621 := Zh (S_below (ZS HO621.out) hb); replace HO624 := Zh (R_below (ZR HO624.out) hb); replace HB := Zh (Zl (by repeat (first | (with_reducible first | exact HB.out | apply Zf | apply Zd | apply Ze | refine Zg ?_ (IsS108.ge HI0.out) | refine Zg ?_ GE613.out) | exact HB.out)) hb); have BK625 := Zh (hbox); have GW625 := Zh ((by rw [hg]; exact (keep_size (w := w) (g := g) (row := none) (by repeat (first | (with_reducible first | exact HK.out | apply KeepBut.set_ | apply keep_drewN | apply keep_drew | apply keep_alloc | refine keep_far ?_ GW613.out _) | exact HK.out))) : w.heap.size ≤ gb625)); have GE625 := Zh ((Nat.le_trans HW0.out (by rw [hg]; exact (keep_size (w := w) (g := g) (row := none) (by repeat (first | (with_reducible first | exact HK.out | apply KeepBut.set_ | apply keep_drewN | apply keep_drew | apply keep_alloc | refine keep_far ?_ GW613.out _) | exact HK.out))) : w.heap.size ≤ gb625) : w0.heap.size ≤ gb625)); replace HK := Zh (KeepBut.trans (by repeat (first | (with_reducible first | exact HK.out | apply KeepBut.set_ | apply keep_drewN | apply keep_drew | apply keep_alloc | refine keep_far ?_ GW613.out _) | exact HK.out)) (KeepBut.of_below hb g none) (.inl rfl)); have NB613_625 := Zh ((by rw [hg]; exact Nat.ne_of_lt (blk_lt (g := gb613) (o := .cells #[.slice none 0 0] 29 (0, 0)) Zk) : gb613 ≠ gb625)); have NB625_613 := Zh ((by rw [hg]; exact Nat.ne_of_gt (blk_lt (g := gb613) (o := .cells #[.slice none 0 0] 29 (0, 0)) Zk) : gb625 ≠ gb613)); replace BK613 := Zh (Zm (g := gb613) (o := .cells #[.slice none 0 0] 29 (0, 0)) Zk hb); have NB0_625 := Zh ((by rw [hg]; exact Nat.ne_of_lt (IsS108.lt (show IsS108 w0 _ g s0_0 t617 t618 from by repeat (first | (with_reducible first | exact HI0.out | apply IsS108.alloc | apply IsS108.drewN | apply IsS108.drew | apply IsS108.set_1 | apply IsS108.set_2 | refine IsS108.far ?_ NB0_613.out _) | exact HI0.out))) : g ≠ gb625)); have NB625_0 := Zh ((by rw [hg]; exact Nat.ne_of_gt (IsS108.lt (show IsS108 w0 _ g s0_0 t617 t618 from by repeat (first | (with_reducible first | exact HI0.out | apply IsS108.alloc | apply IsS108.drewN | apply IsS108.drew | apply IsS108.set_1 | apply IsS108.set_2 | refine IsS108.far ?_ NB0_613.out _) | exact HI0.out))) : gb625 ≠ g)); replace HI0 := Zh (IsS108.below (by repeat (first | (with_reducible first | exact HI0.out | apply IsS108.alloc | apply IsS108.drewN | apply IsS108.drew | apply IsS108.set_1 | apply IsS108.set_2 | refine IsS108.far ?_ NB0_613.out _) | exact HI0.out)) hb); clear hb hbox hg; obtain ⟨Ao10, co10, eo10⟩ := S_slice HO621.out; subst eo10; have hnb11 := NB625_613.out; have hnc11 := NB613_625.out; have hnb12 := NB625_0.out; have hnc12 := NB0_625.out; have hcz13_0 : w9.cell? ⟨gb625, 0, none⟩ = some (.slice none 0 0) := (blk_cell BK625.out 0).trans rfl; have hfz13_0 := Zn BK625.out 0; have hnb14 := NB613_0.out; have hnc14 := NB0_613.out; have hcz15_0 : w9.cell? ⟨gb613, 0, none⟩ = some (.slice none 0 0) := (blk_cell BK613.out 0).trans rfl; have hfz15_0 := Zn BK613.out 0))
 refine Zq (results_cell_row rfl _ _ gb613 29 #[.slice Ao10 t619.length co10] (0, 0) _ rfl (by (with_reducible repeat (first | refine Za ?_ _ | refine Zb ?_ | refine blk_alloc ?_ _)); refine blk_put (cs := #[.slice none 0 0]) ?_ 0 _ rfl; (with_reducible repeat (first | refine Za ?_ _ | refine Zb ?_ | refine blk_alloc ?_ _)); refine blk_far ?_ NB613_625.out _; (with_reducible repeat (first | refine Za ?_ _ | refine Zb ?_ | refine blk_alloc ?_ _)); exact BK613.out) Tryd.underlying29 rfl (by kernel_rfl)) rfl ?_
 exact ⟨_, ZE, ZS (S_mono (S_far (p := ⟨gb613, 0, none⟩) (S_far (p := ⟨gb625, 0, none⟩) (S_types (S_types HO621.out BK625.out (by decide)) BK613.out (by decide)) (fun _ hk => hk.1.2) (.slice Ao10 t619.length co10)) (fun _ hk => hk.2) (.slice Ao10 t619.length co10)) (fun _ hk => trivial)), by repeat (first | (with_reducible first | exact HI0.out | apply IsS108.alloc | apply IsS108.drewN | apply IsS108.drew | apply IsS108.set_1 | apply IsS108.set_2 | refine IsS108.far ?_ NB0_613.out _ | refine IsS108.far ?_ NB0_625.out _) | exact HI0.out), by repeat (first | (with_reducible first | exact HB.out | apply Zf | apply Zd | apply Ze | refine Zg ?_ (IsS108.ge HI0.out) | refine Zg ?_ GE613.out | refine Zg ?_ GE625.out) | exact HB.out), by repeat (first | (with_reducible first | exact HK.out | apply KeepBut.set_ | apply keep_drewN | apply keep_drew | apply keep_alloc | refine keep_far ?_ GW613.out _ | refine keep_far ?_ GW625.out _) | exact HK.out)⟩
def spec_l03DrawCrash.l0 : Nat → List Int → List Int → Int → List Int → Int → Int → Option (List Int × List Int × Int × Int)
 | 0, _, _, _, _, _, _ => none
 | k + 1, x4, x5, x6, x1000, x1001, x1002 => if x6 > 0 then ((spec_l01Below.f x1000 x1001 x1002 9).bind fun bt635 => (if x4.length < 17592186044416 then ((spec_l01Below.f x1000 bt635.2.1 bt635.2.2 7).bind fun bt641 => (if x5.length < 17592186044416 then (spec_l03DrawCrash.l0 k (x4 ++ [wrap64 (bt635.1 - 1)]) (x5 ++ [wrap64 (bt641.1 - 2)]) (wrap64 (x6 - 1)) x1000 bt641.2.1 bt641.2.2) else (none))) else (none))) else (some (x4, x5, x1001, x1002))
def spec_l03DrawCrash.f (k : Nat) (s0_0 : List Int) (s0_1 : Int) (s0_2 : Int) : Option (List Int × List Int × Int × Int) := (spec_l01Below.f s0_0 s0_1 s0_2 6).bind fun bt632 => (spec_l03DrawCrash.l0 k (([] : List Int)) (([] : List Int)) bt632.1 s0_0 bt632.2.1 bt632.2.2)
set_option maxHeartbeats 8000000 in
set_option maxRecDepth 100000 in
theorem spec_l03DrawCrash.calls (k : Nat) (g : Nat) (s0_0 : List Int) (s0_1 : Int) (s0_2 : Int) (r1 : List Int) (r2 : List Int) (r3 : Int) (r4 : Int) (w0 w : World) (hI : IsS108 w0 w g s0_0 s0_1 s0_2) (hB : Below w0.heap.size w0 w) (h : spec_l03DrawCrash.f k s0_0 s0_1 s0_2 = some (r1, r2, r3, r4)) :
  Calls Tryd.prog 87 #[.pointer (some ⟨g, 0, none⟩)] w fun e w' => ∃ v0_ v1_ : Value, e = .returned (.tuple #[v0_, v1_]) ∧ Kd.R (Kd.int .i64) 3 w' w.heap.size (fun k_ => some k_ ≠ (v1_ : Value).ownBlock) v0_ r1 ∧ Kd.R (Kd.int .i64) 3 w' w.heap.size (fun k_ => some k_ ≠ (v0_ : Value).ownBlock) v1_ r2 ∧ IsS108 w0 w' g s0_0 r3 r4 ∧ Below w0.heap.size w0 w' ∧ KeepBut w w' g none := by
 have HI0 := Zh hI
 have HK := Zh (KeepBut.refl w g none)
 have HL := Zh hB.size
 clear hI
 have HW0 := Zh hB.size
 have HB := Zh hB
 clear hB
 have H : ((spec_l01Below.f s0_0 s0_1 s0_2 6).bind fun bt632 => (spec_l03DrawCrash.l0 k (([] : List Int)) (([] : List Int)) bt632.1 s0_0 bt632.2.1 bt632.2.2)) = some (r1, r2, r3, r4) := h
 clear h
 obtain ⟨y626, hy626⟩ : ∃ y_ : List Int, y_ = (([] : List Int)) := ⟨_, rfl⟩
 replace H : ((spec_l01Below.f s0_0 s0_1 s0_2 6).bind fun bt632 => (spec_l03DrawCrash.l0 k y626 (([] : List Int)) bt632.1 s0_0 bt632.2.1 bt632.2.2)) = some (r1, r2, r3, r4) := by first | (rw [hy626]; with_reducible exact H) | (have H2_ := (Option.bind_some _ _).symm.trans H; rw [hy626]; with_reducible exact H2_) | (have H2_ := (Option.bind_some _ _).symm.trans H; with_reducible exact H2_) | with_reducible exact H | (rw [hy626]; exact H) | exact H
 have Ny626 := Zh hy626
 clear hy626
 obtain ⟨y629, hy629⟩ : ∃ y_ : List Int, y_ = (([] : List Int)) := ⟨_, rfl⟩
 replace H : ((spec_l01Below.f s0_0 s0_1 s0_2 6).bind fun bt632 => (spec_l03DrawCrash.l0 k y626 y629 bt632.1 s0_0 bt632.2.1 bt632.2.2)) = some (r1, r2, r3, r4) := by first | (rw [hy629]; with_reducible exact H) | (have H2_ := (Option.bind_some _ _).symm.trans H; rw [hy629]; with_reducible exact H2_) | (have H2_ := (Option.bind_some _ _).symm.trans H; with_reducible exact H2_) | with_reducible exact H | (rw [hy629]; exact H) | exact H
 have Ny629 := Zh hy629
 clear hy629
 replace H := Option.bind_eq_some_iff.mp H
 obtain ⟨⟨t632, t633, t634⟩, A20, H⟩ := H
 replace H : (spec_l03DrawCrash.l0 k y626 y629 t632 s0_0 t633 t634) = some (r1, r2, r3, r4) := H
 have A2 := Zh A20
 clear A20
 have H' := Zh H
 clear H
 go_enter Tryd.func87, Tryd.ntmps87
 go_wp2_with (first | ((with_reducible refine gate_dst (N := 7) rfl ?_); refine R_lit (Kd.int .i64) _ 3 ?hg (N := 7) ?hd (xs := ([] : List Int)) (inner := []) (ok := fun _ => True) (okp := fun _ => True) ?hr ?hp (fun _ hk => hk) trivial (Below.refl _ _) (Nat.le_refl _) (by simp) ?_; (case hd => rfl); (case hg => rfl); (case hr => first | (go_simp; done) | (go_simp; rfl)); (case hp => exact (Reps.none _ _)); intro v627 w3 ho4 hb hg_ hnew_; clear hg_ hnew_; (first | rw [← Ny626.out] at ho4 | (simp only [Int.reduceToNat] at ho4; rw [← Ny626.out] at ho4)); have HO628 := Zh (R_lower ho4 (keep_size (w := w) (g := g) (row := none) (by repeat (first | (with_reducible first | exact HK.out | apply KeepBut.set_ | apply keep_drewN | apply keep_drew | apply keep_alloc) | exact HK.out)))); replace HK := Zh (KeepBut.trans (by repeat (first | (with_reducible first | exact HK.out | apply KeepBut.set_ | apply keep_drewN | apply keep_drew | apply keep_alloc) | exact HK.out)) (KeepBut.of_below hb g none) (.inl rfl)); replace HB := Zh (Zl (by repeat (first | (with_reducible first | exact HB.out | apply Zf | apply Zd | apply Ze | refine Zg ?_ (IsS108.ge HI0.out)) | exact HB.out)) hb); replace HI0 := Zh (IsS108.below (by repeat (first | (with_reducible first | exact HI0.out | apply IsS108.alloc | apply IsS108.drewN | apply IsS108.drew | apply IsS108.set_1 | apply IsS108.set_2) | exact HI0.out)) hb); clear hb ho4) | ((with_reducible refine gate_dst (N := 8) rfl ?_); refine R_lit (Kd.int .i64) _ 3 ?hg (N := 8) ?hd (xs := ([] : List Int)) (inner := []) (ok := fun _ => True) (okp := fun _ => True) ?hr ?hp (fun _ hk => hk) trivial (Below.refl _ _) (Nat.le_refl _) (by simp) ?_; (case hd => rfl); (case hg => rfl); (case hr => first | (go_simp; done) | (go_simp; rfl)); (case hp => exact (Reps.none _ _)); intro v630 w5 ho6 hb hg_ hnew_; clear hg_ hnew_; (first | rw [← Ny629.out] at ho6 | (simp only [Int.reduceToNat] at ho6; rw [← Ny629.out] at ho6)); have HO631 := Zh (R_lower (R_new' ho6 (R_lt (ZR HO628.out))) (keep_size (w := w) (g := g) (row := none) (by repeat (first | (with_reducible first | exact HK.out | apply KeepBut.set_ | apply keep_drewN | apply keep_drew | apply keep_alloc) | exact HK.out)))); replace HO628 := Zh (R_elder' (ZR HO628.out) (R_base ho6) hb); replace HK := Zh (KeepBut.trans (by repeat (first | (with_reducible first | exact HK.out | apply KeepBut.set_ | apply keep_drewN | apply keep_drew | apply keep_alloc) | exact HK.out)) (KeepBut.of_below hb g none) (.inl rfl)); replace HB := Zh (Zl (by repeat (first | (with_reducible first | exact HB.out | apply Zf | apply Zd | apply Ze | refine Zg ?_ (IsS108.ge HI0.out)) | exact HB.out)) hb); replace HI0 := Zh (IsS108.below (by repeat (first | (with_reducible first | exact HI0.out | apply IsS108.alloc | apply IsS108.drewN | apply IsS108.drew | apply IsS108.set_1 | apply IsS108.set_2) | exact HI0.out)) hb); clear hb ho6) | ((with_reducible refine gate_callee (f := 99) rfl ?_); refine ZG (some 10) Tryd.func99 #[.pointer (some ⟨g, 0, none⟩), .int .i64 6] rfl ?_; (with_reducible refine (spec_l01Below.calls g s0_0 s0_1 s0_2 6 t632 t633 t634 w0 _ ?side1 ?side2 A2.out).mono ?_); (case side1 => repeat (first | (with_reducible first | exact HI0.out | apply IsS108.alloc | apply IsS108.drewN | apply IsS108.drew | apply IsS108.set_1 | apply IsS108.set_2) | exact HI0.out)); (case side2 => repeat (first | (with_reducible first | exact HB.out | apply Zf | apply Zd | apply Ze | refine Zg ?_ (IsS108.ge HI0.out)) | exact HB.out)); rintro e w7 ⟨rfl, hi, hb, hk⟩; refine ⟨_, rfl, ?_⟩; replace HO628 := Zh (R_mono (R_keep (IsS108.apart (show IsS108 w0 _ g s0_0 s0_1 s0_2 from by repeat (first | (with_reducible first | exact HI0.out | apply IsS108.alloc | apply IsS108.drewN | apply IsS108.drew | apply IsS108.set_1 | apply IsS108.set_2) | exact HI0.out)) (ZR HO628.out) (by decide)) hk (fun _ h => h.2)) (fun _ h => h.1)); replace HO631 := Zh (R_mono (R_keep (IsS108.apart (show IsS108 w0 _ g s0_0 s0_1 s0_2 from by repeat (first | (with_reducible first | exact HI0.out | apply IsS108.alloc | apply IsS108.drewN | apply IsS108.drew | apply IsS108.set_1 | apply IsS108.set_2) | exact HI0.out)) (ZR HO631.out) (by decide)) hk (fun _ h => h.2)) (fun _ h => h.1)); replace HK := Zh (KeepBut.trans (by repeat (first | (with_reducible first | exact HK.out | apply KeepBut.set_ | apply keep_drewN | apply keep_drew | apply keep_alloc) | exact HK.out)) hk (.inl rfl)); replace HB := Zh (hb); replace HI0 := Zh (hi); (try clear hb); (try clear hb2); (try clear hk); (try clear hi)))
 go_loopg [4, 5, 6] k (fun kq v4 v5 v6 w' => ∃ (x4_1 : List Int) (x5_1 : List Int) (x6_1 : Int) (x1001_1 : Int) (x1002_1 : Int), v6 = .int .i64 x6_1 ∧ Aside0 (spec_l03DrawCrash.l0 kq x4_1 x5_1 x6_1 s0_0 x1001_1 x1002_1 = some (r1, r2, r3, r4)) ∧ Aside0 (kq ≤ k) ∧ Aside0 (Kd.R (Kd.int .i64) 3 w' w.heap.size (fun k_ => some k_ ≠ (v5 : Value).ownBlock) v4 x4_1) ∧ Aside0 (Kd.R (Kd.int .i64) 3 w' w.heap.size (fun k_ => some k_ ≠ (v4 : Value).ownBlock) v5 x5_1) ∧ Aside0 (IsS108 w0 w' g s0_0 x1001_1 x1002_1) ∧ Aside0 (KeepBut w w' g none) ∧ Aside0 (Below w0.heap.size w0 w'))
 case atStart => exact ⟨(y626), (y629), (t632), (t633), (t634), (by first | rfl | (simp; done) | (simp [*]; done)), H', ⟨Nat.le_refl _⟩, ⟨ZR (R_mono HO628.out (fun _ hk => hk.2))⟩, ⟨ZR (R_mono HO631.out (fun _ hk => hk.2))⟩, ⟨by repeat (first | (with_reducible first | exact HI0.out | apply IsS108.alloc | apply IsS108.drewN | apply IsS108.drew | apply IsS108.set_1 | apply IsS108.set_2) | exact HI0.out)⟩, ⟨by repeat (first | (with_reducible first | exact HK.out | apply KeepBut.set_ | apply keep_drewN | apply keep_drew | apply keep_alloc) | exact HK.out)⟩, ⟨by repeat (first | (with_reducible first | exact HB.out | apply Zf | apply Zd | apply Ze | refine Zg ?_ (IsS108.ge HI0.out)) | exact HB.out)⟩⟩
 case round =>
  clear H'
  try clear p2
  obtain ⟨x4_1, x5_1, x6_1, x1001_1, x1002_1, rfl, HA, HK1, HO_4, HO_5, HI0, HK, HB⟩ := hrel
  cases gk with
  | zero => exact absurd HA.out (by simp [spec_l03DrawCrash.l0])
  | succ k1 =>
   have H := HA.out
   clear HA
   simp only [spec_l03DrawCrash.l0] at H
   by_cases c8 : x6_1 > 0
   ·
    rw [if_pos c8] at H
    have c8b0 : decide (0 < x6_1) = true := decide_eq_true c8
    clear c8
    replace H := Option.bind_eq_some_iff.mp H
    obtain ⟨⟨t635, t636, t637⟩, A90, H⟩ := H
    replace H : (if x4_1.length < 17592186044416 then ((spec_l01Below.f s0_0 t636 t637 7).bind fun bt641 => (if x5_1.length < 17592186044416 then (spec_l03DrawCrash.l0 k1 (x4_1 ++ [wrap64 (t635 - 1)]) (x5_1 ++ [wrap64 (bt641.1 - 2)]) (wrap64 (x6_1 - 1)) s0_0 bt641.2.1 bt641.2.2) else (none))) else (none)) = some (r1, r2, r3, r4) := H
    have A9 := Zh A90
    clear A90
    by_cases c10 : x4_1.length < 17592186044416
    ·
     rw [if_pos c10] at H
     have LMc10 := Zh c10
     clear c10
     obtain ⟨y638, hy638⟩ : ∃ y_ : List Int, y_ = (x4_1 ++ [wrap64 (t635 - 1)]) := ⟨_, rfl⟩
     replace H : ((spec_l01Below.f s0_0 t636 t637 7).bind fun bt641 => (if x5_1.length < 17592186044416 then (spec_l03DrawCrash.l0 k1 y638 (x5_1 ++ [wrap64 (bt641.1 - 2)]) (wrap64 (x6_1 - 1)) s0_0 bt641.2.1 bt641.2.2) else (none))) = some (r1, r2, r3, r4) := by first | (rw [hy638]; with_reducible exact H) | (have H2_ := (Option.bind_some _ _).symm.trans H; rw [hy638]; with_reducible exact H2_) | (have H2_ := (Option.bind_some _ _).symm.trans H; with_reducible exact H2_) | with_reducible exact H | (rw [hy638]; exact H) | exact H
     have Ny638 := Zh hy638
     clear hy638
     replace H := Option.bind_eq_some_iff.mp H
     obtain ⟨⟨t641, t642, t643⟩, A110, H⟩ := H
     replace H : (if x5_1.length < 17592186044416 then (spec_l03DrawCrash.l0 k1 y638 (x5_1 ++ [wrap64 (t641 - 2)]) (wrap64 (x6_1 - 1)) s0_0 t642 t643) else (none)) = some (r1, r2, r3, r4) := H
     have A11 := Zh A110
     clear A110
     by_cases c12 : x5_1.length < 17592186044416
     ·
      rw [if_pos c12] at H
      have LMc12 := Zh c12
      clear c12
      obtain ⟨y644, hy644⟩ : ∃ y_ : List Int, y_ = (x5_1 ++ [wrap64 (t641 - 2)]) := ⟨_, rfl⟩
      replace H : (spec_l03DrawCrash.l0 k1 y638 y644 (wrap64 (x6_1 - 1)) s0_0 t642 t643) = some (r1, r2, r3, r4) := by first | (rw [hy644]; with_reducible exact H) | (have H2_ := (Option.bind_some _ _).symm.trans H; rw [hy644]; with_reducible exact H2_) | (have H2_ := (Option.bind_some _ _).symm.trans H; with_reducible exact H2_) | with_reducible exact H | (rw [hy644]; exact H) | exact H
      have Ny644 := Zh hy644
      clear hy644
      have H' := Zh H
      clear H
      go_wp2_with (first | ((with_reducible refine gate_callee (f := 99) rfl ?_); refine ZG (some 17) Tryd.func99 #[.pointer (some ⟨g, 0, none⟩), .int .i64 9] rfl ?_; (with_reducible refine (spec_l01Below.calls g s0_0 x1001_1 x1002_1 9 t635 t636 t637 w0 _ ?side1 ?side2 A9.out).mono ?_); (case side1 => repeat (first | (with_reducible first | exact HI0.out | apply IsS108.alloc | apply IsS108.drewN | apply IsS108.drew | apply IsS108.set_1 | apply IsS108.set_2) | exact HI0.out)); (case side2 => repeat (first | (with_reducible first | exact HB.out | apply Zf | apply Zd | apply Ze | refine Zg ?_ (IsS108.ge HI0.out)) | exact HB.out)); rintro e w13 ⟨rfl, hi, hb, hk⟩; refine ⟨_, rfl, ?_⟩; replace HO_4 := Zh (R_mono (R_keep (IsS108.apart (show IsS108 w0 _ g s0_0 x1001_1 x1002_1 from by repeat (first | (with_reducible first | exact HI0.out | apply IsS108.alloc | apply IsS108.drewN | apply IsS108.drew | apply IsS108.set_1 | apply IsS108.set_2) | exact HI0.out)) (ZR HO_4.out) (by decide)) hk (fun _ h => h.2)) (fun _ h => h.1)); replace HO_5 := Zh (R_mono (R_keep (IsS108.apart (show IsS108 w0 _ g s0_0 x1001_1 x1002_1 from by repeat (first | (with_reducible first | exact HI0.out | apply IsS108.alloc | apply IsS108.drewN | apply IsS108.drew | apply IsS108.set_1 | apply IsS108.set_2) | exact HI0.out)) (ZR HO_5.out) (by decide)) hk (fun _ h => h.2)) (fun _ h => h.1)); replace HK := Zh (KeepBut.trans (by repeat (first | (with_reducible first | exact HK.out | apply KeepBut.set_ | apply keep_drewN | apply keep_drew | apply keep_alloc) | exact HK.out)) hk (.inl rfl)); replace HB := Zh (hb); replace HI0 := Zh (hi); (try clear hb); (try clear hb2); (try clear hk); (try clear hi)) | ((with_reducible refine gate_builtin (b := .append) (xs := #[.tmp 15, .tmp 19]) rfl ?_); at_builtin; refine R_append (Kd.int .i64) w.heap.size rfl (.tmp 15) (.tmp 19) 44 3 (.int .i64 0) 8 rfl Tryd.underlying44 info3 rfl (by decide) (by omega) u4 x4_1 (wrap64 (t635 - 1)) [.int .i64 (wrap64 (t635 - 1))] (fun k_ => some k_ ≠ (u5 : Value).ownBlock) (fun _ => False) rfl rfl ?aP (fun _ hk => hk.elim) ?aF ?aO (Below.refl _ _) ?aS ?aL ?_; (case aP => exact rfl); (case aF => exact (fun k_ hk => Kd.fresh' (R_lt (ZR HO_5.out)) k_ hk)); (case aO => exact (ZR HO_4.out)); (case aS => exact (keep_size (w := w) (g := g) (row := none) (by repeat (first | (with_reducible first | exact HK.out | apply KeepBut.set_ | apply keep_drewN | apply keep_drew | apply keep_alloc) | exact HK.out)))); (case aL => have := LMc10.out; omega); intro v639 w14 ho hb hg hat; rw [← Ny638.out] at ho; have n0_ := Zh (R_after (ok := (fun _ => True)) (ZR (R_mono HO_5.out (fun _ hk => ⟨trivial, hk⟩))) hg hat); have n1_ := Zh (IsS108.grown (show IsS108 w0 _ g s0_0 t636 t637 from by repeat (first | (with_reducible first | exact HI0.out | apply IsS108.alloc | apply IsS108.drewN | apply IsS108.drew | apply IsS108.set_1 | apply IsS108.set_2) | exact HI0.out)) hg (IsS108.own_ne HI0.out HO_4.out (by decide))); have n2_ := Zh (below_weaken (by repeat (first | (with_reducible first | exact HB.out | apply Zf | apply Zd | apply Ze | refine Zg ?_ (IsS108.ge HI0.out)) | exact HB.out)) HL.out hb); have n3_ := Zh (KeepBut.trans (by repeat (first | (with_reducible first | exact HK.out | apply KeepBut.set_ | apply keep_drewN | apply keep_drew | apply keep_alloc) | exact HK.out)) (KeepBut.of_grown hg g) (R_base2 HO_4.out)); have n4_ := Zh (ho); clear HO_5; clear HI0; clear HB; clear HK; clear HO_4; have HO_5 := n0_; have HI0 := n1_; have HB := n2_; have HK := n3_; have HO640 := n4_; clear n0_ n1_ n2_ n3_ n4_; clear ho hb hg hat) | ((with_reducible refine gate_callee (f := 99) rfl ?_); refine ZG (some 23) Tryd.func99 #[.pointer (some ⟨g, 0, none⟩), .int .i64 7] rfl ?_; (with_reducible refine (spec_l01Below.calls g s0_0 t636 t637 7 t641 t642 t643 w0 _ ?side1 ?side2 A11.out).mono ?_); (case side1 => repeat (first | (with_reducible first | exact HI0.out | apply IsS108.alloc | apply IsS108.drewN | apply IsS108.drew | apply IsS108.set_1 | apply IsS108.set_2) | exact HI0.out)); (case side2 => repeat (first | (with_reducible first | exact HB.out | apply Zf | apply Zd | apply Ze | refine Zg ?_ (IsS108.ge HI0.out)) | exact HB.out)); rintro e w15 ⟨rfl, hi, hb, hk⟩; refine ⟨_, rfl, ?_⟩; replace HO_5 := Zh (R_mono (R_keep (IsS108.apart (show IsS108 w0 _ g s0_0 t636 t637 from by repeat (first | (with_reducible first | exact HI0.out | apply IsS108.alloc | apply IsS108.drewN | apply IsS108.drew | apply IsS108.set_1 | apply IsS108.set_2) | exact HI0.out)) (ZR HO_5.out) (by decide)) hk (fun _ h => h.2)) (fun _ h => h.1)); replace HO640 := Zh (R_mono (R_keep (IsS108.apart (show IsS108 w0 _ g s0_0 t636 t637 from by repeat (first | (with_reducible first | exact HI0.out | apply IsS108.alloc | apply IsS108.drewN | apply IsS108.drew | apply IsS108.set_1 | apply IsS108.set_2) | exact HI0.out)) (ZR HO640.out) (by decide)) hk (fun _ h => h.2)) (fun _ h => h.1)); replace HK := Zh (KeepBut.trans (by repeat (first | (with_reducible first | exact HK.out | apply KeepBut.set_ | apply keep_drewN | apply keep_drew | apply keep_alloc) | exact HK.out)) hk (.inl rfl)); replace HB := Zh (hb); replace HI0 := Zh (hi); (try clear hb); (try clear hb2); (try clear hk); (try clear hi)) | ((with_reducible refine gate_builtin (b := .append) (xs := #[.tmp 21, .tmp 25]) rfl ?_); at_builtin; refine R_append (Kd.int .i64) w.heap.size rfl (.tmp 21) (.tmp 25) 44 3 (.int .i64 0) 8 rfl Tryd.underlying44 info3 rfl (by decide) (by omega) u5 x5_1 (wrap64 (t641 - 2)) [.int .i64 (wrap64 (t641 - 2))] (fun k_ => some k_ ≠ (v639 : Value).ownBlock) (fun _ => False) rfl rfl ?aP (fun _ hk => hk.elim) ?aF ?aO (Below.refl _ _) ?aS ?aL ?_; (case aP => exact rfl); (case aF => exact (fun k_ hk => Kd.fresh' (R_lt (ZR HO640.out)) k_ hk)); (case aO => exact (ZR (R_mono HO_5.out (fun _ hk => hk.2)))); (case aS => exact (keep_size (w := w) (g := g) (row := none) (by repeat (first | (with_reducible first | exact HK.out | apply KeepBut.set_ | apply keep_drewN | apply keep_drew | apply keep_alloc) | exact HK.out)))); (case aL => have := LMc12.out; omega); intro v645 w16 ho hb hg hat; rw [← Ny644.out] at ho; have n0_ := Zh (IsS108.grown (show IsS108 w0 _ g s0_0 t642 t643 from by repeat (first | (with_reducible first | exact HI0.out | apply IsS108.alloc | apply IsS108.drewN | apply IsS108.drew | apply IsS108.set_1 | apply IsS108.set_2) | exact HI0.out)) hg (IsS108.own_ne HI0.out HO_5.out (by decide))); have n1_ := Zh (R_after (ok := (fun _ => True)) (ZR (R_mono HO640.out (fun _ hk => ⟨trivial, hk⟩))) hg hat); have n2_ := Zh (below_weaken (by repeat (first | (with_reducible first | exact HB.out | apply Zf | apply Zd | apply Ze | refine Zg ?_ (IsS108.ge HI0.out)) | exact HB.out)) HL.out hb); have n3_ := Zh (KeepBut.trans (by repeat (first | (with_reducible first | exact HK.out | apply KeepBut.set_ | apply keep_drewN | apply keep_drew | apply keep_alloc) | exact HK.out)) (KeepBut.of_grown hg g) (R_base2 HO_5.out)); have n4_ := Zh (ho); clear HI0; clear HO640; clear HB; clear HK; clear HO_5; have HI0 := n0_; have HO640 := n1_; have HB := n2_; have HK := n3_; have HO646 := n4_; clear n0_ n1_ n2_ n3_ n4_; clear ho hb hg hat))
      go_roundg k1
      case measure => have := HK1.out; omega
      case rel => exact ⟨(y638), (y644), (wrap64 (x6_1 - 1)), (t642), (t643), (by first | rfl | (simp; done) | (simp [*]; done)), H', ⟨by have := HK1.out; omega⟩, ⟨ZR (R_mono HO640.out (fun _ hk => hk.2))⟩, ⟨ZR HO646.out⟩, ⟨by repeat (first | (with_reducible first | exact HI0.out | apply IsS108.alloc | apply IsS108.drewN | apply IsS108.drew | apply IsS108.set_1 | apply IsS108.set_2) | exact HI0.out)⟩, ⟨by repeat (first | (with_reducible first | exact HK.out | apply KeepBut.set_ | apply keep_drewN | apply keep_drew | apply keep_alloc) | exact HK.out)⟩, ⟨by repeat (first | (with_reducible first | exact HB.out | apply Zf | apply Zd | apply Ze | refine Zg ?_ (IsS108.ge HI0.out)) | exact HB.out)⟩⟩
     rw [if_neg c12] at H
     exact absurd H (by simp)
    rw [if_neg c10] at H
    exact absurd H (by simp)
   rw [if_neg c8] at H
   have c8b0 : decide (0 < x6_1) = false := decide_eq_false c8
   clear c8
   simp only [Option.some.injEq, Prod.mk.injEq] at H
   obtain ⟨rfl, rfl, rfl, rfl⟩ := H
   go_wp2
   go_ret2
   exact ⟨_, _, ZE, ZR HO_4.out, ZR HO_5.out, by repeat (first | (with_reducible first | exact HI0.out | apply IsS108.alloc | apply IsS108.drewN | apply IsS108.drew | apply IsS108.set_1 | apply IsS108.set_2) | exact HI0.out), by repeat (first | (with_reducible first | exact HB.out | apply Zf | apply Zd | apply Ze | refine Zg ?_ (IsS108.ge HI0.out)) | exact HB.out), by repeat (first | (with_reducible first | exact HK.out | apply KeepBut.set_ | apply keep_drewN | apply keep_drew | apply keep_alloc) | exact HK.out)⟩
def spec_DrawRightDisk.f (k : Nat) (l0 : List Int) : Option ((List (S74)) × (List (S71)) × List Int × List Int) := (spec_l01New.f k l0).bind fun bt648 => ((spec_l03DrawRight.f k bt648.1 bt648.2.1 bt648.2.2 l0).bind fun bt652 => ((spec_l03DrawOps.f k bt648.1 bt652.2.1 bt652.2.2 l0).bind fun bt658 => ((spec_l03DrawCrash.f k bt648.1 bt658.2.1 bt658.2.2).bind fun bt663 => (some (bt652.1, bt658.1, bt663.1, bt663.2.1)))))
set_option maxHeartbeats 8000000 in
set_option maxRecDepth 100000 in
theorem spec_DrawRightDisk.calls (k : Nat) (A0 : Option Addr) (c0 : Nat) (l0 : List Int) (r1 : List (S74)) (r2 : List (S71)) (r3 : List Int) (r4 : List Int) (w : World) (hr0 : Kd.C (Kd.int .u8) w A0 l0.length l0) (hc0 : l0.length ≤ c0) (h : spec_DrawRightDisk.f k l0 = some (r1, r2, r3, r4)) :
  Calls Tryd.prog 52 #[.slice A0 l0.length c0] w fun e w' => ∃ v0_ v1_ v2_ v3_ : Value, e = .returned (.tuple #[.agg #[v0_], v1_, v2_, v3_]) ∧ Kd.S k74 74 w' w.heap.size (fun _ => True) v0_ r1 ∧ Kd.S k71 71 w' w.heap.size (fun _ => True) v1_ r2 ∧ Kd.R (Kd.int .i64) 3 w' w.heap.size (fun k_ => some k_ ≠ (v3_ : Value).ownBlock) v2_ r3 ∧ Kd.R (Kd.int .i64) 3 w' w.heap.size (fun k_ => some k_ ≠ (v2_ : Value).ownBlock) v3_ r4 ∧ Below w.heap.size w w' := by
 have hu29 := Tryd.underlying29
 have HR0 := Zh hr0
 have HC0 := Zh hc0
 clear hr0 hc0
 have HB := Zh (Below.refl w.heap.size w)
 have H : ((spec_l01New.f k l0).bind fun bt648 => ((spec_l03DrawRight.f k bt648.1 bt648.2.1 bt648.2.2 l0).bind fun bt652 => ((spec_l03DrawOps.f k bt648.1 bt652.2.1 bt652.2.2 l0).bind fun bt658 => ((spec_l03DrawCrash.f k bt648.1 bt658.2.1 bt658.2.2).bind fun bt663 => (some (bt652.1, bt658.1, bt663.1, bt663.2.1)))))) = some (r1, r2, r3, r4) := h
 clear h
 replace H := Option.bind_eq_some_iff.mp H
 obtain ⟨⟨t648, t649, t650⟩, A20, H⟩ := H
 replace H : ((spec_l03DrawRight.f k t648 t649 t650 l0).bind fun bt652 => ((spec_l03DrawOps.f k t648 bt652.2.1 bt652.2.2 l0).bind fun bt658 => ((spec_l03DrawCrash.f k t648 bt658.2.1 bt658.2.2).bind fun bt663 => (some (bt652.1, bt658.1, bt663.1, bt663.2.1))))) = some (r1, r2, r3, r4) := H
 have A2 := Zh A20
 clear A20
 replace H := Option.bind_eq_some_iff.mp H
 obtain ⟨⟨t652, t655, t656⟩, A30, H⟩ := H
 replace H : ((spec_l03DrawOps.f k t648 t655 t656 l0).bind fun bt658 => ((spec_l03DrawCrash.f k t648 bt658.2.1 bt658.2.2).bind fun bt663 => (some (t652, bt658.1, bt663.1, bt663.2.1)))) = some (r1, r2, r3, r4) := H
 have A3 := Zh A30
 clear A30
 replace H := Option.bind_eq_some_iff.mp H
 obtain ⟨⟨t658, t661, t662⟩, A40, H⟩ := H
 replace H : ((spec_l03DrawCrash.f k t648 t661 t662).bind fun bt663 => (some (t652, t658, bt663.1, bt663.2.1))) = some (r1, r2, r3, r4) := H
 have A4 := Zh A40
 clear A40
 replace H := Option.bind_eq_some_iff.mp H
 obtain ⟨⟨t663, t666, t669, t670⟩, A50, H⟩ := H
 replace H : (some (t652, t658, t663, t666)) = some (r1, r2, r3, r4) := H
 have A5 := Zh A50
 clear A50
 simp only [Option.some.injEq, Prod.mk.injEq] at H
 obtain ⟨rfl, rfl, rfl, rfl⟩ := H
 go_enter Tryd.func52, Tryd.ntmps52
 go_wp2_with (first | ((with_reducible refine gate_dst (N := 2) rfl ?_); refine box_event ?hg (N := 2) ?hd (cs := #[.slice none 0 0]) (t := 29) ?hr ?_; (case hd => rfl); (case hg => rfl); (case hr => first | (go_simp; done) | (go_simp; rfl)); intro gb647 hg w6 hbox hb; have BK647 := Zh (hbox); have GW647 := Zh ((by rw [hg]; exact (below_size Zs) : w.heap.size ≤ gb647)); have GE647 := Zh ((by rw [hg]; exact (below_size Zs) : w.heap.size ≤ gb647)); replace HB := Zh (Zl Zs hb); clear hb hbox hg) | ((with_reducible refine gate_callee (f := 84) rfl ?_); refine ZG (some 12) Tryd.func84 #[.slice A0 l0.length c0] rfl ?_; (with_reducible refine (spec_l01New.calls k _ _ l0 t648 t649 t650 w _ ?side1 ?side2 ?side3 A2.out).mono ?_); (case side1 => repeat (first | (with_reducible first | exact HB.out | apply Zf | apply Zd | apply Ze | refine Zg ?_ GE647.out) | exact HB.out)); (case side2 => exact HR0.out); (case side3 => exact HC0.out); rintro e w7 ⟨g651, rfl, hi, hb, hb2⟩; refine ⟨_, rfl, ?_⟩; replace HB := Zh (hb); have HI651 := Zh (hi); have NB651_647 := Zh (IsS108.ne_blk hi (Zm (g := gb647) (o := .cells #[.slice none 0 0] 29 (0, 0)) Zk hb2) (by decide)); have NB647_651 := Zh (Ne.symm (IsS108.ne_blk hi (Zm (g := gb647) (o := .cells #[.slice none 0 0] 29 (0, 0)) Zk hb2) (by decide))); replace BK647 := Zh (Zm (g := gb647) (o := .cells #[.slice none 0 0] 29 (0, 0)) Zk hb2); (try clear hb); (try clear hb2); (try clear hk); (try clear hi)) | ((with_reducible refine gate_callee (f := 85) rfl ?_); refine ZG (some 15) Tryd.func85 #[.pointer (some ⟨g651, 0, none⟩), .slice A0 l0.length c0] rfl ?_; (with_reducible refine (spec_l03DrawRight.calls k g651 t648 t649 t650 _ _ l0 t652 t655 t656 w _ ?side1 ?side2 ?side3 ?side4 ?side5 A3.out).mono ?_); (case side1 => repeat (first | (with_reducible first | exact HI651.out | apply IsS108.alloc | apply IsS108.drewN | apply IsS108.drew | apply IsS108.set_1 | apply IsS108.set_2 | refine IsS108.far ?_ NB651_647.out _) | exact HI651.out)); (case side2 => repeat (first | (with_reducible first | exact HB.out | apply Zf | apply Zd | apply Ze | refine Zg ?_ (IsS108.ge HI651.out) | refine Zg ?_ GE647.out) | exact HB.out)); (case side3 => repeat (first | exact (C_below HR0.out HB.out) | (with_reducible refine C_alloc ?_ _) | (with_reducible refine C_drewN ?_ _) | (with_reducible refine C_drew ?_))); (case side4 => exact HC0.out); (case side5 => exact Kd.far_C 0 HR0.out (IsS108.ge HI651.out)); rintro e w8 ⟨v653, rfl, ho0, hi, hb, hk⟩; refine ⟨_, rfl, ?_⟩; replace BK647 := Zh (KeepBut.blk hk (g' := gb647) (o := .cells #[.slice none 0 0] 29 (0, 0)) Zk NB647_651.out (by simp)); have HO654 := Zh (S_lower ho0 (below_size (by repeat (first | (with_reducible first | exact HB.out | apply Zf | apply Zd | apply Ze | refine Zg ?_ (IsS108.ge HI651.out) | refine Zg ?_ GE647.out) | exact HB.out)))); replace HB := Zh (hb); replace HI651 := Zh (hi); (try clear hb); (try clear hb2); (try clear hk); (try clear hi); (try clear ho0)) | ((with_reducible refine gate_dst (N := 7) rfl ?_); refine box_event ?hg (N := 7) ?hd (cs := #[.slice none 0 0]) (t := 29) ?hr ?_; (case hd => rfl); (case hg => rfl); (case hr => first | (go_simp; done) | (go_simp; rfl)); intro gb657 hg w9 hbox hb; replace HO654 := Zh (S_below (ZS HO654.out) hb); have BK657 := Zh (hbox); have GW657 := Zh ((by rw [hg]; exact (below_size (by repeat (first | (with_reducible first | exact HB.out | apply Zf | apply Zd | apply Ze | refine Zg ?_ (IsS108.ge HI651.out) | refine Zg ?_ GE647.out) | exact HB.out))) : w.heap.size ≤ gb657)); have GE657 := Zh ((by rw [hg]; exact (below_size (by repeat (first | (with_reducible first | exact HB.out | apply Zf | apply Zd | apply Ze | refine Zg ?_ (IsS108.ge HI651.out) | refine Zg ?_ GE647.out) | exact HB.out))) : w.heap.size ≤ gb657)); replace HB := Zh (Zl (by repeat (first | (with_reducible first | exact HB.out | apply Zf | apply Zd | apply Ze | refine Zg ?_ (IsS108.ge HI651.out) | refine Zg ?_ GE647.out) | exact HB.out)) hb); have NB647_657 := Zh ((by rw [hg]; exact Nat.ne_of_lt (blk_lt (g := gb647) (o := .cells #[.slice none 0 0] 29 (0, 0)) Zk) : gb647 ≠ gb657)); have NB657_647 := Zh ((by rw [hg]; exact Nat.ne_of_gt (blk_lt (g := gb647) (o := .cells #[.slice none 0 0] 29 (0, 0)) Zk) : gb657 ≠ gb647)); replace BK647 := Zh (Zm (g := gb647) (o := .cells #[.slice none 0 0] 29 (0, 0)) Zk hb); have NB651_657 := Zh ((by rw [hg]; exact Nat.ne_of_lt (IsS108.lt (show IsS108 w _ g651 t648 t655 t656 from by repeat (first | (with_reducible first | exact HI651.out | apply IsS108.alloc | apply IsS108.drewN | apply IsS108.drew | apply IsS108.set_1 | apply IsS108.set_2 | refine IsS108.far ?_ NB651_647.out _) | exact HI651.out))) : g651 ≠ gb657)); have NB657_651 := Zh ((by rw [hg]; exact Nat.ne_of_gt (IsS108.lt (show IsS108 w _ g651 t648 t655 t656 from by repeat (first | (with_reducible first | exact HI651.out | apply IsS108.alloc | apply IsS108.drewN | apply IsS108.drew | apply IsS108.set_1 | apply IsS108.set_2 | refine IsS108.far ?_ NB651_647.out _) | exact HI651.out))) : gb657 ≠ g651)); replace HI651 := Zh (IsS108.below (by repeat (first | (with_reducible first | exact HI651.out | apply IsS108.alloc | apply IsS108.drewN | apply IsS108.drew | apply IsS108.set_1 | apply IsS108.set_2 | refine IsS108.far ?_ NB651_647.out _) | exact HI651.out)) hb); clear hb hbox hg; obtain ⟨Ao10, co10, eo10⟩ := S_slice HO654.out; subst eo10; have hnb11 := NB657_647.out; have hnc11 := NB647_657.out; have hnb12 := NB657_651.out; have hnc12 := NB651_657.out; have hcz13_0 : w9.cell? ⟨gb657, 0, none⟩ = some (.slice none 0 0) := (blk_cell BK657.out 0).trans rfl; have hfz13_0 := Zn BK657.out 0) | ((with_reducible refine gate_callee (f := 86) rfl ?_); refine ZG (some 18) Tryd.func86 #[.pointer (some ⟨g651, 0, none⟩), .slice A0 l0.length c0] rfl ?_; (with_reducible refine (spec_l03DrawOps.calls k g651 t648 t655 t656 _ _ l0 t658 t661 t662 w _ ?side1 ?side2 ?side3 ?side4 ?side5 A4.out).mono ?_); (case side1 => repeat (first | (with_reducible first | exact HI651.out | apply IsS108.alloc | apply IsS108.drewN | apply IsS108.drew | apply IsS108.set_1 | apply IsS108.set_2 | refine IsS108.far ?_ NB651_647.out _ | refine IsS108.far ?_ NB651_657.out _) | exact HI651.out)); (case side2 => repeat (first | (with_reducible first | exact HB.out | apply Zf | apply Zd | apply Ze | refine Zg ?_ (IsS108.ge HI651.out) | refine Zg ?_ GE647.out | refine Zg ?_ GE657.out) | exact HB.out)); (case side3 => exact C_below HR0.out (by repeat (first | (with_reducible first | exact HB.out | apply Zf | apply Zd | apply Ze | refine Zg ?_ (IsS108.ge HI651.out) | refine Zg ?_ GE647.out | refine Zg ?_ GE657.out) | exact HB.out))); (case side4 => exact HC0.out); (case side5 => exact Kd.far_C 0 HR0.out (IsS108.ge HI651.out)); rintro e w14 ⟨v659, rfl, ho0, hi, hb, hk⟩; refine ⟨_, rfl, ?_⟩; replace BK647 := Zh (KeepBut.blk hk (g' := gb647) (o := .cells #[.slice none 0 0] 29 (0, 0)) (by (with_reducible repeat (first | refine Za ?_ _ | refine Zb ?_ | refine blk_alloc ?_ _)); refine blk_far ?_ NB647_657.out _; (with_reducible repeat (first | refine Za ?_ _ | refine Zb ?_ | refine blk_alloc ?_ _)); exact BK647.out) NB647_651.out (by simp)); replace HO654 := Zh (S_mono (S_keep (IsS108.apartS (show IsS108 w _ g651 t648 t655 t656 from by repeat (first | (with_reducible first | exact HI651.out | apply IsS108.alloc | apply IsS108.drewN | apply IsS108.drew | apply IsS108.set_1 | apply IsS108.set_2 | refine IsS108.far ?_ NB651_647.out _ | refine IsS108.far ?_ NB651_657.out _) | exact HI651.out)) (ZS (S_mono (S_far (p := ⟨gb657, 0, none⟩) (S_types HO654.out BK657.out (by decide)) (fun _ hk => hk.2) (.slice Ao10 t652.length co10)) (fun _ h_ => h_.1))) (by decide)) hk (fun _ h => h.2)) (fun _ h => h.1)); replace BK657 := Zh (KeepBut.blk hk (g' := gb657) (o := .cells #[.slice Ao10 t652.length co10] 29 (0, 0)) (by (with_reducible repeat (first | refine Za ?_ _ | refine Zb ?_ | refine blk_alloc ?_ _)); refine blk_put (cs := #[.slice none 0 0]) ?_ 0 _ rfl; (with_reducible repeat (first | refine Za ?_ _ | refine Zb ?_ | refine blk_alloc ?_ _)); exact BK657.out) NB657_651.out (by simp)); have HO660 := Zh (S_lower ho0 (below_size (by repeat (first | (with_reducible first | exact HB.out | apply Zf | apply Zd | apply Ze | refine Zg ?_ (IsS108.ge HI651.out) | refine Zg ?_ GE647.out | refine Zg ?_ GE657.out) | exact HB.out)))); replace HB := Zh (hb); replace HI651 := Zh (hi); (try clear hb); (try clear hb2); (try clear hk); (try clear hi); (try clear ho0)) | ((with_reducible refine gate_callee (f := 87) rfl ?_); refine ZG (some 21) Tryd.func87 #[.pointer (some ⟨g651, 0, none⟩)] rfl ?_; (with_reducible refine (spec_l03DrawCrash.calls k g651 t648 t661 t662 t663 t666 t669 t670 w _ ?side1 ?side2 A5.out).mono ?_); (case side1 => repeat (first | (with_reducible first | exact HI651.out | apply IsS108.alloc | apply IsS108.drewN | apply IsS108.drew | apply IsS108.set_1 | apply IsS108.set_2 | refine IsS108.far ?_ NB651_647.out _ | refine IsS108.far ?_ NB651_657.out _) | exact HI651.out)); (case side2 => repeat (first | (with_reducible first | exact HB.out | apply Zf | apply Zd | apply Ze | refine Zg ?_ (IsS108.ge HI651.out) | refine Zg ?_ GE647.out | refine Zg ?_ GE657.out) | exact HB.out)); rintro e w15 ⟨v664, v667, rfl, ho0, ho1, hi, hb, hk⟩; refine ⟨_, rfl, ?_⟩; replace BK647 := Zh (KeepBut.blk hk (g' := gb647) (o := .cells #[.slice none 0 0] 29 (0, 0)) Zk NB647_651.out (by simp)); replace HO654 := Zh (S_mono (S_keep (IsS108.apartS (show IsS108 w _ g651 t648 t661 t662 from by repeat (first | (with_reducible first | exact HI651.out | apply IsS108.alloc | apply IsS108.drewN | apply IsS108.drew | apply IsS108.set_1 | apply IsS108.set_2 | refine IsS108.far ?_ NB651_647.out _ | refine IsS108.far ?_ NB651_657.out _) | exact HI651.out)) (ZS HO654.out) (by decide)) hk (fun _ h => h.2)) (fun _ h => h.1)); replace BK657 := Zh (KeepBut.blk hk (g' := gb657) (o := .cells #[.slice Ao10 t652.length co10] 29 (0, 0)) Zk NB657_651.out (by simp)); replace HO660 := Zh (S_mono (S_keep (IsS108.apartS (show IsS108 w _ g651 t648 t661 t662 from by repeat (first | (with_reducible first | exact HI651.out | apply IsS108.alloc | apply IsS108.drewN | apply IsS108.drew | apply IsS108.set_1 | apply IsS108.set_2 | refine IsS108.far ?_ NB651_647.out _ | refine IsS108.far ?_ NB651_657.out _) | exact HI651.out)) (ZS HO660.out) (by decide)) hk (fun _ h => h.2)) (fun _ h => h.1)); have HO665 := Zh (R_lower ho0 (below_size (by repeat (first | (with_reducible first | exact HB.out | apply Zf | apply Zd | apply Ze | refine Zg ?_ (IsS108.ge HI651.out) | refine Zg ?_ GE647.out | refine Zg ?_ GE657.out) | exact HB.out)))); have HO668 := Zh (R_lower ho1 (below_size (by repeat (first | (with_reducible first | exact HB.out | apply Zf | apply Zd | apply Ze | refine Zg ?_ (IsS108.ge HI651.out) | refine Zg ?_ GE647.out | refine Zg ?_ GE657.out) | exact HB.out)))); replace HB := Zh (hb); replace HI651 := Zh (hi); (try clear hb); (try clear hb2); (try clear hk); (try clear hi); (try clear ho0); (try clear ho1); have hcz16_0 : w15.cell? ⟨gb657, 0, none⟩ = some (.slice Ao10 t652.length co10) := (blk_cell BK657.out 0).trans rfl; have hfz16_0 := Zn BK657.out 0; have hnb17 := NB647_651.out; have hnc17 := NB651_647.out; have hcz18_0 : w15.cell? ⟨gb647, 0, none⟩ = some (.slice none 0 0) := (blk_cell BK647.out 0).trans rfl; have hfz18_0 := Zn BK647.out 0))
 refine Zq (results_list (rs := [.cell 2 29, .tmp 3, .tmp 4, .tmp 5]) rfl (by simp) (.cell gb647 29 #[.slice Ao10 t652.length co10] (0, 0) _ rfl (by (with_reducible repeat (first | refine Za ?_ _ | refine Zb ?_ | refine blk_alloc ?_ _)); refine blk_put (cs := #[.slice none 0 0]) ?_ 0 _ rfl; (with_reducible repeat (first | refine Za ?_ _ | refine Zb ?_ | refine blk_alloc ?_ _)); exact BK647.out) Tryd.underlying29 rfl (by kernel_rfl) (.tmp (.tmp (.tmp .nil))))) rfl ?_
 exact ⟨_, _, _, _, ZE, ZS (S_mono (S_far (p := ⟨gb647, 0, none⟩) (S_types HO654.out BK647.out (by decide)) (fun _ hk => hk.2) (.slice Ao10 t652.length co10)) (fun _ hk => trivial)), ZS (S_mono (S_far (p := ⟨gb647, 0, none⟩) (S_types HO660.out BK647.out (by decide)) (fun _ hk => hk.2) (.slice Ao10 t652.length co10)) (fun _ hk => trivial)), ZR (R_mono (R_far (p := ⟨gb647, 0, none⟩) (R_types HO665.out BK647.out (by decide)) (fun _ hk => hk.2) (.slice Ao10 t652.length co10)) (fun _ hk => hk.1)), ZR (R_mono (R_far (p := ⟨gb647, 0, none⟩) (R_types HO668.out BK647.out (by decide)) (fun _ hk => hk.2) (.slice Ao10 t652.length co10)) (fun _ hk => hk.1)), by repeat (first | (with_reducible first | exact HB.out | apply Zf | apply Zd | apply Ze | refine Zg ?_ (IsS108.ge HI651.out) | refine Zg ?_ GE647.out | refine Zg ?_ GE657.out) | exact HB.out)⟩
end Go.Proofs.YtmgeffgcihfpcaaDoor.F
