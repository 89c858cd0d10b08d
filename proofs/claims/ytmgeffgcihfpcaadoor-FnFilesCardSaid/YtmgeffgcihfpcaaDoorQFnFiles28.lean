/- Merged texts below the law FnFiles: Go functions as Lean functions, their contracts, and plain lemmas. -/
import Derived.Test.YtmgeffgcihfpcaaDoorQFnFiles23
import Derived.Test.YtmgeffgcihfpcaaDoorQFnFiles26
import Derived.Test.YtmgeffgcihfpcaaDoorVFnFilesOT
import Derived.Deep.DeepCutAuto
import Derived.Deep.CutBlock
import Derived.Test.YtmgeffgcihfpcaaDoorQFnFiles25
import Derived.Test.YtmgeffgcihfpcaaDoorQFnFiles13
import Derived.Test.YtmgeffgcihfpcaaDoorVFnFilesMore
namespace Go.Proofs.YtmgeffgcihfpcaaDoor.F
open Go.RowKit Go.Proofs.YtmgeffgcihfpcaaDoorW.PrintWords Go.Proofs.YtmgeffgcihfpcaaDoorW.PrintWords.Kd Go.Proofs.YtmgeffgcihfpcaaDoorW.PrintMore.Kd Go.Proofs.YtmgeffgcihfpcaaDoorW.PrintLast Go.Proofs.YtmgeffgcihfpcaaDoorW.PrintMore
attribute [local go_sem] max2_int min2_int max_two min_two max_three min_three max_four min_four   -- for this text's walks alone
set_option linter.unusedVariables false
set_option linter.unusedSimpArgs false
def spec_RenameFile.j0 : Nat → ByteArray → ByteArray → Int → Bool → List (S74) → Option ((List (S74)) × Bool)
 | 0, _, _, _, _, _ => none
 | k + 1, x1, x2, x8, x24, x427000 => if x24 = true then ((spec_l03Copy.f k x427000).bind fun t431 => (some (t431, false))) else (if 0 ≤ x8 then (if x8 < (x427000.length : Int) then ((spec_l03Without.f k x427000 x1).bind fun t436 => ((spec_l03Put.f k t436 x2 ((rd_T74 x427000 x8).f1) ((rd_T74 x427000 x8).f2)).bind fun t439 => (some (t439, true)))) else (none)) else (none))
def spec_RenameFile.f (k : Nat) (l0_0 : List (S74)) (a1 : ByteArray) (a2 : ByteArray) : Option ((List (S74)) × Bool) := (spec_l03Find.f k l0_0 a1).bind fun t428 => ((spec_DiskOk.f k l0_0).bind fun t429 => (if t429 = true then (if t428 < 0 then (spec_RenameFile.j0 k a1 a2 t428 true l0_0) else ((spec_l01Name.f k a2).bind fun t430 => (spec_RenameFile.j0 k a1 a2 t428 (!t430) l0_0))) else (spec_RenameFile.j0 k a1 a2 t428 true l0_0)))
set_option maxHeartbeats 8000000 in
set_option maxRecDepth 100000 in
theorem spec_RenameFile.calls (k : Nat) (A0_0 : Option Addr) (c0_0 : Nat) (l0_0 : List (S74)) (a1 : ByteArray) (a2 : ByteArray) (r1 : List (S74)) (r2 : Bool) (w : World) (hr0_0 : Kd.C k74 w A0_0 l0_0.length l0_0) (hc0_0 : l0_0.length ≤ c0_0) (h : spec_RenameFile.f k l0_0 a1 a2 = some (r1, r2)) :
  Calls Tryd.prog 40 #[.agg #[.slice A0_0 l0_0.length c0_0], .string a1, .string a2] w fun e w' => ∃ v0_ : Value, e = .returned (.tuple #[.agg #[v0_], .bool r2]) ∧ Kd.S k74 74 w' w.heap.size (fun _ => True) v0_ r1 ∧ Below w.heap.size w w' := by
 have hu29 := Tryd.underlying29
 have hu74 := Tryd.underlying74
 have HR0_0 := Zh hr0_0
 have HC0_0 := Zh hc0_0
 clear hr0_0 hc0_0
 have HB := Zh (Below.refl w.heap.size w)
 have H : ((spec_l03Find.f k l0_0 a1).bind fun t428 => ((spec_DiskOk.f k l0_0).bind fun t429 => (if t429 = true then (if t428 < 0 then (spec_RenameFile.j0 k a1 a2 t428 true l0_0) else ((spec_l01Name.f k a2).bind fun t430 => (spec_RenameFile.j0 k a1 a2 t428 (!t430) l0_0))) else (spec_RenameFile.j0 k a1 a2 t428 true l0_0)))) = some (r1, r2) := h
 clear h
 replace H := Option.bind_eq_some_iff.mp H
 obtain ⟨t428, A40, H⟩ := H
 replace H : ((spec_DiskOk.f k l0_0).bind fun t429 => (if t429 = true then (if t428 < 0 then (spec_RenameFile.j0 k a1 a2 t428 true l0_0) else ((spec_l01Name.f k a2).bind fun t430 => (spec_RenameFile.j0 k a1 a2 t428 (!t430) l0_0))) else (spec_RenameFile.j0 k a1 a2 t428 true l0_0))) = some (r1, r2) := H
 have A4 := Zh A40
 clear A40
 have HC5 := Zh H
 clear H
 go_enter Tryd.func40, Tryd.ntmps40
 go_upto_region 2 with (first | ((with_reducible refine gate_dst (N := 3) rfl ?_); refine box_event ?hg (N := 3) ?hd (cs := #[.slice A0_0 l0_0.length c0_0]) (t := 29) ?hr ?_; (case hd => rfl); (case hg => rfl); (case hr => first | (go_simp; done) | (go_simp; rfl)); intro gb426 hg w6 hbox hb; have BK426 := Zh (hbox); have GW426 := Zh ((by rw [hg]; exact (below_size Zs) : w.heap.size ≤ gb426)); have GE426 := Zh ((by rw [hg]; exact (below_size Zs) : w.heap.size ≤ gb426)); replace HB := Zh (Zl Zs hb); clear hb hbox hg) | ((with_reducible refine gate_dst (N := 6) rfl ?_); refine box_event ?hg (N := 6) ?hd (cs := #[.slice none 0 0]) (t := 29) ?hr ?_; (case hd => rfl); (case hg => rfl); (case hr => first | (go_simp; done) | (go_simp; rfl)); intro gb427 hg w7 hbox hb; have BK427 := Zh (hbox); have GW427 := Zh ((by rw [hg]; exact (below_size Zs) : w.heap.size ≤ gb427)); have GE427 := Zh ((by rw [hg]; exact (below_size Zs) : w.heap.size ≤ gb427)); replace HB := Zh (Zl Zs hb); have NB426_427 := Zh ((by rw [hg]; exact Nat.ne_of_lt (blk_lt (g := gb426) (o := .cells #[.slice A0_0 l0_0.length c0_0] 29 (0, 0)) Zk) : gb426 ≠ gb427)); have NB427_426 := Zh ((by rw [hg]; exact Nat.ne_of_gt (blk_lt (g := gb426) (o := .cells #[.slice A0_0 l0_0.length c0_0] 29 (0, 0)) Zk) : gb427 ≠ gb426)); replace BK426 := Zh (Zm (g := gb426) (o := .cells #[.slice A0_0 l0_0.length c0_0] 29 (0, 0)) Zk hb); clear hb hbox hg; have hnb8 := NB426_427.out; have hnc8 := NB427_426.out; have hcz9_0 : w7.cell? ⟨gb426, 0, none⟩ = some (.slice A0_0 l0_0.length c0_0) := (blk_cell BK426.out 0).trans rfl; have hfz9_0 := Zn BK426.out 0) | ((with_reducible refine gate_callee (f := 61) rfl ?_); refine ZG (some 12) Tryd.func61 #[.agg #[.slice A0_0 l0_0.length c0_0], .string a1] rfl ?_; (with_reducible refine (spec_l03Find.calls k _ _ l0_0 a1 t428 _ ?side1 ?side2 A4.out).mono ?_); (case side1 => repeat (first | exact (C_below HR0_0.out HB.out) | (with_reducible refine C_alloc ?_ _) | (with_reducible refine C_drewN ?_ _) | (with_reducible refine C_drew ?_))); (case side2 => exact HC0_0.out); rintro e w10 ⟨rfl, hb⟩; refine ⟨_, rfl, ?_⟩; replace BK426 := Zh (Zm (g := gb426) (o := .cells #[.slice A0_0 l0_0.length c0_0] 29 (0, 0)) Zk hb); replace BK427 := Zh (Zm (g := gb427) (o := .cells #[.slice none 0 0] 29 (0, 0)) Zk hb); replace HB := Zh (Zl Zs hb); (try clear hb); (try clear hb2); (try clear hk); (try clear hi)))
 (try simp only [Act.put, List.setIfInBounds_toArray, List.set_cons_zero, List.set_cons_succ])
 go_cut [24] (fun v24 wc => ∃ (kq : Nat) (x24_4 : Bool), v24 = .bool x24_4 ∧ Aside0 (spec_RenameFile.j0 kq a1 a2 t428 x24_4 l0_0 = some (r1, r2)) ∧ Aside0 (kq ≤ k) ∧ Aside0 (wc.heap[gb426]? = some (.cells #[(.slice A0_0 l0_0.length c0_0)] 29 (0, 0))) ∧ Aside0 (wc.heap[gb427]? = some (.cells #[(.slice none 0 0)] 29 (0, 0))) ∧ Aside0 (Below w.heap.size w wc))
 case first =>
  have H := HC5.out
  clear HC5
  replace H := Option.bind_eq_some_iff.mp H
  obtain ⟨t429, A110, H⟩ := H
  replace H : (if t429 = true then (if t428 < 0 then (spec_RenameFile.j0 k a1 a2 t428 true l0_0) else ((spec_l01Name.f k a2).bind fun t430 => (spec_RenameFile.j0 k a1 a2 t428 (!t430) l0_0))) else (spec_RenameFile.j0 k a1 a2 t428 true l0_0)) = some (r1, r2) := H
  have A11 := Zh A110
  clear A110
  by_cases c12 : t429 = true
  ·
   subst c12
   have H1 : (if t428 < 0 then (spec_RenameFile.j0 k a1 a2 t428 true l0_0) else ((spec_l01Name.f k a2).bind fun t430 => (spec_RenameFile.j0 k a1 a2 t428 (!t430) l0_0))) = some (r1, r2) := by rw [if_pos rfl] at H; exact H
   clear H
   have H := H1
   clear H1
   by_cases c13 : t428 < 0
   ·
    rw [if_pos c13] at H
    have c13b0 : decide (t428 < 0) = true := decide_eq_true c13
    clear c13
    (first | rw [c13b0] | (simp only [i64_w, i32_w]; rw [c13b0]) | skip)
    have H' := Zh H
    clear H
    have hnb14 := NB426_427.out
    have hnc14 := NB427_426.out
    have hcz15_0 : w10.cell? ⟨gb426, 0, none⟩ = some (.slice A0_0 l0_0.length c0_0) := (blk_cell BK426.out 0).trans rfl
    have hfz15_0 := Zn BK426.out 0
    go_wp2_with (first | ((with_reducible refine gate_callee (f := 15) rfl ?_); refine ZG (some 14) Tryd.func15 #[.agg #[.slice A0_0 l0_0.length c0_0]] rfl ?_; (with_reducible refine (spec_DiskOk.calls k _ _ l0_0 true _ ?side1 ?side2 A11.out).mono ?_); (case side1 => repeat (first | exact (C_below HR0_0.out HB.out) | (with_reducible refine C_alloc ?_ _) | (with_reducible refine C_drewN ?_ _) | (with_reducible refine C_drew ?_))); (case side2 => exact HC0_0.out); rintro e w16 ⟨rfl, hb⟩; refine ⟨_, rfl, ?_⟩; replace BK426 := Zh (Zm (g := gb426) (o := .cells #[.slice A0_0 l0_0.length c0_0] 29 (0, 0)) Zk hb); replace BK427 := Zh (Zm (g := gb427) (o := .cells #[.slice none 0 0] 29 (0, 0)) Zk hb); replace HB := Zh (Zl Zs hb); (try clear hb); (try clear hb2); (try clear hk); (try clear hi)))
    go_meet
    case rel => exact ⟨_, (true), (by first | rfl | (simp; done) | (simp [*]; done)), H', ⟨by first | omega | exact Nat.le_refl _⟩, ⟨Zk⟩, ⟨Zk⟩, ⟨Zs⟩⟩
   rw [if_neg c13] at H
   have c13b0 : decide (t428 < 0) = false := decide_eq_false c13
   clear c13
   (first | rw [c13b0] | (simp only [i64_w, i32_w]; rw [c13b0]) | skip)
   replace H := Option.bind_eq_some_iff.mp H
   obtain ⟨t430, A170, H⟩ := H
   replace H : (spec_RenameFile.j0 k a1 a2 t428 (!t430) l0_0) = some (r1, r2) := H
   have A17 := Zh A170
   clear A170
   have H' := Zh H
   clear H
   have hnb18 := NB426_427.out
   have hnc18 := NB427_426.out
   have hcz19_0 : w10.cell? ⟨gb426, 0, none⟩ = some (.slice A0_0 l0_0.length c0_0) := (blk_cell BK426.out 0).trans rfl
   have hfz19_0 := Zn BK426.out 0
   go_wp2_with (first | ((with_reducible refine gate_callee (f := 15) rfl ?_); refine ZG (some 14) Tryd.func15 #[.agg #[.slice A0_0 l0_0.length c0_0]] rfl ?_; (with_reducible refine (spec_DiskOk.calls k _ _ l0_0 true _ ?side1 ?side2 A11.out).mono ?_); (case side1 => repeat (first | exact (C_below HR0_0.out HB.out) | (with_reducible refine C_alloc ?_ _) | (with_reducible refine C_drewN ?_ _) | (with_reducible refine C_drew ?_))); (case side2 => exact HC0_0.out); rintro e w20 ⟨rfl, hb⟩; refine ⟨_, rfl, ?_⟩; replace BK426 := Zh (Zm (g := gb426) (o := .cells #[.slice A0_0 l0_0.length c0_0] 29 (0, 0)) Zk hb); replace BK427 := Zh (Zm (g := gb427) (o := .cells #[.slice none 0 0] 29 (0, 0)) Zk hb); replace HB := Zh (Zl Zs hb); (try clear hb); (try clear hb2); (try clear hk); (try clear hi)) | (go_at_call 57; (with_reducible refine (spec_l01Name.calls k a2 t430 _ A17.out).mono ?_); rintro e w' ⟨rfl, ⟨nd, rfl⟩⟩))
   go_meet
   case rel => exact ⟨_, (!t430), (by first | rfl | (simp; done) | (simp [*]; done)), H', ⟨by first | omega | exact Nat.le_refl _⟩, ⟨Zk⟩, ⟨Zk⟩, ⟨Zs⟩⟩
  replace c12 := Bool.eq_false_iff.mpr c12
  subst c12
  have H1 : (spec_RenameFile.j0 k a1 a2 t428 true l0_0) = some (r1, r2) := by rw [if_neg (show ¬ (false = true) by decide)] at H; exact H
  clear H
  have H := H1
  clear H1
  have H' := Zh H
  clear H
  have hnb21 := NB426_427.out
  have hnc21 := NB427_426.out
  have hcz22_0 : w10.cell? ⟨gb426, 0, none⟩ = some (.slice A0_0 l0_0.length c0_0) := (blk_cell BK426.out 0).trans rfl
  have hfz22_0 := Zn BK426.out 0
  go_wp2_with (first | ((with_reducible refine gate_callee (f := 15) rfl ?_); refine ZG (some 14) Tryd.func15 #[.agg #[.slice A0_0 l0_0.length c0_0]] rfl ?_; (with_reducible refine (spec_DiskOk.calls k _ _ l0_0 false _ ?side1 ?side2 A11.out).mono ?_); (case side1 => repeat (first | exact (C_below HR0_0.out HB.out) | (with_reducible refine C_alloc ?_ _) | (with_reducible refine C_drewN ?_ _) | (with_reducible refine C_drew ?_))); (case side2 => exact HC0_0.out); rintro e w23 ⟨rfl, hb⟩; refine ⟨_, rfl, ?_⟩; replace BK426 := Zh (Zm (g := gb426) (o := .cells #[.slice A0_0 l0_0.length c0_0] 29 (0, 0)) Zk hb); replace BK427 := Zh (Zm (g := gb427) (o := .cells #[.slice none 0 0] 29 (0, 0)) Zk hb); replace HB := Zh (Zl Zs hb); (try clear hb); (try clear hb2); (try clear hk); (try clear hi)))
  go_meet
  case rel => exact ⟨_, (true), (by first | rfl | (simp; done) | (simp [*]; done)), H', ⟨by first | omega | exact Nat.le_refl _⟩, ⟨Zk⟩, ⟨Zk⟩, ⟨Zs⟩⟩
 case rest =>
  clear HC5
  try clear c1
  try clear c2
  try clear p2
  try clear c4
  try clear c6
  try clear c8
  try clear c12
  try clear c13
  try clear c13b0
  try clear c14
  try clear c15
  try clear c18
  try clear c21
  try clear hcz15_0
  try clear hcz19_0
  try clear hcz22_0
  try clear hcz9_0
  try clear hfz15_0
  try clear hfz19_0
  try clear hfz22_0
  try clear hfz9_0
  obtain ⟨kq, x24_4, rfl, HA, HJ4, BK426, BK427, HB⟩ := hcut
  cases kq with
  | zero => exact absurd HA.out (by simp [spec_RenameFile.j0])
  | succ kj4 =>
   have H := HA.out
   clear HA
   simp only [spec_RenameFile.j0] at H
   by_cases c24 : x24_4 = true
   ·
    subst c24
    have H1 : ((spec_l03Copy.f kj4 l0_0).bind fun t431 => (some (t431, false))) = some (r1, r2) := by rw [if_pos rfl] at H; exact H
    clear H
    have H := H1
    clear H1
    replace H := Option.bind_eq_some_iff.mp H
    obtain ⟨t431, A250, H⟩ := H
    replace H : (some (t431, false)) = some (r1, r2) := H
    have A25 := Zh A250
    clear A250
    simp only [Option.some.injEq, Prod.mk.injEq] at H
    obtain ⟨rfl, rfl⟩ := H
    have hnb26 := NB426_427.out
    have hnc26 := NB427_426.out
    have hcz27_0 : wc.cell? ⟨gb426, 0, none⟩ = some (.slice A0_0 l0_0.length c0_0) := (blk_cell BK426.out 0).trans rfl
    have hfz27_0 := Zn BK426.out 0
    go_wp2_with (first | ((with_reducible refine gate_callee (f := 66) rfl ?_); refine ZG (some 26) Tryd.func66 #[.agg #[.slice A0_0 l0_0.length c0_0]] rfl ?_; (with_reducible refine (spec_l03Copy.calls kj4 _ _ l0_0 t431 _ ?side1 ?side2 A25.out).mono ?_); (case side1 => repeat (first | exact (C_below HR0_0.out HB.out) | (with_reducible refine C_alloc ?_ _) | (with_reducible refine C_drewN ?_ _) | (with_reducible refine C_drew ?_))); (case side2 => exact HC0_0.out); rintro e w28 ⟨v432, rfl, ho0, hb⟩; refine ⟨_, rfl, ?_⟩; have HO433 := Zh (S_lower ho0 (below_size Zs)); replace BK426 := Zh (Zm (g := gb426) (o := .cells #[.slice A0_0 l0_0.length c0_0] 29 (0, 0)) Zk hb); replace BK427 := Zh (Zm (g := gb427) (o := .cells #[.slice none 0 0] 29 (0, 0)) Zk hb); replace HB := Zh (Zl Zs hb); (try clear hb); (try clear hb2); (try clear hk); (try clear hi); (try clear ho0); obtain ⟨Ao29, co29, eo29⟩ := S_slice HO433.out; subst eo29; have hcz30_0 : w28.cell? ⟨gb427, 0, none⟩ = some (.slice none 0 0) := (blk_cell BK427.out 0).trans rfl; have hfz30_0 := Zn BK427.out 0))
    refine Zq (results_ct rfl _ _ gb427 29 #[.slice Ao29 t431.length co29] (0, 0) _ rfl (by (with_reducible repeat (first | refine Za ?_ _ | refine Zb ?_ | refine blk_alloc ?_ _)); refine blk_put (cs := #[.slice none 0 0]) ?_ 0 _ rfl; (with_reducible repeat (first | refine Za ?_ _ | refine Zb ?_ | refine blk_alloc ?_ _)); exact BK427.out) Tryd.underlying29 rfl (by kernel_rfl)) rfl ?_
    exact ⟨_, ZE, ZS (S_mono (S_far (p := ⟨gb427, 0, none⟩) (S_types HO433.out BK427.out (by decide)) (fun _ hk => hk.2) (.slice Ao29 t431.length co29)) (fun _ hk => trivial)), Zs⟩
   replace c24 := Bool.eq_false_iff.mpr c24
   subst c24
   have H1 : (if 0 ≤ t428 then (if t428 < (l0_0.length : Int) then ((spec_l03Without.f kj4 l0_0 a1).bind fun t436 => ((spec_l03Put.f kj4 t436 a2 ((rd_T74 l0_0 t428).f1) ((rd_T74 l0_0 t428).f2)).bind fun t439 => (some (t439, true)))) else (none)) else (none)) = some (r1, r2) := by rw [if_neg (show ¬ (false = true) by decide)] at H; exact H
   clear H
   have H := H1
   clear H1
   by_cases c31 : 0 ≤ t428
   ·
    rw [if_pos c31] at H
    have c31b0 : decide (0 ≤ t428) = true := decide_eq_true c31
    clear c31
    by_cases c32 : t428 < (l0_0.length : Int)
    ·
     rw [if_pos c32] at H
     have c32b0 : decide (t428 < (l0_0.length : Int)) = true := decide_eq_true c32
     clear c32
     replace H := Option.bind_eq_some_iff.mp H
     obtain ⟨t436, A330, H⟩ := H
     replace H : ((spec_l03Put.f kj4 t436 a2 ((rd_T74 l0_0 t428).f1) ((rd_T74 l0_0 t428).f2)).bind fun t439 => (some (t439, true))) = some (r1, r2) := H
     have A33 := Zh A330
     clear A330
     replace H := Option.bind_eq_some_iff.mp H
     obtain ⟨t439, A340, H⟩ := H
     replace H : (some (t439, true)) = some (r1, r2) := H
     have A34 := Zh A340
     clear A340
     simp only [Option.some.injEq, Prod.mk.injEq] at H
     obtain ⟨rfl, rfl⟩ := H
     have hnb35 := NB426_427.out
     have hnc35 := NB427_426.out
     have hcz36_0 : wc.cell? ⟨gb426, 0, none⟩ = some (.slice A0_0 l0_0.length c0_0) := (blk_cell BK426.out 0).trans rfl
     have hfz36_0 := Zn BK426.out 0
     have p434 : 0 ≤ (t428 : Int) := Zo
     have q434 : t428 < (l0_0.length : Int) := Zo
     obtain ⟨ad434, A434_1, c434_1, A434_2, c434_2, e434, hx434_0, hx434_1, hx434_2, hl434_1, hi434_1, hl434_2, hi434_2⟩ := at_T74 HR0_0.out t428 p434 q434
     cases e434
     replace hx434_0 := Zc HB.out hx434_0
     replace hx434_1 := Zc HB.out hx434_1
     replace hx434_2 := Zc HB.out hx434_2
     have HR434_1 := Zh hi434_1
     have HC434_1 := Zh hl434_1
     clear hi434_1 hl434_1
     have HR434_2 := Zh hi434_2
     have HC434_2 := Zh hl434_2
     clear hi434_2 hl434_2
     replace p434 := eq_true p434
     replace q434 := eq_true q434
     try go_wp2_with (first | ((with_reducible refine gate_dst (N := 9) rfl ?_); refine box_event ?hg (N := 9) ?hd (cs := #[.string (⟨#[]⟩ : ByteArray), .slice none 0 0, .slice none 0 0]) (t := 74) ?hr ?_; (case hd => rfl); (case hg => rfl); (case hr => first | (go_simp; done) | (go_simp; rfl)); intro gb435 hg w37 hbox hb; have BK435 := Zh (hbox); have GW435 := Zh ((by rw [hg]; exact (below_size Zs) : w.heap.size ≤ gb435)); have GE435 := Zh ((by rw [hg]; exact (below_size Zs) : w.heap.size ≤ gb435)); replace HB := Zh (Zl Zs hb); have NB426_435 := Zh ((by rw [hg]; exact Nat.ne_of_lt (blk_lt (g := gb426) (o := .cells #[.slice (some ad434) l0_0.length c0_0] 29 (0, 0)) Zk) : gb426 ≠ gb435)); have NB435_426 := Zh ((by rw [hg]; exact Nat.ne_of_gt (blk_lt (g := gb426) (o := .cells #[.slice (some ad434) l0_0.length c0_0] 29 (0, 0)) Zk) : gb435 ≠ gb426)); replace BK426 := Zh (Zm (g := gb426) (o := .cells #[.slice (some ad434) l0_0.length c0_0] 29 (0, 0)) Zk hb); have NB427_435 := Zh ((by rw [hg]; exact Nat.ne_of_lt (blk_lt (g := gb427) (o := .cells #[.slice none 0 0] 29 (0, 0)) Zk) : gb427 ≠ gb435)); have NB435_427 := Zh ((by rw [hg]; exact Nat.ne_of_gt (blk_lt (g := gb427) (o := .cells #[.slice none 0 0] 29 (0, 0)) Zk) : gb435 ≠ gb427)); replace BK427 := Zh (Zm (g := gb427) (o := .cells #[.slice none 0 0] 29 (0, 0)) Zk hb); clear hb hbox hg; have hnb38 := NB435_426.out; have hnc38 := NB426_435.out; have hnb39 := NB435_427.out; have hnc39 := NB427_435.out; have hcz40_0 : w37.cell? ⟨gb435, 0, none⟩ = some (.string (⟨#[]⟩ : ByteArray)) := (blk_cell BK435.out 0).trans rfl; have hcz40_1 : w37.cell? ⟨gb435, 1, none⟩ = some (.slice none 0 0) := (blk_cell BK435.out 1).trans rfl; have hcz40_2 : w37.cell? ⟨gb435, 2, none⟩ = some (.slice none 0 0) := (blk_cell BK435.out 2).trans rfl; have hfz40_0 := Zn BK435.out 0; have hfz40_1 := Zn BK435.out 1; have hfz40_2 := Zn BK435.out 2))
     have n0_ : Aside0 (((((w37.setCell ⟨gb435, 0, none⟩ (.string ((rd_T74 l0_0 t428).f0))).setCell ⟨gb435, 1, none⟩ (.slice A434_1 ((rd_T74 l0_0 t428).f1).length c434_1)).setCell ⟨gb435, 2, none⟩ (.slice A434_2 ((rd_T74 l0_0 t428).f2).length c434_2)).setCell ⟨gb435, 0, none⟩ (.string a2)).heap[gb426]? = some (.cells #[.slice (some ad434) l0_0.length c0_0] 29 (0, 0))) := ⟨by (with_reducible repeat (first | refine Za ?_ _ | refine Zb ?_ | refine blk_alloc ?_ _)); refine blk_far ?_ NB426_435.out _; (with_reducible repeat (first | refine Za ?_ _ | refine Zb ?_ | refine blk_alloc ?_ _)); refine blk_far ?_ NB426_435.out _; (with_reducible repeat (first | refine Za ?_ _ | refine Zb ?_ | refine blk_alloc ?_ _)); refine blk_far ?_ NB426_435.out _; (with_reducible repeat (first | refine Za ?_ _ | refine Zb ?_ | refine blk_alloc ?_ _)); refine blk_far ?_ NB426_435.out _; (with_reducible repeat (first | refine Za ?_ _ | refine Zb ?_ | refine blk_alloc ?_ _)); exact BK426.out⟩
     have n1_ : Aside0 (((((w37.setCell ⟨gb435, 0, none⟩ (.string ((rd_T74 l0_0 t428).f0))).setCell ⟨gb435, 1, none⟩ (.slice A434_1 ((rd_T74 l0_0 t428).f1).length c434_1)).setCell ⟨gb435, 2, none⟩ (.slice A434_2 ((rd_T74 l0_0 t428).f2).length c434_2)).setCell ⟨gb435, 0, none⟩ (.string a2)).heap[gb427]? = some (.cells #[.slice none 0 0] 29 (0, 0))) := ⟨by (with_reducible repeat (first | refine Za ?_ _ | refine Zb ?_ | refine blk_alloc ?_ _)); refine blk_far ?_ NB427_435.out _; (with_reducible repeat (first | refine Za ?_ _ | refine Zb ?_ | refine blk_alloc ?_ _)); refine blk_far ?_ NB427_435.out _; (with_reducible repeat (first | refine Za ?_ _ | refine Zb ?_ | refine blk_alloc ?_ _)); refine blk_far ?_ NB427_435.out _; (with_reducible repeat (first | refine Za ?_ _ | refine Zb ?_ | refine blk_alloc ?_ _)); refine blk_far ?_ NB427_435.out _; (with_reducible repeat (first | refine Za ?_ _ | refine Zb ?_ | refine blk_alloc ?_ _)); exact BK427.out⟩
     have n2_ : Aside0 (((((w37.setCell ⟨gb435, 0, none⟩ (.string ((rd_T74 l0_0 t428).f0))).setCell ⟨gb435, 1, none⟩ (.slice A434_1 ((rd_T74 l0_0 t428).f1).length c434_1)).setCell ⟨gb435, 2, none⟩ (.slice A434_2 ((rd_T74 l0_0 t428).f2).length c434_2)).setCell ⟨gb435, 0, none⟩ (.string a2)).heap[gb435]? = some (.cells #[.string a2, .slice A434_1 ((rd_T74 l0_0 t428).f1).length c434_1, .slice A434_2 ((rd_T74 l0_0 t428).f2).length c434_2] 74 (0, 0))) := ⟨by (with_reducible repeat (first | refine Za ?_ _ | refine Zb ?_ | refine blk_alloc ?_ _)); refine blk_put (cs := #[.string ((rd_T74 l0_0 t428).f0), .slice A434_1 ((rd_T74 l0_0 t428).f1).length c434_1, .slice A434_2 ((rd_T74 l0_0 t428).f2).length c434_2]) ?_ 0 _ rfl; (with_reducible repeat (first | refine Za ?_ _ | refine Zb ?_ | refine blk_alloc ?_ _)); refine blk_put (cs := #[.string ((rd_T74 l0_0 t428).f0), .slice A434_1 ((rd_T74 l0_0 t428).f1).length c434_1, .slice none 0 0]) ?_ 2 _ rfl; (with_reducible repeat (first | refine Za ?_ _ | refine Zb ?_ | refine blk_alloc ?_ _)); refine blk_put (cs := #[.string ((rd_T74 l0_0 t428).f0), .slice none 0 0, .slice none 0 0]) ?_ 1 _ rfl; (with_reducible repeat (first | refine Za ?_ _ | refine Zb ?_ | refine blk_alloc ?_ _)); refine blk_put (cs := #[.string (⟨#[]⟩ : ByteArray), .slice none 0 0, .slice none 0 0]) ?_ 0 _ rfl; (with_reducible repeat (first | refine Za ?_ _ | refine Zb ?_ | refine blk_alloc ?_ _)); exact BK435.out⟩
     have n3_ : Aside0 (Below w.heap.size w ((((w37.setCell ⟨gb435, 0, none⟩ (.string ((rd_T74 l0_0 t428).f0))).setCell ⟨gb435, 1, none⟩ (.slice A434_1 ((rd_T74 l0_0 t428).f1).length c434_1)).setCell ⟨gb435, 2, none⟩ (.slice A434_2 ((rd_T74 l0_0 t428).f2).length c434_2)).setCell ⟨gb435, 0, none⟩ (.string a2))) := ⟨Zs⟩
     (try clear BK426)
     (try clear BK427)
     (try clear BK435)
     (try clear HB)
     generalize ((((w37.setCell ⟨gb435, 0, none⟩ (.string ((rd_T74 l0_0 t428).f0))).setCell ⟨gb435, 1, none⟩ (.slice A434_1 ((rd_T74 l0_0 t428).f1).length c434_1)).setCell ⟨gb435, 2, none⟩ (.slice A434_2 ((rd_T74 l0_0 t428).f2).length c434_2)).setCell ⟨gb435, 0, none⟩ (.string a2)) = w41 at n0_ n1_ n2_ n3_ ⊢
     have BK426 := n0_
     have BK427 := n1_
     have BK435 := n2_
     have HB := n3_
     clear n0_ n1_ n2_ n3_
     replace BK426 := Zh (Zb BK426.out)
     replace BK427 := Zh (Zb BK427.out)
     replace BK435 := Zh (Zb BK435.out)
     replace HB := Zh (Ze HB.out)
     refine start_ (n := 7) (S := fun w' => w'.cell? ⟨gb426, 0, none⟩ = some (.slice (some ad434) l0_0.length c0_0) ∧ w'.cell? ⟨gb435, 0, none⟩ = some (.string a2) ∧ w'.cell? ⟨gb435, 1, none⟩ = some (.slice A434_1 ((rd_T74 l0_0 t428).f1).length c434_1) ∧ w'.cell? ⟨gb435, 2, none⟩ = some (.slice A434_2 ((rd_T74 l0_0 t428).f2).length c434_2)) (ds := []) #[false, false, false, false, false, false, false] (by kernel_rfl) rfl rfl ⟨(blk_cell BK426.out 0).trans rfl, (blk_cell BK435.out 0).trans rfl, (blk_cell BK435.out 1).trans rfl, (blk_cell BK435.out 2).trans rfl⟩ (fun hHeld => ?_)
     generalize w41.drew = w42 at BK426 BK427 BK435 HB hHeld ⊢
     refine pure_ (i := 1) (N := some 35) (v := ?_) (a' := ?_) #[false, true, false, false, false, false, false] rfl rfl (by kernel_rfl) (fun _ _ _ h => h) (Or.inl ⟨by rfl, ?_⟩) ?_ ?_
     rotate_left
     ·
      intro w'
      go_simp
      with_reducible rfl
     rotate_left
     ·
      simp only [Act.put, List.setIfInBounds_toArray, List.set_cons_zero, List.set_cons_succ, i64_w, i32_w]
      rfl
     refine take_ (i := 0) (N := some 34) (v := ?_) (a' := ?_) #[true, true, false, false, false, false, false] rfl rfl (by kernel_rfl) (fun _ _ _ h => h) (Or.inl ⟨by rfl, ?_⟩) hHeld ?_ ?_
     rotate_left
     ·
      rintro w' ⟨s0, s1, s2, s3⟩
      go_simp
      with_reducible rfl
     rotate_left
     ·
      simp only [Act.put, List.setIfInBounds_toArray, List.set_cons_zero, List.set_cons_succ, i64_w, i32_w]
      rfl
     refine take_ (i := 3) (N := some 37) (v := ?_) (a' := ?_) #[true, true, false, true, false, false, false] rfl rfl (by kernel_rfl) (fun _ _ _ h => h) (Or.inl ⟨by rfl, ?_⟩) hHeld ?_ ?_
     rotate_left
     ·
      rintro w' ⟨s0, s1, s2, s3⟩
      go_simp
      with_reducible rfl
     rotate_left
     ·
      simp only [Act.put, List.setIfInBounds_toArray, List.set_cons_zero, List.set_cons_succ, i64_w, i32_w]
      rfl
     refine one_ (i := 2) (N := some 36) #[true, true, true, true, false, false, false] rfl rfl (by kernel_rfl) (by decide) (fun K hK => ?_)
     refine goes_ Tryd.func67 (by kernel_rfl) rfl #[.agg #[.slice (some ad434) l0_0.length c0_0], .string a1] (by rfl) rfl rfl (by (try simp only [List.map_toArray, List.map_cons, List.map_nil]); first | done | rfl | (simp only [List.length_drop, List.length_take]; rfl)) ?_
     with_reducible refine (spec_l03Without.calls kj4 _ _ l0_0 a1 t436 _ ?side1 ?side2 A33.out).mono ?_
     (case side1 => repeat (first | exact (C_below HR0_0.out HB.out) | (with_reducible refine C_alloc ?_ _) | (with_reducible refine C_drewN ?_ _) | (with_reducible refine C_drew ?_)))
     (case side2 => exact HC0_0.out)
     rintro e w43 ⟨v437, rfl, ho0, hb⟩
     refine ⟨_, rfl, ?_⟩
     have HO438 := Zh (S_lower (S_newB ho0 (g := gb435) (o := .cells #[.string a2, .slice A434_1 ((rd_T74 l0_0 t428).f1).length c434_1, .slice A434_2 ((rd_T74 l0_0 t428).f2).length c434_2] 74 (0, 0)) Zk) (below_size Zs))
     replace BK426 := Zh (Zm (g := gb426) (o := .cells #[.slice (some ad434) l0_0.length c0_0] 29 (0, 0)) Zk hb)
     replace BK427 := Zh (Zm (g := gb427) (o := .cells #[.slice none 0 0] 29 (0, 0)) Zk hb)
     replace BK435 := Zh (Zm (g := gb435) (o := .cells #[.string a2, .slice A434_1 ((rd_T74 l0_0 t428).f1).length c434_1, .slice A434_2 ((rd_T74 l0_0 t428).f2).length c434_2] 74 (0, 0)) Zk hb)
     replace HB := Zh (Zl Zs hb)
     (try clear hb)
     (try clear hb2)
     (try clear hk)
     (try clear hi)
     (try clear ho0)
     obtain ⟨Ao44, co44, eo44⟩ := S_slice HO438.out
     (first | subst eo44 | (injection eo44 with f1_ f2_ f3_; have f4_ := f1_.symm; have f5_ := f3_.symm; clear f1_ f2_ f3_; subst f4_; subst f5_))
     refine hK.out _ _ ⟨(blk_cell BK426.out 0).trans rfl, (blk_cell BK435.out 0).trans rfl, (blk_cell BK435.out 1).trans rfl, (blk_cell BK435.out 2).trans rfl⟩ (fun hHeld => ?_)
     clear hK K
     refine norm_ (a' := ?_) ?_ ?_
     rotate_left
     ·
      show Act.put _ (some 36) _ = _
      simp only [Act.put, List.setIfInBounds_toArray, List.set_cons_zero, List.set_cons_succ, i64_w, i32_w]
      rfl
     refine one_ (i := 4) (N := some 38) #[true, true, true, true, true, false, false] rfl rfl (by kernel_rfl) (by decide) (fun K hK => ?_)
     refine goes_ Tryd.func70 (by kernel_rfl) rfl #[.agg #[.slice Ao44 t436.length co44], .agg #[.string a2, .slice A434_1 ((rd_T74 l0_0 t428).f1).length c434_1, .slice A434_2 ((rd_T74 l0_0 t428).f2).length c434_2]] (by rfl) rfl rfl (by (try simp only [List.map_toArray, List.map_cons, List.map_nil]); first | done | rfl | (simp only [List.length_drop, List.length_take]; rfl)) ?_
     with_reducible refine (spec_l03Put.calls kj4 _ _ t436 a2 _ _ ((rd_T74 l0_0 t428).f1) _ _ ((rd_T74 l0_0 t428).f2) t439 _ ?side1 ?side2 ?side3 ?side4 ?side5 ?side6 A34.out).mono ?_
     (case side1 => repeat (first | exact (S_reads' HO438.out).2.2 | (with_reducible refine C_alloc ?_ _) | (with_reducible refine C_drewN ?_ _) | (with_reducible refine C_drew ?_)))
     (case side2 => exact (S_reads' HO438.out).2.1)
     (case side3 => repeat (first | exact (C_below HR434_1.out HB.out) | (with_reducible refine C_alloc ?_ _) | (with_reducible refine C_drewN ?_ _) | (with_reducible refine C_drew ?_)))
     (case side4 => exact HC434_1.out)
     (case side5 => repeat (first | exact (C_below HR434_2.out HB.out) | (with_reducible refine C_alloc ?_ _) | (with_reducible refine C_drewN ?_ _) | (with_reducible refine C_drew ?_)))
     (case side6 => exact HC434_2.out)
     rintro e w45 ⟨v440, rfl, ho0, hb⟩
     refine ⟨_, rfl, ?_⟩
     have HO441 := Zh (S_lower (S_newB (S_new' ho0 (S_lt (ZS HO438.out))) (g := gb435) (o := .cells #[.string a2, .slice A434_1 ((rd_T74 l0_0 t428).f1).length c434_1, .slice A434_2 ((rd_T74 l0_0 t428).f2).length c434_2] 74 (0, 0)) Zk) (below_size Zs))
     replace HO438 := Zh (S_elder' (ZS HO438.out) (S_base ho0) hb)
     replace BK426 := Zh (Zm (g := gb426) (o := .cells #[.slice (some ad434) l0_0.length c0_0] 29 (0, 0)) Zk hb)
     replace BK427 := Zh (Zm (g := gb427) (o := .cells #[.slice none 0 0] 29 (0, 0)) Zk hb)
     replace BK435 := Zh (Zm (g := gb435) (o := .cells #[.string a2, .slice A434_1 ((rd_T74 l0_0 t428).f1).length c434_1, .slice A434_2 ((rd_T74 l0_0 t428).f2).length c434_2] 74 (0, 0)) Zk hb)
     replace HB := Zh (Zl Zs hb)
     (try clear hb)
     (try clear hb2)
     (try clear hk)
     (try clear hi)
     (try clear ho0)
     obtain ⟨Ao46, co46, eo46⟩ := S_slice HO441.out
     (first | subst eo46 | (injection eo46 with f1_ f2_ f3_; have f4_ := f1_.symm; have f5_ := f3_.symm; clear f1_ f2_ f3_; subst f4_; subst f5_))
     refine hK.out _ _ ⟨(blk_cell BK426.out 0).trans rfl, (blk_cell BK435.out 0).trans rfl, (blk_cell BK435.out 1).trans rfl, (blk_cell BK435.out 2).trans rfl⟩ (fun hHeld => ?_)
     clear hK K
     refine norm_ (a' := ?_) ?_ ?_
     rotate_left
     ·
      show Act.put _ (some 38) _ = _
      simp only [Act.put, List.setIfInBounds_toArray, List.set_cons_zero, List.set_cons_succ, i64_w, i32_w]
      rfl
     refine one_ (i := 5) (N := none) #[true, true, true, true, true, true, false] rfl rfl (by kernel_rfl) (by decide) (fun K hK => ?_)
     have hs47 : w45.cell? ⟨gb427, 0, none⟩ = some (.slice none 0 0) := (blk_cell BK427.out 0).trans rfl
     have hfs47 := Zn BK427.out 0
     have hns47_0 := NB426_427.out
     have hns47_2 := NB435_427.out
     have hms47_0 := NB427_426.out
     have hms47_2 := NB427_435.out
     refine skip_ (w1 := ?_) (by rfl) rfl ?_ ?_
     rotate_left
     ·
      go_simp
      rfl
     refine hK.out _ _ ⟨((cell_far (p := ⟨gb427, _, none⟩) NB426_427.out _).trans (hHeld.1)), ((cell_far (p := ⟨gb427, _, none⟩) NB435_427.out _).trans (hHeld.2.1)), ((cell_far (p := ⟨gb427, _, none⟩) NB435_427.out _).trans (hHeld.2.2.1)), ((cell_far (p := ⟨gb427, _, none⟩) NB435_427.out _).trans (hHeld.2.2.2))⟩ (fun hHeld => ?_)
     clear hK K
     refine pure_ (i := 6) (N := some 7) (v := ?_) (a' := ?_) #[true, true, true, true, true, true, true] rfl rfl (by kernel_rfl) (fun _ _ _ h => h) (Or.inl ⟨by rfl, ?_⟩) ?_ ?_
     rotate_left
     ·
      intro w'
      go_simp
      with_reducible rfl
     rotate_left
     ·
      simp only [Act.put, List.setIfInBounds_toArray, List.set_cons_zero, List.set_cons_succ, i64_w, i32_w]
      rfl
     refine done_ (by kernel_rfl) ?_
     try go_wp2
     refine Zq (results_ct rfl _ _ gb427 29 #[.slice Ao46 t439.length co46] (0, 0) _ rfl (by (with_reducible repeat (first | refine Za ?_ _ | refine Zb ?_ | refine blk_alloc ?_ _)); refine blk_put (cs := #[.slice none 0 0]) ?_ 0 _ rfl; (with_reducible repeat (first | refine Za ?_ _ | refine Zb ?_ | refine blk_alloc ?_ _)); exact BK427.out) Tryd.underlying29 rfl (by kernel_rfl)) rfl ?_
     exact ⟨_, ZE, ZS (S_mono (S_far (p := ⟨gb427, 0, none⟩) (S_types HO441.out BK427.out (by decide)) (fun _ hk => hk.2) (.slice Ao46 t439.length co46)) (fun _ hk => trivial)), Zs⟩
    rw [if_neg c32] at H
    exact absurd H (by simp)
   rw [if_neg c31] at H
   exact absurd H (by simp)
def spec_RemoveFile.j0 : Nat → ByteArray → Bool → List (S74) → Option ((List (S74)) × Bool)
 | 0, _, _, _ => none
 | k + 1, x1, x14, x219000 => if x14 = true then ((spec_l03Copy.f k x219000).bind fun t222 => (some (t222, false))) else ((spec_l03Without.f k x219000 x1).bind fun t225 => (some (t225, true)))
def spec_RemoveFile.f (k : Nat) (l0_0 : List (S74)) (a1 : ByteArray) : Option ((List (S74)) × Bool) := (spec_DiskOk.f k l0_0).bind fun t220 => (if t220 = true then ((spec_l03Find.f k l0_0 a1).bind fun t221 => (spec_RemoveFile.j0 k a1 (decide (t221 < 0)) l0_0)) else (spec_RemoveFile.j0 k a1 true l0_0))
set_option maxHeartbeats 8000000 in
set_option maxRecDepth 100000 in
theorem spec_RemoveFile.calls (k : Nat) (A0_0 : Option Addr) (c0_0 : Nat) (l0_0 : List (S74)) (a1 : ByteArray) (r1 : List (S74)) (r2 : Bool) (w : World) (hr0_0 : Kd.C k74 w A0_0 l0_0.length l0_0) (hc0_0 : l0_0.length ≤ c0_0) (h : spec_RemoveFile.f k l0_0 a1 = some (r1, r2)) :
  Calls Tryd.prog 25 #[.agg #[.slice A0_0 l0_0.length c0_0], .string a1] w fun e w' => ∃ v0_ : Value, e = .returned (.tuple #[.agg #[v0_], .bool r2]) ∧ Kd.S k74 74 w' w.heap.size (fun _ => True) v0_ r1 ∧ Below w.heap.size w w' := by
 have hu29 := Tryd.underlying29
 have HR0_0 := Zh hr0_0
 have HC0_0 := Zh hc0_0
 clear hr0_0 hc0_0
 have HB := Zh (Below.refl w.heap.size w)
 have H : ((spec_DiskOk.f k l0_0).bind fun t220 => (if t220 = true then ((spec_l03Find.f k l0_0 a1).bind fun t221 => (spec_RemoveFile.j0 k a1 (decide (t221 < 0)) l0_0)) else (spec_RemoveFile.j0 k a1 true l0_0))) = some (r1, r2) := h
 clear h
 have HC3 := Zh H
 clear H
 go_enter Tryd.func25, Tryd.ntmps25
 go_upto_region 1 with (first | ((with_reducible refine gate_dst (N := 2) rfl ?_); refine box_event ?hg (N := 2) ?hd (cs := #[.slice A0_0 l0_0.length c0_0]) (t := 29) ?hr ?_; (case hd => rfl); (case hg => rfl); (case hr => first | (go_simp; done) | (go_simp; rfl)); intro gb218 hg w4 hbox hb; have BK218 := Zh (hbox); have GW218 := Zh ((by rw [hg]; exact (below_size Zs) : w.heap.size ≤ gb218)); have GE218 := Zh ((by rw [hg]; exact (below_size Zs) : w.heap.size ≤ gb218)); replace HB := Zh (Zl Zs hb); clear hb hbox hg) | ((with_reducible refine gate_dst (N := 4) rfl ?_); refine box_event ?hg (N := 4) ?hd (cs := #[.slice none 0 0]) (t := 29) ?hr ?_; (case hd => rfl); (case hg => rfl); (case hr => first | (go_simp; done) | (go_simp; rfl)); intro gb219 hg w5 hbox hb; have BK219 := Zh (hbox); have GW219 := Zh ((by rw [hg]; exact (below_size Zs) : w.heap.size ≤ gb219)); have GE219 := Zh ((by rw [hg]; exact (below_size Zs) : w.heap.size ≤ gb219)); replace HB := Zh (Zl Zs hb); have NB218_219 := Zh ((by rw [hg]; exact Nat.ne_of_lt (blk_lt (g := gb218) (o := .cells #[.slice A0_0 l0_0.length c0_0] 29 (0, 0)) Zk) : gb218 ≠ gb219)); have NB219_218 := Zh ((by rw [hg]; exact Nat.ne_of_gt (blk_lt (g := gb218) (o := .cells #[.slice A0_0 l0_0.length c0_0] 29 (0, 0)) Zk) : gb219 ≠ gb218)); replace BK218 := Zh (Zm (g := gb218) (o := .cells #[.slice A0_0 l0_0.length c0_0] 29 (0, 0)) Zk hb); clear hb hbox hg))
 (try simp only [Act.put, List.setIfInBounds_toArray, List.set_cons_zero, List.set_cons_succ])
 go_cut [14] (fun v14 wc => ∃ (kq : Nat) (x14_2 : Bool), v14 = .bool x14_2 ∧ Aside0 (spec_RemoveFile.j0 kq a1 x14_2 l0_0 = some (r1, r2)) ∧ Aside0 (kq ≤ k) ∧ Aside0 (wc.heap[gb218]? = some (.cells #[(.slice A0_0 l0_0.length c0_0)] 29 (0, 0))) ∧ Aside0 (wc.heap[gb219]? = some (.cells #[(.slice none 0 0)] 29 (0, 0))) ∧ Aside0 (Below w.heap.size w wc))
 case first =>
  have H := HC3.out
  clear HC3
  replace H := Option.bind_eq_some_iff.mp H
  obtain ⟨t220, A60, H⟩ := H
  replace H : (if t220 = true then ((spec_l03Find.f k l0_0 a1).bind fun t221 => (spec_RemoveFile.j0 k a1 (decide (t221 < 0)) l0_0)) else (spec_RemoveFile.j0 k a1 true l0_0)) = some (r1, r2) := H
  have A6 := Zh A60
  clear A60
  by_cases c7 : t220 = true
  ·
   subst c7
   have H1 : ((spec_l03Find.f k l0_0 a1).bind fun t221 => (spec_RemoveFile.j0 k a1 (decide (t221 < 0)) l0_0)) = some (r1, r2) := by rw [if_pos rfl] at H; exact H
   clear H
   have H := H1
   clear H1
   replace H := Option.bind_eq_some_iff.mp H
   obtain ⟨t221, A80, H⟩ := H
   replace H : (spec_RemoveFile.j0 k a1 (decide (t221 < 0)) l0_0) = some (r1, r2) := H
   have A8 := Zh A80
   clear A80
   have H' := Zh H
   clear H
   have hnb9 := NB218_219.out
   have hnc9 := NB219_218.out
   have hcz10_0 : w5.cell? ⟨gb218, 0, none⟩ = some (.slice A0_0 l0_0.length c0_0) := (blk_cell BK218.out 0).trans rfl
   have hfz10_0 := Zn BK218.out 0
   go_wp2_with (first | ((with_reducible refine gate_callee (f := 15) rfl ?_); refine ZG (some 7) Tryd.func15 #[.agg #[.slice A0_0 l0_0.length c0_0]] rfl ?_; (with_reducible refine (spec_DiskOk.calls k _ _ l0_0 true _ ?side1 ?side2 A6.out).mono ?_); (case side1 => repeat (first | exact (C_below HR0_0.out HB.out) | (with_reducible refine C_alloc ?_ _) | (with_reducible refine C_drewN ?_ _) | (with_reducible refine C_drew ?_))); (case side2 => exact HC0_0.out); rintro e w11 ⟨rfl, hb⟩; refine ⟨_, rfl, ?_⟩; replace BK218 := Zh (Zm (g := gb218) (o := .cells #[.slice A0_0 l0_0.length c0_0] 29 (0, 0)) Zk hb); replace BK219 := Zh (Zm (g := gb219) (o := .cells #[.slice none 0 0] 29 (0, 0)) Zk hb); replace HB := Zh (Zl Zs hb); (try clear hb); (try clear hb2); (try clear hk); (try clear hi); have hcz12_0 : w11.cell? ⟨gb218, 0, none⟩ = some (.slice A0_0 l0_0.length c0_0) := (blk_cell BK218.out 0).trans rfl; have hfz12_0 := Zn BK218.out 0) | (go_at_call 61; (with_reducible refine (spec_l03Find.calls k _ _ l0_0 a1 t221 _ ?side1 ?side2 A8.out).mono ?_); (case side1 => repeat (first | exact (C_below HR0_0.out HB.out) | (with_reducible refine C_alloc ?_ _) | (with_reducible refine C_drewN ?_ _) | (with_reducible refine C_drew ?_))); (case side2 => exact HC0_0.out); rintro e w13 ⟨rfl, hb⟩; replace BK218 := Zh (Zm (g := gb218) (o := .cells #[.slice A0_0 l0_0.length c0_0] 29 (0, 0)) Zk hb); replace BK219 := Zh (Zm (g := gb219) (o := .cells #[.slice none 0 0] 29 (0, 0)) Zk hb); replace HB := Zh (Zl Zs hb); (try clear hb); (try clear hb2); (try clear hk); (try clear hi)))
   go_meet
   case rel => exact ⟨_, (decide (t221 < 0)), (by first | rfl | (simp; done) | (simp [*]; done)), H', ⟨by first | omega | exact Nat.le_refl _⟩, ⟨Zk⟩, ⟨Zk⟩, ⟨Zs⟩⟩
  replace c7 := Bool.eq_false_iff.mpr c7
  subst c7
  have H1 : (spec_RemoveFile.j0 k a1 true l0_0) = some (r1, r2) := by rw [if_neg (show ¬ (false = true) by decide)] at H; exact H
  clear H
  have H := H1
  clear H1
  have H' := Zh H
  clear H
  have hnb14 := NB218_219.out
  have hnc14 := NB219_218.out
  have hcz15_0 : w5.cell? ⟨gb218, 0, none⟩ = some (.slice A0_0 l0_0.length c0_0) := (blk_cell BK218.out 0).trans rfl
  have hfz15_0 := Zn BK218.out 0
  go_wp2_with (first | ((with_reducible refine gate_callee (f := 15) rfl ?_); refine ZG (some 7) Tryd.func15 #[.agg #[.slice A0_0 l0_0.length c0_0]] rfl ?_; (with_reducible refine (spec_DiskOk.calls k _ _ l0_0 false _ ?side1 ?side2 A6.out).mono ?_); (case side1 => repeat (first | exact (C_below HR0_0.out HB.out) | (with_reducible refine C_alloc ?_ _) | (with_reducible refine C_drewN ?_ _) | (with_reducible refine C_drew ?_))); (case side2 => exact HC0_0.out); rintro e w16 ⟨rfl, hb⟩; refine ⟨_, rfl, ?_⟩; replace BK218 := Zh (Zm (g := gb218) (o := .cells #[.slice A0_0 l0_0.length c0_0] 29 (0, 0)) Zk hb); replace BK219 := Zh (Zm (g := gb219) (o := .cells #[.slice none 0 0] 29 (0, 0)) Zk hb); replace HB := Zh (Zl Zs hb); (try clear hb); (try clear hb2); (try clear hk); (try clear hi)))
  go_meet
  case rel => exact ⟨_, (true), (by first | rfl | (simp; done) | (simp [*]; done)), H', ⟨by first | omega | exact Nat.le_refl _⟩, ⟨Zk⟩, ⟨Zk⟩, ⟨Zs⟩⟩
 case rest =>
  clear HC3
  try clear c1
  try clear c2
  try clear p2
  try clear c7
  try clear c9
  try clear c14
  try clear c15
  try clear hcz10_0
  try clear hcz12_0
  try clear hcz15_0
  try clear hfz10_0
  try clear hfz12_0
  try clear hfz15_0
  obtain ⟨kq, x14_2, rfl, HA, HJ2, BK218, BK219, HB⟩ := hcut
  cases kq with
  | zero => exact absurd HA.out (by simp [spec_RemoveFile.j0])
  | succ kj2 =>
   have H := HA.out
   clear HA
   simp only [spec_RemoveFile.j0] at H
   by_cases c17 : x14_2 = true
   ·
    subst c17
    have H1 : ((spec_l03Copy.f kj2 l0_0).bind fun t222 => (some (t222, false))) = some (r1, r2) := by rw [if_pos rfl] at H; exact H
    clear H
    have H := H1
    clear H1
    replace H := Option.bind_eq_some_iff.mp H
    obtain ⟨t222, A180, H⟩ := H
    replace H : (some (t222, false)) = some (r1, r2) := H
    have A18 := Zh A180
    clear A180
    simp only [Option.some.injEq, Prod.mk.injEq] at H
    obtain ⟨rfl, rfl⟩ := H
    have hnb19 := NB218_219.out
    have hnc19 := NB219_218.out
    have hcz20_0 : wc.cell? ⟨gb218, 0, none⟩ = some (.slice A0_0 l0_0.length c0_0) := (blk_cell BK218.out 0).trans rfl
    have hfz20_0 := Zn BK218.out 0
    go_wp2_with (first | ((with_reducible refine gate_callee (f := 66) rfl ?_); refine ZG (some 16) Tryd.func66 #[.agg #[.slice A0_0 l0_0.length c0_0]] rfl ?_; (with_reducible refine (spec_l03Copy.calls kj2 _ _ l0_0 t222 _ ?side1 ?side2 A18.out).mono ?_); (case side1 => repeat (first | exact (C_below HR0_0.out HB.out) | (with_reducible refine C_alloc ?_ _) | (with_reducible refine C_drewN ?_ _) | (with_reducible refine C_drew ?_))); (case side2 => exact HC0_0.out); rintro e w21 ⟨v223, rfl, ho0, hb⟩; refine ⟨_, rfl, ?_⟩; have HO224 := Zh (S_lower ho0 (below_size Zs)); replace BK218 := Zh (Zm (g := gb218) (o := .cells #[.slice A0_0 l0_0.length c0_0] 29 (0, 0)) Zk hb); replace BK219 := Zh (Zm (g := gb219) (o := .cells #[.slice none 0 0] 29 (0, 0)) Zk hb); replace HB := Zh (Zl Zs hb); (try clear hb); (try clear hb2); (try clear hk); (try clear hi); (try clear ho0); obtain ⟨Ao22, co22, eo22⟩ := S_slice HO224.out; subst eo22; have hcz23_0 : w21.cell? ⟨gb219, 0, none⟩ = some (.slice none 0 0) := (blk_cell BK219.out 0).trans rfl; have hfz23_0 := Zn BK219.out 0))
    refine Zq (results_ct rfl _ _ gb219 29 #[.slice Ao22 t222.length co22] (0, 0) _ rfl (by (with_reducible repeat (first | refine Za ?_ _ | refine Zb ?_ | refine blk_alloc ?_ _)); refine blk_put (cs := #[.slice none 0 0]) ?_ 0 _ rfl; (with_reducible repeat (first | refine Za ?_ _ | refine Zb ?_ | refine blk_alloc ?_ _)); exact BK219.out) Tryd.underlying29 rfl (by kernel_rfl)) rfl ?_
    exact ⟨_, ZE, ZS (S_mono (S_far (p := ⟨gb219, 0, none⟩) (S_types HO224.out BK219.out (by decide)) (fun _ hk => hk.2) (.slice Ao22 t222.length co22)) (fun _ hk => trivial)), Zs⟩
   replace c17 := Bool.eq_false_iff.mpr c17
   subst c17
   have H1 : ((spec_l03Without.f kj2 l0_0 a1).bind fun t225 => (some (t225, true))) = some (r1, r2) := by rw [if_neg (show ¬ (false = true) by decide)] at H; exact H
   clear H
   have H := H1
   clear H1
   replace H := Option.bind_eq_some_iff.mp H
   obtain ⟨t225, A240, H⟩ := H
   replace H : (some (t225, true)) = some (r1, r2) := H
   have A24 := Zh A240
   clear A240
   simp only [Option.some.injEq, Prod.mk.injEq] at H
   obtain ⟨rfl, rfl⟩ := H
   have hnb25 := NB218_219.out
   have hnc25 := NB219_218.out
   have hcz26_0 : wc.cell? ⟨gb218, 0, none⟩ = some (.slice A0_0 l0_0.length c0_0) := (blk_cell BK218.out 0).trans rfl
   have hfz26_0 := Zn BK218.out 0
   go_wp2_with (first | ((with_reducible refine gate_callee (f := 67) rfl ?_); refine ZG (some 19) Tryd.func67 #[.agg #[.slice A0_0 l0_0.length c0_0], .string a1] rfl ?_; (with_reducible refine (spec_l03Without.calls kj2 _ _ l0_0 a1 t225 _ ?side1 ?side2 A24.out).mono ?_); (case side1 => repeat (first | exact (C_below HR0_0.out HB.out) | (with_reducible refine C_alloc ?_ _) | (with_reducible refine C_drewN ?_ _) | (with_reducible refine C_drew ?_))); (case side2 => exact HC0_0.out); rintro e w27 ⟨v226, rfl, ho0, hb⟩; refine ⟨_, rfl, ?_⟩; have HO227 := Zh (S_lower ho0 (below_size Zs)); replace BK218 := Zh (Zm (g := gb218) (o := .cells #[.slice A0_0 l0_0.length c0_0] 29 (0, 0)) Zk hb); replace BK219 := Zh (Zm (g := gb219) (o := .cells #[.slice none 0 0] 29 (0, 0)) Zk hb); replace HB := Zh (Zl Zs hb); (try clear hb); (try clear hb2); (try clear hk); (try clear hi); (try clear ho0); obtain ⟨Ao28, co28, eo28⟩ := S_slice HO227.out; subst eo28; have hcz29_0 : w27.cell? ⟨gb219, 0, none⟩ = some (.slice none 0 0) := (blk_cell BK219.out 0).trans rfl; have hfz29_0 := Zn BK219.out 0))
   refine Zq (results_ct rfl _ _ gb219 29 #[.slice Ao28 t225.length co28] (0, 0) _ rfl (by (with_reducible repeat (first | refine Za ?_ _ | refine Zb ?_ | refine blk_alloc ?_ _)); refine blk_put (cs := #[.slice none 0 0]) ?_ 0 _ rfl; (with_reducible repeat (first | refine Za ?_ _ | refine Zb ?_ | refine blk_alloc ?_ _)); exact BK219.out) Tryd.underlying29 rfl (by kernel_rfl)) rfl ?_
   exact ⟨_, ZE, ZS (S_mono (S_far (p := ⟨gb219, 0, none⟩) (S_types HO227.out BK219.out (by decide)) (fun _ hk => hk.2) (.slice Ao28 t225.length co28)) (fun _ hk => trivial)), Zs⟩
end Go.Proofs.YtmgeffgcihfpcaaDoor.F

namespace Go.Proofs.YtmgeffgcihfpcaaDoor.F
open Go.RowKit Go.Proofs.YtmgeffgcihfpcaaDoorW.PrintWords Go.Proofs.YtmgeffgcihfpcaaDoorW.PrintLast Go.Proofs.YtmgeffgcihfpcaaDoorW.PrintMore
open Go.Proofs.YtmgeffgcihfpcaaDoor
set_option linter.unusedVariables false
set_option linter.unusedSimpArgs false
def spec_PlayDisk.step (k : Nat) (d : List S74) (x : List S71) (i : Int) : Option (List S74 × Bool) := if (rd_T71 x i).f0 = 0 then spec_AppendFile.f k d (rd_T71 x i).f1 (rd_T71 x i).f3 else if (rd_T71 x i).f0 = 1 then spec_SyncFile.f k d (rd_T71 x i).f1 else if (rd_T71 x i).f0 = 2 then spec_CutFile.f k d (rd_T71 x i).f1 (rd_T71 x i).f4 else if (rd_T71 x i).f0 = 3 then spec_RenameFile.f k d (rd_T71 x i).f1 (rd_T71 x i).f2 else if (rd_T71 x i).f0 = 4 then spec_RemoveFile.f k d (rd_T71 x i).f1 else some (d, false)
def spec_PlayDisk.l0 : Nat → List S71 → List S74 → List Bool → Int → Option (List S74 × List Bool)
  | 0, _, _, _, _ => none
  | k + 1, x, d, t, i => if i < (x.length : Int) then (if 0 ≤ i then (spec_PlayDisk.step k d x i).bind fun q => (if t.length < 140737488355328 then spec_PlayDisk.l0 k x q.1 (t ++ [q.2]) (wrap64 (i + 1)) else none) else none) else some (d, t)
def spec_PlayDisk.f (k : Nat) (l : List S74) (x : List S71) : Option (List S74 × List Bool) := (spec_DiskOk.f k l).bind fun t => if t = true then (if (x.length : Int) > 200 then some ([], []) else (spec_l03Copy.f k l).bind fun o => spec_PlayDisk.l0 k x o [] 0) else some ([], [])
set_option maxHeartbeats 16000000 in
set_option maxRecDepth 100000 in
theorem spec_PlayDisk.calls (k : Nat) (A0_0 : Option Addr) (c0_0 : Nat) (l0_0 : List (S74)) (A1 : Option Addr) (c1 : Nat) (l1 : List (S71)) (r1 : List (S74)) (r2 : List Bool) (w : World) (hr0_0 : Kd.C k74 w A0_0 l0_0.length l0_0) (hc0_0 : l0_0.length ≤ c0_0) (hr1 : Kd.C k71 w A1 l1.length l1) (hc1 : l1.length ≤ c1) (h : spec_PlayDisk.f k l0_0 l1 = some (r1, r2)) :
    Calls Tryd.prog 43 #[.agg #[.slice A0_0 l0_0.length c0_0], .slice A1 l1.length c1] w fun e w' => ∃ v0_ v1_ : Value, e = .returned (.tuple #[.agg #[v0_], v1_]) ∧ Kd.S k74 74 w' w.heap.size (fun k_ => some k_ ≠ v1_.ownBlock) v0_ r1 ∧ Kd.R Kd.bool 4 w' w.heap.size (fun _ => True) v1_ r2 ∧ Below w.heap.size w w' := by
  have HR := Zh hr0_0
  have HC := Zh hc0_0
  have HR1 := Zh hr1
  clear hr0_0 hc0_0 hr1 hc1
  have ST := Zh (LW.St.start w)
  have hu29 := Tryd.underlying29
  have hu71 := Tryd.underlying71
  unfold spec_PlayDisk.f at h
  replace h := Option.bind_eq_some_iff.mp h
  obtain ⟨tt, HA1, h⟩ := h
  replace HA1 := Zh HA1
  have H := Zh h
  clear h
  go_enter Tryd.func43, Tryd.ntmps43
  go_wp2_with fail
  replace ST := Zh (ST.out.alloc #[.slice A0_0 l0_0.length c0_0] 29 (g := w.heap.size) rfl)
  replace ST := Zh (ST.out.alloc #[.slice none 0 0] 29 (g := w.heap.size + 1) (by simp))
  with_reducible refine (spec_DiskOk.calls k _ _ l0_0 tt _ (Kd.C_below HR.out ST.out.b) HC.out HA1.out).mono ?_
  rintro e w1 ⟨rfl, hb⟩
  replace ST := Zh (ST.out.step hb)
  clear hb
  have h := H.out
  clear H
  have hbad : ∀ c : Bool, c = c := fun _ => rfl
  have hc0 := ST.out.cell 1 rfl 0 (u := .slice A0_0 l0_0.length c0_0) rfl
  have hl0 := ST.out.lt 1 rfl
  have hc3 := ST.out.cell 0 rfl 0 (u := .slice none 0 0) rfl
  have hl3 := ST.out.lt 0 rfl
  have hf3 := ST.out.frozen 0 rfl 0
  cases tt with
  | false =>
    rw [if_neg (by decide)] at h
    obtain ⟨rfl, rfl⟩ := Prod.mk.inj (Option.some.inj h)
    clear h
    go_wp2_with fail
    replace ST := Zh (ST.out.set 0 rfl 0 (.slice none 0 0))
    refine Zq (results_ct rfl _ _ (w.heap.size + 1) 29 #[.slice none 0 0] (0, 0) _ rfl (ST.out.blk 0 rfl) Tryd.underlying29 rfl (by kernel_rfl)) rfl ?_
    exact ⟨_, _, rfl, Kd.S_nil _ _ _ _ _, Kd.R_nil _ _ _ _ _, ST.out.b⟩
  | true =>
    rw [if_pos rfl] at h
    by_cases c2 : (l1.length : Int) > 200
    · rw [if_pos c2] at h
      obtain ⟨rfl, rfl⟩ := Prod.mk.inj (Option.some.inj h)
      have q2 : decide (200 < (l1.length : Int)) = true := decide_eq_true c2
      have q3 : decide (200 < l1.length) = true := decide_eq_true (by omega)
      clear h c2
      go_wp2_with fail
      replace ST := Zh (ST.out.set 0 rfl 0 (.slice none 0 0))
      refine Zq (results_ct rfl _ _ (w.heap.size + 1) 29 #[.slice none 0 0] (0, 0) _ rfl (ST.out.blk 0 rfl) Tryd.underlying29 rfl (by kernel_rfl)) rfl ?_
      exact ⟨_, _, rfl, Kd.S_nil _ _ _ _ _, Kd.R_nil _ _ _ _ _, ST.out.b⟩
    rw [if_neg c2] at h
    have q2 : decide (200 < (l1.length : Int)) = false := decide_eq_false c2
    have q3 : decide (200 < l1.length) = false := decide_eq_false (by omega)
    replace h := Option.bind_eq_some_iff.mp h
    obtain ⟨o, HA2, h⟩ := h
    replace HA2 := Zh HA2
    have H := Zh h
    clear h c2
    go_wp2_with fail
    with_reducible refine (spec_l03Copy.calls k _ _ l0_0 o _ (Kd.C_below HR.out ST.out.b) HC.out HA2.out).mono ?_
    rintro e w2 ⟨v2, rfl, ho, hb⟩
    obtain ⟨Ao, co, rfl⟩ := Kd.S_slice ho
    replace ST := Zh (ST.out.row hb ho)
    clear hb ho hc0 hl0 hc3 hl3 hf3 q2 q3
    go_wp2_with fail
    replace ST := Zh (ST.out.alloc #[.slice Ao o.length co] 29 (g := w2.heap.size) rfl)
    replace ST := Zh (ST.out.rowR (d := Kd.bool) (e := 4) (xs := []) rfl (Zf (Below.refl _ _) (.cells #[] 4)) (R_emptyB _))
    replace ST := Zh (ST.out.sel [0, 2, 1, 3] (by decide))
    have e6 : (w2.alloc (.cells #[.slice Ao o.length co] 29)).heap.size = w2.heap.size + 1 := by simp
    rw [e6] at ST
    generalize hW : (w2.alloc (.cells #[.slice Ao o.length co] 29)).alloc (.cells #[] 4) = W at ST ⊢
    clear hW
    go_loopg [7, 8] k (fun kq va vb w' => ∃ (d : List S74) (t : List Bool) (i : Int) (Fd Ft : Nat → Prop) (Ad : Option Addr) (cd : Nat) (At : Option Addr) (ct : Nat), va = .slice At t.length ct ∧ vb = .int .i64 i ∧ Aside0 (spec_PlayDisk.l0 kq l1 d t i = some (r1, r2)) ∧ Aside0 (LW.St w w' [LW.row Kd.bool 4 w.heap.size (.slice At t.length ct) t Ft, LW.row k74 74 w.heap.size (.slice Ad d.length cd) d Fd, LW.box w2.heap.size #[.slice Ad d.length cd] 29, LW.box (w.heap.size + 1) #[.slice none 0 0] 29]))
    case atStart => exact ⟨o, [], 0, _, _, Ao, co, some ⟨w2.heap.size + 1, 0, none⟩, 0, rfl, rfl, H, ST⟩
    case round =>
      clear ST H
      obtain ⟨d, t, i, Fd, Ft, Az, cz, At, ct, rfl, rfl, HA, ST⟩ := hrel
      cases gk with
      | zero => exact absurd HA.out (by simp [spec_PlayDisk.l0])
      | succ k1 =>
        have h := HA.out
        clear HA
        simp only [spec_PlayDisk.l0] at h
        by_cases c3 : i < (l1.length : Int)
        · rw [if_pos c3] at h
          by_cases c4 : 0 ≤ i
          · rw [if_pos c4] at h
            obtain ⟨⟨d', okk⟩, HS, h⟩ := Option.bind_eq_some_iff.mp h
            by_cases c5 : t.length < 140737488355328
            · rw [if_pos c5] at h
              have H' := Zh h
              have HSZ := Zh c5
              clear h c5
              obtain ⟨ad, A3, c3_, e, E0, E1, E2, E3, E4, g3l, g3⟩ := at_T71 HR1.out i c4 c3
              cases e
              have HI3 := Zh g3
              have HL3 := Zh g3l
              have hx0 := (ST.out.b.cell (Zi w _ E0)).trans E0
              have hx1 := (ST.out.b.cell (Zi w _ E1)).trans E1
              have hx2 := (ST.out.b.cell (Zi w _ E2)).trans E2
              have hx3 := (ST.out.b.cell (Zi w _ E3)).trans E3
              have hx4 := (ST.out.b.cell (Zi w _ E4)).trans E4
              have q3 := decide_eq_true c3
              have p3 := eq_true c3
              have p4 := eq_true c4
              clear E0 E1 E2 E3 E4 g3l g3 c3 c4
              simp only [spec_PlayDisk.step] at HS
              have hc0 := ST.out.cell 2 rfl 0 (u := .slice Az d.length cz) rfl
              have hl0 := ST.out.lt 2 rfl
              go_upto_block 2 with fail
              replace ST := Zh (ST.out.alloc #[.int .i64 (rd_T71 l1 i).f0, .string (rd_T71 l1 i).f1, .string (rd_T71 l1 i).f2, .slice A3 (rd_T71 l1 i).f3.length c3_, .int .i64 (rd_T71 l1 i).f4] 71 (g := wr.heap.size) rfl)
              replace ST := Zh (ST.out.alloc #[.slice Az d.length cz] 29 (g := wr.heap.size + 1) (by simp))
              generalize (wr.alloc (.cells #[.int .i64 (rd_T71 l1 i).f0, .string (rd_T71 l1 i).f1, .string (rd_T71 l1 i).f2, .slice A3 (rd_T71 l1 i).f3.length c3_, .int .i64 (rd_T71 l1 i).f4] 71)).alloc (.cells #[.slice Az d.length cz] 29) = w4 at ST ⊢
              clear hx0 hx1 hx2 hx3 hx4 hc0 hl0
              have hx0 := ST.out.cell 1 rfl 0 (u := .int .i64 (rd_T71 l1 i).f0) rfl
              have hx1 := ST.out.cell 1 rfl 1 (u := .string (rd_T71 l1 i).f1) rfl
              have hx2 := ST.out.cell 1 rfl 2 (u := .string (rd_T71 l1 i).f2) rfl
              have hx3 := ST.out.cell 1 rfl 3 (u := .slice A3 (rd_T71 l1 i).f3.length c3_) rfl
              have hx4 := ST.out.cell 1 rfl 4 (u := .int .i64 (rd_T71 l1 i).f4) rfl
              have hl0 := ST.out.lt 1 rfl
              have hc0 := ST.out.cell 4 rfl 0 (u := .slice Az d.length cz) rfl
              have hl1 := ST.out.lt 4 rfl
              go_cut [10] (fun vk wc => ∃ (Ad : Option Addr) (cd : Nat) (Fd Ft : Nat → Prop), vk = .bool okk ∧ Aside0 (LW.St w wc [LW.row Kd.bool 4 w.heap.size (.slice At t.length ct) t Ft, LW.row k74 74 w.heap.size (.slice Ad d'.length cd) d' Fd, LW.box (wr.heap.size + 1) #[.slice Ad d'.length cd] 29, LW.box w2.heap.size #[.slice Az d.length cz] 29, LW.box (w.heap.size + 1) #[.slice none 0 0] 29]))
              case first =>
                by_cases g0 : (rd_T71 l1 i).f0 = 0
                · rw [if_pos g0] at HS
                  replace HS := Zh HS
                  have n0 : ((rd_T71 l1 i).f0 == 0) = true := beq_iff_eq.mpr g0
                  clear g0
                  go_wp2_with fail
                  with_reducible refine (spec_AppendFile.calls k1 _ _ d (rd_T71 l1 i).f1 _ _ (rd_T71 l1 i).f3 d' okk _ ((ST.out.reads 3 rfl).2.2) (ST.out.reads 3 rfl).2.1 (Kd.C_below HI3.out ST.out.b) HL3.out HS.out).mono ?_
                  rintro e w5 ⟨v5, rfl, ho, hb⟩
                  obtain ⟨A5, c5, rfl⟩ := Kd.S_slice ho
                  replace ST := Zh (ST.out.row hb ho)
                  clear hb ho hx0 hx1 hx2 hx3 hx4 hl0 hc0 hl1
                  have hc0 := ST.out.cell 1 rfl 0 (u := .slice Az d.length cz) rfl
                  have hl0 := ST.out.lt 1 rfl
                  have hf0 := ST.out.frozen 1 rfl 0
                  go_wp2
                  replace ST := Zh ((ST.out.set 1 rfl 0 (.slice A5 d'.length c5)).sel [3, 0, 1, 5, 6] (by decide))
                  go_meet
                  case rel => exact ⟨A5, c5, _, _, rfl, ST⟩
                have n0 : ((rd_T71 l1 i).f0 == 0) = false := by rw [beq_eq_false_iff_ne]; exact g0
                by_cases g1 : (rd_T71 l1 i).f0 = 1
                · rw [if_neg g0, if_pos g1] at HS
                  replace HS := Zh HS
                  have n1 : ((rd_T71 l1 i).f0 == 1) = true := beq_iff_eq.mpr g1
                  clear g0 g1
                  go_wp2_with fail
                  with_reducible refine (spec_SyncFile.calls k1 _ _ d (rd_T71 l1 i).f1 d' okk _ ((ST.out.reads 3 rfl).2.2) (ST.out.reads 3 rfl).2.1 HS.out).mono ?_
                  rintro e w5 ⟨v5, rfl, ho, hb⟩
                  obtain ⟨A5, c5, rfl⟩ := Kd.S_slice ho
                  replace ST := Zh (ST.out.row hb ho)
                  clear hb ho hx0 hx1 hx2 hx3 hx4 hl0 hc0 hl1
                  have hc0 := ST.out.cell 1 rfl 0 (u := .slice Az d.length cz) rfl
                  have hl0 := ST.out.lt 1 rfl
                  have hf0 := ST.out.frozen 1 rfl 0
                  go_wp2
                  replace ST := Zh ((ST.out.set 1 rfl 0 (.slice A5 d'.length c5)).sel [3, 0, 1, 5, 6] (by decide))
                  go_meet
                  case rel => exact ⟨A5, c5, _, _, rfl, ST⟩
                have n1 : ((rd_T71 l1 i).f0 == 1) = false := by rw [beq_eq_false_iff_ne]; exact g1
                by_cases g2 : (rd_T71 l1 i).f0 = 2
                · rw [if_neg g0, if_neg g1, if_pos g2] at HS
                  replace HS := Zh HS
                  have n2 : ((rd_T71 l1 i).f0 == 2) = true := beq_iff_eq.mpr g2
                  clear g0 g1 g2
                  go_wp2_with fail
                  with_reducible refine (spec_CutFile.calls k1 _ _ d (rd_T71 l1 i).f1 (rd_T71 l1 i).f4 d' okk _ ((ST.out.reads 3 rfl).2.2) (ST.out.reads 3 rfl).2.1 HS.out).mono ?_
                  rintro e w5 ⟨v5, rfl, ho, hb⟩
                  obtain ⟨A5, c5, rfl⟩ := Kd.S_slice ho
                  replace ST := Zh (ST.out.row hb ho)
                  clear hb ho hx0 hx1 hx2 hx3 hx4 hl0 hc0 hl1
                  have hc0 := ST.out.cell 1 rfl 0 (u := .slice Az d.length cz) rfl
                  have hl0 := ST.out.lt 1 rfl
                  have hf0 := ST.out.frozen 1 rfl 0
                  go_wp2
                  replace ST := Zh ((ST.out.set 1 rfl 0 (.slice A5 d'.length c5)).sel [3, 0, 1, 5, 6] (by decide))
                  go_meet
                  case rel => exact ⟨A5, c5, _, _, rfl, ST⟩
                have n2 : ((rd_T71 l1 i).f0 == 2) = false := by rw [beq_eq_false_iff_ne]; exact g2
                by_cases g3 : (rd_T71 l1 i).f0 = 3
                · rw [if_neg g0, if_neg g1, if_neg g2, if_pos g3] at HS
                  replace HS := Zh HS
                  have n3 : ((rd_T71 l1 i).f0 == 3) = true := beq_iff_eq.mpr g3
                  clear g0 g1 g2 g3
                  go_wp2_with fail
                  with_reducible refine (spec_RenameFile.calls k1 _ _ d (rd_T71 l1 i).f1 (rd_T71 l1 i).f2 d' okk _ ((ST.out.reads 3 rfl).2.2) (ST.out.reads 3 rfl).2.1 HS.out).mono ?_
                  rintro e w5 ⟨v5, rfl, ho, hb⟩
                  obtain ⟨A5, c5, rfl⟩ := Kd.S_slice ho
                  replace ST := Zh (ST.out.row hb ho)
                  clear hb ho hx0 hx1 hx2 hx3 hx4 hl0 hc0 hl1
                  have hc0 := ST.out.cell 1 rfl 0 (u := .slice Az d.length cz) rfl
                  have hl0 := ST.out.lt 1 rfl
                  have hf0 := ST.out.frozen 1 rfl 0
                  go_wp2
                  replace ST := Zh ((ST.out.set 1 rfl 0 (.slice A5 d'.length c5)).sel [3, 0, 1, 5, 6] (by decide))
                  go_meet
                  case rel => exact ⟨A5, c5, _, _, rfl, ST⟩
                have n3 : ((rd_T71 l1 i).f0 == 3) = false := by rw [beq_eq_false_iff_ne]; exact g3
                by_cases g4 : (rd_T71 l1 i).f0 = 4
                · rw [if_neg g0, if_neg g1, if_neg g2, if_neg g3, if_pos g4] at HS
                  replace HS := Zh HS
                  have n4 : ((rd_T71 l1 i).f0 == 4) = true := beq_iff_eq.mpr g4
                  clear g0 g1 g2 g3 g4
                  go_wp2_with fail
                  with_reducible refine (spec_RemoveFile.calls k1 _ _ d (rd_T71 l1 i).f1 d' okk _ ((ST.out.reads 3 rfl).2.2) (ST.out.reads 3 rfl).2.1 HS.out).mono ?_
                  rintro e w5 ⟨v5, rfl, ho, hb⟩
                  obtain ⟨A5, c5, rfl⟩ := Kd.S_slice ho
                  replace ST := Zh (ST.out.row hb ho)
                  clear hb ho hx0 hx1 hx2 hx3 hx4 hl0 hc0 hl1
                  have hc0 := ST.out.cell 1 rfl 0 (u := .slice Az d.length cz) rfl
                  have hl0 := ST.out.lt 1 rfl
                  have hf0 := ST.out.frozen 1 rfl 0
                  go_wp2
                  replace ST := Zh ((ST.out.set 1 rfl 0 (.slice A5 d'.length c5)).sel [3, 0, 1, 5, 6] (by decide))
                  go_meet
                  case rel => exact ⟨A5, c5, _, _, rfl, ST⟩
                have n4 : ((rd_T71 l1 i).f0 == 4) = false := by rw [beq_eq_false_iff_ne]; exact g4
                rw [if_neg g0, if_neg g1, if_neg g2, if_neg g3, if_neg g4] at HS
                obtain ⟨rfl, rfl⟩ := Prod.mk.inj (Option.some.inj HS)
                clear HS g0 g1 g2 g3 g4
                go_wp2
                replace ST := Zh (ST.out.sel [2, 3, 0, 4, 5] (by decide))
                go_meet
                case rel => exact ⟨_, _, _, _, rfl, ST⟩
              case rest =>
              clear ST hx0 hx1 hx2 hx3 hx4 hl0 hc0 hl1 HS p3 p4 q3
              obtain ⟨Ad, cd, Fd, Ft, rfl, ST⟩ := hcut
              have hc0 := ST.out.cell 2 rfl 0 (u := .slice Ad d'.length cd) rfl
              have hl0 := ST.out.lt 2 rfl
              have hc1 := ST.out.cell 3 rfl 0 (u := .slice Az d.length cz) rfl
              have hl1 := ST.out.lt 3 rfl
              have hf1 := ST.out.frozen 3 rfl 0
              have hne := ST.out.ne 2 3 (by decide) rfl rfl
              have hne' := hne.symm
              go_upto_region 23 with fail
              replace ST := Zh ((ST.out.set 3 rfl 0 (.slice Ad d'.length cd)).sel [0, 1, 3, 4] (by decide))
              generalize wc.setCell ⟨w2.heap.size, 0, none⟩ (.slice Ad d'.length cd) = w7 at ST ⊢
              clear hc0 hl0 hc1 hl1 hf1 hne hne'
              go_wp2_with ((with_reducible refine gate_builtin (b := .append) (xs := #[.tmp 89, .tmp 91]) rfl ?_); at_builtin; refine Kd.R_append Kd.bool (w0 := w) w.heap.size rfl (.tmp 89) (.tmp 91) 57 4 (.bool false) 1 rfl Tryd.underlying57 (by kernel_rfl) rfl (by decide) (by omega) (.slice At t.length ct) t okk [.bool okk] (fun k => Ft k ∨ w7.heap.size ≤ k) (fun _ => False) rfl rfl rfl (fun _ h => h.elim) (fun k hk => .inr hk) (Kd.R_mono (Kd.S_R (ST.out.own 0 rfl)) (fun k hk => .inl hk)) ST.out.b ST.out.b.size (by have := HSZ.out; omega) ?_; intro v1 w6 s1 s2 s3 s4; obtain ⟨A8, c8, hv⟩ := Kd.R_slice s1; rw [List.length_append] at hv; subst hv; have Q := Zh (And.intro s1 (And.intro s2 s3)); clear s1 s2 s3 s4)
              obtain ⟨s1, s2, s3⟩ := Q.out
              have hST := ST.out.grow 0 rfl (LW.row Kd.bool 4 w.heap.size (.slice A8 (t.length + 1) c8) (t ++ [okk]) (fun k => Ft k ∨ (w7.heap.size ≤ k ∧ k < w6.heap.size))) (fun k hk => hk) (LW.S_flat rfl (Kd.R_mono (Kd.R_tight rfl s1) (fun k hk => (s1.1 k hk.symm).elim .inl (fun a => .inr ⟨a, Kd.R_lt s1 k hk.symm⟩)))) s2 ⟨s3.size, fun k hk hn => s3.block k hk (fun he => hn ((Kd.S_R (ST.out.own 0 rfl)).1 k he.symm))⟩
              clear s1 s2 s3 Q
              go_roundg k1
              case measure => omega
              case rel => exact ⟨_, t ++ [okk], _, _, _, Ad, cd, A8, c8, by rw [List.length_append]; rfl, rfl, H', ⟨by rw [List.length_append]; exact hST⟩⟩
            rw [if_neg c5] at h; exact absurd h (by simp)
          rw [if_neg c4] at h; exact absurd h (by simp)
        rw [if_neg c3] at h
        obtain ⟨rfl, rfl⟩ := Prod.mk.inj (Option.some.inj h)
        have q3 := decide_eq_false c3
        clear h c3
        have hc0 := ST.out.cell 2 rfl 0 (u := .slice Az d.length cz) rfl
        have hl0 := ST.out.lt 2 rfl
        have hc1 := ST.out.cell 3 rfl 0 (u := .slice none 0 0) rfl
        have hl1 := ST.out.lt 3 rfl
        have hf1 := ST.out.frozen 3 rfl 0
        have hne := ST.out.ne 2 3 (by decide) rfl rfl
        have hne' := hne.symm
        go_wp2_with fail
        replace ST := Zh (ST.out.set 3 rfl 0 (.slice Az d.length cz))
        refine Zq (results_ct rfl _ _ (w.heap.size + 1) 29 #[.slice Az d.length cz] (0, 0) _ rfl (ST.out.blk 3 rfl) Tryd.underlying29 rfl (by kernel_rfl)) rfl ?_
        have hd := LW.Its.disj ST.out.i 1 0 _ _ (by decide) rfl rfl
        exact ⟨_, _, rfl, Kd.S_mono (ST.out.own 1 rfl) (fun k hk he => hd k hk ((Kd.S_R (ST.out.own 0 rfl)).1 k he.symm)), Kd.R_mono (Kd.S_R (ST.out.own 0 rfl)) (fun _ _ => trivial), ST.out.b⟩
end Go.Proofs.YtmgeffgcihfpcaaDoor.F

namespace Go.Proofs.YtmgeffgcihfpcaaDoor.F
open Go.RowKit Go.Proofs.YtmgeffgcihfpcaaDoorW.PrintWords Go.Proofs.YtmgeffgcihfpcaaDoorW.PrintWords.Kd Go.Proofs.YtmgeffgcihfpcaaDoorW.PrintMore.Kd Go.Proofs.YtmgeffgcihfpcaaDoorW.PrintLast Go.Proofs.YtmgeffgcihfpcaaDoorW.PrintMore
attribute [local go_sem] max2_int min2_int max_two min_two max_three min_three max_four min_four   -- for this text's walks alone
set_option linter.unusedVariables false
set_option linter.unusedSimpArgs false
def spec_l03DrawRight.f (k : Nat) (s0_0 : List Int) (s0_1 : Int) (s0_2 : Int) (l1 : List Int) : Option ((List (S74)) × Int × Int) := (spec_l03DrawOps.f k s0_0 s0_1 s0_2 l1).bind fun bt614 => ((spec_PlayDisk.f k ([] : List (S74)) bt614.1).bind fun bt619 => (some (bt619.1, bt614.2.1, bt614.2.2)))
set_option maxHeartbeats 8000000 in
set_option maxRecDepth 100000 in
theorem spec_l03DrawRight.calls (k : Nat) (g : Nat) (s0_0 : List Int) (s0_1 : Int) (s0_2 : Int) (A1 : Option Addr) (c1 : Nat) (l1 : List Int) (r1 : List (S74)) (r2 : Int) (r3 : Int) (w0 w : World) (hI : IsS108 w0 w g s0_0 s0_1 s0_2) (hB : Below w0.heap.size w0 w) (hr1 : Kd.C (Kd.int .u8) w A1 l1.length l1) (hc1 : l1.length ≤ c1) (hf1 : ∀ ad, A1 = some ad → 0 < l1.length → ad.block ≠ g) (h : spec_l03DrawRight.f k s0_0 s0_1 s0_2 l1 = some (r1, r2, r3)) :
  Calls Tryd.prog 85 #[.pointer (some ⟨g, 0, none⟩), .slice A1 l1.length c1] w fun e w' => ∃ v0_ : Value, e = .returned (.agg #[v0_]) ∧ Kd.S k74 74 w' w.heap.size (fun _ => True) v0_ r1 ∧ IsS108 w0 w' g s0_0 r2 r3 ∧ Below w0.heap.size w0 w' ∧ KeepBut w w' g none := by
 have hu29 := Tryd.underlying29
 have HR1 := Zh hr1
 have HC1 := Zh hc1
 clear hr1 hc1
 have HI0 := Zh hI
 have HK := Zh (KeepBut.refl w g none)
 have HL := Zh hB.size
 clear hI
 have HW0 := Zh hB.size
 have HB := Zh hB
 clear hB
 have H : ((spec_l03DrawOps.f k s0_0 s0_1 s0_2 l1).bind fun bt614 => ((spec_PlayDisk.f k ([] : List (S74)) bt614.1).bind fun bt619 => (some (bt619.1, bt614.2.1, bt614.2.2)))) = some (r1, r2, r3) := h
 clear h
 replace H := Option.bind_eq_some_iff.mp H
 obtain ⟨⟨t614, t617, t618⟩, A30, H⟩ := H
 replace H : ((spec_PlayDisk.f k ([] : List (S74)) t614).bind fun bt619 => (some (bt619.1, t617, t618))) = some (r1, r2, r3) := H
 have A3 := Zh A30
 clear A30
 replace H := Option.bind_eq_some_iff.mp H
 obtain ⟨⟨t619, t622⟩, A40, H⟩ := H
 replace H : (some (t619, t617, t618)) = some (r1, r2, r3) := H
 have A4 := Zh A40
 clear A40
 simp only [Option.some.injEq, Prod.mk.injEq] at H
 obtain ⟨rfl, rfl, rfl⟩ := H
 go_enter Tryd.func85, Tryd.ntmps85
 go_wp2_with (first | ((with_reducible refine gate_dst (N := 4) rfl ?_); refine box_event ?hg (N := 4) ?hd (cs := #[.slice none 0 0]) (t := 29) ?hr ?_; (case hd => rfl); (case hg => rfl); (case hr => first | (go_simp; done) | (go_simp; rfl)); intro gb613 hg w5 hbox hb; replace HB := Zh (Zl (by repeat (first | (with_reducible first | exact HB.out | apply Zf | apply Zd | apply Ze | refine Zg ?_ (IsS108.ge HI0.out)) | exact HB.out)) hb); have BK613 := Zh (hbox); have GW613 := Zh ((by rw [hg]; exact (keep_size (w := w) (g := g) (row := none) (by repeat (first | (with_reducible first | exact HK.out | apply KeepBut.set_ | apply keep_drewN | apply keep_drew | apply keep_alloc) | exact HK.out))) : w.heap.size ≤ gb613)); have GE613 := Zh ((Nat.le_trans HW0.out (by rw [hg]; exact (keep_size (w := w) (g := g) (row := none) (by repeat (first | (with_reducible first | exact HK.out | apply KeepBut.set_ | apply keep_drewN | apply keep_drew | apply keep_alloc) | exact HK.out))) : w.heap.size ≤ gb613) : w0.heap.size ≤ gb613)); replace HK := Zh (KeepBut.trans (by repeat (first | (with_reducible first | exact HK.out | apply KeepBut.set_ | apply keep_drewN | apply keep_drew | apply keep_alloc) | exact HK.out)) (KeepBut.of_below hb g none) (.inl rfl)); have NB0_613 := Zh ((by rw [hg]; exact Nat.ne_of_lt (IsS108.lt (show IsS108 w0 _ g s0_0 s0_1 s0_2 from by repeat (first | (with_reducible first | exact HI0.out | apply IsS108.alloc | apply IsS108.drewN | apply IsS108.drew | apply IsS108.set_1 | apply IsS108.set_2) | exact HI0.out))) : g ≠ gb613)); have NB613_0 := Zh ((by rw [hg]; exact Nat.ne_of_gt (IsS108.lt (show IsS108 w0 _ g s0_0 s0_1 s0_2 from by repeat (first | (with_reducible first | exact HI0.out | apply IsS108.alloc | apply IsS108.drewN | apply IsS108.drew | apply IsS108.set_1 | apply IsS108.set_2) | exact HI0.out))) : gb613 ≠ g)); replace HI0 := Zh (IsS108.below (by repeat (first | (with_reducible first | exact HI0.out | apply IsS108.alloc | apply IsS108.drewN | apply IsS108.drew | apply IsS108.set_1 | apply IsS108.set_2) | exact HI0.out)) hb); clear hb hbox hg) | ((with_reducible refine gate_callee (f := 86) rfl ?_); refine ZG (some 11) Tryd.func86 #[.pointer (some ⟨g, 0, none⟩), .slice A1 l1.length c1] rfl ?_; (with_reducible refine (spec_l03DrawOps.calls k g s0_0 s0_1 s0_2 _ _ l1 t614 t617 t618 w0 _ ?side1 ?side2 ?side3 ?side4 ?side5 A3.out).mono ?_); (case side1 => repeat (first | (with_reducible first | exact HI0.out | apply IsS108.alloc | apply IsS108.drewN | apply IsS108.drew | apply IsS108.set_1 | apply IsS108.set_2 | refine IsS108.far ?_ NB0_613.out _) | exact HI0.out)); (case side2 => repeat (first | (with_reducible first | exact HB.out | apply Zf | apply Zd | apply Ze | refine Zg ?_ (IsS108.ge HI0.out) | refine Zg ?_ GE613.out) | exact HB.out)); (case side3 => exact C_keep 0 HR1.out (by repeat (first | (with_reducible first | exact HK.out | apply KeepBut.set_ | apply keep_drewN | apply keep_drew | apply keep_alloc | refine keep_far ?_ GW613.out _) | exact HK.out)) hf1); (case side4 => exact HC1.out); (case side5 => exact hf1); rintro e w6 ⟨v615, rfl, ho0, hi, hb, hk⟩; refine ⟨_, rfl, ?_⟩; replace BK613 := Zh (KeepBut.blk hk (g' := gb613) (o := .cells #[.slice none 0 0] 29 (0, 0)) Zk NB613_0.out (by simp)); have HO616 := Zh (S_lower ho0 (keep_size (w := w) (g := g) (row := none) (by repeat (first | (with_reducible first | exact HK.out | apply KeepBut.set_ | apply keep_drewN | apply keep_drew | apply keep_alloc | refine keep_far ?_ GW613.out _) | exact HK.out)))); replace HK := Zh (KeepBut.trans (by repeat (first | (with_reducible first | exact HK.out | apply KeepBut.set_ | apply keep_drewN | apply keep_drew | apply keep_alloc | refine keep_far ?_ GW613.out _) | exact HK.out)) hk (.inl rfl)); replace HB := Zh (hb); replace HI0 := Zh (hi); (try clear hb); (try clear hb2); (try clear hk); (try clear hi); (try clear ho0); obtain ⟨Ao7, co7, eo7⟩ := S_slice HO616.out; subst eo7) | ((with_reducible refine gate_callee (f := 43) rfl ?_); refine ZG (some 12) Tryd.func43 #[.agg #[.slice none 0 0], .slice Ao7 t614.length co7] rfl ?_; (refine (spec_PlayDisk.calls k _ _ ([] : List (S74)) _ _ t614 t619 t622 _ ?side1 ?side2 ?side3 ?side4 A4.out).mono ?_); (case side1 => exact C_nil _ _); (case side2 => exact Nat.le_refl _); (case side3 => repeat (first | exact (S_reads' HO616.out).2.2 | (with_reducible refine C_alloc ?_ _) | (with_reducible refine C_drewN ?_ _) | (with_reducible refine C_drew ?_))); (case side4 => exact (S_reads' HO616.out).2.1); rintro e w8 ⟨v620, v623, rfl, ho0, ho1, hb⟩; refine ⟨_, rfl, ?_⟩; replace HO616 := Zh (S_below (ZS HO616.out) hb); have HO621 := Zh (S_lower ho0 (keep_size (w := w) (g := g) (row := none) (by repeat (first | (with_reducible first | exact HK.out | apply KeepBut.set_ | apply keep_drewN | apply keep_drew | apply keep_alloc | refine keep_far ?_ GW613.out _) | exact HK.out)))); have HO624 := Zh (R_lower ho1 (keep_size (w := w) (g := g) (row := none) (by repeat (first | (with_reducible first | exact HK.out | apply KeepBut.set_ | apply keep_drewN | apply keep_drew | apply keep_alloc | refine keep_far ?_ GW613.out _) | exact HK.out)))); replace BK613 := Zh (Zm (g := gb613) (o := .cells #[.slice none 0 0] 29 (0, 0)) Zk hb); replace HK := Zh (KeepBut.trans (by repeat (first | (with_reducible first | exact HK.out | apply KeepBut.set_ | apply keep_drewN | apply keep_drew | apply keep_alloc | refine keep_far ?_ GW613.out _) | exact HK.out)) (KeepBut.of_below hb g none) (.inl rfl)); replace HB := Zh (Zl (by repeat (first | (with_reducible first | exact HB.out | apply Zf | apply Zd | apply Ze | refine Zg ?_ (IsS108.ge HI0.out) | refine Zg ?_ GE613.out) | exact HB.out)) hb); replace HI0 := Zh (IsS108.below (by repeat (first | (with_reducible first | exact HI0.out | apply IsS108.alloc | apply IsS108.drewN | apply IsS108.drew | apply IsS108.set_1 | apply IsS108.set_2 | refine IsS108.far ?_ NB0_613.out _) | exact HI0.out)) hb); (try clear hb); (try clear hb2); (try clear hk); (try clear hi); (try clear ho0); (try clear ho1)) | ((with_reducible refine gate_dst (N := 5) rfl ?_); refine box_event ?hg (N := 5) ?hd (cs := #[.slice none 0 0]) (t := 29) ?hr ?_; (case hd => rfl); (case hg => rfl); (case hr => first | (go_simp; done) | (go_simp; rfl)); intro gb625 hg w9 hbox hb; replace HO616 := Zh (S_below (ZS HO616.out) hb); replace HO621 := Zh (S_below (ZS HO621.out) hb); replace HO624 := Zh (R_below (ZR HO624.out) hb); replace HB := Zh (Zl (by repeat (first | (with_reducible first | exact HB.out | apply Zf | apply Zd | apply Ze | refine Zg ?_ (IsS108.ge HI0.out) | refine Zg ?_ GE613.out) | exact HB.out)) hb); have BK625 := Zh (hbox); have GW625 := Zh ((by rw [hg]; exact (keep_size (w := w) (g := g) (row := none) (by repeat (first | (with_reducible first | exact HK.out | apply KeepBut.set_ | apply keep_drewN | apply keep_drew | apply keep_alloc | refine keep_far ?_ GW613.out _) | exact HK.out))) : w.heap.size ≤ gb625)); have GE625 := Zh ((Nat.le_trans HW0.out (by rw [hg]; exact (keep_size (w := w) (g := g) (row := none) (by repeat (first | (with_reducible first | exact HK.out | apply KeepBut.set_ | apply keep_drewN | apply keep_drew | apply keep_alloc | refine keep_far ?_ GW613.out _) | exact HK.out))) : w.heap.size ≤ gb625) : w0.heap.size ≤ gb625)); replace HK := Zh (KeepBut.trans (by repeat (first | (with_reducible first | exact HK.out | apply KeepBut.set_ | apply keep_drewN | apply keep_drew | apply keep_alloc | refine keep_far ?_ GW613.out _) | exact HK.out)) (KeepBut.of_below hb g none) (.inl rfl)); have NB613_625 := Zh ((by rw [hg]; exact Nat.ne_of_lt (blk_lt (g := gb613) (o := .cells #[.slice none 0 0] 29 (0, 0)) Zk) : gb613 ≠ gb625)); have NB625_613 := Zh ((by rw [hg]; exact Nat.ne_of_gt (blk_lt (g := gb613) (o := .cells #[.slice none 0 0] 29 (0, 0)) Zk) : gb625 ≠ gb613)); replace BK613 := Zh (Zm (g := gb613) (o := .cells #[.slice none 0 0] 29 (0, 0)) Zk hb); have NB0_625 := Zh ((by rw [hg]; exact Nat.ne_of_lt (IsS108.lt (show IsS108 w0 _ g s0_0 t617 t618 from by repeat (first | (with_reducible first | exact HI0.out | apply IsS108.alloc | apply IsS108.drewN | apply IsS108.drew | apply IsS108.set_1 | apply IsS108.set_2 | refine IsS108.far ?_ NB0_613.out _) | exact HI0.out))) : g ≠ gb625)); have NB625_0 := Zh ((by rw [hg]; exact Nat.ne_of_gt (IsS108.lt (show IsS108 w0 _ g s0_0 t617 t618 from by repeat (first | (with_reducible first | exact HI0.out | apply IsS108.alloc | apply IsS108.drewN | apply IsS108.drew | apply IsS108.set_1 | apply IsS108.set_2 | refine IsS108.far ?_ NB0_613.out _) | exact HI0.out))) : gb625 ≠ g)); replace HI0 := Zh (IsS108.below (by repeat (first | (with_reducible first | exact HI0.out | apply IsS108.alloc | apply IsS108.drewN | apply IsS108.drew | apply IsS108.set_1 | apply IsS108.set_2 | refine IsS108.far ?_ NB0_613.out _) | exact HI0.out)) hb); clear hb hbox hg; obtain ⟨Ao10, co10, eo10⟩ := S_slice HO621.out; subst eo10; have hnb11 := NB625_613.out; have hnc11 := NB613_625.out; have hnb12 := NB625_0.out; have hnc12 := NB0_625.out; have hcz13_0 : w9.cell? ⟨gb625, 0, none⟩ = some (.slice none 0 0) := (blk_cell BK625.out 0).trans rfl; have hfz13_0 := Zn BK625.out 0; have hnb14 := NB613_0.out; have hnc14 := NB0_613.out; have hcz15_0 : w9.cell? ⟨gb613, 0, none⟩ = some (.slice none 0 0) := (blk_cell BK613.out 0).trans rfl; have hfz15_0 := Zn BK613.out 0))
 refine Zq (results_cell_row rfl _ _ gb613 29 #[.slice Ao10 t619.length co10] (0, 0) _ rfl (by (with_reducible repeat (first | refine Za ?_ _ | refine Zb ?_ | refine blk_alloc ?_ _)); refine blk_put (cs := #[.slice none 0 0]) ?_ 0 _ rfl; (with_reducible repeat (first | refine Za ?_ _ | refine Zb ?_ | refine blk_alloc ?_ _)); refine blk_far ?_ NB613_625.out _; (with_reducible repeat (first | refine Za ?_ _ | refine Zb ?_ | refine blk_alloc ?_ _)); exact BK613.out) Tryd.underlying29 rfl (by kernel_rfl)) rfl ?_
 exact ⟨_, ZE, ZS (S_mono (S_far (p := ⟨gb613, 0, none⟩) (S_far (p := ⟨gb625, 0, none⟩) (S_types (S_types HO621.out BK625.out (by decide)) BK613.out (by decide)) (fun _ hk => hk.1.2) (.slice Ao10 t619.length co10)) (fun _ hk => hk.2) (.slice Ao10 t619.length co10)) (fun _ hk => trivial)), by repeat (first | (with_reducible first | exact HI0.out | apply IsS108.alloc | apply IsS108.drewN | apply IsS108.drew | apply IsS108.set_1 | apply IsS108.set_2 | refine IsS108.far ?_ NB0_613.out _ | refine IsS108.far ?_ NB0_625.out _) | exact HI0.out), by repeat (first | (with_reducible first | exact HB.out | apply Zf | apply Zd | apply Ze | refine Zg ?_ (IsS108.ge HI0.out) | refine Zg ?_ GE613.out | refine Zg ?_ GE625.out) | exact HB.out), by repeat (first | (with_reducible first | exact HK.out | apply KeepBut.set_ | apply keep_drewN | apply keep_drew | apply keep_alloc | refine keep_far ?_ GW613.out _ | refine keep_far ?_ GW625.out _) | exact HK.out)⟩
def spec_l03DrawCrash.l0 : Nat → List Int → List Int → Int → List Int → Int → Int → Option (List Int × List Int × Int × Int)
 | 0, _, _, _, _, _, _ => none
 | k + 1, x4, x5, x6, x1000, x1001, x1002 => if x6 > 0 then ((spec_l01Below.f x1000 x1001 x1002 9).bind fun bt635 => (if x4.length < 17592186044416 then ((spec_l01Below.f x1000 bt635.2.1 bt635.2.2 7).bind fun bt641 => (if x5.length < 17592186044416 then (spec_l03DrawCrash.l0 k (x4 ++ [wrap64 (bt635.1 - 1)]) (x5 ++ [wrap64 (bt641.1 - 2)]) (wrap64 (x6 - 1)) x1000 bt641.2.1 bt641.2.2) else (none))) else (none))) else (some (x4, x5, x1001, x1002))
def spec_l03DrawCrash.f (k : Nat) (s0_0 : List Int) (s0_1 : Int) (s0_2 : Int) : Option (List Int × List Int × Int × Int) := (spec_l01Below.f s0_0 s0_1 s0_2 6).bind fun bt632 => (spec_l03DrawCrash.l0 k (([] : List Int)) (([] : List Int)) bt632.1 s0_0 bt632.2.1 bt632.2.2)
set_option maxHeartbeats 8000000 in
set_option maxRecDepth 100000 in
theorem spec_l03DrawCrash.calls (k : Nat) (g : Nat) (s0_0 : List Int) (s0_1 : Int) (s0_2 : Int) (r1 : List Int) (r2 : List Int) (r3 : Int) (r4 : Int) (w0 w : World) (hI : IsS108 w0 w g s0_0 s0_1 s0_2) (hB : Below w0.heap.size w0 w) (h : spec_l03DrawCrash.f k s0_0 s0_1 s0_2 = some (r1, r2, r3, r4)) :
  Calls Tryd.prog 87 #[.pointer (some ⟨g, 0, none⟩)] w fun e w' => ∃ v0_ v1_ : Value, e = .returned (.tuple #[v0_, v1_]) ∧ Kd.R (Kd.int .i64) 3 w' w.heap.size (fun k_ => some k_ ≠ (v1_ : Value).ownBlock) v0_ r1 ∧ Kd.R (Kd.int .i64) 3 w' w.heap.size (fun k_ => some k_ ≠ (v0_ : Value).ownBlock) v1_ r2 ∧ IsS108 w0 w' g s0_0 r3 r4 ∧ Below w0.heap.size w0 w' ∧ KeepBut w w' g none := by
 have HI0 := Zh hI
 have HK := Zh (KeepBut.refl w g none)
 have HL := Zh hB.size
 clear hI
 have HW0 := Zh hB.size
 have HB := Zh hB
 clear hB
 have H : ((spec_l01Below.f s0_0 s0_1 s0_2 6).bind fun bt632 => (spec_l03DrawCrash.l0 k (([] : List Int)) (([] : List Int)) bt632.1 s0_0 bt632.2.1 bt632.2.2)) = some (r1, r2, r3, r4) := h
 clear h
 obtain ⟨y626, hy626⟩ : ∃ y_ : List Int, y_ = (([] : List Int)) := ⟨_, rfl⟩
 replace H : ((spec_l01Below.f s0_0 s0_1 s0_2 6).bind fun bt632 => (spec_l03DrawCrash.l0 k y626 (([] : List Int)) bt632.1 s0_0 bt632.2.1 bt632.2.2)) = some (r1, r2, r3, r4) := by first | (rw [hy626]; with_reducible exact H) | (have H2_ := (Option.bind_some _ _).symm.trans H; rw [hy626]; with_reducible exact H2_) | (have H2_ := (Option.bind_some _ _).symm.trans H; with_reducible exact H2_) | with_reducible exact H | (rw [hy626]; exact H) | exact H
 have Ny626 := Zh hy626
 clear hy626
 obtain ⟨y629, hy629⟩ : ∃ y_ : List Int, y_ = (([] : List Int)) := ⟨_, rfl⟩
 replace H : ((spec_l01Below.f s0_0 s0_1 s0_2 6).bind fun bt632 => (spec_l03DrawCrash.l0 k y626 y629 bt632.1 s0_0 bt632.2.1 bt632.2.2)) = some (r1, r2, r3, r4) := by first | (rw [hy629]; with_reducible exact H) | (have H2_ := (Option.bind_some _ _).symm.trans H; rw [hy629]; with_reducible exact H2_) | (have H2_ := (Option.bind_some _ _).symm.trans H; with_reducible exact H2_) | with_reducible exact H | (rw [hy629]; exact H) | exact H
 have Ny629 := Zh hy629
 clear hy629
 replace H := Option.bind_eq_some_iff.mp H
 obtain ⟨⟨t632, t633, t634⟩, A20, H⟩ := H
 replace H : (spec_l03DrawCrash.l0 k y626 y629 t632 s0_0 t633 t634) = some (r1, r2, r3, r4) := H
 have A2 := Zh A20
 clear A20
 have H' := Zh H
 clear H
 go_enter Tryd.func87, Tryd.ntmps87
 go_wp2_with (first | ((with_reducible refine gate_dst (N := 7) rfl ?_); refine R_lit (Kd.int .i64) _ 3 ?hg (N := 7) ?hd (xs := ([] : List Int)) (inner := []) (ok := fun _ => True) (okp := fun _ => True) ?hr ?hp (fun _ hk => hk) trivial (Below.refl _ _) (Nat.le_refl _) (by simp) ?_; (case hd => rfl); (case hg => rfl); (case hr => first | (go_simp; done) | (go_simp; rfl)); (case hp => exact (Reps.none _ _)); intro v627 w3 ho4 hb hg_ hnew_; clear hg_ hnew_; (first | rw [← Ny626.out] at ho4 | (simp only [Int.reduceToNat] at ho4; rw [← Ny626.out] at ho4)); have HO628 := Zh (R_lower ho4 (keep_size (w := w) (g := g) (row := none) (by repeat (first | (with_reducible first | exact HK.out | apply KeepBut.set_ | apply keep_drewN | apply keep_drew | apply keep_alloc) | exact HK.out)))); replace HK := Zh (KeepBut.trans (by repeat (first | (with_reducible first | exact HK.out | apply KeepBut.set_ | apply keep_drewN | apply keep_drew | apply keep_alloc) | exact HK.out)) (KeepBut.of_below hb g none) (.inl rfl)); replace HB := Zh (Zl (by repeat (first | (with_reducible first | exact HB.out | apply Zf | apply Zd | apply Ze | refine Zg ?_ (IsS108.ge HI0.out)) | exact HB.out)) hb); replace HI0 := Zh (IsS108.below (by repeat (first | (with_reducible first | exact HI0.out | apply IsS108.alloc | apply IsS108.drewN | apply IsS108.drew | apply IsS108.set_1 | apply IsS108.set_2) | exact HI0.out)) hb); clear hb ho4) | ((with_reducible refine gate_dst (N := 8) rfl ?_); refine R_lit (Kd.int .i64) _ 3 ?hg (N := 8) ?hd (xs := ([] : List Int)) (inner := []) (ok := fun _ => True) (okp := fun _ => True) ?hr ?hp (fun _ hk => hk) trivial (Below.refl _ _) (Nat.le_refl _) (by simp) ?_; (case hd => rfl); (case hg => rfl); (case hr => first | (go_simp; done) | (go_simp; rfl)); (case hp => exact (Reps.none _ _)); intro v630 w5 ho6 hb hg_ hnew_; clear hg_ hnew_; (first | rw [← Ny629.out] at ho6 | (simp only [Int.reduceToNat] at ho6; rw [← Ny629.out] at ho6)); have HO631 := Zh (R_lower (R_new' ho6 (R_lt (ZR HO628.out))) (keep_size (w := w) (g := g) (row := none) (by repeat (first | (with_reducible first | exact HK.out | apply KeepBut.set_ | apply keep_drewN | apply keep_drew | apply keep_alloc) | exact HK.out)))); replace HO628 := Zh (R_elder' (ZR HO628.out) (R_base ho6) hb); replace HK := Zh (KeepBut.trans (by repeat (first | (with_reducible first | exact HK.out | apply KeepBut.set_ | apply keep_drewN | apply keep_drew | apply keep_alloc) | exact HK.out)) (KeepBut.of_below hb g none) (.inl rfl)); replace HB := Zh (Zl (by repeat (first | (with_reducible first | exact HB.out | apply Zf | apply Zd | apply Ze | refine Zg ?_ (IsS108.ge HI0.out)) | exact HB.out)) hb); replace HI0 := Zh (IsS108.below (by repeat (first | (with_reducible first | exact HI0.out | apply IsS108.alloc | apply IsS108.drewN | apply IsS108.drew | apply IsS108.set_1 | apply IsS108.set_2) | exact HI0.out)) hb); clear hb ho6) | ((with_reducible refine gate_callee (f := 99) rfl ?_); refine ZG (some 10) Tryd.func99 #[.pointer (some ⟨g, 0, none⟩), .int .i64 6] rfl ?_; (with_reducible refine (spec_l01Below.calls g s0_0 s0_1 s0_2 6 t632 t633 t634 w0 _ ?side1 ?side2 A2.out).mono ?_); (case side1 => repeat (first | (with_reducible first | exact HI0.out | apply IsS108.alloc | apply IsS108.drewN | apply IsS108.drew | apply IsS108.set_1 | apply IsS108.set_2) | exact HI0.out)); (case side2 => repeat (first | (with_reducible first | exact HB.out | apply Zf | apply Zd | apply Ze | refine Zg ?_ (IsS108.ge HI0.out)) | exact HB.out)); rintro e w7 ⟨rfl, hi, hb, hk⟩; refine ⟨_, rfl, ?_⟩; replace HO628 := Zh (R_mono (R_keep (IsS108.apart (show IsS108 w0 _ g s0_0 s0_1 s0_2 from by repeat (first | (with_reducible first | exact HI0.out | apply IsS108.alloc | apply IsS108.drewN | apply IsS108.drew | apply IsS108.set_1 | apply IsS108.set_2) | exact HI0.out)) (ZR HO628.out) (by decide)) hk (fun _ h => h.2)) (fun _ h => h.1)); replace HO631 := Zh (R_mono (R_keep (IsS108.apart (show IsS108 w0 _ g s0_0 s0_1 s0_2 from by repeat (first | (with_reducible first | exact HI0.out | apply IsS108.alloc | apply IsS108.drewN | apply IsS108.drew | apply IsS108.set_1 | apply IsS108.set_2) | exact HI0.out)) (ZR HO631.out) (by decide)) hk (fun _ h => h.2)) (fun _ h => h.1)); replace HK := Zh (KeepBut.trans (by repeat (first | (with_reducible first | exact HK.out | apply KeepBut.set_ | apply keep_drewN | apply keep_drew | apply keep_alloc) | exact HK.out)) hk (.inl rfl)); replace HB := Zh (hb); replace HI0 := Zh (hi); (try clear hb); (try clear hb2); (try clear hk); (try clear hi)))
 go_loopg [4, 5, 6] k (fun kq v4 v5 v6 w' => ∃ (x4_1 : List Int) (x5_1 : List Int) (x6_1 : Int) (x1001_1 : Int) (x1002_1 : Int), v6 = .int .i64 x6_1 ∧ Aside0 (spec_l03DrawCrash.l0 kq x4_1 x5_1 x6_1 s0_0 x1001_1 x1002_1 = some (r1, r2, r3, r4)) ∧ Aside0 (kq ≤ k) ∧ Aside0 (Kd.R (Kd.int .i64) 3 w' w.heap.size (fun k_ => some k_ ≠ (v5 : Value).ownBlock) v4 x4_1) ∧ Aside0 (Kd.R (Kd.int .i64) 3 w' w.heap.size (fun k_ => some k_ ≠ (v4 : Value).ownBlock) v5 x5_1) ∧ Aside0 (IsS108 w0 w' g s0_0 x1001_1 x1002_1) ∧ Aside0 (KeepBut w w' g none) ∧ Aside0 (Below w0.heap.size w0 w'))
 case atStart => exact ⟨(y626), (y629), (t632), (t633), (t634), (by first | rfl | (simp; done) | (simp [*]; done)), H', ⟨Nat.le_refl _⟩, ⟨ZR (R_mono HO628.out (fun _ hk => hk.2))⟩, ⟨ZR (R_mono HO631.out (fun _ hk => hk.2))⟩, ⟨by repeat (first | (with_reducible first | exact HI0.out | apply IsS108.alloc | apply IsS108.drewN | apply IsS108.drew | apply IsS108.set_1 | apply IsS108.set_2) | exact HI0.out)⟩, ⟨by repeat (first | (with_reducible first | exact HK.out | apply KeepBut.set_ | apply keep_drewN | apply keep_drew | apply keep_alloc) | exact HK.out)⟩, ⟨by repeat (first | (with_reducible first | exact HB.out | apply Zf | apply Zd | apply Ze | refine Zg ?_ (IsS108.ge HI0.out)) | exact HB.out)⟩⟩
 case round =>
  clear H'
  try clear p2
  obtain ⟨x4_1, x5_1, x6_1, x1001_1, x1002_1, rfl, HA, HK1, HO_4, HO_5, HI0, HK, HB⟩ := hrel
  cases gk with
  | zero => exact absurd HA.out (by simp [spec_l03DrawCrash.l0])
  | succ k1 =>
   have H := HA.out
   clear HA
   simp only [spec_l03DrawCrash.l0] at H
   by_cases c8 : x6_1 > 0
   ·
    rw [if_pos c8] at H
    have c8b0 : decide (0 < x6_1) = true := decide_eq_true c8
    clear c8
    replace H := Option.bind_eq_some_iff.mp H
    obtain ⟨⟨t635, t636, t637⟩, A90, H⟩ := H
    replace H : (if x4_1.length < 17592186044416 then ((spec_l01Below.f s0_0 t636 t637 7).bind fun bt641 => (if x5_1.length < 17592186044416 then (spec_l03DrawCrash.l0 k1 (x4_1 ++ [wrap64 (t635 - 1)]) (x5_1 ++ [wrap64 (bt641.1 - 2)]) (wrap64 (x6_1 - 1)) s0_0 bt641.2.1 bt641.2.2) else (none))) else (none)) = some (r1, r2, r3, r4) := H
    have A9 := Zh A90
    clear A90
    by_cases c10 : x4_1.length < 17592186044416
    ·
     rw [if_pos c10] at H
     have LMc10 := Zh c10
     clear c10
     obtain ⟨y638, hy638⟩ : ∃ y_ : List Int, y_ = (x4_1 ++ [wrap64 (t635 - 1)]) := ⟨_, rfl⟩
     replace H : ((spec_l01Below.f s0_0 t636 t637 7).bind fun bt641 => (if x5_1.length < 17592186044416 then (spec_l03DrawCrash.l0 k1 y638 (x5_1 ++ [wrap64 (bt641.1 - 2)]) (wrap64 (x6_1 - 1)) s0_0 bt641.2.1 bt641.2.2) else (none))) = some (r1, r2, r3, r4) := by first | (rw [hy638]; with_reducible exact H) | (have H2_ := (Option.bind_some _ _).symm.trans H; rw [hy638]; with_reducible exact H2_) | (have H2_ := (Option.bind_some _ _).symm.trans H; with_reducible exact H2_) | with_reducible exact H | (rw [hy638]; exact H) | exact H
     have Ny638 := Zh hy638
     clear hy638
     replace H := Option.bind_eq_some_iff.mp H
     obtain ⟨⟨t641, t642, t643⟩, A110, H⟩ := H
     replace H : (if x5_1.length < 17592186044416 then (spec_l03DrawCrash.l0 k1 y638 (x5_1 ++ [wrap64 (t641 - 2)]) (wrap64 (x6_1 - 1)) s0_0 t642 t643) else (none)) = some (r1, r2, r3, r4) := H
     have A11 := Zh A110
     clear A110
     by_cases c12 : x5_1.length < 17592186044416
     ·
      rw [if_pos c12] at H
      have LMc12 := Zh c12
      clear c12
      obtain ⟨y644, hy644⟩ : ∃ y_ : List Int, y_ = (x5_1 ++ [wrap64 (t641 - 2)]) := ⟨_, rfl⟩
      replace H : (spec_l03DrawCrash.l0 k1 y638 y644 (wrap64 (x6_1 - 1)) s0_0 t642 t643) = some (r1, r2, r3, r4) := by first | (rw [hy644]; with_reducible exact H) | (have H2_ := (Option.bind_some _ _).symm.trans H; rw [hy644]; with_reducible exact H2_) | (have H2_ := (Option.bind_some _ _).symm.trans H; with_reducible exact H2_) | with_reducible exact H | (rw [hy644]; exact H) | exact H
      have Ny644 := Zh hy644
      clear hy644
      have H' := Zh H
      clear H
      go_wp2_with (first | ((with_reducible refine gate_callee (f := 99) rfl ?_); refine ZG (some 17) Tryd.func99 #[.pointer (some ⟨g, 0, none⟩), .int .i64 9] rfl ?_; (with_reducible refine (spec_l01Below.calls g s0_0 x1001_1 x1002_1 9 t635 t636 t637 w0 _ ?side1 ?side2 A9.out).mono ?_); (case side1 => repeat (first | (with_reducible first | exact HI0.out | apply IsS108.alloc | apply IsS108.drewN | apply IsS108.drew | apply IsS108.set_1 | apply IsS108.set_2) | exact HI0.out)); (case side2 => repeat (first | (with_reducible first | exact HB.out | apply Zf | apply Zd | apply Ze | refine Zg ?_ (IsS108.ge HI0.out)) | exact HB.out)); rintro e w13 ⟨rfl, hi, hb, hk⟩; refine ⟨_, rfl, ?_⟩; replace HO_4 := Zh (R_mono (R_keep (IsS108.apart (show IsS108 w0 _ g s0_0 x1001_1 x1002_1 from by repeat (first | (with_reducible first | exact HI0.out | apply IsS108.alloc | apply IsS108.drewN | apply IsS108.drew | apply IsS108.set_1 | apply IsS108.set_2) | exact HI0.out)) (ZR HO_4.out) (by decide)) hk (fun _ h => h.2)) (fun _ h => h.1)); replace HO_5 := Zh (R_mono (R_keep (IsS108.apart (show IsS108 w0 _ g s0_0 x1001_1 x1002_1 from by repeat (first | (with_reducible first | exact HI0.out | apply IsS108.alloc | apply IsS108.drewN | apply IsS108.drew | apply IsS108.set_1 | apply IsS108.set_2) | exact HI0.out)) (ZR HO_5.out) (by decide)) hk (fun _ h => h.2)) (fun _ h => h.1)); replace HK := Zh (KeepBut.trans (by repeat (first | (with_reducible first | exact HK.out | apply KeepBut.set_ | apply keep_drewN | apply keep_drew | apply keep_alloc) | exact HK.out)) hk (.inl rfl)); replace HB := Zh (hb); replace HI0 := Zh (hi); (try clear hb); (try clear hb2); (try clear hk); (try clear hi)) | ((with_reducible refine gate_builtin (b := .append) (xs := #[.tmp 15, .tmp 19]) rfl ?_); at_builtin; refine R_append (Kd.int .i64) w.heap.size rfl (.tmp 15) (.tmp 19) 44 3 (.int .i64 0) 8 rfl Tryd.underlying44 info3 rfl (by decide) (by omega) u4 x4_1 (wrap64 (t635 - 1)) [.int .i64 (wrap64 (t635 - 1))] (fun k_ => some k_ ≠ (u5 : Value).ownBlock) (fun _ => False) rfl rfl ?aP (fun _ hk => hk.elim) ?aF ?aO (Below.refl _ _) ?aS ?aL ?_; (case aP => exact rfl); (case aF => exact (fun k_ hk => Kd.fresh' (R_lt (ZR HO_5.out)) k_ hk)); (case aO => exact (ZR HO_4.out)); (case aS => exact (keep_size (w := w) (g := g) (row := none) (by repeat (first | (with_reducible first | exact HK.out | apply KeepBut.set_ | apply keep_drewN | apply keep_drew | apply keep_alloc) | exact HK.out)))); (case aL => have := LMc10.out; omega); intro v639 w14 ho hb hg hat; rw [← Ny638.out] at ho; have n0_ := Zh (R_after (ok := (fun _ => True)) (ZR (R_mono HO_5.out (fun _ hk => ⟨trivial, hk⟩))) hg hat); have n1_ := Zh (IsS108.grown (show IsS108 w0 _ g s0_0 t636 t637 from by repeat (first | (with_reducible first | exact HI0.out | apply IsS108.alloc | apply IsS108.drewN | apply IsS108.drew | apply IsS108.set_1 | apply IsS108.set_2) | exact HI0.out)) hg (IsS108.own_ne HI0.out HO_4.out (by decide))); have n2_ := Zh (below_weaken (by repeat (first | (with_reducible first | exact HB.out | apply Zf | apply Zd | apply Ze | refine Zg ?_ (IsS108.ge HI0.out)) | exact HB.out)) HL.out hb); have n3_ := Zh (KeepBut.trans (by repeat (first | (with_reducible first | exact HK.out | apply KeepBut.set_ | apply keep_drewN | apply keep_drew | apply keep_alloc) | exact HK.out)) (KeepBut.of_grown hg g) (R_base2 HO_4.out)); have n4_ := Zh (ho); clear HO_5; clear HI0; clear HB; clear HK; clear HO_4; have HO_5 := n0_; have HI0 := n1_; have HB := n2_; have HK := n3_; have HO640 := n4_; clear n0_ n1_ n2_ n3_ n4_; clear ho hb hg hat) | ((with_reducible refine gate_callee (f := 99) rfl ?_); refine ZG (some 23) Tryd.func99 #[.pointer (some ⟨g, 0, none⟩), .int .i64 7] rfl ?_; (with_reducible refine (spec_l01Below.calls g s0_0 t636 t637 7 t641 t642 t643 w0 _ ?side1 ?side2 A11.out).mono ?_); (case side1 => repeat (first | (with_reducible first | exact HI0.out | apply IsS108.alloc | apply IsS108.drewN | apply IsS108.drew | apply IsS108.set_1 | apply IsS108.set_2) | exact HI0.out)); (case side2 => repeat (first | (with_reducible first | exact HB.out | apply Zf | apply Zd | apply Ze | refine Zg ?_ (IsS108.ge HI0.out)) | exact HB.out)); rintro e w15 ⟨rfl, hi, hb, hk⟩; refine ⟨_, rfl, ?_⟩; replace HO_5 := Zh (R_mono (R_keep (IsS108.apart (show IsS108 w0 _ g s0_0 t636 t637 from by repeat (first | (with_reducible first | exact HI0.out | apply IsS108.alloc | apply IsS108.drewN | apply IsS108.drew | apply IsS108.set_1 | apply IsS108.set_2) | exact HI0.out)) (ZR HO_5.out) (by decide)) hk (fun _ h => h.2)) (fun _ h => h.1)); replace HO640 := Zh (R_mono (R_keep (IsS108.apart (show IsS108 w0 _ g s0_0 t636 t637 from by repeat (first | (with_reducible first | exact HI0.out | apply IsS108.alloc | apply IsS108.drewN | apply IsS108.drew | apply IsS108.set_1 | apply IsS108.set_2) | exact HI0.out)) (ZR HO640.out) (by decide)) hk (fun _ h => h.2)) (fun _ h => h.1)); replace HK := Zh (KeepBut.trans (by repeat (first | (with_reducible first | exact HK.out | apply KeepBut.set_ | apply keep_drewN | apply keep_drew | apply keep_alloc) | exact HK.out)) hk (.inl rfl)); replace HB := Zh (hb); replace HI0 := Zh (hi); (try clear hb); (try clear hb2); (try clear hk); (try clear hi)) | ((with_reducible refine gate_builtin (b := .append) (xs := #[.tmp 21, .tmp 25]) rfl ?_); at_builtin; refine R_append (Kd.int .i64) w.heap.size rfl (.tmp 21) (.tmp 25) 44 3 (.int .i64 0) 8 rfl Tryd.underlying44 info3 rfl (by decide) (by omega) u5 x5_1 (wrap64 (t641 - 2)) [.int .i64 (wrap64 (t641 - 2))] (fun k_ => some k_ ≠ (v639 : Value).ownBlock) (fun _ => False) rfl rfl ?aP (fun _ hk => hk.elim) ?aF ?aO (Below.refl _ _) ?aS ?aL ?_; (case aP => exact rfl); (case aF => exact (fun k_ hk => Kd.fresh' (R_lt (ZR HO640.out)) k_ hk)); (case aO => exact (ZR (R_mono HO_5.out (fun _ hk => hk.2)))); (case aS => exact (keep_size (w := w) (g := g) (row := none) (by repeat (first | (with_reducible first | exact HK.out | apply KeepBut.set_ | apply keep_drewN | apply keep_drew | apply keep_alloc) | exact HK.out)))); (case aL => have := LMc12.out; omega); intro v645 w16 ho hb hg hat; rw [← Ny644.out] at ho; have n0_ := Zh (IsS108.grown (show IsS108 w0 _ g s0_0 t642 t643 from by repeat (first | (with_reducible first | exact HI0.out | apply IsS108.alloc | apply IsS108.drewN | apply IsS108.drew | apply IsS108.set_1 | apply IsS108.set_2) | exact HI0.out)) hg (IsS108.own_ne HI0.out HO_5.out (by decide))); have n1_ := Zh (R_after (ok := (fun _ => True)) (ZR (R_mono HO640.out (fun _ hk => ⟨trivial, hk⟩))) hg hat); have n2_ := Zh (below_weaken (by repeat (first | (with_reducible first | exact HB.out | apply Zf | apply Zd | apply Ze | refine Zg ?_ (IsS108.ge HI0.out)) | exact HB.out)) HL.out hb); have n3_ := Zh (KeepBut.trans (by repeat (first | (with_reducible first | exact HK.out | apply KeepBut.set_ | apply keep_drewN | apply keep_drew | apply keep_alloc) | exact HK.out)) (KeepBut.of_grown hg g) (R_base2 HO_5.out)); have n4_ := Zh (ho); clear HI0; clear HO640; clear HB; clear HK; clear HO_5; have HI0 := n0_; have HO640 := n1_; have HB := n2_; have HK := n3_; have HO646 := n4_; clear n0_ n1_ n2_ n3_ n4_; clear ho hb hg hat))
      go_roundg k1
      case measure => have := HK1.out; omega
      case rel => exact ⟨(y638), (y644), (wrap64 (x6_1 - 1)), (t642), (t643), (by first | rfl | (simp; done) | (simp [*]; done)), H', ⟨by have := HK1.out; omega⟩, ⟨ZR (R_mono HO640.out (fun _ hk => hk.2))⟩, ⟨ZR HO646.out⟩, ⟨by repeat (first | (with_reducible first | exact HI0.out | apply IsS108.alloc | apply IsS108.drewN | apply IsS108.drew | apply IsS108.set_1 | apply IsS108.set_2) | exact HI0.out)⟩, ⟨by repeat (first | (with_reducible first | exact HK.out | apply KeepBut.set_ | apply keep_drewN | apply keep_drew | apply keep_alloc) | exact HK.out)⟩, ⟨by repeat (first | (with_reducible first | exact HB.out | apply Zf | apply Zd | apply Ze | refine Zg ?_ (IsS108.ge HI0.out)) | exact HB.out)⟩⟩
     rw [if_neg c12] at H
     exact absurd H (by simp)
    rw [if_neg c10] at H
    exact absurd H (by simp)
   rw [if_neg c8] at H
   have c8b0 : decide (0 < x6_1) = false := decide_eq_false c8
   clear c8
   simp only [Option.some.injEq, Prod.mk.injEq] at H
   obtain ⟨rfl, rfl, rfl, rfl⟩ := H
   go_wp2
   go_ret2
   exact ⟨_, _, ZE, ZR HO_4.out, ZR HO_5.out, by repeat (first | (with_reducible first | exact HI0.out | apply IsS108.alloc | apply IsS108.drewN | apply IsS108.drew | apply IsS108.set_1 | apply IsS108.set_2) | exact HI0.out), by repeat (first | (with_reducible first | exact HB.out | apply Zf | apply Zd | apply Ze | refine Zg ?_ (IsS108.ge HI0.out)) | exact HB.out), by repeat (first | (with_reducible first | exact HK.out | apply KeepBut.set_ | apply keep_drewN | apply keep_drew | apply keep_alloc) | exact HK.out)⟩
def spec_DrawRightDisk.f (k : Nat) (l0 : List Int) : Option ((List (S74)) × (List (S71)) × List Int × List Int) := (spec_l01New.f k l0).bind fun bt648 => ((spec_l03DrawRight.f k bt648.1 bt648.2.1 bt648.2.2 l0).bind fun bt652 => ((spec_l03DrawOps.f k bt648.1 bt652.2.1 bt652.2.2 l0).bind fun bt658 => ((spec_l03DrawCrash.f k bt648.1 bt658.2.1 bt658.2.2).bind fun bt663 => (some (bt652.1, bt658.1, bt663.1, bt663.2.1)))))
set_option maxHeartbeats 8000000 in
set_option maxRecDepth 100000 in
theorem spec_DrawRightDisk.calls (k : Nat) (A0 : Option Addr) (c0 : Nat) (l0 : List Int) (r1 : List (S74)) (r2 : List (S71)) (r3 : List Int) (r4 : List Int) (w : World) (hr0 : Kd.C (Kd.int .u8) w A0 l0.length l0) (hc0 : l0.length ≤ c0) (h : spec_DrawRightDisk.f k l0 = some (r1, r2, r3, r4)) :
  Calls Tryd.prog 52 #[.slice A0 l0.length c0] w fun e w' => ∃ v0_ v1_ v2_ v3_ : Value, e = .returned (.tuple #[.agg #[v0_], v1_, v2_, v3_]) ∧ Kd.S k74 74 w' w.heap.size (fun _ => True) v0_ r1 ∧ Kd.S k71 71 w' w.heap.size (fun _ => True) v1_ r2 ∧ Kd.R (Kd.int .i64) 3 w' w.heap.size (fun k_ => some k_ ≠ (v3_ : Value).ownBlock) v2_ r3 ∧ Kd.R (Kd.int .i64) 3 w' w.heap.size (fun k_ => some k_ ≠ (v2_ : Value).ownBlock) v3_ r4 ∧ Below w.heap.size w w' := by
 have hu29 := Tryd.underlying29
 have HR0 := Zh hr0
 have HC0 := Zh hc0
 clear hr0 hc0
 have HB := Zh (Below.refl w.heap.size w)
 have H : ((spec_l01New.f k l0).bind fun bt648 => ((spec_l03DrawRight.f k bt648.1 bt648.2.1 bt648.2.2 l0).bind fun bt652 => ((spec_l03DrawOps.f k bt648.1 bt652.2.1 bt652.2.2 l0).bind fun bt658 => ((spec_l03DrawCrash.f k bt648.1 bt658.2.1 bt658.2.2).bind fun bt663 => (some (bt652.1, bt658.1, bt663.1, bt663.2.1)))))) = some (r1, r2, r3, r4) := h
 clear h
 replace H := Option.bind_eq_some_iff.mp H
 obtain ⟨⟨t648, t649, t650⟩, A20, H⟩ := H
 replace H : ((spec_l03DrawRight.f k t648 t649 t650 l0).bind fun bt652 => ((spec_l03DrawOps.f k t648 bt652.2.1 bt652.2.2 l0).bind fun bt658 => ((spec_l03DrawCrash.f k t648 bt658.2.1 bt658.2.2).bind fun bt663 => (some (bt652.1, bt658.1, bt663.1, bt663.2.1))))) = some (r1, r2, r3, r4) := H
 have A2 := Zh A20
 clear A20
 replace H := Option.bind_eq_some_iff.mp H
 obtain ⟨⟨t652, t655, t656⟩, A30, H⟩ := H
 replace H : ((spec_l03DrawOps.f k t648 t655 t656 l0).bind fun bt658 => ((spec_l03DrawCrash.f k t648 bt658.2.1 bt658.2.2).bind fun bt663 => (some (t652, bt658.1, bt663.1, bt663.2.1)))) = some (r1, r2, r3, r4) := H
 have A3 := Zh A30
 clear A30
 replace H := Option.bind_eq_some_iff.mp H
 obtain ⟨⟨t658, t661, t662⟩, A40, H⟩ := H
 replace H : ((spec_l03DrawCrash.f k t648 t661 t662).bind fun bt663 => (some (t652, t658, bt663.1, bt663.2.1))) = some (r1, r2, r3, r4) := H
 have A4 := Zh A40
 clear A40
 replace H := Option.bind_eq_some_iff.mp H
 obtain ⟨⟨t663, t666, t669, t670⟩, A50, H⟩ := H
 replace H : (some (t652, t658, t663, t666)) = some (r1, r2, r3, r4) := H
 have A5 := Zh A50
 clear A50
 simp only [Option.some.injEq, Prod.mk.injEq] at H
 obtain ⟨rfl, rfl, rfl, rfl⟩ := H
 go_enter Tryd.func52, Tryd.ntmps52
 go_wp2_with (first | ((with_reducible refine gate_dst (N := 2) rfl ?_); refine box_event ?hg (N := 2) ?hd (cs := #[.slice none 0 0]) (t := 29) ?hr ?_; (case hd => rfl); (case hg => rfl); (case hr => first | (go_simp; done) | (go_simp; rfl)); intro gb647 hg w6 hbox hb; have BK647 := Zh (hbox); have GW647 := Zh ((by rw [hg]; exact (below_size Zs) : w.heap.size ≤ gb647)); have GE647 := Zh ((by rw [hg]; exact (below_size Zs) : w.heap.size ≤ gb647)); replace HB := Zh (Zl Zs hb); clear hb hbox hg) | ((with_reducible refine gate_callee (f := 84) rfl ?_); refine ZG (some 12) Tryd.func84 #[.slice A0 l0.length c0] rfl ?_; (with_reducible refine (spec_l01New.calls k _ _ l0 t648 t649 t650 w _ ?side1 ?side2 ?side3 A2.out).mono ?_); (case side1 => repeat (first | (with_reducible first | exact HB.out | apply Zf | apply Zd | apply Ze | refine Zg ?_ GE647.out) | exact HB.out)); (case side2 => exact HR0.out); (case side3 => exact HC0.out); rintro e w7 ⟨g651, rfl, hi, hb, hb2⟩; refine ⟨_, rfl, ?_⟩; replace HB := Zh (hb); have HI651 := Zh (hi); have NB651_647 := Zh (IsS108.ne_blk hi (Zm (g := gb647) (o := .cells #[.slice none 0 0] 29 (0, 0)) Zk hb2) (by decide)); have NB647_651 := Zh (Ne.symm (IsS108.ne_blk hi (Zm (g := gb647) (o := .cells #[.slice none 0 0] 29 (0, 0)) Zk hb2) (by decide))); replace BK647 := Zh (Zm (g := gb647) (o := .cells #[.slice none 0 0] 29 (0, 0)) Zk hb2); (try clear hb); (try clear hb2); (try clear hk); (try clear hi)) | ((with_reducible refine gate_callee (f := 85) rfl ?_); refine ZG (some 15) Tryd.func85 #[.pointer (some ⟨g651, 0, none⟩), .slice A0 l0.length c0] rfl ?_; (with_reducible refine (spec_l03DrawRight.calls k g651 t648 t649 t650 _ _ l0 t652 t655 t656 w _ ?side1 ?side2 ?side3 ?side4 ?side5 A3.out).mono ?_); (case side1 => repeat (first | (with_reducible first | exact HI651.out | apply IsS108.alloc | apply IsS108.drewN | apply IsS108.drew | apply IsS108.set_1 | apply IsS108.set_2 | refine IsS108.far ?_ NB651_647.out _) | exact HI651.out)); (case side2 => repeat (first | (with_reducible first | exact HB.out | apply Zf | apply Zd | apply Ze | refine Zg ?_ (IsS108.ge HI651.out) | refine Zg ?_ GE647.out) | exact HB.out)); (case side3 => repeat (first | exact (C_below HR0.out HB.out) | (with_reducible refine C_alloc ?_ _) | (with_reducible refine C_drewN ?_ _) | (with_reducible refine C_drew ?_))); (case side4 => exact HC0.out); (case side5 => exact Kd.far_C 0 HR0.out (IsS108.ge HI651.out)); rintro e w8 ⟨v653, rfl, ho0, hi, hb, hk⟩; refine ⟨_, rfl, ?_⟩; replace BK647 := Zh (KeepBut.blk hk (g' := gb647) (o := .cells #[.slice none 0 0] 29 (0, 0)) Zk NB647_651.out (by simp)); have HO654 := Zh (S_lower ho0 (below_size (by repeat (first | (with_reducible first | exact HB.out | apply Zf | apply Zd | apply Ze | refine Zg ?_ (IsS108.ge HI651.out) | refine Zg ?_ GE647.out) | exact HB.out)))); replace HB := Zh (hb); replace HI651 := Zh (hi); (try clear hb); (try clear hb2); (try clear hk); (try clear hi); (try clear ho0)) | ((with_reducible refine gate_dst (N := 7) rfl ?_); refine box_event ?hg (N := 7) ?hd (cs := #[.slice none 0 0]) (t := 29) ?hr ?_; (case hd => rfl); (case hg => rfl); (case hr => first | (go_simp; done) | (go_simp; rfl)); intro gb657 hg w9 hbox hb; replace HO654 := Zh (S_below (ZS HO654.out) hb); have BK657 := Zh (hbox); have GW657 := Zh ((by rw [hg]; exact (below_size (by repeat (first | (with_reducible first | exact HB.out | apply Zf | apply Zd | apply Ze | refine Zg ?_ (IsS108.ge HI651.out) | refine Zg ?_ GE647.out) | exact HB.out))) : w.heap.size ≤ gb657)); have GE657 := Zh ((by rw [hg]; exact (below_size (by repeat (first | (with_reducible first | exact HB.out | apply Zf | apply Zd | apply Ze | refine Zg ?_ (IsS108.ge HI651.out) | refine Zg ?_ GE647.out) | exact HB.out))) : w.heap.size ≤ gb657)); replace HB := Zh (Zl (by repeat (first | (with_reducible first | exact HB.out | apply Zf | apply Zd | apply Ze | refine Zg ?_ (IsS108.ge HI651.out) | refine Zg ?_ GE647.out) | exact HB.out)) hb); have NB647_657 := Zh ((by rw [hg]; exact Nat.ne_of_lt (blk_lt (g := gb647) (o := .cells #[.slice none 0 0] 29 (0, 0)) Zk) : gb647 ≠ gb657)); have NB657_647 := Zh ((by rw [hg]; exact Nat.ne_of_gt (blk_lt (g := gb647) (o := .cells #[.slice none 0 0] 29 (0, 0)) Zk) : gb657 ≠ gb647)); replace BK647 := Zh (Zm (g := gb647) (o := .cells #[.slice none 0 0] 29 (0, 0)) Zk hb); have NB651_657 := Zh ((by rw [hg]; exact Nat.ne_of_lt (IsS108.lt (show IsS108 w _ g651 t648 t655 t656 from by repeat (first | (with_reducible first | exact HI651.out | apply IsS108.alloc | apply IsS108.drewN | apply IsS108.drew | apply IsS108.set_1 | apply IsS108.set_2 | refine IsS108.far ?_ NB651_647.out _) | exact HI651.out))) : g651 ≠ gb657)); have NB657_651 := Zh ((by rw [hg]; exact Nat.ne_of_gt (IsS108.lt (show IsS108 w _ g651 t648 t655 t656 from by repeat (first | (with_reducible first | exact HI651.out | apply IsS108.alloc | apply IsS108.drewN | apply IsS108.drew | apply IsS108.set_1 | apply IsS108.set_2 | refine IsS108.far ?_ NB651_647.out _) | exact HI651.out))) : gb657 ≠ g651)); replace HI651 := Zh (IsS108.below (by repeat (first | (with_reducible first | exact HI651.out | apply IsS108.alloc | apply IsS108.drewN | apply IsS108.drew | apply IsS108.set_1 | apply IsS108.set_2 | refine IsS108.far ?_ NB651_647.out _) | exact HI651.out)) hb); clear hb hbox hg; obtain ⟨Ao10, co10, eo10⟩ := S_slice HO654.out; subst eo10; have hnb11 := NB657_647.out; have hnc11 := NB647_657.out; have hnb12 := NB657_651.out; have hnc12 := NB651_657.out; have hcz13_0 : w9.cell? ⟨gb657, 0, none⟩ = some (.slice none 0 0) := (blk_cell BK657.out 0).trans rfl; have hfz13_0 := Zn BK657.out 0) | ((with_reducible refine gate_callee (f := 86) rfl ?_); refine ZG (some 18) Tryd.func86 #[.pointer (some ⟨g651, 0, none⟩), .slice A0 l0.length c0] rfl ?_; (with_reducible refine (spec_l03DrawOps.calls k g651 t648 t655 t656 _ _ l0 t658 t661 t662 w _ ?side1 ?side2 ?side3 ?side4 ?side5 A4.out).mono ?_); (case side1 => repeat (first | (with_reducible first | exact HI651.out | apply IsS108.alloc | apply IsS108.drewN | apply IsS108.drew | apply IsS108.set_1 | apply IsS108.set_2 | refine IsS108.far ?_ NB651_647.out _ | refine IsS108.far ?_ NB651_657.out _) | exact HI651.out)); (case side2 => repeat (first | (with_reducible first | exact HB.out | apply Zf | apply Zd | apply Ze | refine Zg ?_ (IsS108.ge HI651.out) | refine Zg ?_ GE647.out | refine Zg ?_ GE657.out) | exact HB.out)); (case side3 => exact C_below HR0.out (by repeat (first | (with_reducible first | exact HB.out | apply Zf | apply Zd | apply Ze | refine Zg ?_ (IsS108.ge HI651.out) | refine Zg ?_ GE647.out | refine Zg ?_ GE657.out) | exact HB.out))); (case side4 => exact HC0.out); (case side5 => exact Kd.far_C 0 HR0.out (IsS108.ge HI651.out)); rintro e w14 ⟨v659, rfl, ho0, hi, hb, hk⟩; refine ⟨_, rfl, ?_⟩; replace BK647 := Zh (KeepBut.blk hk (g' := gb647) (o := .cells #[.slice none 0 0] 29 (0, 0)) (by (with_reducible repeat (first | refine Za ?_ _ | refine Zb ?_ | refine blk_alloc ?_ _)); refine blk_far ?_ NB647_657.out _; (with_reducible repeat (first | refine Za ?_ _ | refine Zb ?_ | refine blk_alloc ?_ _)); exact BK647.out) NB647_651.out (by simp)); replace HO654 := Zh (S_mono (S_keep (IsS108.apartS (show IsS108 w _ g651 t648 t655 t656 from by repeat (first | (with_reducible first | exact HI651.out | apply IsS108.alloc | apply IsS108.drewN | apply IsS108.drew | apply IsS108.set_1 | apply IsS108.set_2 | refine IsS108.far ?_ NB651_647.out _ | refine IsS108.far ?_ NB651_657.out _) | exact HI651.out)) (ZS (S_mono (S_far (p := ⟨gb657, 0, none⟩) (S_types HO654.out BK657.out (by decide)) (fun _ hk => hk.2) (.slice Ao10 t652.length co10)) (fun _ h_ => h_.1))) (by decide)) hk (fun _ h => h.2)) (fun _ h => h.1)); replace BK657 := Zh (KeepBut.blk hk (g' := gb657) (o := .cells #[.slice Ao10 t652.length co10] 29 (0, 0)) (by (with_reducible repeat (first | refine Za ?_ _ | refine Zb ?_ | refine blk_alloc ?_ _)); refine blk_put (cs := #[.slice none 0 0]) ?_ 0 _ rfl; (with_reducible repeat (first | refine Za ?_ _ | refine Zb ?_ | refine blk_alloc ?_ _)); exact BK657.out) NB657_651.out (by simp)); have HO660 := Zh (S_lower ho0 (below_size (by repeat (first | (with_reducible first | exact HB.out | apply Zf | apply Zd | apply Ze | refine Zg ?_ (IsS108.ge HI651.out) | refine Zg ?_ GE647.out | refine Zg ?_ GE657.out) | exact HB.out)))); replace HB := Zh (hb); replace HI651 := Zh (hi); (try clear hb); (try clear hb2); (try clear hk); (try clear hi); (try clear ho0)) | ((with_reducible refine gate_callee (f := 87) rfl ?_); refine ZG (some 21) Tryd.func87 #[.pointer (some ⟨g651, 0, none⟩)] rfl ?_; (with_reducible refine (spec_l03DrawCrash.calls k g651 t648 t661 t662 t663 t666 t669 t670 w _ ?side1 ?side2 A5.out).mono ?_); (case side1 => repeat (first | (with_reducible first | exact HI651.out | apply IsS108.alloc | apply IsS108.drewN | apply IsS108.drew | apply IsS108.set_1 | apply IsS108.set_2 | refine IsS108.far ?_ NB651_647.out _ | refine IsS108.far ?_ NB651_657.out _) | exact HI651.out)); (case side2 => repeat (first | (with_reducible first | exact HB.out | apply Zf | apply Zd | apply Ze | refine Zg ?_ (IsS108.ge HI651.out) | refine Zg ?_ GE647.out | refine Zg ?_ GE657.out) | exact HB.out)); rintro e w15 ⟨v664, v667, rfl, ho0, ho1, hi, hb, hk⟩; refine ⟨_, rfl, ?_⟩; replace BK647 := Zh (KeepBut.blk hk (g' := gb647) (o := .cells #[.slice none 0 0] 29 (0, 0)) Zk NB647_651.out (by simp)); replace HO654 := Zh (S_mono (S_keep (IsS108.apartS (show IsS108 w _ g651 t648 t661 t662 from by repeat (first | (with_reducible first | exact HI651.out | apply IsS108.alloc | apply IsS108.drewN | apply IsS108.drew | apply IsS108.set_1 | apply IsS108.set_2 | refine IsS108.far ?_ NB651_647.out _ | refine IsS108.far ?_ NB651_657.out _) | exact HI651.out)) (ZS HO654.out) (by decide)) hk (fun _ h => h.2)) (fun _ h => h.1)); replace BK657 := Zh (KeepBut.blk hk (g' := gb657) (o := .cells #[.slice Ao10 t652.length co10] 29 (0, 0)) Zk NB657_651.out (by simp)); replace HO660 := Zh (S_mono (S_keep (IsS108.apartS (show IsS108 w _ g651 t648 t661 t662 from by repeat (first | (with_reducible first | exact HI651.out | apply IsS108.alloc | apply IsS108.drewN | apply IsS108.drew | apply IsS108.set_1 | apply IsS108.set_2 | refine IsS108.far ?_ NB651_647.out _ | refine IsS108.far ?_ NB651_657.out _) | exact HI651.out)) (ZS HO660.out) (by decide)) hk (fun _ h => h.2)) (fun _ h => h.1)); have HO665 := Zh (R_lower ho0 (below_size (by repeat (first | (with_reducible first | exact HB.out | apply Zf | apply Zd | apply Ze | refine Zg ?_ (IsS108.ge HI651.out) | refine Zg ?_ GE647.out | refine Zg ?_ GE657.out) | exact HB.out)))); have HO668 := Zh (R_lower ho1 (below_size (by repeat (first | (with_reducible first | exact HB.out | apply Zf | apply Zd | apply Ze | refine Zg ?_ (IsS108.ge HI651.out) | refine Zg ?_ GE647.out | refine Zg ?_ GE657.out) | exact HB.out)))); replace HB := Zh (hb); replace HI651 := Zh (hi); (try clear hb); (try clear hb2); (try clear hk); (try clear hi); (try clear ho0); (try clear ho1); have hcz16_0 : w15.cell? ⟨gb657, 0, none⟩ = some (.slice Ao10 t652.length co10) := (blk_cell BK657.out 0).trans rfl; have hfz16_0 := Zn BK657.out 0; have hnb17 := NB647_651.out; have hnc17 := NB651_647.out; have hcz18_0 : w15.cell? ⟨gb647, 0, none⟩ = some (.slice none 0 0) := (blk_cell BK647.out 0).trans rfl; have hfz18_0 := Zn BK647.out 0))
 refine Zq (results_list (rs := [.cell 2 29, .tmp 3, .tmp 4, .tmp 5]) rfl (by simp) (.cell gb647 29 #[.slice Ao10 t652.length co10] (0, 0) _ rfl (by (with_reducible repeat (first | refine Za ?_ _ | refine Zb ?_ | refine blk_alloc ?_ _)); refine blk_put (cs := #[.slice none 0 0]) ?_ 0 _ rfl; (with_reducible repeat (first | refine Za ?_ _ | refine Zb ?_ | refine blk_alloc ?_ _)); exact BK647.out) Tryd.underlying29 rfl (by kernel_rfl) (.tmp (.tmp (.tmp .nil))))) rfl ?_
 exact ⟨_, _, _, _, ZE, ZS (S_mono (S_far (p := ⟨gb647, 0, none⟩) (S_types HO654.out BK647.out (by decide)) (fun _ hk => hk.2) (.slice Ao10 t652.length co10)) (fun _ hk => trivial)), ZS (S_mono (S_far (p := ⟨gb647, 0, none⟩) (S_types HO660.out BK647.out (by decide)) (fun _ hk => hk.2) (.slice Ao10 t652.length co10)) (fun _ hk => trivial)), ZR (R_mono (R_far (p := ⟨gb647, 0, none⟩) (R_types HO665.out BK647.out (by decide)) (fun _ hk => hk.2) (.slice Ao10 t652.length co10)) (fun _ hk => hk.1)), ZR (R_mono (R_far (p := ⟨gb647, 0, none⟩) (R_types HO668.out BK647.out (by decide)) (fun _ hk => hk.2) (.slice Ao10 t652.length co10)) (fun _ hk => hk.1)), by repeat (first | (with_reducible first | exact HB.out | apply Zf | apply Zd | apply Ze | refine Zg ?_ (IsS108.ge HI651.out) | refine Zg ?_ GE647.out | refine Zg ?_ GE657.out) | exact HB.out)⟩
def impl_DiskOk.f (k : Nat) (l0_0 : List (S74)) : Option (Bool) := (impl_isDisk.f k l0_0).bind fun t144 => (some t144)
set_option maxHeartbeats 8000000 in
set_option maxRecDepth 100000 in
theorem impl_DiskOk.calls (k : Nat) (A0_0 : Option Addr) (c0_0 : Nat) (l0_0 : List (S74)) (r : Bool) (w : World) (hr0_0 : Kd.C k74 w A0_0 l0_0.length l0_0) (hc0_0 : l0_0.length ≤ c0_0) (h : impl_DiskOk.f k l0_0 = some r) :
  Calls Tryd.prog 17 #[.agg #[.slice A0_0 l0_0.length c0_0]] w fun e w' => e = .returned (.bool r) ∧ Below w.heap.size w w' := by
 have hu29 := Tryd.underlying29
 have HR0_0 := Zh hr0_0
 have HC0_0 := Zh hc0_0
 clear hr0_0 hc0_0
 have HB := Zh (Below.refl w.heap.size w)
 have H : ((impl_isDisk.f k l0_0).bind fun t144 => (some t144)) = some r := h
 clear h
 replace H := Option.bind_eq_some_iff.mp H
 obtain ⟨t144, A20, H⟩ := H
 replace H : (some t144) = some r := H
 have A2 := Zh A20
 clear A20
 obtain rfl := Option.some.inj H
 go_enter Tryd.func17, Tryd.ntmps17
 go_wp2_with (first | ((with_reducible refine gate_dst (N := 1) rfl ?_); refine box_event ?hg (N := 1) ?hd (cs := #[.slice A0_0 l0_0.length c0_0]) (t := 29) ?hr ?_; (case hd => rfl); (case hg => rfl); (case hr => first | (go_simp; done) | (go_simp; rfl)); intro gb143 hg w3 hbox hb; have BK143 := Zh (hbox); have GW143 := Zh ((by rw [hg]; exact (below_size Zs) : w.heap.size ≤ gb143)); have GE143 := Zh ((by rw [hg]; exact (below_size Zs) : w.heap.size ≤ gb143)); replace HB := Zh (Zl Zs hb); clear hb hbox hg; have hcz4_0 : w3.cell? ⟨gb143, 0, none⟩ = some (.slice A0_0 l0_0.length c0_0) := (blk_cell BK143.out 0).trans rfl; have hfz4_0 := Zn BK143.out 0) | ((with_reducible refine gate_callee (f := 59) rfl ?_); refine ZG (some 4) Tryd.func59 #[.agg #[.slice A0_0 l0_0.length c0_0]] rfl ?_; (with_reducible refine (impl_isDisk.calls k _ _ l0_0 t144 _ ?side1 ?side2 A2.out).mono ?_); (case side1 => repeat (first | exact (C_below HR0_0.out HB.out) | (with_reducible refine C_alloc ?_ _) | (with_reducible refine C_drewN ?_ _) | (with_reducible refine C_drew ?_))); (case side2 => exact HC0_0.out); rintro e w5 ⟨rfl, hb⟩; refine ⟨_, rfl, ?_⟩; replace BK143 := Zh (Zm (g := gb143) (o := .cells #[.slice A0_0 l0_0.length c0_0] 29 (0, 0)) Zk hb); replace HB := Zh (Zl Zs hb); (try clear hb); (try clear hb2); (try clear hk); (try clear hi)))
 go_ret
 exact ⟨ZE, Zs⟩
def impl_Content.f (k : Nat) (l0_0 : List (S74)) (a1 : ByteArray) : Option (List Int × Bool) := (impl_fileOf.f l0_0 a1).bind fun t207 => ((impl_isDisk.f k l0_0).bind fun t208 => (if t208 = true then (if t207 < 0 then (some (([] : List Int), false)) else (if 0 ≤ t207 then (if t207 < (l0_0.length : Int) then ((impl_File_content.f ((rd_T74 l0_0 t207).f0) ((rd_T74 l0_0 t207).f1) ((rd_T74 l0_0 t207).f2)).bind fun t210 => (some (t210, true))) else (none)) else (none))) else (some (([] : List Int), false))))
set_option maxHeartbeats 8000000 in
set_option maxRecDepth 100000 in
theorem impl_Content.calls (k : Nat) (A0_0 : Option Addr) (c0_0 : Nat) (l0_0 : List (S74)) (a1 : ByteArray) (r1 : List Int) (r2 : Bool) (w : World) (hr0_0 : Kd.C k74 w A0_0 l0_0.length l0_0) (hc0_0 : l0_0.length ≤ c0_0) (h : impl_Content.f k l0_0 a1 = some (r1, r2)) :
  Calls Tryd.prog 20 #[.agg #[.slice A0_0 l0_0.length c0_0], .string a1] w fun e w' => ∃ v0_ : Value, e = .returned (.tuple #[v0_, .bool r2]) ∧ Kd.R (Kd.int .u8) 5 w' w.heap.size (fun _ => True) v0_ r1 ∧ Below w.heap.size w w' := by
 have hu29 := Tryd.underlying29
 have hu74 := Tryd.underlying74
 have HR0_0 := Zh hr0_0
 have HC0_0 := Zh hc0_0
 clear hr0_0 hc0_0
 have HB := Zh (Below.refl w.heap.size w)
 have H : ((impl_fileOf.f l0_0 a1).bind fun t207 => ((impl_isDisk.f k l0_0).bind fun t208 => (if t208 = true then (if t207 < 0 then (some (([] : List Int), false)) else (if 0 ≤ t207 then (if t207 < (l0_0.length : Int) then ((impl_File_content.f ((rd_T74 l0_0 t207).f0) ((rd_T74 l0_0 t207).f1) ((rd_T74 l0_0 t207).f2)).bind fun t210 => (some (t210, true))) else (none)) else (none))) else (some (([] : List Int), false))))) = some (r1, r2) := h
 clear h
 replace H := Option.bind_eq_some_iff.mp H
 obtain ⟨t207, A30, H⟩ := H
 replace H : ((impl_isDisk.f k l0_0).bind fun t208 => (if t208 = true then (if t207 < 0 then (some (([] : List Int), false)) else (if 0 ≤ t207 then (if t207 < (l0_0.length : Int) then ((impl_File_content.f ((rd_T74 l0_0 t207).f0) ((rd_T74 l0_0 t207).f1) ((rd_T74 l0_0 t207).f2)).bind fun t210 => (some (t210, true))) else (none)) else (none))) else (some (([] : List Int), false)))) = some (r1, r2) := H
 have A3 := Zh A30
 clear A30
 replace H := Option.bind_eq_some_iff.mp H
 obtain ⟨t208, A40, H⟩ := H
 replace H : (if t208 = true then (if t207 < 0 then (some (([] : List Int), false)) else (if 0 ≤ t207 then (if t207 < (l0_0.length : Int) then ((impl_File_content.f ((rd_T74 l0_0 t207).f0) ((rd_T74 l0_0 t207).f1) ((rd_T74 l0_0 t207).f2)).bind fun t210 => (some (t210, true))) else (none)) else (none))) else (some (([] : List Int), false))) = some (r1, r2) := H
 have A4 := Zh A40
 clear A40
 by_cases c5 : t208 = true
 ·
  subst c5
  have H1 : (if t207 < 0 then (some (([] : List Int), false)) else (if 0 ≤ t207 then (if t207 < (l0_0.length : Int) then ((impl_File_content.f ((rd_T74 l0_0 t207).f0) ((rd_T74 l0_0 t207).f1) ((rd_T74 l0_0 t207).f2)).bind fun t210 => (some (t210, true))) else (none)) else (none))) = some (r1, r2) := by rw [if_pos rfl] at H; exact H
  clear H
  have H := H1
  clear H1
  by_cases c6 : t207 < 0
  ·
   rw [if_pos c6] at H
   have c6b0 : decide (t207 < 0) = true := decide_eq_true c6
   clear c6
   simp only [Option.some.injEq, Prod.mk.injEq] at H
   obtain ⟨rfl, rfl⟩ := H
   go_enter Tryd.func20, Tryd.ntmps20
   go_wp2_with (first | ((with_reducible refine gate_dst (N := 2) rfl ?_); refine box_event ?hg (N := 2) ?hd (cs := #[.slice A0_0 l0_0.length c0_0]) (t := 29) ?hr ?_; (case hd => rfl); (case hg => rfl); (case hr => first | (go_simp; done) | (go_simp; rfl)); intro gb206 hg w7 hbox hb; have BK206 := Zh (hbox); have GW206 := Zh ((by rw [hg]; exact (below_size Zs) : w.heap.size ≤ gb206)); have GE206 := Zh ((by rw [hg]; exact (below_size Zs) : w.heap.size ≤ gb206)); replace HB := Zh (Zl Zs hb); clear hb hbox hg; have hcz8_0 : w7.cell? ⟨gb206, 0, none⟩ = some (.slice A0_0 l0_0.length c0_0) := (blk_cell BK206.out 0).trans rfl; have hfz8_0 := Zn BK206.out 0) | ((with_reducible refine gate_callee (f := 63) rfl ?_); refine ZG (some 9) Tryd.func63 #[.agg #[.slice A0_0 l0_0.length c0_0], .string a1] rfl ?_; (with_reducible refine (impl_fileOf.calls _ _ l0_0 a1 t207 _ ?side1 ?side2 A3.out).mono ?_); (case side1 => repeat (first | exact (C_below HR0_0.out HB.out) | (with_reducible refine C_alloc ?_ _) | (with_reducible refine C_drewN ?_ _) | (with_reducible refine C_drew ?_))); (case side2 => exact HC0_0.out); rintro e w9 ⟨rfl, hb⟩; refine ⟨_, rfl, ?_⟩; replace BK206 := Zh (Zm (g := gb206) (o := .cells #[.slice A0_0 l0_0.length c0_0] 29 (0, 0)) Zk hb); replace HB := Zh (Zl Zs hb); (try clear hb); (try clear hb2); (try clear hk); (try clear hi); have hcz10_0 : w9.cell? ⟨gb206, 0, none⟩ = some (.slice A0_0 l0_0.length c0_0) := (blk_cell BK206.out 0).trans rfl; have hfz10_0 := Zn BK206.out 0) | ((with_reducible refine gate_callee (f := 59) rfl ?_); refine ZG (some 11) Tryd.func59 #[.agg #[.slice A0_0 l0_0.length c0_0]] rfl ?_; (with_reducible refine (impl_isDisk.calls k _ _ l0_0 true _ ?side1 ?side2 A4.out).mono ?_); (case side1 => repeat (first | exact (C_below HR0_0.out HB.out) | (with_reducible refine C_alloc ?_ _) | (with_reducible refine C_drewN ?_ _) | (with_reducible refine C_drew ?_))); (case side2 => exact HC0_0.out); rintro e w11 ⟨rfl, hb⟩; refine ⟨_, rfl, ?_⟩; replace BK206 := Zh (Zm (g := gb206) (o := .cells #[.slice A0_0 l0_0.length c0_0] 29 (0, 0)) Zk hb); replace HB := Zh (Zl Zs hb); (try clear hb); (try clear hb2); (try clear hk); (try clear hi)))
   go_ret2
   exact ⟨_, ZE, by first | exact R_nil _ _ _ _ _ | exact N_nil _ _ _ _ _ | exact V_nil _ _ _ _ _ | exact Q_nil _ _ _ _ _ | exact S_nil _ _ _ _ _, Zs⟩
  rw [if_neg c6] at H
  have c6b0 : decide (t207 < 0) = false := decide_eq_false c6
  clear c6
  by_cases c12 : 0 ≤ t207
  ·
   rw [if_pos c12] at H
   have c12b0 : decide (0 ≤ t207) = true := decide_eq_true c12
   clear c12
   by_cases c13 : t207 < (l0_0.length : Int)
   ·
    rw [if_pos c13] at H
    have c13b0 : decide (t207 < (l0_0.length : Int)) = true := decide_eq_true c13
    clear c13
    replace H := Option.bind_eq_some_iff.mp H
    obtain ⟨t210, A140, H⟩ := H
    replace H : (some (t210, true)) = some (r1, r2) := H
    have A14 := Zh A140
    clear A140
    simp only [Option.some.injEq, Prod.mk.injEq] at H
    obtain ⟨rfl, rfl⟩ := H
    go_enter Tryd.func20, Tryd.ntmps20
    go_wp2_with (first | ((with_reducible refine gate_dst (N := 2) rfl ?_); refine box_event ?hg (N := 2) ?hd (cs := #[.slice A0_0 l0_0.length c0_0]) (t := 29) ?hr ?_; (case hd => rfl); (case hg => rfl); (case hr => first | (go_simp; done) | (go_simp; rfl)); intro gb206 hg w15 hbox hb; have BK206 := Zh (hbox); have GW206 := Zh ((by rw [hg]; exact (below_size Zs) : w.heap.size ≤ gb206)); have GE206 := Zh ((by rw [hg]; exact (below_size Zs) : w.heap.size ≤ gb206)); replace HB := Zh (Zl Zs hb); clear hb hbox hg; have hcz16_0 : w15.cell? ⟨gb206, 0, none⟩ = some (.slice A0_0 l0_0.length c0_0) := (blk_cell BK206.out 0).trans rfl; have hfz16_0 := Zn BK206.out 0) | ((with_reducible refine gate_callee (f := 63) rfl ?_); refine ZG (some 9) Tryd.func63 #[.agg #[.slice A0_0 l0_0.length c0_0], .string a1] rfl ?_; (with_reducible refine (impl_fileOf.calls _ _ l0_0 a1 t207 _ ?side1 ?side2 A3.out).mono ?_); (case side1 => repeat (first | exact (C_below HR0_0.out HB.out) | (with_reducible refine C_alloc ?_ _) | (with_reducible refine C_drewN ?_ _) | (with_reducible refine C_drew ?_))); (case side2 => exact HC0_0.out); rintro e w17 ⟨rfl, hb⟩; refine ⟨_, rfl, ?_⟩; replace BK206 := Zh (Zm (g := gb206) (o := .cells #[.slice A0_0 l0_0.length c0_0] 29 (0, 0)) Zk hb); replace HB := Zh (Zl Zs hb); (try clear hb); (try clear hb2); (try clear hk); (try clear hi); have hcz18_0 : w17.cell? ⟨gb206, 0, none⟩ = some (.slice A0_0 l0_0.length c0_0) := (blk_cell BK206.out 0).trans rfl; have hfz18_0 := Zn BK206.out 0) | ((with_reducible refine gate_callee (f := 59) rfl ?_); refine ZG (some 11) Tryd.func59 #[.agg #[.slice A0_0 l0_0.length c0_0]] rfl ?_; (with_reducible refine (impl_isDisk.calls k _ _ l0_0 true _ ?side1 ?side2 A4.out).mono ?_); (case side1 => repeat (first | exact (C_below HR0_0.out HB.out) | (with_reducible refine C_alloc ?_ _) | (with_reducible refine C_drewN ?_ _) | (with_reducible refine C_drew ?_))); (case side2 => exact HC0_0.out); rintro e w19 ⟨rfl, hb⟩; refine ⟨_, rfl, ?_⟩; replace BK206 := Zh (Zm (g := gb206) (o := .cells #[.slice A0_0 l0_0.length c0_0] 29 (0, 0)) Zk hb); replace HB := Zh (Zl Zs hb); (try clear hb); (try clear hb2); (try clear hk); (try clear hi); have hcz20_0 : w19.cell? ⟨gb206, 0, none⟩ = some (.slice A0_0 l0_0.length c0_0) := (blk_cell BK206.out 0).trans rfl; have hfz20_0 := Zn BK206.out 0; have p209 : 0 ≤ (t207 : Int) := Zo; have q209 : t207 < (l0_0.length : Int) := Zo; obtain ⟨ad209, A209_1, c209_1, A209_2, c209_2, e209, hx209_0, hx209_1, hx209_2, hl209_1, hi209_1, hl209_2, hi209_2⟩ := at_T74 HR0_0.out t207 p209 q209; cases e209; replace hx209_0 := Zc HB.out hx209_0; replace hx209_1 := Zc HB.out hx209_1; replace hx209_2 := Zc HB.out hx209_2; have HR209_1 := Zh hi209_1; have HC209_1 := Zh hl209_1; clear hi209_1 hl209_1; have HR209_2 := Zh hi209_2; have HC209_2 := Zh hl209_2; clear hi209_2 hl209_2; replace p209 := eq_true p209; replace q209 := eq_true q209) | ((with_reducible refine gate_callee (f := 64) rfl ?_); refine ZG (some 22) Tryd.func64 #[.agg #[.string ((rd_T74 l0_0 t207).f0), .slice A209_1 ((rd_T74 l0_0 t207).f1).length c209_1, .slice A209_2 ((rd_T74 l0_0 t207).f2).length c209_2]] rfl ?_; (with_reducible refine (impl_File_content.calls ((rd_T74 l0_0 t207).f0) _ _ ((rd_T74 l0_0 t207).f1) _ _ ((rd_T74 l0_0 t207).f2) t210 _ ?side1 ?side2 ?side3 ?side4 A14.out).mono ?_); (case side1 => repeat (first | exact (C_below HR209_1.out HB.out) | (with_reducible refine C_alloc ?_ _) | (with_reducible refine C_drewN ?_ _) | (with_reducible refine C_drew ?_))); (case side2 => exact HC209_1.out); (case side3 => repeat (first | exact (C_below HR209_2.out HB.out) | (with_reducible refine C_alloc ?_ _) | (with_reducible refine C_drewN ?_ _) | (with_reducible refine C_drew ?_))); (case side4 => exact HC209_2.out); rintro e w21 ⟨v211, rfl, ho0, hb⟩; refine ⟨_, rfl, ?_⟩; have HO212 := Zh (R_lower ho0 (below_size Zs)); replace BK206 := Zh (Zm (g := gb206) (o := .cells #[.slice (some ad209) l0_0.length c0_0] 29 (0, 0)) Zk hb); replace HB := Zh (Zl Zs hb); (try clear hb); (try clear hb2); (try clear hk); (try clear hi); (try clear ho0)))
    go_ret2
    exact ⟨_, ZE, ZR HO212.out, Zs⟩
   rw [if_neg c13] at H
   exact absurd H (by simp)
  rw [if_neg c12] at H
  exact absurd H (by simp)
 replace c5 := Bool.eq_false_iff.mpr c5
 subst c5
 have H1 : (some (([] : List Int), false)) = some (r1, r2) := by rw [if_neg (show ¬ (false = true) by decide)] at H; exact H
 clear H
 have H := H1
 clear H1
 simp only [Option.some.injEq, Prod.mk.injEq] at H
 obtain ⟨rfl, rfl⟩ := H
 go_enter Tryd.func20, Tryd.ntmps20
 go_wp2_with (first | ((with_reducible refine gate_dst (N := 2) rfl ?_); refine box_event ?hg (N := 2) ?hd (cs := #[.slice A0_0 l0_0.length c0_0]) (t := 29) ?hr ?_; (case hd => rfl); (case hg => rfl); (case hr => first | (go_simp; done) | (go_simp; rfl)); intro gb206 hg w22 hbox hb; have BK206 := Zh (hbox); have GW206 := Zh ((by rw [hg]; exact (below_size Zs) : w.heap.size ≤ gb206)); have GE206 := Zh ((by rw [hg]; exact (below_size Zs) : w.heap.size ≤ gb206)); replace HB := Zh (Zl Zs hb); clear hb hbox hg; have hcz23_0 : w22.cell? ⟨gb206, 0, none⟩ = some (.slice A0_0 l0_0.length c0_0) := (blk_cell BK206.out 0).trans rfl; have hfz23_0 := Zn BK206.out 0) | ((with_reducible refine gate_callee (f := 63) rfl ?_); refine ZG (some 9) Tryd.func63 #[.agg #[.slice A0_0 l0_0.length c0_0], .string a1] rfl ?_; (with_reducible refine (impl_fileOf.calls _ _ l0_0 a1 t207 _ ?side1 ?side2 A3.out).mono ?_); (case side1 => repeat (first | exact (C_below HR0_0.out HB.out) | (with_reducible refine C_alloc ?_ _) | (with_reducible refine C_drewN ?_ _) | (with_reducible refine C_drew ?_))); (case side2 => exact HC0_0.out); rintro e w24 ⟨rfl, hb⟩; refine ⟨_, rfl, ?_⟩; replace BK206 := Zh (Zm (g := gb206) (o := .cells #[.slice A0_0 l0_0.length c0_0] 29 (0, 0)) Zk hb); replace HB := Zh (Zl Zs hb); (try clear hb); (try clear hb2); (try clear hk); (try clear hi); have hcz25_0 : w24.cell? ⟨gb206, 0, none⟩ = some (.slice A0_0 l0_0.length c0_0) := (blk_cell BK206.out 0).trans rfl; have hfz25_0 := Zn BK206.out 0) | ((with_reducible refine gate_callee (f := 59) rfl ?_); refine ZG (some 11) Tryd.func59 #[.agg #[.slice A0_0 l0_0.length c0_0]] rfl ?_; (with_reducible refine (impl_isDisk.calls k _ _ l0_0 false _ ?side1 ?side2 A4.out).mono ?_); (case side1 => repeat (first | exact (C_below HR0_0.out HB.out) | (with_reducible refine C_alloc ?_ _) | (with_reducible refine C_drewN ?_ _) | (with_reducible refine C_drew ?_))); (case side2 => exact HC0_0.out); rintro e w26 ⟨rfl, hb⟩; refine ⟨_, rfl, ?_⟩; replace BK206 := Zh (Zm (g := gb206) (o := .cells #[.slice A0_0 l0_0.length c0_0] 29 (0, 0)) Zk hb); replace HB := Zh (Zl Zs hb); (try clear hb); (try clear hb2); (try clear hk); (try clear hi)))
 go_ret2
 exact ⟨_, ZE, by first | exact R_nil _ _ _ _ _ | exact N_nil _ _ _ _ _ | exact V_nil _ _ _ _ _ | exact Q_nil _ _ _ _ _ | exact S_nil _ _ _ _ _, Zs⟩
def impl_RemoveFile.f (k : Nat) (l0_0 : List (S74)) (a1 : ByteArray) : Option ((List (S74)) × Bool) := (impl_removeFile.f k l0_0 a1).bind fun bt250 => (some (bt250.1, bt250.2))
set_option maxHeartbeats 8000000 in
set_option maxRecDepth 100000 in
theorem impl_RemoveFile.calls (k : Nat) (A0_0 : Option Addr) (c0_0 : Nat) (l0_0 : List (S74)) (a1 : ByteArray) (r1 : List (S74)) (r2 : Bool) (w : World) (hr0_0 : Kd.C k74 w A0_0 l0_0.length l0_0) (hc0_0 : l0_0.length ≤ c0_0) (h : impl_RemoveFile.f k l0_0 a1 = some (r1, r2)) :
  Calls Tryd.prog 26 #[.agg #[.slice A0_0 l0_0.length c0_0], .string a1] w fun e w' => ∃ v0_ : Value, e = .returned (.tuple #[.agg #[v0_], .bool r2]) ∧ Kd.S k74 74 w' w.heap.size (fun _ => True) v0_ r1 ∧ Below w.heap.size w w' := by
 have hu29 := Tryd.underlying29
 have HR0_0 := Zh hr0_0
 have HC0_0 := Zh hc0_0
 clear hr0_0 hc0_0
 have HB := Zh (Below.refl w.heap.size w)
 have H : ((impl_removeFile.f k l0_0 a1).bind fun bt250 => (some (bt250.1, bt250.2))) = some (r1, r2) := h
 clear h
 replace H := Option.bind_eq_some_iff.mp H
 obtain ⟨⟨t250, t253⟩, A30, H⟩ := H
 replace H : (some (t250, t253)) = some (r1, r2) := H
 have A3 := Zh A30
 clear A30
 simp only [Option.some.injEq, Prod.mk.injEq] at H
 obtain ⟨rfl, rfl⟩ := H
 go_enter Tryd.func26, Tryd.ntmps26
 go_wp2_with (first | ((with_reducible refine gate_dst (N := 2) rfl ?_); refine box_event ?hg (N := 2) ?hd (cs := #[.slice A0_0 l0_0.length c0_0]) (t := 29) ?hr ?_; (case hd => rfl); (case hg => rfl); (case hr => first | (go_simp; done) | (go_simp; rfl)); intro gb248 hg w4 hbox hb; have BK248 := Zh (hbox); have GW248 := Zh ((by rw [hg]; exact (below_size Zs) : w.heap.size ≤ gb248)); have GE248 := Zh ((by rw [hg]; exact (below_size Zs) : w.heap.size ≤ gb248)); replace HB := Zh (Zl Zs hb); clear hb hbox hg) | ((with_reducible refine gate_dst (N := 4) rfl ?_); refine box_event ?hg (N := 4) ?hd (cs := #[.slice none 0 0]) (t := 29) ?hr ?_; (case hd => rfl); (case hg => rfl); (case hr => first | (go_simp; done) | (go_simp; rfl)); intro gb249 hg w5 hbox hb; have BK249 := Zh (hbox); have GW249 := Zh ((by rw [hg]; exact (below_size Zs) : w.heap.size ≤ gb249)); have GE249 := Zh ((by rw [hg]; exact (below_size Zs) : w.heap.size ≤ gb249)); replace HB := Zh (Zl Zs hb); have NB248_249 := Zh ((by rw [hg]; exact Nat.ne_of_lt (blk_lt (g := gb248) (o := .cells #[.slice A0_0 l0_0.length c0_0] 29 (0, 0)) Zk) : gb248 ≠ gb249)); have NB249_248 := Zh ((by rw [hg]; exact Nat.ne_of_gt (blk_lt (g := gb248) (o := .cells #[.slice A0_0 l0_0.length c0_0] 29 (0, 0)) Zk) : gb249 ≠ gb248)); replace BK248 := Zh (Zm (g := gb248) (o := .cells #[.slice A0_0 l0_0.length c0_0] 29 (0, 0)) Zk hb); clear hb hbox hg; have hnb6 := NB248_249.out; have hnc6 := NB249_248.out; have hcz7_0 : w5.cell? ⟨gb248, 0, none⟩ = some (.slice A0_0 l0_0.length c0_0) := (blk_cell BK248.out 0).trans rfl; have hfz7_0 := Zn BK248.out 0) | ((with_reducible refine gate_callee (f := 68) rfl ?_); refine ZG (some 8) Tryd.func68 #[.agg #[.slice A0_0 l0_0.length c0_0], .string a1] rfl ?_; (with_reducible refine (impl_removeFile.calls k _ _ l0_0 a1 t250 t253 _ ?side1 ?side2 A3.out).mono ?_); (case side1 => repeat (first | exact (C_below HR0_0.out HB.out) | (with_reducible refine C_alloc ?_ _) | (with_reducible refine C_drewN ?_ _) | (with_reducible refine C_drew ?_))); (case side2 => exact HC0_0.out); rintro e w8 ⟨v251, rfl, ho0, hb⟩; refine ⟨_, rfl, ?_⟩; have HO252 := Zh (S_lower ho0 (below_size Zs)); replace BK248 := Zh (Zm (g := gb248) (o := .cells #[.slice A0_0 l0_0.length c0_0] 29 (0, 0)) Zk hb); replace BK249 := Zh (Zm (g := gb249) (o := .cells #[.slice none 0 0] 29 (0, 0)) Zk hb); replace HB := Zh (Zl Zs hb); (try clear hb); (try clear hb2); (try clear hk); (try clear hi); (try clear ho0); obtain ⟨Ao9, co9, eo9⟩ := S_slice HO252.out; subst eo9; have hcz10_0 : w8.cell? ⟨gb249, 0, none⟩ = some (.slice none 0 0) := (blk_cell BK249.out 0).trans rfl; have hfz10_0 := Zn BK249.out 0))
 refine Zq (results_ct rfl _ _ gb249 29 #[.slice Ao9 t250.length co9] (0, 0) _ rfl (by (with_reducible repeat (first | refine Za ?_ _ | refine Zb ?_ | refine blk_alloc ?_ _)); refine blk_put (cs := #[.slice none 0 0]) ?_ 0 _ rfl; (with_reducible repeat (first | refine Za ?_ _ | refine Zb ?_ | refine blk_alloc ?_ _)); exact BK249.out) Tryd.underlying29 rfl (by kernel_rfl)) rfl ?_
 exact ⟨_, ZE, ZS (S_mono (S_far (p := ⟨gb249, 0, none⟩) (S_types HO252.out BK249.out (by decide)) (fun _ hk => hk.2) (.slice Ao9 t250.length co9)) (fun _ hk => trivial)), Zs⟩
end Go.Proofs.YtmgeffgcihfpcaaDoor.F

namespace Go.Proofs.YtmgeffgcihfpcaaDoor.F
open Go.Proofs.YtmgeffgcihfpcaaDoor
open Go.RowKit Go.Proofs.YtmgeffgcihfpcaaDoorW.PrintWords Go.Proofs.YtmgeffgcihfpcaaDoorW.PrintWords.Kd Go.Proofs.YtmgeffgcihfpcaaDoorW.PrintMore.Kd Go.Proofs.YtmgeffgcihfpcaaDoorW.PrintLast Go.Proofs.YtmgeffgcihfpcaaDoorW.PrintMore
attribute [local go_sem] max2_int min2_int max_two min_two max_three min_three max_four min_four   -- for this text's walks alone
set_option linter.unusedVariables false
set_option linter.unusedSimpArgs false
def laws_sameDisk.l0 : Nat → Int → List (S74) → List (S74) → Option (Bool)
 | 0, _, _, _ => none
 | k + 1, x5, x673000, x674000 => if x5 < (x673000.length : Int) then (if 0 ≤ x5 then (if x5 < (x674000.length : Int) then (if ((rd_T74 x673000 x5).f0).toList = ((rd_T74 x674000 x5).f0).toList then (if (strOfNums ((rd_T74 x673000 x5).f1)).toList = (strOfNums ((rd_T74 x674000 x5).f1)).toList then (if (strOfNums ((rd_T74 x673000 x5).f2)).toList = (strOfNums ((rd_T74 x674000 x5).f2)).toList then (laws_sameDisk.l0 k (wrap64 (x5 + 1)) x673000 x674000) else (some false)) else (some false)) else (some false)) else (none)) else (none)) else (some true)
def laws_sameDisk.f (k : Nat) (l0_0 : List (S74)) (l1_0 : List (S74)) : Option (Bool) := if (l0_0.length : Int) = (l1_0.length : Int) then (laws_sameDisk.l0 k 0 l0_0 l1_0) else (some false)
def laws_sameDisk.T6 : Bool × List (List Nat × List Nat) := (true, [([], []), ([0], [0]), ([], []), ([1, 2], [1, 2]), ([3], [3]), ([], []), ([5], [5]), ([], []), ([6, 7], [6, 7]), ([8], [8]), ([], []), ([], []), ([10, 4, 0, 1, 2, 3, 4, 10, 11], [4, 10]), ([11, 9, 12, 0, 1, 2, 3, 4, 5, 6, 7, 8, 9, 10, 11, 12], [9, 11])])
def laws_sameDisk.B6 : List Nat := [0, 1, 0, 7, 15, 0, 32, 0, 224, 480, 0, 0, 3103, 8191]
theorem laws_sameDisk.tab6 : rtab .any (opsOf Tryd.f54 6) = laws_sameDisk.T6 := by kernel_rfl
theorem laws_sameDisk.bits6 : waitsOk laws_sameDisk.T6.2 laws_sameDisk.B6 = true := by kernel_rfl
set_option maxHeartbeats 8000000 in
set_option maxRecDepth 100000 in
theorem laws_sameDisk.calls (k : Nat) (A0_0 : Option Addr) (c0_0 : Nat) (l0_0 : List (S74)) (A1_0 : Option Addr) (c1_0 : Nat) (l1_0 : List (S74)) (r : Bool) (w : World) (hr0_0 : Kd.C k74 w A0_0 l0_0.length l0_0) (hc0_0 : l0_0.length ≤ c0_0) (hr1_0 : Kd.C k74 w A1_0 l1_0.length l1_0) (hc1_0 : l1_0.length ≤ c1_0) (h : laws_sameDisk.f k l0_0 l1_0 = some r) :
  Calls Tryd.prog 54 #[.agg #[.slice A0_0 l0_0.length c0_0], .agg #[.slice A1_0 l1_0.length c1_0]] w fun e w' => e = .returned (.bool r) ∧ Below w.heap.size w w' := by
 have hu29 := Tryd.underlying29
 have hu74 := Tryd.underlying74
 have HR0_0 := Zh hr0_0
 have HC0_0 := Zh hc0_0
 clear hr0_0 hc0_0
 have HR1_0 := Zh hr1_0
 have HC1_0 := Zh hc1_0
 clear hr1_0 hc1_0
 have HB := Zh (Below.refl w.heap.size w)
 have H : (if (l0_0.length : Int) = (l1_0.length : Int) then (laws_sameDisk.l0 k 0 l0_0 l1_0) else (some false)) = some r := h
 clear h
 by_cases c3 : (l0_0.length : Int) = (l1_0.length : Int)
 ·
  rw [if_pos c3] at H
  have c3b0 : ((l0_0.length : Int) == (l1_0.length : Int)) = true := beq_iff_eq.mpr c3
  have c3b1 : ((l0_0.length : Int) != (l1_0.length : Int)) = false := bne_eq_false_iff_eq.mpr c3
  have c3b2 : (l0_0.length == l1_0.length) = true := by first | simpa using c3 | (simp at c3 ⊢; omega)
  clear c3
  have H' := Zh H
  clear H
  go_enter Tryd.func54, Tryd.ntmps54
  go_wp2_with (first | ((with_reducible refine gate_dst (N := 2) rfl ?_); refine box_event ?hg (N := 2) ?hd (cs := #[.slice A0_0 l0_0.length c0_0]) (t := 29) ?hr ?_; (case hd => rfl); (case hg => rfl); (case hr => first | (go_simp; done) | (go_simp; rfl)); intro gb672 hg w4 hbox hb; have BK672 := Zh (hbox); have GW672 := Zh ((by rw [hg]; exact (below_size Zs) : w.heap.size ≤ gb672)); have GE672 := Zh ((by rw [hg]; exact (below_size Zs) : w.heap.size ≤ gb672)); replace HB := Zh (Zl Zs hb); clear hb hbox hg) | ((with_reducible refine gate_dst (N := 3) rfl ?_); refine box_event ?hg (N := 3) ?hd (cs := #[.slice A1_0 l1_0.length c1_0]) (t := 29) ?hr ?_; (case hd => rfl); (case hg => rfl); (case hr => first | (go_simp; done) | (go_simp; rfl)); intro gb673 hg w5 hbox hb; have BK673 := Zh (hbox); have GW673 := Zh ((by rw [hg]; exact (below_size Zs) : w.heap.size ≤ gb673)); have GE673 := Zh ((by rw [hg]; exact (below_size Zs) : w.heap.size ≤ gb673)); replace HB := Zh (Zl Zs hb); have NB672_673 := Zh ((by rw [hg]; exact Nat.ne_of_lt (blk_lt (g := gb672) (o := .cells #[.slice A0_0 l0_0.length c0_0] 29 (0, 0)) Zk) : gb672 ≠ gb673)); have NB673_672 := Zh ((by rw [hg]; exact Nat.ne_of_gt (blk_lt (g := gb672) (o := .cells #[.slice A0_0 l0_0.length c0_0] 29 (0, 0)) Zk) : gb673 ≠ gb672)); replace BK672 := Zh (Zm (g := gb672) (o := .cells #[.slice A0_0 l0_0.length c0_0] 29 (0, 0)) Zk hb); clear hb hbox hg; have hnb6 := NB672_673.out; have hnc6 := NB673_672.out; have hcz7_0 : w5.cell? ⟨gb672, 0, none⟩ = some (.slice A0_0 l0_0.length c0_0) := (blk_cell BK672.out 0).trans rfl; have hfz7_0 := Zn BK672.out 0; have hcz8_0 : w5.cell? ⟨gb673, 0, none⟩ = some (.slice A1_0 l1_0.length c1_0) := (blk_cell BK673.out 0).trans rfl; have hfz8_0 := Zn BK673.out 0))
  go_loopg [5] k (fun kq v5 w' => ∃ (x5_1 : Int), v5 = .int .i64 x5_1 ∧ Aside0 (laws_sameDisk.l0 kq x5_1 l0_0 l1_0 = some r) ∧ Aside0 (kq ≤ k) ∧ Aside0 (w'.heap[gb672]? = some (.cells #[(.slice A0_0 l0_0.length c0_0)] 29 (0, 0))) ∧ Aside0 (w'.heap[gb673]? = some (.cells #[(.slice A1_0 l1_0.length c1_0)] 29 (0, 0))) ∧ Aside0 (Below w.heap.size w w'))
  case atStart => exact ⟨(0), (by first | rfl | (simp; done) | (simp [*]; done)), H', ⟨Nat.le_refl _⟩, ⟨Zk⟩, ⟨Zk⟩, ⟨Zs⟩⟩
  case round =>
   clear H'
   try clear c1
   try clear p2
   try clear c3
   try clear c3b0
   try clear c3b1
   try clear c3b2
   try clear c5
   try clear c6
   try clear hcz7_0
   try clear hcz8_0
   try clear hfz7_0
   try clear hfz8_0
   obtain ⟨x5_1, rfl, HA, HK1, BK672, BK673, HB⟩ := hrel
   cases gk with
   | zero => exact absurd HA.out (by simp [laws_sameDisk.l0])
   | succ k1 =>
    have H := HA.out
    clear HA
    simp only [laws_sameDisk.l0] at H
    by_cases c9 : x5_1 < (l0_0.length : Int)
    ·
     rw [if_pos c9] at H
     have c9b0 : decide (x5_1 < (l0_0.length : Int)) = true := decide_eq_true c9
     clear c9
     by_cases c10 : 0 ≤ x5_1
     ·
      rw [if_pos c10] at H
      have c10b0 : decide (0 ≤ x5_1) = true := decide_eq_true c10
      clear c10
      by_cases c11 : x5_1 < (l1_0.length : Int)
      ·
       rw [if_pos c11] at H
       have c11b0 : decide (x5_1 < (l1_0.length : Int)) = true := decide_eq_true c11
       clear c11
       have HX_ := Zh H
       clear H
       have hnb15 := NB672_673.out
       have hnc15 := NB673_672.out
       have hcz16_0 : wr.cell? ⟨gb672, 0, none⟩ = some (.slice A0_0 l0_0.length c0_0) := (blk_cell BK672.out 0).trans rfl
       have hfz16_0 := Zn BK672.out 0
       try go_wp2
       replace BK672 := Zh (Zb BK672.out)
       replace BK673 := Zh (Zb BK673.out)
       replace HB := Zh (Ze HB.out)
       have p674 : 0 ≤ (x5_1 : Int) := Zo
       have q674 : x5_1 < (l0_0.length : Int) := Zo
       obtain ⟨ad674, A674_1, c674_1, A674_2, c674_2, e674, hx674_0, hx674_1, hx674_2, hl674_1, hi674_1, hl674_2, hi674_2⟩ := at_T74 HR0_0.out x5_1 p674 q674
       have hw674_2 := hx674_2
       have hw674_1 := hx674_1
       have hw674_0 := hx674_0
       cases e674
       replace hx674_0 := Zc HB.out hx674_0
       replace hx674_1 := Zc HB.out hx674_1
       replace hx674_2 := Zc HB.out hx674_2
       have HR674_1 := Zh hi674_1
       have HC674_1 := Zh hl674_1
       clear hi674_1 hl674_1
       have HR674_2 := Zh hi674_2
       have HC674_2 := Zh hl674_2
       clear hi674_2 hl674_2
       replace p674 := eq_true p674
       replace q674 := eq_true q674
       have p675 : 0 ≤ (x5_1 : Int) := Zo
       have q675 : x5_1 < (l1_0.length : Int) := Zo
       obtain ⟨ad675, A675_1, c675_1, A675_2, c675_2, e675, hx675_0, hx675_1, hx675_2, hl675_1, hi675_1, hl675_2, hi675_2⟩ := at_T74 HR1_0.out x5_1 p675 q675
       have hw675_2 := hx675_2
       have hw675_1 := hx675_1
       have hw675_0 := hx675_0
       cases e675
       replace hx675_0 := Zc HB.out hx675_0
       replace hx675_1 := Zc HB.out hx675_1
       replace hx675_2 := Zc HB.out hx675_2
       have HR675_1 := Zh hi675_1
       have HC675_1 := Zh hl675_1
       clear hi675_1 hl675_1
       have HR675_2 := Zh hi675_2
       have HC675_2 := Zh hl675_2
       clear hi675_2 hl675_2
       replace p675 := eq_true p675
       replace q675 := eq_true q675
       refine start_ (n := 14) (S := fun w' => w'.cell? ⟨gb672, 0, none⟩ = some (.slice (some ad674) l0_0.length c0_0) ∧ w'.cell? ⟨gb673, 0, none⟩ = some (.slice (some ad675) l1_0.length c1_0) ∧ w'.cell? (ad674.add ((x5_1).toNat * 3)) = some (.string ((rd_T74 l0_0 x5_1).f0)) ∧ w'.cell? ⟨(ad674.add ((x5_1).toNat * 3)).block, (ad674.add ((x5_1).toNat * 3)).off + 1, none⟩ = some (.slice A674_1 ((rd_T74 l0_0 x5_1).f1).length c674_1) ∧ w'.cell? ⟨(ad674.add ((x5_1).toNat * 3)).block, (ad674.add ((x5_1).toNat * 3)).off + 2, none⟩ = some (.slice A674_2 ((rd_T74 l0_0 x5_1).f2).length c674_2) ∧ w'.cell? (ad675.add ((x5_1).toNat * 3)) = some (.string ((rd_T74 l1_0 x5_1).f0)) ∧ w'.cell? ⟨(ad675.add ((x5_1).toNat * 3)).block, (ad675.add ((x5_1).toNat * 3)).off + 1, none⟩ = some (.slice A675_1 ((rd_T74 l1_0 x5_1).f1).length c675_1) ∧ w'.cell? ⟨(ad675.add ((x5_1).toNat * 3)).block, (ad675.add ((x5_1).toNat * 3)).off + 2, none⟩ = some (.slice A675_2 ((rd_T74 l1_0 x5_1).f2).length c675_2)) (ds := []) #[false, false, false, false, false, false, false, false, false, false, false, false, false, false] (by kernel_rfl) rfl rfl ⟨(blk_cell BK672.out 0).trans rfl, (blk_cell BK673.out 0).trans rfl, ((HB.out.cell (Zi w _ hw674_0)).trans hw674_0), ((HB.out.cell (Zi w _ hw674_1)).trans hw674_1), ((HB.out.cell (Zi w _ hw674_2)).trans hw674_2), ((HB.out.cell (Zi w _ hw675_0)).trans hw675_0), ((HB.out.cell (Zi w _ hw675_1)).trans hw675_1), ((HB.out.cell (Zi w _ hw675_2)).trans hw675_2)⟩ (fun hHeld => ?_); refine with_tabW laws_sameDisk.tab6 laws_sameDisk.bits6 (fun HT_ HW_ => ?_)
       generalize wr.drew = w17 at BK672 BK673 HB HR674_1 HR674_2 HR675_1 HR675_2 hx674_0 hx674_1 hx674_2 hx675_0 hx675_1 hx675_2 hHeld ⊢
       refine SQ.pu 0 22 HT_ ?_
       refine SQ.pu 2 24 HT_ ?_
       refine SQ.pu 5 27 HT_ ?_
       refine SQ.pu 7 29 HT_ ?_
       refine SQ.tk 1 23 HT_ HW_ hHeld ?_
       refine SQ.pu 3 25 HT_ ?_
       refine SQ.tk 4 26 HT_ HW_ hHeld ?_
       refine SQ.tk 6 28 HT_ HW_ hHeld ?_
       refine SQ.pu 8 30 HT_ ?_
       refine SQ.tk 9 31 HT_ HW_ hHeld ?_
       refine join_ (σ := Nat × Nat) 2 #[true, true, true, true, true, true, true, true, true, true, true, true, false, false] (fun s_ => [(6, .pointer (some ⟨s_.1, 0, none⟩)), (7, .pointer (some ⟨s_.2, 0, none⟩))]) (fun s_ w' => (w'.cell? ⟨gb672, 0, none⟩ = some (.slice (some ad674) l0_0.length c0_0) ∧ w'.cell? ⟨gb673, 0, none⟩ = some (.slice (some ad675) l1_0.length c1_0) ∧ w'.cell? (ad674.add ((x5_1).toNat * 3)) = some (.string ((rd_T74 l0_0 x5_1).f0)) ∧ w'.cell? ⟨(ad674.add ((x5_1).toNat * 3)).block, (ad674.add ((x5_1).toNat * 3)).off + 1, none⟩ = some (.slice A674_1 ((rd_T74 l0_0 x5_1).f1).length c674_1) ∧ w'.cell? ⟨(ad674.add ((x5_1).toNat * 3)).block, (ad674.add ((x5_1).toNat * 3)).off + 2, none⟩ = some (.slice A674_2 ((rd_T74 l0_0 x5_1).f2).length c674_2) ∧ w'.cell? (ad675.add ((x5_1).toNat * 3)) = some (.string ((rd_T74 l1_0 x5_1).f0)) ∧ w'.cell? ⟨(ad675.add ((x5_1).toNat * 3)).block, (ad675.add ((x5_1).toNat * 3)).off + 1, none⟩ = some (.slice A675_1 ((rd_T74 l1_0 x5_1).f1).length c675_1) ∧ w'.cell? ⟨(ad675.add ((x5_1).toNat * 3)).block, (ad675.add ((x5_1).toNat * 3)).off + 2, none⟩ = some (.slice A675_2 ((rd_T74 l1_0 x5_1).f2).length c675_2)) ∧ (w'.heap[gb672]? = some (.cells #[.slice (some ad674) l0_0.length c0_0] 29 (0, 0))) ∧ (w'.heap[gb673]? = some (.cells #[.slice (some ad675) l1_0.length c1_0] 29 (0, 0))) ∧ (w'.heap[s_.1]? = some (.cells #[.string (⟨#[]⟩ : ByteArray), .slice none 0 0, .slice none 0 0] 74 (0, 0))) ∧ (w'.heap[s_.2]? = some (.cells #[.string (⟨#[]⟩ : ByteArray), .slice none 0 0, .slice none 0 0] 74 (0, 0))) ∧ (w.heap.size ≤ s_.1) ∧ (w.heap.size ≤ s_.1) ∧ (gb672 ≠ s_.1) ∧ (s_.1 ≠ gb672) ∧ (gb673 ≠ s_.1) ∧ (s_.1 ≠ gb673) ∧ (s_.2 ≠ s_.1) ∧ (s_.1 ≠ s_.2) ∧ (w.heap.size ≤ s_.2) ∧ (w.heap.size ≤ s_.2) ∧ (gb672 ≠ s_.2) ∧ (s_.2 ≠ gb672) ∧ (gb673 ≠ s_.2) ∧ (s_.2 ≠ gb673) ∧ (Below w.heap.size w w')) ?_ ?_
       rotate_left
       ·
        intro hCont
        refine two_ (i := 10) (j := 11) (Ni := some 6) (Nj := some 7) #[true, true, true, true, true, true, true, true, true, true, true, false, false, false] #[true, true, true, true, true, true, true, true, true, true, false, true, false, false] rfl rfl rfl rfl (two_of HT_.out (by kernel_rfl)) (by decide) (by decide) (fun K hK => ?_) (fun K hK => ?_)
        ·
         skip
         refine box_step ?hg (N := 6) ?hd (cs := #[.string (⟨#[]⟩ : ByteArray), .slice none 0 0, .slice none 0 0]) (t := 74) ?hr ?_; (case hd => rfl); (case hg => rfl); (case hr => first | (go_simp; done) | (go_simp; rfl))
         intro gb676 hg w18 hbox hb
         have BK676 := Zh (hbox)
         have GW676 := Zh ((by rw [hg]; exact (below_size Zs) : w.heap.size ≤ gb676))
         have GE676 := Zh ((by rw [hg]; exact (below_size Zs) : w.heap.size ≤ gb676))
         replace HB := Zh (Zl Zs hb)
         have NB672_676 := Zh ((by rw [hg]; exact Nat.ne_of_lt (blk_lt (g := gb672) (o := .cells #[.slice (some ad674) l0_0.length c0_0] 29 (0, 0)) Zk) : gb672 ≠ gb676))
         have NB676_672 := Zh ((by rw [hg]; exact Nat.ne_of_gt (blk_lt (g := gb672) (o := .cells #[.slice (some ad674) l0_0.length c0_0] 29 (0, 0)) Zk) : gb676 ≠ gb672))
         replace BK672 := Zh (Zm (g := gb672) (o := .cells #[.slice (some ad674) l0_0.length c0_0] 29 (0, 0)) Zk hb)
         have NB673_676 := Zh ((by rw [hg]; exact Nat.ne_of_lt (blk_lt (g := gb673) (o := .cells #[.slice (some ad675) l1_0.length c1_0] 29 (0, 0)) Zk) : gb673 ≠ gb676))
         have NB676_673 := Zh ((by rw [hg]; exact Nat.ne_of_gt (blk_lt (g := gb673) (o := .cells #[.slice (some ad675) l1_0.length c1_0] 29 (0, 0)) Zk) : gb676 ≠ gb673))
         replace BK673 := Zh (Zm (g := gb673) (o := .cells #[.slice (some ad675) l1_0.length c1_0] 29 (0, 0)) Zk hb)
         clear hb hbox hg
         refine hK.out _ _ ⟨(blk_cell BK672.out 0).trans rfl, (blk_cell BK673.out 0).trans rfl, ((HB.out.cell (Zi w _ hw674_0)).trans hw674_0), ((HB.out.cell (Zi w _ hw674_1)).trans hw674_1), ((HB.out.cell (Zi w _ hw674_2)).trans hw674_2), ((HB.out.cell (Zi w _ hw675_0)).trans hw675_0), ((HB.out.cell (Zi w _ hw675_1)).trans hw675_1), ((HB.out.cell (Zi w _ hw675_2)).trans hw675_2)⟩ (fun hHeld => ?_)
         clear hK K
         refine norm_ (a' := ?_) ?_ ?_
         rotate_left
         ·
          show Act.put _ (some 6) _ = _
          simp only [Act.put, List.setIfInBounds_toArray, List.set_cons_zero, List.set_cons_succ, i64_w, i32_w]
          rfl
         refine one_ (i := 11) (N := some 7) #[true, true, true, true, true, true, true, true, true, true, true, true, false, false] rfl rfl (one_of HT_.out (by kernel_rfl)) (by decide) (fun K hK => ?_)
         refine box_step ?hg (N := 7) ?hd (cs := #[.string (⟨#[]⟩ : ByteArray), .slice none 0 0, .slice none 0 0]) (t := 74) ?hr ?_; (case hd => rfl); (case hg => rfl); (case hr => first | (go_simp; done) | (go_simp; rfl))
         intro gb677 hg w19 hbox hb
         have BK677 := Zh (hbox)
         have GW677 := Zh ((by rw [hg]; exact (below_size Zs) : w.heap.size ≤ gb677))
         have GE677 := Zh ((by rw [hg]; exact (below_size Zs) : w.heap.size ≤ gb677))
         replace HB := Zh (Zl Zs hb)
         have NB672_677 := Zh ((by rw [hg]; exact Nat.ne_of_lt (blk_lt (g := gb672) (o := .cells #[.slice (some ad674) l0_0.length c0_0] 29 (0, 0)) Zk) : gb672 ≠ gb677))
         have NB677_672 := Zh ((by rw [hg]; exact Nat.ne_of_gt (blk_lt (g := gb672) (o := .cells #[.slice (some ad674) l0_0.length c0_0] 29 (0, 0)) Zk) : gb677 ≠ gb672))
         replace BK672 := Zh (Zm (g := gb672) (o := .cells #[.slice (some ad674) l0_0.length c0_0] 29 (0, 0)) Zk hb)
         have NB673_677 := Zh ((by rw [hg]; exact Nat.ne_of_lt (blk_lt (g := gb673) (o := .cells #[.slice (some ad675) l1_0.length c1_0] 29 (0, 0)) Zk) : gb673 ≠ gb677))
         have NB677_673 := Zh ((by rw [hg]; exact Nat.ne_of_gt (blk_lt (g := gb673) (o := .cells #[.slice (some ad675) l1_0.length c1_0] 29 (0, 0)) Zk) : gb677 ≠ gb673))
         replace BK673 := Zh (Zm (g := gb673) (o := .cells #[.slice (some ad675) l1_0.length c1_0] 29 (0, 0)) Zk hb)
         have NB676_677 := Zh ((by rw [hg]; exact Nat.ne_of_lt (blk_lt (g := gb676) (o := .cells #[.string (⟨#[]⟩ : ByteArray), .slice none 0 0, .slice none 0 0] 74 (0, 0)) Zk) : gb676 ≠ gb677))
         have NB677_676 := Zh ((by rw [hg]; exact Nat.ne_of_gt (blk_lt (g := gb676) (o := .cells #[.string (⟨#[]⟩ : ByteArray), .slice none 0 0, .slice none 0 0] 74 (0, 0)) Zk) : gb677 ≠ gb676))
         replace BK676 := Zh (Zm (g := gb676) (o := .cells #[.string (⟨#[]⟩ : ByteArray), .slice none 0 0, .slice none 0 0] 74 (0, 0)) Zk hb)
         clear hb hbox hg
         refine hK.out _ _ ⟨(blk_cell BK672.out 0).trans rfl, (blk_cell BK673.out 0).trans rfl, ((HB.out.cell (Zi w _ hw674_0)).trans hw674_0), ((HB.out.cell (Zi w _ hw674_1)).trans hw674_1), ((HB.out.cell (Zi w _ hw674_2)).trans hw674_2), ((HB.out.cell (Zi w _ hw675_0)).trans hw675_0), ((HB.out.cell (Zi w _ hw675_1)).trans hw675_1), ((HB.out.cell (Zi w _ hw675_2)).trans hw675_2)⟩ (fun hHeld => ?_)
         clear hK K
         refine norm_ (a' := ?_) ?_ ?_
         rotate_left
         ·
          show Act.put _ (some 7) _ = _
          simp only [Act.put, List.setIfInBounds_toArray, List.set_cons_zero, List.set_cons_succ, i64_w, i32_w]
          rfl
         exact norm_ (by simp only [putAll, Act.put, List.setIfInBounds_toArray, List.set_cons_zero, List.set_cons_succ]) (hCont (gb676, gb677) _ ⟨hHeld, Zk, Zk, Zk, Zk, GW676.out, GE676.out, NB672_676.out, NB676_672.out, NB673_676.out, NB676_673.out, NB677_676.out, NB676_677.out, GW677.out, GE677.out, NB672_677.out, NB677_672.out, NB673_677.out, NB677_673.out, Zs⟩)
        skip
        refine box_step ?hg (N := 7) ?hd (cs := #[.string (⟨#[]⟩ : ByteArray), .slice none 0 0, .slice none 0 0]) (t := 74) ?hr ?_; (case hd => rfl); (case hg => rfl); (case hr => first | (go_simp; done) | (go_simp; rfl))
        intro gb677 hg w18 hbox hb
        have BK677 := Zh (hbox)
        have GW677 := Zh ((by rw [hg]; exact (below_size Zs) : w.heap.size ≤ gb677))
        have GE677 := Zh ((by rw [hg]; exact (below_size Zs) : w.heap.size ≤ gb677))
        replace HB := Zh (Zl Zs hb)
        have NB672_677 := Zh ((by rw [hg]; exact Nat.ne_of_lt (blk_lt (g := gb672) (o := .cells #[.slice (some ad674) l0_0.length c0_0] 29 (0, 0)) Zk) : gb672 ≠ gb677))
        have NB677_672 := Zh ((by rw [hg]; exact Nat.ne_of_gt (blk_lt (g := gb672) (o := .cells #[.slice (some ad674) l0_0.length c0_0] 29 (0, 0)) Zk) : gb677 ≠ gb672))
        replace BK672 := Zh (Zm (g := gb672) (o := .cells #[.slice (some ad674) l0_0.length c0_0] 29 (0, 0)) Zk hb)
        have NB673_677 := Zh ((by rw [hg]; exact Nat.ne_of_lt (blk_lt (g := gb673) (o := .cells #[.slice (some ad675) l1_0.length c1_0] 29 (0, 0)) Zk) : gb673 ≠ gb677))
        have NB677_673 := Zh ((by rw [hg]; exact Nat.ne_of_gt (blk_lt (g := gb673) (o := .cells #[.slice (some ad675) l1_0.length c1_0] 29 (0, 0)) Zk) : gb677 ≠ gb673))
        replace BK673 := Zh (Zm (g := gb673) (o := .cells #[.slice (some ad675) l1_0.length c1_0] 29 (0, 0)) Zk hb)
        clear hb hbox hg
        refine hK.out _ _ ⟨(blk_cell BK672.out 0).trans rfl, (blk_cell BK673.out 0).trans rfl, ((HB.out.cell (Zi w _ hw674_0)).trans hw674_0), ((HB.out.cell (Zi w _ hw674_1)).trans hw674_1), ((HB.out.cell (Zi w _ hw674_2)).trans hw674_2), ((HB.out.cell (Zi w _ hw675_0)).trans hw675_0), ((HB.out.cell (Zi w _ hw675_1)).trans hw675_1), ((HB.out.cell (Zi w _ hw675_2)).trans hw675_2)⟩ (fun hHeld => ?_)
        clear hK K
        refine norm_ (a' := ?_) ?_ ?_
        rotate_left
        ·
         show Act.put _ (some 7) _ = _
         simp only [Act.put, List.setIfInBounds_toArray, List.set_cons_zero, List.set_cons_succ, i64_w, i32_w]
         rfl
        refine one_ (i := 10) (N := some 6) #[true, true, true, true, true, true, true, true, true, true, true, true, false, false] rfl rfl (one_of HT_.out (by kernel_rfl)) (by decide) (fun K hK => ?_)
        refine box_step ?hg (N := 6) ?hd (cs := #[.string (⟨#[]⟩ : ByteArray), .slice none 0 0, .slice none 0 0]) (t := 74) ?hr ?_; (case hd => rfl); (case hg => rfl); (case hr => first | (go_simp; done) | (go_simp; rfl))
        intro gb676 hg w19 hbox hb
        have BK676 := Zh (hbox)
        have GW676 := Zh ((by rw [hg]; exact (below_size Zs) : w.heap.size ≤ gb676))
        have GE676 := Zh ((by rw [hg]; exact (below_size Zs) : w.heap.size ≤ gb676))
        replace HB := Zh (Zl Zs hb)
        have NB672_676 := Zh ((by rw [hg]; exact Nat.ne_of_lt (blk_lt (g := gb672) (o := .cells #[.slice (some ad674) l0_0.length c0_0] 29 (0, 0)) Zk) : gb672 ≠ gb676))
        have NB676_672 := Zh ((by rw [hg]; exact Nat.ne_of_gt (blk_lt (g := gb672) (o := .cells #[.slice (some ad674) l0_0.length c0_0] 29 (0, 0)) Zk) : gb676 ≠ gb672))
        replace BK672 := Zh (Zm (g := gb672) (o := .cells #[.slice (some ad674) l0_0.length c0_0] 29 (0, 0)) Zk hb)
        have NB673_676 := Zh ((by rw [hg]; exact Nat.ne_of_lt (blk_lt (g := gb673) (o := .cells #[.slice (some ad675) l1_0.length c1_0] 29 (0, 0)) Zk) : gb673 ≠ gb676))
        have NB676_673 := Zh ((by rw [hg]; exact Nat.ne_of_gt (blk_lt (g := gb673) (o := .cells #[.slice (some ad675) l1_0.length c1_0] 29 (0, 0)) Zk) : gb676 ≠ gb673))
        replace BK673 := Zh (Zm (g := gb673) (o := .cells #[.slice (some ad675) l1_0.length c1_0] 29 (0, 0)) Zk hb)
        have NB677_676 := Zh ((by rw [hg]; exact Nat.ne_of_lt (blk_lt (g := gb677) (o := .cells #[.string (⟨#[]⟩ : ByteArray), .slice none 0 0, .slice none 0 0] 74 (0, 0)) Zk) : gb677 ≠ gb676))
        have NB676_677 := Zh ((by rw [hg]; exact Nat.ne_of_gt (blk_lt (g := gb677) (o := .cells #[.string (⟨#[]⟩ : ByteArray), .slice none 0 0, .slice none 0 0] 74 (0, 0)) Zk) : gb676 ≠ gb677))
        replace BK677 := Zh (Zm (g := gb677) (o := .cells #[.string (⟨#[]⟩ : ByteArray), .slice none 0 0, .slice none 0 0] 74 (0, 0)) Zk hb)
        clear hb hbox hg
        refine hK.out _ _ ⟨(blk_cell BK672.out 0).trans rfl, (blk_cell BK673.out 0).trans rfl, ((HB.out.cell (Zi w _ hw674_0)).trans hw674_0), ((HB.out.cell (Zi w _ hw674_1)).trans hw674_1), ((HB.out.cell (Zi w _ hw674_2)).trans hw674_2), ((HB.out.cell (Zi w _ hw675_0)).trans hw675_0), ((HB.out.cell (Zi w _ hw675_1)).trans hw675_1), ((HB.out.cell (Zi w _ hw675_2)).trans hw675_2)⟩ (fun hHeld => ?_)
        clear hK K
        refine norm_ (a' := ?_) ?_ ?_
        rotate_left
        ·
         show Act.put _ (some 6) _ = _
         simp only [Act.put, List.setIfInBounds_toArray, List.set_cons_zero, List.set_cons_succ, i64_w, i32_w]
         rfl
        exact norm_ (by simp only [putAll, Act.put, List.setIfInBounds_toArray, List.set_cons_zero, List.set_cons_succ]) (hCont (gb676, gb677) _ ⟨hHeld, Zk, Zk, Zk, Zk, GW676.out, GE676.out, NB672_676.out, NB676_672.out, NB673_676.out, NB676_673.out, NB677_676.out, NB676_677.out, GW677.out, GE677.out, NB672_677.out, NB677_672.out, NB673_677.out, NB677_673.out, Zs⟩)
       rintro ⟨gb676, gb677⟩ w20 ⟨hS_, h0_, h1_, h2_, h3_, h4_, h5_, h6_, h7_, h8_, h9_, h10_, h11_, h12_, h13_, h14_, h15_, h16_, h17_, h18_⟩
       have n0_ : Aside0 (w20.heap[gb672]? = some (.cells #[.slice (some ad674) l0_0.length c0_0] 29 (0, 0))) := ⟨h0_⟩
       have n1_ : Aside0 (w20.heap[gb673]? = some (.cells #[.slice (some ad675) l1_0.length c1_0] 29 (0, 0))) := ⟨h1_⟩
       have n2_ : Aside0 (w20.heap[gb676]? = some (.cells #[.string (⟨#[]⟩ : ByteArray), .slice none 0 0, .slice none 0 0] 74 (0, 0))) := ⟨h2_⟩
       have n3_ : Aside0 (w20.heap[gb677]? = some (.cells #[.string (⟨#[]⟩ : ByteArray), .slice none 0 0, .slice none 0 0] 74 (0, 0))) := ⟨h3_⟩
       have n4_ : Aside0 (w.heap.size ≤ gb676) := ⟨h4_⟩
       have n5_ : Aside0 (w.heap.size ≤ gb676) := ⟨h5_⟩
       have n6_ : Aside0 (gb672 ≠ gb676) := ⟨h6_⟩
       have n7_ : Aside0 (gb676 ≠ gb672) := ⟨h7_⟩
       have n8_ : Aside0 (gb673 ≠ gb676) := ⟨h8_⟩
       have n9_ : Aside0 (gb676 ≠ gb673) := ⟨h9_⟩
       have n10_ : Aside0 (gb677 ≠ gb676) := ⟨h10_⟩
       have n11_ : Aside0 (gb676 ≠ gb677) := ⟨h11_⟩
       have n12_ : Aside0 (w.heap.size ≤ gb677) := ⟨h12_⟩
       have n13_ : Aside0 (w.heap.size ≤ gb677) := ⟨h13_⟩
       have n14_ : Aside0 (gb672 ≠ gb677) := ⟨h14_⟩
       have n15_ : Aside0 (gb677 ≠ gb672) := ⟨h15_⟩
       have n16_ : Aside0 (gb673 ≠ gb677) := ⟨h16_⟩
       have n17_ : Aside0 (gb677 ≠ gb673) := ⟨h17_⟩
       have n18_ : Aside0 (Below w.heap.size w w20) := ⟨h18_⟩
       clear BK672
       clear BK673
       clear HB
       clear h0_ h1_ h2_ h3_ h4_ h5_ h6_ h7_ h8_ h9_ h10_ h11_ h12_ h13_ h14_ h15_ h16_ h17_ h18_
       have BK672 := n0_
       have BK673 := n1_
       have BK676 := n2_
       have BK677 := n3_
       have GW676 := n4_
       have GE676 := n5_
       have NB672_676 := n6_
       have NB676_672 := n7_
       have NB673_676 := n8_
       have NB676_673 := n9_
       have NB677_676 := n10_
       have NB676_677 := n11_
       have GW677 := n12_
       have GE677 := n13_
       have NB672_677 := n14_
       have NB677_672 := n15_
       have NB673_677 := n16_
       have NB677_673 := n17_
       have HB := n18_
       clear n0_ n1_ n2_ n3_ n4_ n5_ n6_ n7_ n8_ n9_ n10_ n11_ n12_ n13_ n14_ n15_ n16_ n17_ n18_
       have hHeld : w20.cell? ⟨gb672, 0, none⟩ = some (.slice (some ad674) l0_0.length c0_0) ∧ w20.cell? ⟨gb673, 0, none⟩ = some (.slice (some ad675) l1_0.length c1_0) ∧ w20.cell? (ad674.add ((x5_1).toNat * 3)) = some (.string ((rd_T74 l0_0 x5_1).f0)) ∧ w20.cell? ⟨(ad674.add ((x5_1).toNat * 3)).block, (ad674.add ((x5_1).toNat * 3)).off + 1, none⟩ = some (.slice A674_1 ((rd_T74 l0_0 x5_1).f1).length c674_1) ∧ w20.cell? ⟨(ad674.add ((x5_1).toNat * 3)).block, (ad674.add ((x5_1).toNat * 3)).off + 2, none⟩ = some (.slice A674_2 ((rd_T74 l0_0 x5_1).f2).length c674_2) ∧ w20.cell? (ad675.add ((x5_1).toNat * 3)) = some (.string ((rd_T74 l1_0 x5_1).f0)) ∧ w20.cell? ⟨(ad675.add ((x5_1).toNat * 3)).block, (ad675.add ((x5_1).toNat * 3)).off + 1, none⟩ = some (.slice A675_1 ((rd_T74 l1_0 x5_1).f1).length c675_1) ∧ w20.cell? ⟨(ad675.add ((x5_1).toNat * 3)).block, (ad675.add ((x5_1).toNat * 3)).off + 2, none⟩ = some (.slice A675_2 ((rd_T74 l1_0 x5_1).f2).length c675_2) := hS_
       refine norm_ (a' := ?_) ?_ ?_
       rotate_left
       ·
        simp only [putAll, Act.put, List.setIfInBounds_toArray, List.set_cons_zero, List.set_cons_succ]
        rfl
       refine one_ (i := 12) (N := none) #[true, true, true, true, true, true, true, true, true, true, true, true, true, false] rfl rfl (one_of HT_.out (by kernel_rfl)) (by decide) (fun K hK => ?_)
       have hs21 : w20.cell? ⟨gb676, 0, none⟩ = some (.string (⟨#[]⟩ : ByteArray)) := (blk_cell BK676.out 0).trans rfl
       have hfs21 := Zn BK676.out 0
       have hns21_0 := NB672_676.out
       have hns21_1 := NB673_676.out
       have hns21_3 := NB677_676.out
       have hms21_0 := NB676_672.out
       have hms21_1 := NB676_673.out
       have hms21_3 := NB676_677.out
       have hs22 : w20.cell? ⟨gb676, 1, none⟩ = some (.slice none 0 0) := (blk_cell BK676.out 1).trans rfl
       have hfs22 := Zn BK676.out 1
       have hns22_0 := NB672_676.out
       have hns22_1 := NB673_676.out
       have hns22_3 := NB677_676.out
       have hms22_0 := NB676_672.out
       have hms22_1 := NB676_673.out
       have hms22_3 := NB676_677.out
       have hs23 : w20.cell? ⟨gb676, 2, none⟩ = some (.slice none 0 0) := (blk_cell BK676.out 2).trans rfl
       have hfs23 := Zn BK676.out 2
       have hns23_0 := NB672_676.out
       have hns23_1 := NB673_676.out
       have hns23_3 := NB677_676.out
       have hms23_0 := NB676_672.out
       have hms23_1 := NB676_673.out
       have hms23_3 := NB676_677.out
       refine skip_ (w1 := ?_) (by rfl) rfl ?_ ?_
       rotate_left
       ·
        go_simp
        rfl
       refine hK.out _ _ ⟨((cell_far (p := ⟨gb676, _, none⟩) NB672_676.out _).trans (((cell_far (p := ⟨gb676, _, none⟩) NB672_676.out _).trans (((cell_far (p := ⟨gb676, _, none⟩) NB672_676.out _).trans (hHeld.1)))))), ((cell_far (p := ⟨gb676, _, none⟩) NB673_676.out _).trans (((cell_far (p := ⟨gb676, _, none⟩) NB673_676.out _).trans (((cell_far (p := ⟨gb676, _, none⟩) NB673_676.out _).trans (hHeld.2.1)))))), ((cell_far (p := ⟨gb676, _, none⟩) (by first | exact Nat.ne_of_lt (Nat.lt_of_lt_of_le (by have := Zi _ _ hw674_0; first | rwa [add_block] at this | exact this) GW676.out) | (rw [add_block]; exact Nat.ne_of_lt (Nat.lt_of_lt_of_le (by have := Zi _ _ hw674_0; first | rwa [add_block] at this | exact this) GW676.out)) | (show (Addr.add _ _).block ≠ _; rw [add_block]; exact Nat.ne_of_lt (Nat.lt_of_lt_of_le (by have := Zi _ _ hw674_0; first | rwa [add_block] at this | exact this) GW676.out)) | (dsimp only; exact Nat.ne_of_lt (Nat.lt_of_lt_of_le (by have := Zi _ _ hw674_0; first | rwa [add_block] at this | exact this) GW676.out))) _).trans (((cell_far (p := ⟨gb676, _, none⟩) (by first | exact Nat.ne_of_lt (Nat.lt_of_lt_of_le (by have := Zi _ _ hw674_0; first | rwa [add_block] at this | exact this) GW676.out) | (rw [add_block]; exact Nat.ne_of_lt (Nat.lt_of_lt_of_le (by have := Zi _ _ hw674_0; first | rwa [add_block] at this | exact this) GW676.out)) | (show (Addr.add _ _).block ≠ _; rw [add_block]; exact Nat.ne_of_lt (Nat.lt_of_lt_of_le (by have := Zi _ _ hw674_0; first | rwa [add_block] at this | exact this) GW676.out)) | (dsimp only; exact Nat.ne_of_lt (Nat.lt_of_lt_of_le (by have := Zi _ _ hw674_0; first | rwa [add_block] at this | exact this) GW676.out))) _).trans (((cell_far (p := ⟨gb676, _, none⟩) (by first | exact Nat.ne_of_lt (Nat.lt_of_lt_of_le (by have := Zi _ _ hw674_0; first | rwa [add_block] at this | exact this) GW676.out) | (rw [add_block]; exact Nat.ne_of_lt (Nat.lt_of_lt_of_le (by have := Zi _ _ hw674_0; first | rwa [add_block] at this | exact this) GW676.out)) | (show (Addr.add _ _).block ≠ _; rw [add_block]; exact Nat.ne_of_lt (Nat.lt_of_lt_of_le (by have := Zi _ _ hw674_0; first | rwa [add_block] at this | exact this) GW676.out)) | (dsimp only; exact Nat.ne_of_lt (Nat.lt_of_lt_of_le (by have := Zi _ _ hw674_0; first | rwa [add_block] at this | exact this) GW676.out))) _).trans (hHeld.2.2.1)))))), ((cell_far (p := ⟨gb676, _, none⟩) (by first | exact Nat.ne_of_lt (Nat.lt_of_lt_of_le (by have := Zi _ _ hw674_1; first | rwa [add_block] at this | exact this) GW676.out) | (rw [add_block]; exact Nat.ne_of_lt (Nat.lt_of_lt_of_le (by have := Zi _ _ hw674_1; first | rwa [add_block] at this | exact this) GW676.out)) | (show (Addr.add _ _).block ≠ _; rw [add_block]; exact Nat.ne_of_lt (Nat.lt_of_lt_of_le (by have := Zi _ _ hw674_1; first | rwa [add_block] at this | exact this) GW676.out)) | (dsimp only; exact Nat.ne_of_lt (Nat.lt_of_lt_of_le (by have := Zi _ _ hw674_1; first | rwa [add_block] at this | exact this) GW676.out))) _).trans (((cell_far (p := ⟨gb676, _, none⟩) (by first | exact Nat.ne_of_lt (Nat.lt_of_lt_of_le (by have := Zi _ _ hw674_1; first | rwa [add_block] at this | exact this) GW676.out) | (rw [add_block]; exact Nat.ne_of_lt (Nat.lt_of_lt_of_le (by have := Zi _ _ hw674_1; first | rwa [add_block] at this | exact this) GW676.out)) | (show (Addr.add _ _).block ≠ _; rw [add_block]; exact Nat.ne_of_lt (Nat.lt_of_lt_of_le (by have := Zi _ _ hw674_1; first | rwa [add_block] at this | exact this) GW676.out)) | (dsimp only; exact Nat.ne_of_lt (Nat.lt_of_lt_of_le (by have := Zi _ _ hw674_1; first | rwa [add_block] at this | exact this) GW676.out))) _).trans (((cell_far (p := ⟨gb676, _, none⟩) (by first | exact Nat.ne_of_lt (Nat.lt_of_lt_of_le (by have := Zi _ _ hw674_1; first | rwa [add_block] at this | exact this) GW676.out) | (rw [add_block]; exact Nat.ne_of_lt (Nat.lt_of_lt_of_le (by have := Zi _ _ hw674_1; first | rwa [add_block] at this | exact this) GW676.out)) | (show (Addr.add _ _).block ≠ _; rw [add_block]; exact Nat.ne_of_lt (Nat.lt_of_lt_of_le (by have := Zi _ _ hw674_1; first | rwa [add_block] at this | exact this) GW676.out)) | (dsimp only; exact Nat.ne_of_lt (Nat.lt_of_lt_of_le (by have := Zi _ _ hw674_1; first | rwa [add_block] at this | exact this) GW676.out))) _).trans (hHeld.2.2.2.1)))))), ((cell_far (p := ⟨gb676, _, none⟩) (by first | exact Nat.ne_of_lt (Nat.lt_of_lt_of_le (by have := Zi _ _ hw674_2; first | rwa [add_block] at this | exact this) GW676.out) | (rw [add_block]; exact Nat.ne_of_lt (Nat.lt_of_lt_of_le (by have := Zi _ _ hw674_2; first | rwa [add_block] at this | exact this) GW676.out)) | (show (Addr.add _ _).block ≠ _; rw [add_block]; exact Nat.ne_of_lt (Nat.lt_of_lt_of_le (by have := Zi _ _ hw674_2; first | rwa [add_block] at this | exact this) GW676.out)) | (dsimp only; exact Nat.ne_of_lt (Nat.lt_of_lt_of_le (by have := Zi _ _ hw674_2; first | rwa [add_block] at this | exact this) GW676.out))) _).trans (((cell_far (p := ⟨gb676, _, none⟩) (by first | exact Nat.ne_of_lt (Nat.lt_of_lt_of_le (by have := Zi _ _ hw674_2; first | rwa [add_block] at this | exact this) GW676.out) | (rw [add_block]; exact Nat.ne_of_lt (Nat.lt_of_lt_of_le (by have := Zi _ _ hw674_2; first | rwa [add_block] at this | exact this) GW676.out)) | (show (Addr.add _ _).block ≠ _; rw [add_block]; exact Nat.ne_of_lt (Nat.lt_of_lt_of_le (by have := Zi _ _ hw674_2; first | rwa [add_block] at this | exact this) GW676.out)) | (dsimp only; exact Nat.ne_of_lt (Nat.lt_of_lt_of_le (by have := Zi _ _ hw674_2; first | rwa [add_block] at this | exact this) GW676.out))) _).trans (((cell_far (p := ⟨gb676, _, none⟩) (by first | exact Nat.ne_of_lt (Nat.lt_of_lt_of_le (by have := Zi _ _ hw674_2; first | rwa [add_block] at this | exact this) GW676.out) | (rw [add_block]; exact Nat.ne_of_lt (Nat.lt_of_lt_of_le (by have := Zi _ _ hw674_2; first | rwa [add_block] at this | exact this) GW676.out)) | (show (Addr.add _ _).block ≠ _; rw [add_block]; exact Nat.ne_of_lt (Nat.lt_of_lt_of_le (by have := Zi _ _ hw674_2; first | rwa [add_block] at this | exact this) GW676.out)) | (dsimp only; exact Nat.ne_of_lt (Nat.lt_of_lt_of_le (by have := Zi _ _ hw674_2; first | rwa [add_block] at this | exact this) GW676.out))) _).trans (hHeld.2.2.2.2.1)))))), ((cell_far (p := ⟨gb676, _, none⟩) (by first | exact Nat.ne_of_lt (Nat.lt_of_lt_of_le (by have := Zi _ _ hw675_0; first | rwa [add_block] at this | exact this) GW676.out) | (rw [add_block]; exact Nat.ne_of_lt (Nat.lt_of_lt_of_le (by have := Zi _ _ hw675_0; first | rwa [add_block] at this | exact this) GW676.out)) | (show (Addr.add _ _).block ≠ _; rw [add_block]; exact Nat.ne_of_lt (Nat.lt_of_lt_of_le (by have := Zi _ _ hw675_0; first | rwa [add_block] at this | exact this) GW676.out)) | (dsimp only; exact Nat.ne_of_lt (Nat.lt_of_lt_of_le (by have := Zi _ _ hw675_0; first | rwa [add_block] at this | exact this) GW676.out))) _).trans (((cell_far (p := ⟨gb676, _, none⟩) (by first | exact Nat.ne_of_lt (Nat.lt_of_lt_of_le (by have := Zi _ _ hw675_0; first | rwa [add_block] at this | exact this) GW676.out) | (rw [add_block]; exact Nat.ne_of_lt (Nat.lt_of_lt_of_le (by have := Zi _ _ hw675_0; first | rwa [add_block] at this | exact this) GW676.out)) | (show (Addr.add _ _).block ≠ _; rw [add_block]; exact Nat.ne_of_lt (Nat.lt_of_lt_of_le (by have := Zi _ _ hw675_0; first | rwa [add_block] at this | exact this) GW676.out)) | (dsimp only; exact Nat.ne_of_lt (Nat.lt_of_lt_of_le (by have := Zi _ _ hw675_0; first | rwa [add_block] at this | exact this) GW676.out))) _).trans (((cell_far (p := ⟨gb676, _, none⟩) (by first | exact Nat.ne_of_lt (Nat.lt_of_lt_of_le (by have := Zi _ _ hw675_0; first | rwa [add_block] at this | exact this) GW676.out) | (rw [add_block]; exact Nat.ne_of_lt (Nat.lt_of_lt_of_le (by have := Zi _ _ hw675_0; first | rwa [add_block] at this | exact this) GW676.out)) | (show (Addr.add _ _).block ≠ _; rw [add_block]; exact Nat.ne_of_lt (Nat.lt_of_lt_of_le (by have := Zi _ _ hw675_0; first | rwa [add_block] at this | exact this) GW676.out)) | (dsimp only; exact Nat.ne_of_lt (Nat.lt_of_lt_of_le (by have := Zi _ _ hw675_0; first | rwa [add_block] at this | exact this) GW676.out))) _).trans (hHeld.2.2.2.2.2.1)))))), ((cell_far (p := ⟨gb676, _, none⟩) (by first | exact Nat.ne_of_lt (Nat.lt_of_lt_of_le (by have := Zi _ _ hw675_1; first | rwa [add_block] at this | exact this) GW676.out) | (rw [add_block]; exact Nat.ne_of_lt (Nat.lt_of_lt_of_le (by have := Zi _ _ hw675_1; first | rwa [add_block] at this | exact this) GW676.out)) | (show (Addr.add _ _).block ≠ _; rw [add_block]; exact Nat.ne_of_lt (Nat.lt_of_lt_of_le (by have := Zi _ _ hw675_1; first | rwa [add_block] at this | exact this) GW676.out)) | (dsimp only; exact Nat.ne_of_lt (Nat.lt_of_lt_of_le (by have := Zi _ _ hw675_1; first | rwa [add_block] at this | exact this) GW676.out))) _).trans (((cell_far (p := ⟨gb676, _, none⟩) (by first | exact Nat.ne_of_lt (Nat.lt_of_lt_of_le (by have := Zi _ _ hw675_1; first | rwa [add_block] at this | exact this) GW676.out) | (rw [add_block]; exact Nat.ne_of_lt (Nat.lt_of_lt_of_le (by have := Zi _ _ hw675_1; first | rwa [add_block] at this | exact this) GW676.out)) | (show (Addr.add _ _).block ≠ _; rw [add_block]; exact Nat.ne_of_lt (Nat.lt_of_lt_of_le (by have := Zi _ _ hw675_1; first | rwa [add_block] at this | exact this) GW676.out)) | (dsimp only; exact Nat.ne_of_lt (Nat.lt_of_lt_of_le (by have := Zi _ _ hw675_1; first | rwa [add_block] at this | exact this) GW676.out))) _).trans (((cell_far (p := ⟨gb676, _, none⟩) (by first | exact Nat.ne_of_lt (Nat.lt_of_lt_of_le (by have := Zi _ _ hw675_1; first | rwa [add_block] at this | exact this) GW676.out) | (rw [add_block]; exact Nat.ne_of_lt (Nat.lt_of_lt_of_le (by have := Zi _ _ hw675_1; first | rwa [add_block] at this | exact this) GW676.out)) | (show (Addr.add _ _).block ≠ _; rw [add_block]; exact Nat.ne_of_lt (Nat.lt_of_lt_of_le (by have := Zi _ _ hw675_1; first | rwa [add_block] at this | exact this) GW676.out)) | (dsimp only; exact Nat.ne_of_lt (Nat.lt_of_lt_of_le (by have := Zi _ _ hw675_1; first | rwa [add_block] at this | exact this) GW676.out))) _).trans (hHeld.2.2.2.2.2.2.1)))))), ((cell_far (p := ⟨gb676, _, none⟩) (by first | exact Nat.ne_of_lt (Nat.lt_of_lt_of_le (by have := Zi _ _ hw675_2; first | rwa [add_block] at this | exact this) GW676.out) | (rw [add_block]; exact Nat.ne_of_lt (Nat.lt_of_lt_of_le (by have := Zi _ _ hw675_2; first | rwa [add_block] at this | exact this) GW676.out)) | (show (Addr.add _ _).block ≠ _; rw [add_block]; exact Nat.ne_of_lt (Nat.lt_of_lt_of_le (by have := Zi _ _ hw675_2; first | rwa [add_block] at this | exact this) GW676.out)) | (dsimp only; exact Nat.ne_of_lt (Nat.lt_of_lt_of_le (by have := Zi _ _ hw675_2; first | rwa [add_block] at this | exact this) GW676.out))) _).trans (((cell_far (p := ⟨gb676, _, none⟩) (by first | exact Nat.ne_of_lt (Nat.lt_of_lt_of_le (by have := Zi _ _ hw675_2; first | rwa [add_block] at this | exact this) GW676.out) | (rw [add_block]; exact Nat.ne_of_lt (Nat.lt_of_lt_of_le (by have := Zi _ _ hw675_2; first | rwa [add_block] at this | exact this) GW676.out)) | (show (Addr.add _ _).block ≠ _; rw [add_block]; exact Nat.ne_of_lt (Nat.lt_of_lt_of_le (by have := Zi _ _ hw675_2; first | rwa [add_block] at this | exact this) GW676.out)) | (dsimp only; exact Nat.ne_of_lt (Nat.lt_of_lt_of_le (by have := Zi _ _ hw675_2; first | rwa [add_block] at this | exact this) GW676.out))) _).trans (((cell_far (p := ⟨gb676, _, none⟩) (by first | exact Nat.ne_of_lt (Nat.lt_of_lt_of_le (by have := Zi _ _ hw675_2; first | rwa [add_block] at this | exact this) GW676.out) | (rw [add_block]; exact Nat.ne_of_lt (Nat.lt_of_lt_of_le (by have := Zi _ _ hw675_2; first | rwa [add_block] at this | exact this) GW676.out)) | (show (Addr.add _ _).block ≠ _; rw [add_block]; exact Nat.ne_of_lt (Nat.lt_of_lt_of_le (by have := Zi _ _ hw675_2; first | rwa [add_block] at this | exact this) GW676.out)) | (dsimp only; exact Nat.ne_of_lt (Nat.lt_of_lt_of_le (by have := Zi _ _ hw675_2; first | rwa [add_block] at this | exact this) GW676.out))) _).trans (hHeld.2.2.2.2.2.2.2))))))⟩ (fun hHeld => ?_)
       clear hK K
       refine one_ (i := 13) (N := none) #[true, true, true, true, true, true, true, true, true, true, true, true, true, true] rfl rfl (one_of HT_.out (by kernel_rfl)) (by decide) (fun K hK => ?_)
       have hs24 : w20.cell? ⟨gb677, 0, none⟩ = some (.string (⟨#[]⟩ : ByteArray)) := (blk_cell BK677.out 0).trans rfl
       have hfs24 := Zn BK677.out 0
       have hns24_0 := NB672_677.out
       have hns24_1 := NB673_677.out
       have hns24_2 := NB676_677.out
       have hms24_0 := NB677_672.out
       have hms24_1 := NB677_673.out
       have hms24_2 := NB677_676.out
       have hs25 : w20.cell? ⟨gb677, 1, none⟩ = some (.slice none 0 0) := (blk_cell BK677.out 1).trans rfl
       have hfs25 := Zn BK677.out 1
       have hns25_0 := NB672_677.out
       have hns25_1 := NB673_677.out
       have hns25_2 := NB676_677.out
       have hms25_0 := NB677_672.out
       have hms25_1 := NB677_673.out
       have hms25_2 := NB677_676.out
       have hs26 : w20.cell? ⟨gb677, 2, none⟩ = some (.slice none 0 0) := (blk_cell BK677.out 2).trans rfl
       have hfs26 := Zn BK677.out 2
       have hns26_0 := NB672_677.out
       have hns26_1 := NB673_677.out
       have hns26_2 := NB676_677.out
       have hms26_0 := NB677_672.out
       have hms26_1 := NB677_673.out
       have hms26_2 := NB677_676.out
       refine skip_ (w1 := ?_) (by rfl) rfl ?_ ?_
       rotate_left
       ·
        go_simp
        rfl
       refine hK.out _ _ ⟨((cell_far (p := ⟨gb677, _, none⟩) NB672_677.out _).trans (((cell_far (p := ⟨gb677, _, none⟩) NB672_677.out _).trans (((cell_far (p := ⟨gb677, _, none⟩) NB672_677.out _).trans (hHeld.1)))))), ((cell_far (p := ⟨gb677, _, none⟩) NB673_677.out _).trans (((cell_far (p := ⟨gb677, _, none⟩) NB673_677.out _).trans (((cell_far (p := ⟨gb677, _, none⟩) NB673_677.out _).trans (hHeld.2.1)))))), ((cell_far (p := ⟨gb677, _, none⟩) (by first | exact Nat.ne_of_lt (Nat.lt_of_lt_of_le (by have := Zi _ _ hw674_0; first | rwa [add_block] at this | exact this) GW677.out) | (rw [add_block]; exact Nat.ne_of_lt (Nat.lt_of_lt_of_le (by have := Zi _ _ hw674_0; first | rwa [add_block] at this | exact this) GW677.out)) | (show (Addr.add _ _).block ≠ _; rw [add_block]; exact Nat.ne_of_lt (Nat.lt_of_lt_of_le (by have := Zi _ _ hw674_0; first | rwa [add_block] at this | exact this) GW677.out)) | (dsimp only; exact Nat.ne_of_lt (Nat.lt_of_lt_of_le (by have := Zi _ _ hw674_0; first | rwa [add_block] at this | exact this) GW677.out))) _).trans (((cell_far (p := ⟨gb677, _, none⟩) (by first | exact Nat.ne_of_lt (Nat.lt_of_lt_of_le (by have := Zi _ _ hw674_0; first | rwa [add_block] at this | exact this) GW677.out) | (rw [add_block]; exact Nat.ne_of_lt (Nat.lt_of_lt_of_le (by have := Zi _ _ hw674_0; first | rwa [add_block] at this | exact this) GW677.out)) | (show (Addr.add _ _).block ≠ _; rw [add_block]; exact Nat.ne_of_lt (Nat.lt_of_lt_of_le (by have := Zi _ _ hw674_0; first | rwa [add_block] at this | exact this) GW677.out)) | (dsimp only; exact Nat.ne_of_lt (Nat.lt_of_lt_of_le (by have := Zi _ _ hw674_0; first | rwa [add_block] at this | exact this) GW677.out))) _).trans (((cell_far (p := ⟨gb677, _, none⟩) (by first | exact Nat.ne_of_lt (Nat.lt_of_lt_of_le (by have := Zi _ _ hw674_0; first | rwa [add_block] at this | exact this) GW677.out) | (rw [add_block]; exact Nat.ne_of_lt (Nat.lt_of_lt_of_le (by have := Zi _ _ hw674_0; first | rwa [add_block] at this | exact this) GW677.out)) | (show (Addr.add _ _).block ≠ _; rw [add_block]; exact Nat.ne_of_lt (Nat.lt_of_lt_of_le (by have := Zi _ _ hw674_0; first | rwa [add_block] at this | exact this) GW677.out)) | (dsimp only; exact Nat.ne_of_lt (Nat.lt_of_lt_of_le (by have := Zi _ _ hw674_0; first | rwa [add_block] at this | exact this) GW677.out))) _).trans (hHeld.2.2.1)))))), ((cell_far (p := ⟨gb677, _, none⟩) (by first | exact Nat.ne_of_lt (Nat.lt_of_lt_of_le (by have := Zi _ _ hw674_1; first | rwa [add_block] at this | exact this) GW677.out) | (rw [add_block]; exact Nat.ne_of_lt (Nat.lt_of_lt_of_le (by have := Zi _ _ hw674_1; first | rwa [add_block] at this | exact this) GW677.out)) | (show (Addr.add _ _).block ≠ _; rw [add_block]; exact Nat.ne_of_lt (Nat.lt_of_lt_of_le (by have := Zi _ _ hw674_1; first | rwa [add_block] at this | exact this) GW677.out)) | (dsimp only; exact Nat.ne_of_lt (Nat.lt_of_lt_of_le (by have := Zi _ _ hw674_1; first | rwa [add_block] at this | exact this) GW677.out))) _).trans (((cell_far (p := ⟨gb677, _, none⟩) (by first | exact Nat.ne_of_lt (Nat.lt_of_lt_of_le (by have := Zi _ _ hw674_1; first | rwa [add_block] at this | exact this) GW677.out) | (rw [add_block]; exact Nat.ne_of_lt (Nat.lt_of_lt_of_le (by have := Zi _ _ hw674_1; first | rwa [add_block] at this | exact this) GW677.out)) | (show (Addr.add _ _).block ≠ _; rw [add_block]; exact Nat.ne_of_lt (Nat.lt_of_lt_of_le (by have := Zi _ _ hw674_1; first | rwa [add_block] at this | exact this) GW677.out)) | (dsimp only; exact Nat.ne_of_lt (Nat.lt_of_lt_of_le (by have := Zi _ _ hw674_1; first | rwa [add_block] at this | exact this) GW677.out))) _).trans (((cell_far (p := ⟨gb677, _, none⟩) (by first | exact Nat.ne_of_lt (Nat.lt_of_lt_of_le (by have := Zi _ _ hw674_1; first | rwa [add_block] at this | exact this) GW677.out) | (rw [add_block]; exact Nat.ne_of_lt (Nat.lt_of_lt_of_le (by have := Zi _ _ hw674_1; first | rwa [add_block] at this | exact this) GW677.out)) | (show (Addr.add _ _).block ≠ _; rw [add_block]; exact Nat.ne_of_lt (Nat.lt_of_lt_of_le (by have := Zi _ _ hw674_1; first | rwa [add_block] at this | exact this) GW677.out)) | (dsimp only; exact Nat.ne_of_lt (Nat.lt_of_lt_of_le (by have := Zi _ _ hw674_1; first | rwa [add_block] at this | exact this) GW677.out))) _).trans (hHeld.2.2.2.1)))))), ((cell_far (p := ⟨gb677, _, none⟩) (by first | exact Nat.ne_of_lt (Nat.lt_of_lt_of_le (by have := Zi _ _ hw674_2; first | rwa [add_block] at this | exact this) GW677.out) | (rw [add_block]; exact Nat.ne_of_lt (Nat.lt_of_lt_of_le (by have := Zi _ _ hw674_2; first | rwa [add_block] at this | exact this) GW677.out)) | (show (Addr.add _ _).block ≠ _; rw [add_block]; exact Nat.ne_of_lt (Nat.lt_of_lt_of_le (by have := Zi _ _ hw674_2; first | rwa [add_block] at this | exact this) GW677.out)) | (dsimp only; exact Nat.ne_of_lt (Nat.lt_of_lt_of_le (by have := Zi _ _ hw674_2; first | rwa [add_block] at this | exact this) GW677.out))) _).trans (((cell_far (p := ⟨gb677, _, none⟩) (by first | exact Nat.ne_of_lt (Nat.lt_of_lt_of_le (by have := Zi _ _ hw674_2; first | rwa [add_block] at this | exact this) GW677.out) | (rw [add_block]; exact Nat.ne_of_lt (Nat.lt_of_lt_of_le (by have := Zi _ _ hw674_2; first | rwa [add_block] at this | exact this) GW677.out)) | (show (Addr.add _ _).block ≠ _; rw [add_block]; exact Nat.ne_of_lt (Nat.lt_of_lt_of_le (by have := Zi _ _ hw674_2; first | rwa [add_block] at this | exact this) GW677.out)) | (dsimp only; exact Nat.ne_of_lt (Nat.lt_of_lt_of_le (by have := Zi _ _ hw674_2; first | rwa [add_block] at this | exact this) GW677.out))) _).trans (((cell_far (p := ⟨gb677, _, none⟩) (by first | exact Nat.ne_of_lt (Nat.lt_of_lt_of_le (by have := Zi _ _ hw674_2; first | rwa [add_block] at this | exact this) GW677.out) | (rw [add_block]; exact Nat.ne_of_lt (Nat.lt_of_lt_of_le (by have := Zi _ _ hw674_2; first | rwa [add_block] at this | exact this) GW677.out)) | (show (Addr.add _ _).block ≠ _; rw [add_block]; exact Nat.ne_of_lt (Nat.lt_of_lt_of_le (by have := Zi _ _ hw674_2; first | rwa [add_block] at this | exact this) GW677.out)) | (dsimp only; exact Nat.ne_of_lt (Nat.lt_of_lt_of_le (by have := Zi _ _ hw674_2; first | rwa [add_block] at this | exact this) GW677.out))) _).trans (hHeld.2.2.2.2.1)))))), ((cell_far (p := ⟨gb677, _, none⟩) (by first | exact Nat.ne_of_lt (Nat.lt_of_lt_of_le (by have := Zi _ _ hw675_0; first | rwa [add_block] at this | exact this) GW677.out) | (rw [add_block]; exact Nat.ne_of_lt (Nat.lt_of_lt_of_le (by have := Zi _ _ hw675_0; first | rwa [add_block] at this | exact this) GW677.out)) | (show (Addr.add _ _).block ≠ _; rw [add_block]; exact Nat.ne_of_lt (Nat.lt_of_lt_of_le (by have := Zi _ _ hw675_0; first | rwa [add_block] at this | exact this) GW677.out)) | (dsimp only; exact Nat.ne_of_lt (Nat.lt_of_lt_of_le (by have := Zi _ _ hw675_0; first | rwa [add_block] at this | exact this) GW677.out))) _).trans (((cell_far (p := ⟨gb677, _, none⟩) (by first | exact Nat.ne_of_lt (Nat.lt_of_lt_of_le (by have := Zi _ _ hw675_0; first | rwa [add_block] at this | exact this) GW677.out) | (rw [add_block]; exact Nat.ne_of_lt (Nat.lt_of_lt_of_le (by have := Zi _ _ hw675_0; first | rwa [add_block] at this | exact this) GW677.out)) | (show (Addr.add _ _).block ≠ _; rw [add_block]; exact Nat.ne_of_lt (Nat.lt_of_lt_of_le (by have := Zi _ _ hw675_0; first | rwa [add_block] at this | exact this) GW677.out)) | (dsimp only; exact Nat.ne_of_lt (Nat.lt_of_lt_of_le (by have := Zi _ _ hw675_0; first | rwa [add_block] at this | exact this) GW677.out))) _).trans (((cell_far (p := ⟨gb677, _, none⟩) (by first | exact Nat.ne_of_lt (Nat.lt_of_lt_of_le (by have := Zi _ _ hw675_0; first | rwa [add_block] at this | exact this) GW677.out) | (rw [add_block]; exact Nat.ne_of_lt (Nat.lt_of_lt_of_le (by have := Zi _ _ hw675_0; first | rwa [add_block] at this | exact this) GW677.out)) | (show (Addr.add _ _).block ≠ _; rw [add_block]; exact Nat.ne_of_lt (Nat.lt_of_lt_of_le (by have := Zi _ _ hw675_0; first | rwa [add_block] at this | exact this) GW677.out)) | (dsimp only; exact Nat.ne_of_lt (Nat.lt_of_lt_of_le (by have := Zi _ _ hw675_0; first | rwa [add_block] at this | exact this) GW677.out))) _).trans (hHeld.2.2.2.2.2.1)))))), ((cell_far (p := ⟨gb677, _, none⟩) (by first | exact Nat.ne_of_lt (Nat.lt_of_lt_of_le (by have := Zi _ _ hw675_1; first | rwa [add_block] at this | exact this) GW677.out) | (rw [add_block]; exact Nat.ne_of_lt (Nat.lt_of_lt_of_le (by have := Zi _ _ hw675_1; first | rwa [add_block] at this | exact this) GW677.out)) | (show (Addr.add _ _).block ≠ _; rw [add_block]; exact Nat.ne_of_lt (Nat.lt_of_lt_of_le (by have := Zi _ _ hw675_1; first | rwa [add_block] at this | exact this) GW677.out)) | (dsimp only; exact Nat.ne_of_lt (Nat.lt_of_lt_of_le (by have := Zi _ _ hw675_1; first | rwa [add_block] at this | exact this) GW677.out))) _).trans (((cell_far (p := ⟨gb677, _, none⟩) (by first | exact Nat.ne_of_lt (Nat.lt_of_lt_of_le (by have := Zi _ _ hw675_1; first | rwa [add_block] at this | exact this) GW677.out) | (rw [add_block]; exact Nat.ne_of_lt (Nat.lt_of_lt_of_le (by have := Zi _ _ hw675_1; first | rwa [add_block] at this | exact this) GW677.out)) | (show (Addr.add _ _).block ≠ _; rw [add_block]; exact Nat.ne_of_lt (Nat.lt_of_lt_of_le (by have := Zi _ _ hw675_1; first | rwa [add_block] at this | exact this) GW677.out)) | (dsimp only; exact Nat.ne_of_lt (Nat.lt_of_lt_of_le (by have := Zi _ _ hw675_1; first | rwa [add_block] at this | exact this) GW677.out))) _).trans (((cell_far (p := ⟨gb677, _, none⟩) (by first | exact Nat.ne_of_lt (Nat.lt_of_lt_of_le (by have := Zi _ _ hw675_1; first | rwa [add_block] at this | exact this) GW677.out) | (rw [add_block]; exact Nat.ne_of_lt (Nat.lt_of_lt_of_le (by have := Zi _ _ hw675_1; first | rwa [add_block] at this | exact this) GW677.out)) | (show (Addr.add _ _).block ≠ _; rw [add_block]; exact Nat.ne_of_lt (Nat.lt_of_lt_of_le (by have := Zi _ _ hw675_1; first | rwa [add_block] at this | exact this) GW677.out)) | (dsimp only; exact Nat.ne_of_lt (Nat.lt_of_lt_of_le (by have := Zi _ _ hw675_1; first | rwa [add_block] at this | exact this) GW677.out))) _).trans (hHeld.2.2.2.2.2.2.1)))))), ((cell_far (p := ⟨gb677, _, none⟩) (by first | exact Nat.ne_of_lt (Nat.lt_of_lt_of_le (by have := Zi _ _ hw675_2; first | rwa [add_block] at this | exact this) GW677.out) | (rw [add_block]; exact Nat.ne_of_lt (Nat.lt_of_lt_of_le (by have := Zi _ _ hw675_2; first | rwa [add_block] at this | exact this) GW677.out)) | (show (Addr.add _ _).block ≠ _; rw [add_block]; exact Nat.ne_of_lt (Nat.lt_of_lt_of_le (by have := Zi _ _ hw675_2; first | rwa [add_block] at this | exact this) GW677.out)) | (dsimp only; exact Nat.ne_of_lt (Nat.lt_of_lt_of_le (by have := Zi _ _ hw675_2; first | rwa [add_block] at this | exact this) GW677.out))) _).trans (((cell_far (p := ⟨gb677, _, none⟩) (by first | exact Nat.ne_of_lt (Nat.lt_of_lt_of_le (by have := Zi _ _ hw675_2; first | rwa [add_block] at this | exact this) GW677.out) | (rw [add_block]; exact Nat.ne_of_lt (Nat.lt_of_lt_of_le (by have := Zi _ _ hw675_2; first | rwa [add_block] at this | exact this) GW677.out)) | (show (Addr.add _ _).block ≠ _; rw [add_block]; exact Nat.ne_of_lt (Nat.lt_of_lt_of_le (by have := Zi _ _ hw675_2; first | rwa [add_block] at this | exact this) GW677.out)) | (dsimp only; exact Nat.ne_of_lt (Nat.lt_of_lt_of_le (by have := Zi _ _ hw675_2; first | rwa [add_block] at this | exact this) GW677.out))) _).trans (((cell_far (p := ⟨gb677, _, none⟩) (by first | exact Nat.ne_of_lt (Nat.lt_of_lt_of_le (by have := Zi _ _ hw675_2; first | rwa [add_block] at this | exact this) GW677.out) | (rw [add_block]; exact Nat.ne_of_lt (Nat.lt_of_lt_of_le (by have := Zi _ _ hw675_2; first | rwa [add_block] at this | exact this) GW677.out)) | (show (Addr.add _ _).block ≠ _; rw [add_block]; exact Nat.ne_of_lt (Nat.lt_of_lt_of_le (by have := Zi _ _ hw675_2; first | rwa [add_block] at this | exact this) GW677.out)) | (dsimp only; exact Nat.ne_of_lt (Nat.lt_of_lt_of_le (by have := Zi _ _ hw675_2; first | rwa [add_block] at this | exact this) GW677.out))) _).trans (hHeld.2.2.2.2.2.2.2))))))⟩ (fun hHeld => ?_)
       clear hK K
       refine done_ (done_of HT_.out (by kernel_rfl)) ?_
       have hnb27 := NB676_672.out
       have hnc27 := NB672_676.out
       have hnb28 := NB676_673.out
       have hnc28 := NB673_676.out
       have hnb29 := NB676_677.out
       have hnc29 := NB677_676.out
       have hcz30_0 : w20.cell? ⟨gb676, 0, none⟩ = some (.string (⟨#[]⟩ : ByteArray)) := (blk_cell BK676.out 0).trans rfl
       have hcz30_1 : w20.cell? ⟨gb676, 1, none⟩ = some (.slice none 0 0) := (blk_cell BK676.out 1).trans rfl
       have hcz30_2 : w20.cell? ⟨gb676, 2, none⟩ = some (.slice none 0 0) := (blk_cell BK676.out 2).trans rfl
       have hfz30_0 := Zn BK676.out 0
       have hfz30_1 := Zn BK676.out 1
       have hfz30_2 := Zn BK676.out 2
       have hnb31 := NB677_672.out
       have hnc31 := NB672_677.out
       have hnb32 := NB677_673.out
       have hnc32 := NB673_677.out
       have hcz33_0 : w20.cell? ⟨gb677, 0, none⟩ = some (.string (⟨#[]⟩ : ByteArray)) := (blk_cell BK677.out 0).trans rfl
       have hcz33_1 : w20.cell? ⟨gb677, 1, none⟩ = some (.slice none 0 0) := (blk_cell BK677.out 1).trans rfl
       have hcz33_2 : w20.cell? ⟨gb677, 2, none⟩ = some (.slice none 0 0) := (blk_cell BK677.out 2).trans rfl
       have hfz33_0 := Zn BK677.out 0
       have hfz33_1 := Zn BK677.out 1
       have hfz33_2 := Zn BK677.out 2
       have HWS := Zh (fun (v1 v2 v3 v4 v5 v6 : Value) => (Zg (Zg (Zg (Zg (Zg (Zg HB.out GE676.out) GE676.out) GE676.out) GE677.out) GE677.out) GE677.out : Below w.heap.size w ((((((w20.setCell ⟨gb676, 0, none⟩ v1).setCell ⟨gb676, 1, none⟩ v2).setCell ⟨gb676, 2, none⟩ v3).setCell ⟨gb677, 0, none⟩ v4).setCell ⟨gb677, 1, none⟩ v5).setCell ⟨gb677, 2, none⟩ v6)))
       have hcs34 := fun (v1 v2 v3 v4 v5 v6 : Value) => C_string (P := Tryd.prog) (A := A674_1) (c := c674_1) Tryd.underlying33 Tryd.underlying5 Tryd.underlying9 (C_below HR674_1.out (HWS.out v1 v2 v3 v4 v5 v6))
       have hcs36 := fun (v1 v2 v3 v4 v5 v6 : Value) => C_string (P := Tryd.prog) (A := A675_1) (c := c675_1) Tryd.underlying33 Tryd.underlying5 Tryd.underlying9 (C_below HR675_1.out (HWS.out v1 v2 v3 v4 v5 v6))
       have hcs38 := fun (v1 v2 v3 v4 v5 v6 : Value) => C_string (P := Tryd.prog) (A := A674_2) (c := c674_2) Tryd.underlying33 Tryd.underlying5 Tryd.underlying9 (C_below HR674_2.out (HWS.out v1 v2 v3 v4 v5 v6))
       have hcs40 := fun (v1 v2 v3 v4 v5 v6 : Value) => C_string (P := Tryd.prog) (A := A675_2) (c := c675_2) Tryd.underlying33 Tryd.underlying5 Tryd.underlying9 (C_below HR675_2.out (HWS.out v1 v2 v3 v4 v5 v6))
       have H := HX_.out
       clear HX_
       by_cases c12 : ((rd_T74 l0_0 x5_1).f0).toList = ((rd_T74 l1_0 x5_1).f0).toList
       ·
        rw [if_pos c12] at H
        have c12b0 := beq_iff_eq.mpr c12
        have c12b1 := bne_eq_false_iff_eq.mpr c12
        clear c12
        by_cases c13 : (strOfNums ((rd_T74 l0_0 x5_1).f1)).toList = (strOfNums ((rd_T74 l1_0 x5_1).f1)).toList
        ·
         rw [if_pos c13] at H
         have c13b0 := beq_iff_eq.mpr c13
         have c13b1 := bne_eq_false_iff_eq.mpr c13
         clear c13
         by_cases c14 : (strOfNums ((rd_T74 l0_0 x5_1).f2)).toList = (strOfNums ((rd_T74 l1_0 x5_1).f2)).toList
         ·
          rw [if_pos c14] at H
          have c14b0 := beq_iff_eq.mpr c14
          have c14b1 := bne_eq_false_iff_eq.mpr c14
          clear c14
          have H' := Zh H
          clear H
          try go_wp2
          go_roundg k1
          case measure => have := HK1.out; omega
          case rel => exact ⟨(wrap64 (x5_1 + 1)), (by first | rfl | (simp; done) | (simp [*]; done)), H', ⟨by have := HK1.out; omega⟩, ⟨by (with_reducible repeat (first | refine Za ?_ _ | refine Zb ?_ | refine blk_alloc ?_ _)); refine blk_far ?_ NB672_677.out _; (with_reducible repeat (first | refine Za ?_ _ | refine Zb ?_ | refine blk_alloc ?_ _)); refine blk_far ?_ NB672_677.out _; (with_reducible repeat (first | refine Za ?_ _ | refine Zb ?_ | refine blk_alloc ?_ _)); refine blk_far ?_ NB672_677.out _; (with_reducible repeat (first | refine Za ?_ _ | refine Zb ?_ | refine blk_alloc ?_ _)); refine blk_far ?_ NB672_676.out _; (with_reducible repeat (first | refine Za ?_ _ | refine Zb ?_ | refine blk_alloc ?_ _)); refine blk_far ?_ NB672_676.out _; (with_reducible repeat (first | refine Za ?_ _ | refine Zb ?_ | refine blk_alloc ?_ _)); refine blk_far ?_ NB672_676.out _; (with_reducible repeat (first | refine Za ?_ _ | refine Zb ?_ | refine blk_alloc ?_ _)); exact BK672.out⟩, ⟨by (with_reducible repeat (first | refine Za ?_ _ | refine Zb ?_ | refine blk_alloc ?_ _)); refine blk_far ?_ NB673_677.out _; (with_reducible repeat (first | refine Za ?_ _ | refine Zb ?_ | refine blk_alloc ?_ _)); refine blk_far ?_ NB673_677.out _; (with_reducible repeat (first | refine Za ?_ _ | refine Zb ?_ | refine blk_alloc ?_ _)); refine blk_far ?_ NB673_677.out _; (with_reducible repeat (first | refine Za ?_ _ | refine Zb ?_ | refine blk_alloc ?_ _)); refine blk_far ?_ NB673_676.out _; (with_reducible repeat (first | refine Za ?_ _ | refine Zb ?_ | refine blk_alloc ?_ _)); refine blk_far ?_ NB673_676.out _; (with_reducible repeat (first | refine Za ?_ _ | refine Zb ?_ | refine blk_alloc ?_ _)); refine blk_far ?_ NB673_676.out _; (with_reducible repeat (first | refine Za ?_ _ | refine Zb ?_ | refine blk_alloc ?_ _)); exact BK673.out⟩, ⟨Zs⟩⟩
         rw [if_neg c14] at H
         have c14b0 := beq_eq_false_iff_ne.mpr c14
         have c14b1 := bne_iff_ne.mpr c14
         obtain rfl := Option.some.inj H
         try go_wp2
         go_ret
         exact ⟨ZE, Zs⟩
        rw [if_neg c13] at H
        have c13b0 := beq_eq_false_iff_ne.mpr c13
        have c13b1 := bne_iff_ne.mpr c13
        obtain rfl := Option.some.inj H
        try go_wp2
        go_ret
        exact ⟨ZE, Zs⟩
       rw [if_neg c12] at H
       have c12b0 := beq_eq_false_iff_ne.mpr c12
       have c12b1 := bne_iff_ne.mpr c12
       obtain rfl := Option.some.inj H
       try go_wp2
       go_ret
       exact ⟨ZE, Zs⟩
      rw [if_neg c11] at H
      exact absurd H (by simp)
     rw [if_neg c10] at H
     exact absurd H (by simp)
    rw [if_neg c9] at H
    have c9b0 : decide (x5_1 < (l0_0.length : Int)) = false := decide_eq_false c9
    clear c9
    obtain rfl := Option.some.inj H
    have hnb111 := NB672_673.out
    have hnc111 := NB673_672.out
    have hcz112_0 : wr.cell? ⟨gb672, 0, none⟩ = some (.slice A0_0 l0_0.length c0_0) := (blk_cell BK672.out 0).trans rfl
    have hfz112_0 := Zn BK672.out 0
    go_wp2
    go_ret
    exact ⟨ZE, Zs⟩
 rw [if_neg c3] at H
 have c3b0 : ((l0_0.length : Int) == (l1_0.length : Int)) = false := beq_eq_false_iff_ne.mpr c3
 have c3b1 : ((l0_0.length : Int) != (l1_0.length : Int)) = true := bne_iff_ne.mpr c3
 have c3b2 : (l0_0.length == l1_0.length) = false := by first | simpa using c3 | (simp at c3 ⊢; omega)
 obtain rfl := Option.some.inj H
 go_enter Tryd.func54, Tryd.ntmps54
 go_wp2_with (first | ((with_reducible refine gate_dst (N := 2) rfl ?_); refine box_event ?hg (N := 2) ?hd (cs := #[.slice A0_0 l0_0.length c0_0]) (t := 29) ?hr ?_; (case hd => rfl); (case hg => rfl); (case hr => first | (go_simp; done) | (go_simp; rfl)); intro gb672 hg w113 hbox hb; have BK672 := Zh (hbox); have GW672 := Zh ((by rw [hg]; exact (below_size Zs) : w.heap.size ≤ gb672)); have GE672 := Zh ((by rw [hg]; exact (below_size Zs) : w.heap.size ≤ gb672)); replace HB := Zh (Zl Zs hb); clear hb hbox hg) | ((with_reducible refine gate_dst (N := 3) rfl ?_); refine box_event ?hg (N := 3) ?hd (cs := #[.slice A1_0 l1_0.length c1_0]) (t := 29) ?hr ?_; (case hd => rfl); (case hg => rfl); (case hr => first | (go_simp; done) | (go_simp; rfl)); intro gb673 hg w114 hbox hb; have BK673 := Zh (hbox); have GW673 := Zh ((by rw [hg]; exact (below_size Zs) : w.heap.size ≤ gb673)); have GE673 := Zh ((by rw [hg]; exact (below_size Zs) : w.heap.size ≤ gb673)); replace HB := Zh (Zl Zs hb); have NB672_673 := Zh ((by rw [hg]; exact Nat.ne_of_lt (blk_lt (g := gb672) (o := .cells #[.slice A0_0 l0_0.length c0_0] 29 (0, 0)) Zk) : gb672 ≠ gb673)); have NB673_672 := Zh ((by rw [hg]; exact Nat.ne_of_gt (blk_lt (g := gb672) (o := .cells #[.slice A0_0 l0_0.length c0_0] 29 (0, 0)) Zk) : gb673 ≠ gb672)); replace BK672 := Zh (Zm (g := gb672) (o := .cells #[.slice A0_0 l0_0.length c0_0] 29 (0, 0)) Zk hb); clear hb hbox hg; have hnb115 := NB672_673.out; have hnc115 := NB673_672.out; have hcz116_0 : w114.cell? ⟨gb672, 0, none⟩ = some (.slice A0_0 l0_0.length c0_0) := (blk_cell BK672.out 0).trans rfl; have hfz116_0 := Zn BK672.out 0; have hcz117_0 : w114.cell? ⟨gb673, 0, none⟩ = some (.slice A1_0 l1_0.length c1_0) := (blk_cell BK673.out 0).trans rfl; have hfz117_0 := Zn BK673.out 0))
 go_ret
 exact ⟨ZE, Zs⟩
end Go.Proofs.YtmgeffgcihfpcaaDoor.F

namespace Go.Proofs.YtmgeffgcihfpcaaDoor.F
open Go.RowKit Go.Proofs.YtmgeffgcihfpcaaDoorW.PrintWords Go.Proofs.YtmgeffgcihfpcaaDoorW.PrintWords.Kd Go.Proofs.YtmgeffgcihfpcaaDoorW.PrintMore.Kd Go.Proofs.YtmgeffgcihfpcaaDoorW.PrintLast Go.Proofs.YtmgeffgcihfpcaaDoorW.PrintMore
attribute [local go_sem] max2_int min2_int max_two min_two max_three min_three max_four min_four   -- for this text's walks alone
set_option linter.unusedVariables false
set_option linter.unusedSimpArgs false
def laws_big.f (l0 : List Int) : Option (Bool) := some (decide ((l0.length : Int) > 1048576))
set_option maxHeartbeats 8000000 in
set_option maxRecDepth 100000 in
theorem laws_big.calls (A0 : Option Addr) (c0 : Nat) (l0 : List Int) (r : Bool) (w : World) (hr0 : Kd.C (Kd.int .u8) w A0 l0.length l0) (hc0 : l0.length ≤ c0) (h : laws_big.f l0 = some r) :
  Calls Tryd.prog 51 #[.slice A0 l0.length c0] w fun e w' => e = .returned (.bool r) ∧ Drawn0 w w' := by
 have HR0 := Zh hr0
 have HC0 := Zh hc0
 clear hr0 hc0
 have H : (some (decide ((l0.length : Int) > 1048576))) = some r := h
 clear h
 obtain rfl := Option.some.inj H
 go_enter Tryd.func51, Tryd.ntmps51
 go_wp2
 go_ret
 exact ⟨by first | rfl | (simp; done) | (simp [*]; done), by repeat (first | exact Drawn0.refl _ | apply Drawn0.step)⟩
def laws_at.f (l0 : List Int) (a1 : Int) : Option (Int) := if a1 < (l0.length : Int) then (if 0 ≤ a1 then (some (wrap64 (rd l0 a1))) else (none)) else (some (Int.tmod (wrap64 ((wrap64 (a1 * 13)) + (wrap64 ((l0.length : Int) * 5)))) 256))
set_option maxHeartbeats 8000000 in
set_option maxRecDepth 100000 in
theorem laws_at.calls (A0 : Option Addr) (c0 : Nat) (l0 : List Int) (a1 : Int) (r : Int) (w : World) (hr0 : Kd.C (Kd.int .u8) w A0 l0.length l0) (hc0 : l0.length ≤ c0) (h : laws_at.f l0 a1 = some r) :
  Calls Tryd.prog 53 #[.slice A0 l0.length c0, .int .i64 a1] w fun e w' => e = .returned (.int .i64 r) ∧ Drawn0 w w' := by
 have HR0 := Zh hr0
 have HC0 := Zh hc0
 clear hr0 hc0
 have H : (if a1 < (l0.length : Int) then (if 0 ≤ a1 then (some (wrap64 (rd l0 a1))) else (none)) else (some (Int.tmod (wrap64 ((wrap64 (a1 * 13)) + (wrap64 ((l0.length : Int) * 5)))) 256))) = some r := h
 clear h
 by_cases c3 : a1 < (l0.length : Int)
 ·
  rw [if_pos c3] at H
  have c3b0 : decide (a1 < (l0.length : Int)) = true := decide_eq_true c3
  clear c3
  by_cases c4 : 0 ≤ a1
  ·
   rw [if_pos c4] at H
   have c4b0 : decide (0 ≤ a1) = true := decide_eq_true c4
   clear c4
   obtain rfl := Option.some.inj H
   have p671 : 0 ≤ (a1 : Int) := Zo
   have q671 : a1 < (l0.length : Int) := Zo
   obtain ⟨ad671, e671, hx671_0⟩ := Kd.at_int HR0.out a1 p671 q671
   cases e671
   replace p671 := eq_true p671
   replace q671 := eq_true q671
   go_enter Tryd.func53, Tryd.ntmps53
   go_wp2
   go_ret
   exact ⟨by first | rfl | (simp; done) | (simp [*]; done), by repeat (first | exact Drawn0.refl _ | apply Drawn0.step)⟩
  rw [if_neg c4] at H
  exact absurd H (by simp)
 rw [if_neg c3] at H
 have c3b0 : decide (a1 < (l0.length : Int)) = false := decide_eq_false c3
 clear c3
 obtain rfl := Option.some.inj H
 go_enter Tryd.func53, Tryd.ntmps53
 go_wp2
 go_ret
 exact ⟨by first | rfl | (simp; done) | (simp [*]; done), by repeat (first | exact Drawn0.refl _ | apply Drawn0.step)⟩
def laws_copyBytes.l0 : Nat → List Int → List Int → Int → Option (List Int)
 | 0, _, _, _ => none
 | k + 1, x0, x3, x4 => if x4 < (x0.length : Int) then (if 0 ≤ x4 then (if x3.length < 140737488355328 then (laws_copyBytes.l0 k x0 (x3 ++ [rd x0 x4]) (wrap64 (x4 + 1))) else (none)) else (none)) else (some x3)
def laws_copyBytes.f (k : Nat) (l0 : List Int) : Option (List Int) := laws_copyBytes.l0 k l0 (([] : List Int)) 0
set_option maxHeartbeats 8000000 in
set_option maxRecDepth 100000 in
theorem laws_copyBytes.calls (k : Nat) (A0 : Option Addr) (c0 : Nat) (l0 : List Int) (r : List Int) (w : World) (hr0 : Kd.C (Kd.int .u8) w A0 l0.length l0) (hc0 : l0.length ≤ c0) (h : laws_copyBytes.f k l0 = some r) :
  Calls Tryd.prog 88 #[.slice A0 l0.length c0] w fun e w' => ∃ v0_ : Value, e = .returned (v0_) ∧ Kd.R (Kd.int .u8) 5 w' w.heap.size (fun _ => True) v0_ r ∧ Below w.heap.size w w' := by
 have HR0 := Zh hr0
 have HC0 := Zh hc0
 clear hr0 hc0
 have HB := Zh (Below.refl w.heap.size w)
 have H : (laws_copyBytes.l0 k l0 (([] : List Int)) 0) = some r := h
 clear h
 obtain ⟨y678, hy678⟩ : ∃ y_ : List Int, y_ = (([] : List Int)) := ⟨_, rfl⟩
 replace H : (laws_copyBytes.l0 k l0 y678 0) = some r := by first | (rw [hy678]; with_reducible exact H) | (have H2_ := (Option.bind_some _ _).symm.trans H; rw [hy678]; with_reducible exact H2_) | (have H2_ := (Option.bind_some _ _).symm.trans H; with_reducible exact H2_) | with_reducible exact H | (rw [hy678]; exact H) | exact H
 have Ny678 := Zh hy678
 clear hy678
 have H' := Zh H
 clear H
 go_enter Tryd.func88, Tryd.ntmps88
 go_wp2_with (first | ((with_reducible refine gate_dst (N := 5) rfl ?_); refine R_lit (Kd.int .u8) _ 5 ?hg (N := 5) ?hd (xs := ([] : List Int)) (inner := []) (ok := fun _ => True) (okp := fun _ => True) ?hr ?hp (fun _ hk => hk) trivial (Below.refl _ _) (Nat.le_refl _) (by simp) ?_; (case hd => rfl); (case hg => rfl); (case hr => first | (go_simp; done) | (go_simp; rfl)); (case hp => exact (Reps.none _ _)); intro v679 w2 ho3 hb hg_ hnew_; clear hg_ hnew_; (first | rw [← Ny678.out] at ho3 | (simp only [Int.reduceToNat] at ho3; rw [← Ny678.out] at ho3)); have HO680 := Zh (R_lower ho3 (below_size Zs)); replace HB := Zh (Zl Zs hb); clear hb ho3))
 go_loopg [3, 4] k (fun kq v3 v4 w' => ∃ (x3_1 : List Int) (x4_1 : Int), v4 = .int .i64 x4_1 ∧ Aside0 (laws_copyBytes.l0 kq l0 x3_1 x4_1 = some r) ∧ Aside0 (kq ≤ k) ∧ Aside0 (Kd.R (Kd.int .u8) 5 w' w.heap.size (fun _ => True) v3 x3_1) ∧ Aside0 (Below w.heap.size w w'))
 case atStart => exact ⟨(y678), (0), (by first | rfl | (simp; done) | (simp [*]; done)), H', ⟨Nat.le_refl _⟩, ⟨ZR HO680.out⟩, ⟨Zs⟩⟩
 case round =>
  clear H'
  try clear p2
  obtain ⟨x3_1, x4_1, rfl, HA, HK1, HO_3, HB⟩ := hrel
  cases gk with
  | zero => exact absurd HA.out (by simp [laws_copyBytes.l0])
  | succ k1 =>
   have H := HA.out
   clear HA
   simp only [laws_copyBytes.l0] at H
   by_cases c4 : x4_1 < (l0.length : Int)
   ·
    rw [if_pos c4] at H
    have c4b0 : decide (x4_1 < (l0.length : Int)) = true := decide_eq_true c4
    clear c4
    by_cases c5 : 0 ≤ x4_1
    ·
     rw [if_pos c5] at H
     have c5b0 : decide (0 ≤ x4_1) = true := decide_eq_true c5
     clear c5
     by_cases c6 : x3_1.length < 140737488355328
     ·
      rw [if_pos c6] at H
      have LMc6 := Zh c6
      clear c6
      obtain ⟨y682, hy682⟩ : ∃ y_ : List Int, y_ = (x3_1 ++ [rd l0 x4_1]) := ⟨_, rfl⟩
      replace H : (laws_copyBytes.l0 k1 l0 y682 (wrap64 (x4_1 + 1))) = some r := by first | (rw [hy682]; with_reducible exact H) | (have H2_ := (Option.bind_some _ _).symm.trans H; rw [hy682]; with_reducible exact H2_) | (have H2_ := (Option.bind_some _ _).symm.trans H; with_reducible exact H2_) | with_reducible exact H | (rw [hy682]; exact H) | exact H
      have Ny682 := Zh hy682
      clear hy682
      have H' := Zh H
      clear H
      have p681 : 0 ≤ (x4_1 : Int) := Zo
      have q681 : x4_1 < (l0.length : Int) := Zo
      obtain ⟨ad681, e681, hx681_0⟩ := Kd.at_int HR0.out x4_1 p681 q681
      cases e681
      replace hx681_0 := Zc HB.out hx681_0
      replace p681 := eq_true p681
      replace q681 := eq_true q681
      go_wp2_with (first | ((with_reducible refine gate_builtin (b := .append) (xs := #[.tmp 12, .tmp 17]) rfl ?_); at_builtin; refine R_append (Kd.int .u8) (w0 := w) w.heap.size rfl (.tmp 12) (.tmp 17) 33 5 (.int .u8 0) 1 rfl Tryd.underlying33 info5 rfl (by decide) (by omega) u3 x3_1 (rd l0 x4_1) [.int .u8 (rd l0 x4_1)] (fun _ => True) (fun _ => False) rfl rfl ?aP (fun _ hk => hk.elim) ?aF ?aO ?aB ?aS ?aL ?_; (case aP => exact rfl); (case aB => exact Zs); (case aF => exact (fun _ _ => trivial)); (case aO => exact (ZR HO_3.out)); (case aS => exact (below_size Zs)); (case aL => have := LMc6.out; omega); intro v683 w7 ho hb hg hat; rw [← Ny682.out] at ho; have n0_ := Zh (hb); have n1_ := Zh (ho); clear HB; clear HO_3; have HB := n0_; have HO684 := n1_; clear n0_ n1_; clear ho hb hg hat))
      go_roundg k1
      case measure => have := HK1.out; omega
      case rel => exact ⟨(y682), (wrap64 (x4_1 + 1)), (by first | rfl | (simp; done) | (simp [*]; done)), H', ⟨by have := HK1.out; omega⟩, ⟨ZR HO684.out⟩, ⟨Zs⟩⟩
     rw [if_neg c6] at H
     exact absurd H (by simp)
    rw [if_neg c5] at H
    exact absurd H (by simp)
   rw [if_neg c4] at H
   have c4b0 : decide (x4_1 < (l0.length : Int)) = false := decide_eq_false c4
   clear c4
   obtain rfl := Option.some.inj H
   go_wp2
   go_ret
   exact ⟨_, ZE, ZR HO_3.out, Zs⟩
def laws_join.l0 : Nat → List Int → List Int → Int → Option (List Int)
 | 0, _, _, _ => none
 | k + 1, x1, x5, x6 => if x6 < (x1.length : Int) then (if 0 ≤ x6 then (if x5.length < 140737488355328 then (laws_join.l0 k x1 (x5 ++ [rd x1 x6]) (wrap64 (x6 + 1))) else (none)) else (none)) else (some x5)
def laws_join.f (k : Nat) (l0 : List Int) (l1 : List Int) : Option (List Int) := (laws_copyBytes.f k l0).bind fun t685 => (laws_join.l0 k l1 t685 0)
set_option maxHeartbeats 8000000 in
set_option maxRecDepth 100000 in
theorem laws_join.calls (k : Nat) (A0 : Option Addr) (c0 : Nat) (l0 : List Int) (A1 : Option Addr) (c1 : Nat) (l1 : List Int) (r : List Int) (w : World) (hr0 : Kd.C (Kd.int .u8) w A0 l0.length l0) (hc0 : l0.length ≤ c0) (hr1 : Kd.C (Kd.int .u8) w A1 l1.length l1) (hc1 : l1.length ≤ c1) (h : laws_join.f k l0 l1 = some r) :
  Calls Tryd.prog 55 #[.slice A0 l0.length c0, .slice A1 l1.length c1] w fun e w' => ∃ v0_ : Value, e = .returned (v0_) ∧ Kd.R (Kd.int .u8) 5 w' w.heap.size (fun _ => True) v0_ r ∧ Below w.heap.size w w' := by
 have HR0 := Zh hr0
 have HC0 := Zh hc0
 clear hr0 hc0
 have HR1 := Zh hr1
 have HC1 := Zh hc1
 clear hr1 hc1
 have HB := Zh (Below.refl w.heap.size w)
 have H : ((laws_copyBytes.f k l0).bind fun t685 => (laws_join.l0 k l1 t685 0)) = some r := h
 clear h
 replace H := Option.bind_eq_some_iff.mp H
 obtain ⟨t685, A30, H⟩ := H
 replace H : (laws_join.l0 k l1 t685 0) = some r := H
 have A3 := Zh A30
 clear A30
 have H' := Zh H
 clear H
 go_enter Tryd.func55, Tryd.ntmps55
 go_wp2_with (first | ((with_reducible refine gate_callee (f := 88) rfl ?_); refine ZG (some 8) Tryd.func88 #[.slice A0 l0.length c0] rfl ?_; (with_reducible refine (laws_copyBytes.calls k _ _ l0 t685 _ ?side1 ?side2 A3.out).mono ?_); (case side1 => repeat (first | exact HR0.out | (with_reducible refine C_alloc ?_ _) | (with_reducible refine C_drewN ?_ _) | (with_reducible refine C_drew ?_))); (case side2 => exact HC0.out); rintro e w4 ⟨v686, rfl, ho0, hb⟩; refine ⟨_, rfl, ?_⟩; have HO687 := Zh (R_lower ho0 (below_size Zs)); replace HB := Zh (Zl Zs hb); (try clear hb); (try clear hb2); (try clear hk); (try clear hi); (try clear ho0)))
 go_loopg [5, 6] k (fun kq v5 v6 w' => ∃ (x5_1 : List Int) (x6_1 : Int), v6 = .int .i64 x6_1 ∧ Aside0 (laws_join.l0 kq l1 x5_1 x6_1 = some r) ∧ Aside0 (kq ≤ k) ∧ Aside0 (Kd.R (Kd.int .u8) 5 w' w.heap.size (fun _ => True) v5 x5_1) ∧ Aside0 (Below w.heap.size w w'))
 case atStart => exact ⟨(t685), (0), (by first | rfl | (simp; done) | (simp [*]; done)), H', ⟨Nat.le_refl _⟩, ⟨ZR HO687.out⟩, ⟨Zs⟩⟩
 case round =>
  clear H'
  try clear c1
  try clear p2
  obtain ⟨x5_1, x6_1, rfl, HA, HK1, HO_5, HB⟩ := hrel
  cases gk with
  | zero => exact absurd HA.out (by simp [laws_join.l0])
  | succ k1 =>
   have H := HA.out
   clear HA
   simp only [laws_join.l0] at H
   by_cases c5 : x6_1 < (l1.length : Int)
   ·
    rw [if_pos c5] at H
    have c5b0 : decide (x6_1 < (l1.length : Int)) = true := decide_eq_true c5
    clear c5
    by_cases c6 : 0 ≤ x6_1
    ·
     rw [if_pos c6] at H
     have c6b0 : decide (0 ≤ x6_1) = true := decide_eq_true c6
     clear c6
     by_cases c7 : x5_1.length < 140737488355328
     ·
      rw [if_pos c7] at H
      have LMc7 := Zh c7
      clear c7
      obtain ⟨y689, hy689⟩ : ∃ y_ : List Int, y_ = (x5_1 ++ [rd l1 x6_1]) := ⟨_, rfl⟩
      replace H : (laws_join.l0 k1 l1 y689 (wrap64 (x6_1 + 1))) = some r := by first | (rw [hy689]; with_reducible exact H) | (have H2_ := (Option.bind_some _ _).symm.trans H; rw [hy689]; with_reducible exact H2_) | (have H2_ := (Option.bind_some _ _).symm.trans H; with_reducible exact H2_) | with_reducible exact H | (rw [hy689]; exact H) | exact H
      have Ny689 := Zh hy689
      clear hy689
      have H' := Zh H
      clear H
      have p688 : 0 ≤ (x6_1 : Int) := Zo
      have q688 : x6_1 < (l1.length : Int) := Zo
      obtain ⟨ad688, e688, hx688_0⟩ := Kd.at_int HR1.out x6_1 p688 q688
      cases e688
      replace hx688_0 := Zc HB.out hx688_0
      replace p688 := eq_true p688
      replace q688 := eq_true q688
      go_wp2_with (first | ((with_reducible refine gate_builtin (b := .append) (xs := #[.tmp 15, .tmp 20]) rfl ?_); at_builtin; refine R_append (Kd.int .u8) (w0 := w) w.heap.size rfl (.tmp 15) (.tmp 20) 33 5 (.int .u8 0) 1 rfl Tryd.underlying33 info5 rfl (by decide) (by omega) u5 x5_1 (rd l1 x6_1) [.int .u8 (rd l1 x6_1)] (fun _ => True) (fun _ => False) rfl rfl ?aP (fun _ hk => hk.elim) ?aF ?aO ?aB ?aS ?aL ?_; (case aP => exact rfl); (case aB => exact Zs); (case aF => exact (fun _ _ => trivial)); (case aO => exact (ZR HO_5.out)); (case aS => exact (below_size Zs)); (case aL => have := LMc7.out; omega); intro v690 w8 ho hb hg hat; rw [← Ny689.out] at ho; have n0_ := Zh (hb); have n1_ := Zh (ho); clear HB; clear HO_5; have HB := n0_; have HO691 := n1_; clear n0_ n1_; clear ho hb hg hat))
      go_roundg k1
      case measure => have := HK1.out; omega
      case rel => exact ⟨(y689), (wrap64 (x6_1 + 1)), (by first | rfl | (simp; done) | (simp [*]; done)), H', ⟨by have := HK1.out; omega⟩, ⟨ZR HO691.out⟩, ⟨Zs⟩⟩
     rw [if_neg c7] at H
     exact absurd H (by simp)
    rw [if_neg c6] at H
    exact absurd H (by simp)
   rw [if_neg c5] at H
   have c5b0 : decide (x6_1 < (l1.length : Int)) = false := decide_eq_false c5
   clear c5
   obtain rfl := Option.some.inj H
   go_wp2
   go_ret
   exact ⟨_, ZE, ZR HO_5.out, Zs⟩
end Go.Proofs.YtmgeffgcihfpcaaDoor.F

namespace Go.Proofs.YtmgeffgcihfpcaaDoor.F
open Go.RowKit Go.Proofs.YtmgeffgcihfpcaaDoorW.PrintWords Go.Proofs.YtmgeffgcihfpcaaDoorW.PrintLast Go.Proofs.YtmgeffgcihfpcaaDoorW.PrintMore
open Go.Proofs.YtmgeffgcihfpcaaDoor
set_option linter.unusedVariables false
set_option linter.unusedSimpArgs false
def laws_FnFiles.in1 (nm : ByteArray) (d nx : List S74) : Nat → Int → Option Bool
  | 0, _ => none
  | k + 1, i => if i < (d.length : Int) then (if 0 ≤ i then ((impl_Content.f k d (rd_T74 d i).f0).bind fun x => (impl_Content.f k nx (rd_T74 d i).f0).bind fun y => if (rd_T74 d i).f0.toList = nm.toList ∨ x.1 = y.1 then laws_FnFiles.in1 nm d nx k (wrap64 (i + 1)) else none) else none) else some true
def laws_FnFiles.two (k : Nat) (nm : ByteArray) (now : List Int) (nx : List S74) : Option (List S74) := (impl_RenameFile.f k nx nm (⟨#[111, 116, 104, 101, 114]⟩ : ByteArray)).bind fun mv => (impl_Content.f k mv.1 (⟨#[111, 116, 104, 101, 114]⟩ : ByteArray)).bind fun bd => (impl_Content.f k mv.1 nm).bind fun st => if mv.2 = true then (if bd.2 = true then (if bd.1 = now then (if st.2 = false ∨ nm.toList = (⟨#[111, 116, 104, 101, 114]⟩ : ByteArray).toList then ((impl_RemoveFile.f k nx nm).bind fun gn => (impl_Content.f k gn.1 nm).bind fun s2 => if gn.2 = true then (if s2.2 = false then (if 1 ≤ now.length ∧ now.length ≤ 1000000 then ((impl_CutFile.f k nx nm ((now.take (now.length - 1)).length : Int)).bind fun ct => (impl_Content.f k ct.1 nm).bind fun cb => if ct.2 = true then (if cb.1 = now.take (now.length - 1) then some nx else none) else none) else none) else none) else none) else none) else none) else none) else none
def laws_FnFiles.one (k : Nat) (nm : ByteArray) (dat : List Int) (d : List S74) : Option (List S74) := (impl_Content.f k d nm).bind fun o => (impl_AppendFile.f k d nm dat).bind fun a => if a.2 = true then ((impl_Content.f k a.1 nm).bind fun w => (laws_join.f k o.1 dat).bind fun j => if w.2 = true then (if w.1 = j then (if o.2 = true ∨ o.1.length = 0 then ((laws_FnFiles.in1 nm d a.1 k 0).bind fun _ => laws_FnFiles.two k nm w.1 a.1) else none) else none) else none) else ((laws_sameDisk.f k a.1 d).bind fun s => if s = true then some d else none)
def laws_FnFiles.l0 (x : List S71) (dat : List Int) : Nat → List S74 → Int → Option (List S74)
  | 0, _, _ => none
  | k + 1, d, i => if i < (x.length : Int) then (if i < 6 then (if 0 ≤ i then ((laws_FnFiles.one k (rd_T71 x i).f1 dat d).bind fun e => laws_FnFiles.l0 x dat k e (wrap64 (i + 1))) else none) else some d) else some d
def laws_FnFiles.f (k : Nat) (l0 : List Int) : Option Bool := (laws_big.f l0).bind fun b => if b = true then some true else ((spec_DrawRightDisk.f k l0).bind fun g => (laws_at.f l0 3).bind fun t => (laws_FnFiles.l0 g.2.1 [t % 256, 7] k g.1 0).bind fun d => impl_DiskOk.f k d)
structure FD (w0 w : World) (gd : Nat) (Ad : Option Addr) (cd : Nat) (d : List S74) (Ao : Option Addr) (co : Nat) (x : List S71) (At : Option Addr) (ct : Nat) (dat : List Int) : Prop where
  b : Below w0.heap.size w0 w
  sd : Kd.S k74 74 w w0.heap.size (fun _ => True) (.slice Ad d.length cd) d
  so : Kd.S k71 71 w w0.heap.size (fun _ => True) (.slice Ao x.length co) x
  st : Kd.R (Kd.int .u8) 5 w w0.heap.size (fun _ => True) (.slice At dat.length ct) dat
  x : w.heap[gd]? = some (.cells #[.slice Ad d.length cd] 29 (0, 0))
  g : w0.heap.size ≤ gd
section
variable {w0 w w1 : World} {gd : Nat} {Ad : Option Addr} {cd : Nat} {d : List S74} {Ao : Option Addr} {co : Nat} {x : List S71} {At : Option Addr} {ct : Nat} {dat : List Int}
theorem FD.step (h : FD w0 w gd Ad cd d Ao co x At ct dat) (hb : Below w.heap.size w w1) : FD w0 w1 gd Ad cd d Ao co x At ct dat := ⟨Zl h.b hb, Kd.S_below h.sd hb, Kd.S_below h.so hb, Kd.R_below h.st hb, Zm h.x hb, h.g⟩
theorem FD.put {An : Option Addr} {cn : Nat} {n : List S74} (h : FD w0 w gd Ad cd d Ao co x At ct dat) (hs : Kd.S k74 74 w w0.heap.size (fun _ => True) (.slice An n.length cn) n) : FD w0 (w.setCell ⟨gd, 0, none⟩ (.slice An n.length cn)) gd An cn n Ao co x At ct dat :=
  ⟨Zg h.b h.g, Kd.S_mono (Kd.S_far (p := ⟨gd, 0, none⟩) (Kd.S_types hs h.x (by decide)) (fun _ hk => hk.2) _) (fun _ _ => trivial), Kd.S_mono (Kd.S_far (p := ⟨gd, 0, none⟩) (Kd.S_types h.so h.x (by decide)) (fun _ hk => hk.2) _) (fun _ _ => trivial), Kd.R_mono (Kd.R_far (p := ⟨gd, 0, none⟩) (Kd.R_types h.st h.x (by decide)) (fun _ hk => hk.2) _) (fun _ _ => trivial), blk_set h.x 0 _, h.g⟩
end
theorem wrapSub (n m : Nat) (h : m + 1 = n) (hn : n ≤ 1000000) : IntKind.i64.wrap ((n : Int) - 1) = (m : Int) := by
  refine (i64_w _).trans ?_
  unfold wrap64
  omega
set_option maxHeartbeats 16000000 in
set_option maxRecDepth 100000 in
theorem laws_FnFiles.calls (k : Nat) (A0 : Option Addr) (c0 : Nat) (l0 : List Int) (r : Bool) (w : World) (hr0 : Kd.C (Kd.int .u8) w A0 l0.length l0) (hc0 : l0.length ≤ c0) (h : laws_FnFiles.f k l0 = some r) :
    Calls Tryd.prog 12 #[.slice A0 l0.length c0] w fun e w' => e = .returned (.bool r) ∧ Below w.heap.size w w' := by
  have HR0 := Zh hr0
  have HC0 := Zh hc0
  clear hr0 hc0
  have hu29 := Tryd.underlying29
  have hu74 := Tryd.underlying74
  have hu71 := Tryd.underlying71
  unfold laws_FnFiles.f at h
  obtain ⟨tb, HA1, h⟩ := Option.bind_eq_some_iff.mp h
  replace HA1 := Zh HA1
  have H := Zh h
  clear h
  go_enter Tryd.func12, Tryd.ntmps12
  go_wp2_with fail
  with_reducible refine (laws_big.calls _ _ l0 tb _ HR0.out HC0.out HA1.out).mono ?_
  rintro e w1 ⟨rfl, hb⟩
  replace hb := Drawn0.below hb
  have HB := Zh hb
  clear hb
  have h := H.out
  clear H
  by_cases ct : tb = true
  · subst ct
    rw [if_pos rfl] at h
    obtain rfl := Option.some.inj h
    clear h
    go_wp2
    go_ret
    exact ⟨rfl, HB.out⟩
  rw [if_neg ct] at h
  obtain rfl : tb = false := by simpa using ct
  obtain ⟨⟨d0, ops, kp, fl⟩, HA2, h⟩ := Option.bind_eq_some_iff.mp h
  obtain ⟨t3, HA3, h⟩ := Option.bind_eq_some_iff.mp h
  obtain ⟨df, HL, HZ⟩ := Option.bind_eq_some_iff.mp h
  dsimp only at HL
  replace HA2 := Zh HA2
  replace HA3 := Zh HA3
  replace HL := Zh HL
  replace HZ := Zh HZ
  clear h ct
  go_wp2_with fail
  with_reducible refine (spec_DrawRightDisk.calls k _ _ l0 d0 ops kp fl _ (Kd.C_below HR0.out HB.out) HC0.out HA2.out).mono ?_
  rintro e w2 ⟨v0, v1, v2, v3, rfl, q0, q1, q2, q3, hb⟩
  obtain ⟨Ad0, cd0, rfl⟩ := Kd.S_slice q0
  obtain ⟨Ao, co, rfl⟩ := Kd.S_slice q1
  obtain ⟨Ak, ck, rfl⟩ := Kd.R_slice q2
  obtain ⟨Af, cf, rfl⟩ := Kd.R_slice q3
  have QD := Zh (Kd.S_lower q0 HB.out.size)
  have QO := Zh (Kd.S_lower q1 HB.out.size)
  replace HB := Zh (Zl HB.out hb)
  clear hb q0 q1 q2 q3 HA1 HA2
  go_wp2_with fail
  have hb := Zf (Below.refl w2.heap.size w2) (.cells #[.slice Ad0 d0.length cd0] 29)
  have hz := blk_new w2 (.cells #[.slice Ad0 d0.length cd0] 29)
  generalize w2.alloc (.cells #[.slice Ad0 d0.length cd0] 29) = w3 at hb hz ⊢
  have HX := Zh (And.intro hb hz)
  clear hb hz
  with_reducible refine (laws_at.calls _ _ l0 3 t3 _ (Kd.C_below HR0.out (Zl HB.out HX.out.1)) HC0.out HA3.out).mono ?_
  rintro e w4 ⟨rfl, hb⟩
  replace HX := Zh (And.intro (Zl HX.out.1 (Drawn0.below hb)) (Zm HX.out.2 (Drawn0.below hb)))
  clear hb HA3
  go_wp2_with ((with_reducible refine gate_dst (N := 45) rfl ?_); refine Kd.R_lit (Kd.int .u8) _ 5 ?hg (N := 45) ?hd (xs := ([t3 % 256, 7] : List Int)) (inner := [.int .u8 (t3 % 256), .int .u8 7]) (ok := fun _ => True) (okp := fun _ => True) ?hr ?hp (fun _ hk => hk) trivial (Below.refl _ _) (Nat.le_refl _) (by simp) ?_; (case hd => rfl); (case hg => rfl); (case hr => first | (go_simp; done) | (go_simp; rfl)); (case hp => exact (Reps.one (show Kd.M (Kd.int .u8) _ _ _ (t3 % 256) [.int .u8 (t3 % 256)] from rfl) (Reps.one (show Kd.M (Kd.int .u8) _ _ _ 7 [.int .u8 7] from rfl) (Reps.none _ _)))); intro v45 w5 hoA hbA hgA hnA; obtain ⟨At, cat, rfl⟩ := Kd.R_slice hoA; have QT := Zh (And.intro hoA hbA); clear hoA hbA hgA hnA)
  have FDH : Aside0 (FD w w5 w2.heap.size Ad0 cd0 d0 Ao co ops At cat [t3 % 256, 7]) := ⟨⟨Zl HB.out (Zl HX.out.1 QT.out.2), Kd.S_below QD.out (Zl HX.out.1 QT.out.2), Kd.S_below QO.out (Zl HX.out.1 QT.out.2), Kd.R_lower QT.out.1 (Zl HB.out HX.out.1).size, Zm HX.out.2 QT.out.2, HB.out.size⟩⟩
  clear QD QO QT HX HB
  go_loopg [8] k (fun gg v8 w' => ∃ (i : Int) (d : List S74) (Ad : Option Addr) (cd : Nat), v8 = .int .i64 i ∧ Aside0 (laws_FnFiles.l0 ops [t3 % 256, 7] gg d i = some df) ∧ Aside0 (FD w w' w2.heap.size Ad cd d Ao co ops At cat [t3 % 256, 7]))
  case atStart => exact ⟨0, d0, Ad0, cd0, rfl, HL, FDH⟩
  case round =>
    clear FDH HL
    obtain ⟨i, d, Ad, cd, rfl, HL, FDH⟩ := hrel
    obtain ⟨ws, hws⟩ : ∃ ws, ws = wr := ⟨_, rfl⟩
    rw [← hws] at FDH ⊢
    clear hws
    cases gk with
    | zero => exact absurd HL.out (by simp [laws_FnFiles.l0])
    | succ k1 =>
      have h := HL.out
      clear HL
      simp only [laws_FnFiles.l0] at h
      by_cases c3 : i < (ops.length : Int)
      rotate_left
      · rw [if_neg c3] at h
        obtain rfl := Option.some.inj h
        clear h
        have q3 := decide_eq_false c3
        clear c3
        have hc0 := (blk_cell FDH.out.x 0).trans (show _ = some (.slice Ad d.length cd) from rfl)
        have hl0 := blk_lt FDH.out.x
        go_wp2_with fail
        with_reducible refine (impl_DiskOk.calls k _ _ d r _ (Kd.S_reads' FDH.out.sd).2.2 (Kd.S_reads' FDH.out.sd).2.1 HZ.out).mono ?_
        rintro e w6 ⟨rfl, hb⟩
        go_wp2
        go_ret
        exact ⟨rfl, Zl FDH.out.b hb⟩
      rw [if_pos c3] at h
      by_cases c6 : i < 6
      rotate_left
      · rw [if_neg c6] at h
        obtain rfl := Option.some.inj h
        clear h
        have q3 := decide_eq_true c3
        have q6 := decide_eq_false c6
        clear c3 c6
        have hc0 := (blk_cell FDH.out.x 0).trans (show _ = some (.slice Ad d.length cd) from rfl)
        have hl0 := blk_lt FDH.out.x
        go_wp2_with fail
        with_reducible refine (impl_DiskOk.calls k _ _ d r _ (Kd.S_reads' FDH.out.sd).2.2 (Kd.S_reads' FDH.out.sd).2.1 HZ.out).mono ?_
        rintro e w6 ⟨rfl, hb⟩
        go_wp2
        go_ret
        exact ⟨rfl, Zl FDH.out.b hb⟩
      rw [if_pos c6] at h
      by_cases c4 : 0 ≤ i
      rotate_left
      · rw [if_neg c4] at h; exact absurd h (by simp)
      rw [if_pos c4] at h
      obtain ⟨d', HS, HL⟩ := Option.bind_eq_some_iff.mp h
      clear h
      replace HL := Zh HL
      unfold laws_FnFiles.one at HS
      obtain ⟨⟨old, had⟩, HA4, HS⟩ := Option.bind_eq_some_iff.mp HS
      obtain ⟨⟨nx, okk⟩, HA5, HS⟩ := Option.bind_eq_some_iff.mp HS
      dsimp only at HS
      replace HA4 := Zh HA4
      replace HA5 := Zh HA5
      have HHS := Zh HS
      clear HS
      have q3 := decide_eq_true c3
      have q6 := decide_eq_true c6
      obtain ⟨ad, A3, c3_, e_, E0, E1, E2, E3, E4, g3l, g3⟩ := at_T71 (Kd.S_reads' FDH.out.so).2.2 i c4 c3
      cases e_
      have p3 := eq_true c3
      have p4 := eq_true c4
      clear E0 E2 E3 E4 g3l g3 c3 c4 c6
      have ST := Zh (LW.St.start ws)
      have hc0 := (blk_cell FDH.out.x 0).trans (show _ = some (.slice Ad d.length cd) from rfl)
      have hl0 := blk_lt FDH.out.x
      go_wp2_with fail
      with_reducible refine (impl_Content.calls k1 _ _ d (rd_T71 ops i).f1 old had _ (Kd.S_reads' FDH.out.sd).2.2 (Kd.S_reads' FDH.out.sd).2.1 HA4.out).mono ?_
      rintro e_ w6 ⟨v, rfl, ho, hb⟩
      obtain ⟨Aq, cq, rfl⟩ := Kd.R_slice ho
      replace ST := Zh (ST.out.rowR rfl hb ho)
      clear hb ho hc0 hl0 q3 q6 E1 p3 p4 HA4
      as_aux_lemma =>
      have hc0 := (blk_cell (FDH.out.step ST.out.b).x 0).trans (show _ = some (.slice Ad d.length cd) from rfl)
      have hl0 := blk_lt (FDH.out.step ST.out.b).x
      go_wp2_with fail
      refine (impl_AppendFile.calls k1 _ _ d (rd_T71 ops i).f1 _ _ [t3 % 256, 7] nx okk _ (Kd.S_reads' (FDH.out.step ST.out.b).sd).2.2 (Kd.S_reads' FDH.out.sd).2.1 (Kd.R_reads' (FDH.out.step ST.out.b).st).2.2 (Kd.R_reads' FDH.out.st).2.1 HA5.out).mono ?_
      rintro e_ w7 ⟨v, rfl, ho, hb⟩
      obtain ⟨An, cn, rfl⟩ := Kd.S_slice ho
      replace ST := Zh (ST.out.row hb ho)
      clear hb ho hc0 hl0 HA5
      as_aux_lemma =>
      have HS := HHS.out
      clear HHS
      have hc0 := (blk_cell (FDH.out.step ST.out.b).x 0).trans (show _ = some (.slice Ad d.length cd) from rfl)
      have hl0 := blk_lt (FDH.out.step ST.out.b).x
      by_cases cok : okk = true
      rotate_left
      · rw [if_neg cok] at HS
        obtain rfl : okk = false := by simpa using cok
        obtain ⟨sd, HA6, HS⟩ := Option.bind_eq_some_iff.mp HS
        by_cases csd : sd = true
        rotate_left
        · rw [if_neg csd] at HS; exact absurd HS (by simp)
        subst csd
        rw [if_pos rfl] at HS
        obtain rfl := Option.some.inj HS
        replace HA6 := Zh HA6
        clear HS cok
        go_wp2_with fail
        replace ST := Zh (ST.out.alloc #[.slice An nx.length cn] 29 (g := w7.heap.size) rfl)
        generalize w7.alloc (.cells #[.slice An nx.length cn] 29) = w8 at ST ⊢
        clear hc0 hl0
        with_reducible refine (laws_sameDisk.calls k1 _ _ nx _ _ d true _ (ST.out.reads 1 rfl).2.2 (ST.out.reads 1 rfl).2.1 (Kd.S_reads' (FDH.out.step ST.out.b).sd).2.2 (Kd.S_reads' FDH.out.sd).2.1 HA6.out).mono ?_
        rintro e_ w9 ⟨rfl, hb⟩
        replace ST := Zh (ST.out.step hb)
        clear hb HA6
        go_wp2_with fail
        go_roundg k1
        case measure => omega
        case rel => exact ⟨_, d, Ad, cd, rfl, HL, ⟨FDH.out.step ST.out.b⟩⟩
      subst cok
      rw [if_pos rfl] at HS
      obtain ⟨⟨now, thr⟩, HA6, HS⟩ := Option.bind_eq_some_iff.mp HS
      obtain ⟨j, HA7, HS⟩ := Option.bind_eq_some_iff.mp HS
      dsimp only at HS
      by_cases cth : thr = true
      rotate_left
      · rw [if_neg cth] at HS; exact absurd HS (by simp)
      subst cth
      rw [if_pos rfl] at HS
      by_cases cj : now = j
      rotate_left
      · rw [if_neg cj] at HS; exact absurd HS (by simp)
      rw [if_pos cj] at HS
      by_cases cho : had = true ∨ old.length = 0
      rotate_left
      · rw [if_neg cho] at HS; exact absurd HS (by simp)
      rw [if_pos cho] at HS
      subst cj
      obtain ⟨z1, HI, HS⟩ := Option.bind_eq_some_iff.mp HS
      replace HA6 := Zh HA6
      replace HA7 := Zh HA7
      replace HI := Zh HI
      have HHS := Zh HS
      have CHO := Zh cho
      clear HS cho
      as_aux_lemma =>
      go_wp2_with fail
      replace ST := Zh (ST.out.alloc #[.slice An nx.length cn] 29 (g := w7.heap.size) rfl)
      generalize w7.alloc (.cells #[.slice An nx.length cn] 29) = w8 at ST ⊢
      clear hc0 hl0
      with_reducible refine (impl_Content.calls k1 _ _ nx (rd_T71 ops i).f1 now true _ (ST.out.reads 1 rfl).2.2 (ST.out.reads 1 rfl).2.1 HA6.out).mono ?_
      rintro e_ w9 ⟨v, rfl, ho, hb⟩
      obtain ⟨Aw, cw, rfl⟩ := Kd.R_slice ho
      replace ST := Zh (ST.out.rowR rfl hb ho)
      clear hb ho HA6
      as_aux_lemma =>
      go_upto_region 15 with fail
      (try simp only [Act.put, List.setIfInBounds_toArray, List.set_cons_zero, List.set_cons_succ])
      go_cut [105] (fun v105 wc => ∃ F1 F2 F3 : Nat → Prop, v105 = .bool false ∧ Aside0 (LW.St ws wc [LW.row (Kd.int .u8) 5 ws.heap.size (.slice Aw now.length cw) now F1, LW.box w7.heap.size #[.slice An nx.length cn] 29, LW.row k74 74 ws.heap.size (.slice An nx.length cn) nx F2, LW.row (Kd.int .u8) 5 ws.heap.size (.slice Aq old.length cq) old F3]))
      case first => as_aux_lemma =>
        replace ST := Zh ST.out.drew
        refine start_ (n := 20) (S := fun w' => (convert 33 9 (.slice Aw now.length cw)).run Tryd.prog w' = .ok (.string (strOfNums now)) w') (ds := []) #[false, false, false, false, false, false, false, false, false, false, false, false, false, false, false, false, false, false, false, false] (by kernel_rfl) rfl rfl (Kd.C_string (P := Tryd.prog) (A := Aw) (c := cw) Tryd.underlying33 Tryd.underlying5 Tryd.underlying9 (ST.out.reads 0 rfl).2.2) (fun hHeld => ?_)
        generalize w9.drew = w10 at ST hHeld ⊢
        refine SQ.p0 0 86 ?_
        refine SQ.p0 1 87 ?_
        refine SQ.p0 2 88 ?_
        refine SQ.p0 3 89 ?_
        refine SQ.t0 4 90 hHeld ?_
        refine SQ.p0 5 91 ?_
        refine SQ.p0 6 92 ?_
        refine one_ (i := 7) (N := some 93) #[true, true, true, true, true, true, true, true, false, false, false, false, false, false, false, false, false, false, false, false] rfl rfl (by kernel_rfl) (by decide) (fun K hK => ?_)
        refine goes_ Tryd.func55 (by kernel_rfl) rfl #[.slice Aq old.length cq, .slice At 2 cat] (by rfl) rfl rfl (by (try simp only [List.map_toArray, List.map_cons, List.map_nil]); first | done | rfl) ?_
        refine (laws_join.calls k1 _ _ old _ _ [t3 % 256, 7] now _ (ST.out.reads 3 rfl).2.2 (ST.out.reads 3 rfl).2.1 (Kd.R_reads' (FDH.out.step ST.out.b).st).2.2 (Kd.R_reads' FDH.out.st).2.1 HA7.out).mono ?_
        rintro e_ w11 ⟨v, rfl, ho, hb⟩
        refine ⟨_, rfl, ?_⟩
        obtain ⟨Aj, cj, rfl⟩ := Kd.R_slice ho
        replace ST := Zh (ST.out.rowR rfl hb ho)
        clear hb ho hHeld
        refine hK.out _ _ (Kd.C_string (P := Tryd.prog) (A := Aw) (c := cw) Tryd.underlying33 Tryd.underlying5 Tryd.underlying9 (ST.out.reads 1 rfl).2.2) (fun hHeld => ?_)
        clear hK K
        refine norm_ (a' := ?_) ?_ ?_
        rotate_left
        · show Act.put _ (some 93) _ = _
          simp only [Act.put, List.setIfInBounds_toArray, List.set_cons_zero, List.set_cons_succ, i64_w, i32_w]
          rfl
        refine one_ (i := 8) (N := some 94) #[true, true, true, true, true, true, true, true, true, false, false, false, false, false, false, false, false, false, false, false] rfl rfl (by kernel_rfl) (by decide) (fun K hK => ?_)
        have hcv := Kd.C_string (P := Tryd.prog) (A := Aj) (c := cj) Tryd.underlying33 Tryd.underlying5 Tryd.underlying9 (ST.out.reads 0 rfl).2.2
        refine value_ (w1 := ?_) (v := ?_) (by rfl) rfl ?_ ?_
        rotate_left 2
        · go_simp
          constructor
          · rfl
          rfl
        clear hcv hHeld
        refine hK.out _ _ (Kd.C_string (P := Tryd.prog) (A := Aw) (c := cw) Tryd.underlying33 Tryd.underlying5 Tryd.underlying9 (ST.out.reads 1 rfl).2.2) (fun hHeld => ?_)
        clear hK K
        refine norm_ (a' := ?_) ?_ ?_
        rotate_left
        · show Act.put _ (some 94) _ = _
          simp only [Act.put, List.setIfInBounds_toArray, List.set_cons_zero, List.set_cons_succ, i64_w, i32_w]
          rfl
        have n6 : ((strOfNums now).toList != (strOfNums now).toList) = false := bne_self_eq_false _
        refine SQ.p0 9 95 ?_
        refine SQ.p0 10 96 ?_
        refine SQ.p0 11 97 ?_
        refine SQ.p0 12 98 ?_
        refine SQ.p0 13 99 ?_
        refine SQ.p0 14 100 ?_
        clear n6 hHeld
        replace ST := Zh (ST.out.sel [1, 2, 3, 4] (by decide))
        cases had with
        | true => as_aux_lemma =>
          refine SQ.o0 15 101 ?_
          refine SQ.o0 16 102 ?_
          refine SQ.o0 17 103 ?_
          refine SQ.p0 18 104 ?_
          refine SQ.p0 19 105 ?_
          refine done_ (by kernel_rfl) ?_
          go_wp2
          go_meet
          case rel => exact ⟨_, _, _, rfl, ST⟩
        | false => as_aux_lemma =>
          have n7 : ((old.length : Int) != 0) = false := by rw [CHO.out.resolve_left (by decide)]; rfl
          refine SQ.p0 15 101 ?_
          refine SQ.p0 16 102 ?_
          refine SQ.p0 17 103 ?_
          refine SQ.p0 18 104 ?_
          refine SQ.p0 19 105 ?_
          refine done_ (by kernel_rfl) ?_
          go_wp2
          go_meet
          case rel => exact ⟨_, _, _, rfl, ST⟩
      case rest =>
      clear ST HA7 CHO
      obtain ⟨F1, F2, F3, rfl, ST⟩ := hcut
      as_aux_lemma =>
      go_wp2_with fail
      go_loopg [16] k1 (fun gg v16 w' => ∃ (i2 : Int) (F1 F2 F3 : Nat → Prop), v16 = .int .i64 i2 ∧ Aside0 (laws_FnFiles.in1 (rd_T71 ops i).f1 d nx gg i2 = some z1) ∧ Aside0 (LW.St ws w' [LW.row (Kd.int .u8) 5 ws.heap.size (.slice Aw now.length cw) now F1, LW.box w7.heap.size #[.slice An nx.length cn] 29, LW.row k74 74 ws.heap.size (.slice An nx.length cn) nx F2, LW.row (Kd.int .u8) 5 ws.heap.size (.slice Aq old.length cq) old F3]))
      case atStart => exact ⟨0, F1, F2, F3, rfl, HI, ST⟩
      case round =>
        clear ST HI
        obtain ⟨i2, F1, F2, F3, rfl, HI, ST⟩ := hrel
        cases gk with
        | zero => exact absurd HI.out (by simp [laws_FnFiles.in1])
        | succ k2 =>
          have h := HI.out
          clear HI
          simp only [laws_FnFiles.in1] at h
          have hc0 := (blk_cell (FDH.out.step ST.out.b).x 0).trans (show _ = some (.slice Ad d.length cd) from rfl)
          have hl0 := blk_lt (FDH.out.step ST.out.b).x
          by_cases c5 : i2 < (d.length : Int)
          · as_aux_lemma =>
            rw [if_pos c5] at h
            by_cases c7 : 0 ≤ i2
            rotate_left
            · rw [if_neg c7] at h; exact absurd h (by simp)
            rw [if_pos c7] at h
            obtain ⟨⟨xs, xo⟩, HB1, h⟩ := Option.bind_eq_some_iff.mp h
            obtain ⟨⟨ys, yo⟩, HB2, h⟩ := Option.bind_eq_some_iff.mp h
            dsimp only at h
            by_cases cc : (rd_T74 d i2).f0.toList = (rd_T71 ops i).f1.toList ∨ xs = ys
            rotate_left
            · rw [if_neg cc] at h; exact absurd h (by simp)
            rw [if_pos cc] at h
            have HI := Zh h
            have CC := Zh cc
            replace HB1 := Zh HB1
            replace HB2 := Zh HB2
            clear h cc
            have q5 := decide_eq_true c5
            obtain ⟨ad2, B1, m1, B2, m2, e_, x0, x1, x2, g1l, g1, g2l, g2⟩ := at_T74 (Kd.S_reads' FDH.out.sd).2.2 i2 c7 c5
            cases e_
            have X0 := Zh x0
            clear x0 x1 x2 g1l g1 g2l g2
            have p5 := eq_true c5
            have p7 := eq_true c7
            clear c5 c7
            as_aux_lemma =>
            go_wp2_with fail
            clear hc0 hl0 q5
            replace ST := Zh ST.out.drew
            refine start_ (n := 13) (S := fun w' => w'.cell? ⟨w2.heap.size, 0, none⟩ = some (.slice (some ad2) d.length cd) ∧ w'.cell? (ad2.add (i2.toNat * 3)) = some (.string (rd_T74 d i2).f0)) (ds := []) #[false, false, false, false, false, false, false, false, false, false, false, false, false] (by kernel_rfl) rfl rfl ⟨(blk_cell (FDH.out.step ST.out.b).x 0).trans rfl, (ST.out.b.cell (Zi ws _ X0.out)).trans X0.out⟩ (fun hHeld => ?_)
            generalize wr.drew = w12 at ST hHeld ⊢
            refine SQ.t0 0 114 hHeld ?_
            refine SQ.p0 1 115 ?_
            refine SQ.t0 2 116 hHeld ?_
            refine SQ.p0 3 117 ?_
            refine SQ.p0 4 118 ?_
            refine SQ.p0 5 119 ?_
            refine SQ.t0 6 120 hHeld ?_
            refine one_ (i := 7) (N := some 121) #[true, true, true, true, true, true, true, true, false, false, false, false, false] rfl rfl (by kernel_rfl) (by decide) (fun K hK => ?_)
            refine goes_ Tryd.func20 (by kernel_rfl) rfl #[.agg #[.slice (some ad2) d.length cd], .string (rd_T74 d i2).f0] (by rfl) rfl rfl (by (try simp only [List.map_toArray, List.map_cons, List.map_nil]); first | done | rfl) ?_
            with_reducible refine (impl_Content.calls k2 _ _ d (rd_T74 d i2).f0 xs xo _ (Kd.S_reads' (FDH.out.step ST.out.b).sd).2.2 (Kd.S_reads' FDH.out.sd).2.1 HB1.out).mono ?_
            rintro e_ w12c ⟨v, rfl, ho, hb⟩
            refine ⟨_, rfl, ?_⟩
            obtain ⟨Ax, cx, rfl⟩ := Kd.R_slice ho
            replace ST := Zh (ST.out.rowR rfl hb ho)
            clear hb ho hHeld HB1
            refine hK.out _ _ ⟨(blk_cell (FDH.out.step ST.out.b).x 0).trans rfl, (ST.out.b.cell (Zi ws _ X0.out)).trans X0.out⟩ (fun hHeld => ?_)
            clear hK K
            refine norm_ (a' := ?_) ?_ ?_
            rotate_left
            · show Act.put _ (some 121) _ = _
              simp only [Act.put, List.setIfInBounds_toArray, List.set_cons_zero, List.set_cons_succ, i64_w, i32_w]
              rfl
            refine SQ.p0 8 113 ?_
            refine SQ.p0 9 122 ?_
            refine SQ.p0 10 123 ?_
            refine SQ.p0 11 17 ?_
            refine SQ.p0 12 18 ?_
            refine done_ (by kernel_rfl) ?_
            clear hHeld
            go_wp2_with fail
            replace ST := Zh ST.out.drew
            refine start_ (n := 13) (S := fun w' => w'.cell? ⟨w2.heap.size, 0, none⟩ = some (.slice (some ad2) d.length cd) ∧ w'.cell? (ad2.add (i2.toNat * 3)) = some (.string (rd_T74 d i2).f0) ∧ w'.cell? ⟨w7.heap.size, 0, none⟩ = some (.slice An nx.length cn)) (ds := []) #[false, false, false, false, false, false, false, false, false, false, false, false, false] (by kernel_rfl) rfl rfl ⟨(blk_cell (FDH.out.step ST.out.b).x 0).trans rfl, (ST.out.b.cell (Zi ws _ X0.out)).trans X0.out, ST.out.cell 2 rfl 0 rfl⟩ (fun hHeld => ?_)
            generalize w12c.drew = w13 at ST hHeld ⊢
            refine SQ.t0 0 125 hHeld ?_
            refine SQ.p0 1 126 ?_
            refine SQ.t0 2 127 hHeld ?_
            refine SQ.p0 3 128 ?_
            refine SQ.p0 4 129 ?_
            refine SQ.p0 5 130 ?_
            refine SQ.t0 6 131 hHeld ?_
            refine one_ (i := 7) (N := some 132) #[true, true, true, true, true, true, true, true, false, false, false, false, false] rfl rfl (by kernel_rfl) (by decide) (fun K hK => ?_)
            refine goes_ Tryd.func20 (by kernel_rfl) rfl #[.agg #[.slice An nx.length cn], .string (rd_T74 d i2).f0] (by rfl) rfl rfl (by (try simp only [List.map_toArray, List.map_cons, List.map_nil]); first | done | rfl) ?_
            with_reducible refine (impl_Content.calls k2 _ _ nx (rd_T74 d i2).f0 ys yo _ (ST.out.reads 3 rfl).2.2 (ST.out.reads 3 rfl).2.1 HB2.out).mono ?_
            rintro e_ w13c ⟨v, rfl, ho, hb⟩
            refine ⟨_, rfl, ?_⟩
            obtain ⟨Ay, cy, rfl⟩ := Kd.R_slice ho
            replace ST := Zh (ST.out.rowR rfl hb ho)
            clear hb ho hHeld HB2
            refine hK.out _ _ ⟨(blk_cell (FDH.out.step ST.out.b).x 0).trans rfl, (ST.out.b.cell (Zi ws _ X0.out)).trans X0.out, ST.out.cell 3 rfl 0 rfl⟩ (fun hHeld => ?_)
            clear hK K
            refine norm_ (a' := ?_) ?_ ?_
            rotate_left
            · show Act.put _ (some 132) _ = _
              simp only [Act.put, List.setIfInBounds_toArray, List.set_cons_zero, List.set_cons_succ, i64_w, i32_w]
              rfl
            refine SQ.p0 8 124 ?_
            refine SQ.p0 9 133 ?_
            refine SQ.p0 10 134 ?_
            refine SQ.p0 11 19 ?_
            refine SQ.p0 12 20 ?_
            refine done_ (by kernel_rfl) ?_
            clear hHeld
            have hc0 := (blk_cell (FDH.out.step ST.out.b).x 0).trans (show _ = some (.slice (some ad2) d.length cd) from rfl)
            have hl0 := blk_lt (FDH.out.step ST.out.b).x
            have hx0 := (ST.out.b.cell (Zi ws _ X0.out)).trans X0.out
            as_aux_lemma =>
            by_cases cn0 : (rd_T74 d i2).f0.toList = (rd_T71 ops i).f1.toList
            · as_aux_lemma =>
              have n1 : ((rd_T74 d i2).f0.toList != (rd_T71 ops i).f1.toList) = false := bne_eq_false_iff_eq.mpr cn0
              have n1b : ((rd_T74 d i2).f0.toList == (rd_T71 ops i).f1.toList) = true := beq_iff_eq.mpr cn0
              clear cn0
              go_wp2_with fail
              clear n1 n1b hc0 hl0 hx0 p5 p7
              go_roundg k2
              case measure => omega
              case rel => exact ⟨_, _, _, _, rfl, HI, ⟨ST.out.sel [2, 3, 4, 5] (by decide)⟩⟩
            as_aux_lemma =>
            have n1 : ((rd_T74 d i2).f0.toList != (rd_T71 ops i).f1.toList) = true := bne_iff_ne.mpr cn0
            have n1b : ((rd_T74 d i2).f0.toList == (rd_T71 ops i).f1.toList) = false := beq_eq_false_iff_ne.mpr cn0
            obtain rfl := CC.out.resolve_left cn0
            have hv0 := Kd.C_string (P := Tryd.prog) (A := Ay) (c := cy) Tryd.underlying33 Tryd.underlying5 Tryd.underlying9 (ST.out.reads 0 rfl).2.2
            have hv1 := Kd.C_string (P := Tryd.prog) (A := Ax) (c := cx) Tryd.underlying33 Tryd.underlying5 Tryd.underlying9 (ST.out.reads 1 rfl).2.2
            have n6 : ((strOfNums xs).toList != (strOfNums xs).toList) = false := bne_self_eq_false _
            clear cn0
            go_wp2_with fail
            clear n1 n1b n6 hv0 hv1 hc0 hl0 hx0 p5 p7
            go_roundg k2
            case measure => omega
            case rel => exact ⟨_, _, _, _, rfl, HI, ⟨ST.out.sel [2, 3, 4, 5] (by decide)⟩⟩
          as_aux_lemma =>
          have q5 := decide_eq_false c5
          clear h c5
          have HS := HHS.out
          clear HHS
          simp only [laws_FnFiles.two] at HS
          obtain ⟨⟨mv, mo⟩, HB1, HT⟩ := Option.bind_eq_some_iff.mp HS
          clear HS
          have HS := HT
          clear HT
          simp only at HS
          obtain ⟨⟨bd, bo⟩, HB2, HT⟩ := Option.bind_eq_some_iff.mp HS
          clear HS
          have HS := HT
          clear HT
          simp only at HS
          obtain ⟨⟨s1, so⟩, HB3, HT⟩ := Option.bind_eq_some_iff.mp HS
          clear HS
          have HS := HT
          clear HT
          simp only at HS
          by_cases cmo : mo = true
          rotate_left
          · rw [if_neg cmo] at HS; exact absurd HS (by simp)
          rw [if_pos cmo] at HS
          subst cmo
          by_cases cbo : bo = true
          rotate_left
          · rw [if_neg cbo] at HS; exact absurd HS (by simp)
          rw [if_pos cbo] at HS
          subst cbo
          by_cases cbd : bd = now
          rotate_left
          · rw [if_neg cbd] at HS; exact absurd HS (by simp)
          rw [if_pos cbd] at HS
          subst cbd
          by_cases cso : so = false ∨ (rd_T71 ops i).f1.toList = (⟨#[111, 116, 104, 101, 114]⟩ : ByteArray).toList
          rotate_left
          · rw [if_neg cso] at HS; exact absurd HS (by simp)
          rw [if_pos cso] at HS
          obtain ⟨⟨gn, go_⟩, HB4, HT⟩ := Option.bind_eq_some_iff.mp HS
          clear HS
          have HS := HT
          clear HT
          simp only at HS
          obtain ⟨⟨s2, so2⟩, HB5, HT⟩ := Option.bind_eq_some_iff.mp HS
          clear HS
          have HS := HT
          clear HT
          simp only at HS
          by_cases cgo : go_ = true
          rotate_left
          · rw [if_neg cgo] at HS; exact absurd HS (by simp)
          rw [if_pos cgo] at HS
          subst cgo
          by_cases cs2 : so2 = false
          rotate_left
          · rw [if_neg cs2] at HS; exact absurd HS (by simp)
          rw [if_pos cs2] at HS
          subst cs2
          by_cases cln : 1 ≤ bd.length ∧ bd.length ≤ 1000000
          rotate_left
          · rw [if_neg cln] at HS; exact absurd HS (by simp)
          rw [if_pos cln] at HS
          obtain ⟨y, hy⟩ : ∃ y, y = bd.take (bd.length - 1) := ⟨_, rfl⟩
          rw [← hy] at HS
          have HYL := Zh (show y.length + 1 = bd.length by rw [hy, List.length_take]; omega)
          obtain ⟨⟨ct, cto⟩, HB6, HT⟩ := Option.bind_eq_some_iff.mp HS
          clear HS
          have HS := HT
          clear HT
          simp only at HS
          obtain ⟨⟨cb, cbo_⟩, HB7, HT⟩ := Option.bind_eq_some_iff.mp HS
          clear HS
          have HS := HT
          clear HT
          simp only at HS
          by_cases cct : cto = true
          rotate_left
          · rw [if_neg cct] at HS; exact absurd HS (by simp)
          rw [if_pos cct] at HS
          subst cct
          by_cases ccb : cb = y
          rotate_left
          · rw [if_neg ccb] at HS; exact absurd HS (by simp)
          rw [if_pos ccb] at HS
          subst ccb
          obtain rfl := Option.some.inj HS
          have HY := Zh hy
          have CSO := Zh cso
          have CLN := Zh cln
          replace HB1 := Zh HB1
          replace HB2 := Zh HB2
          replace HB3 := Zh HB3
          replace HB4 := Zh HB4
          replace HB5 := Zh HB5
          replace HB6 := Zh HB6
          replace HB7 := Zh HB7
          clear HS hy cso cln
          as_aux_lemma =>
          have hb0 := ST.out.cell 1 rfl 0 (u := .slice An nx.length cn) rfl
          have hbl := ST.out.lt 1 rfl
          go_wp2_with fail
          refine (impl_RenameFile.calls k1 _ _ nx (rd_T71 ops i).f1 (⟨#[111, 116, 104, 101, 114]⟩ : ByteArray) mv true _ (ST.out.reads 2 rfl).2.2 (ST.out.reads 2 rfl).2.1 HB1.out).mono ?_
          rintro e_ w14 ⟨v, rfl, ho, hb⟩
          obtain ⟨Am, cm, rfl⟩ := Kd.S_slice ho
          replace ST := Zh (ST.out.row hb ho)
          clear hb ho hb0 hbl HB1 q5 hc0 hl0
          as_aux_lemma =>
          go_wp2_with fail
          replace ST := Zh (ST.out.alloc #[.slice Am mv.length cm] 29 (g := w14.heap.size) rfl)
          generalize w14.alloc (.cells #[.slice Am mv.length cm] 29) = w15 at ST ⊢
          refine (impl_Content.calls k1 _ _ mv (⟨#[111, 116, 104, 101, 114]⟩ : ByteArray) bd true _ (ST.out.reads 1 rfl).2.2 (ST.out.reads 1 rfl).2.1 HB2.out).mono ?_
          rintro e_ w16 ⟨v, rfl, ho, hb⟩
          obtain ⟨Ab, cb1, rfl⟩ := Kd.R_slice ho
          replace ST := Zh (ST.out.rowR rfl hb ho)
          clear hb ho HB2
          as_aux_lemma =>
          have hb0 := ST.out.cell 1 rfl 0 (u := .slice Am mv.length cm) rfl
          have hbl := ST.out.lt 1 rfl
          go_wp2_with fail
          with_reducible refine (impl_Content.calls k1 _ _ mv (rd_T71 ops i).f1 s1 so _ (ST.out.reads 2 rfl).2.2 (ST.out.reads 2 rfl).2.1 HB3.out).mono ?_
          rintro e_ w17 ⟨v, rfl, ho, hb⟩
          obtain ⟨As1, cs1, rfl⟩ := Kd.R_slice ho
          replace ST := Zh (ST.out.rowR rfl hb ho)
          clear hb ho HB3 hb0 hbl
          as_aux_lemma =>
          have hv0 := Kd.C_string (P := Tryd.prog) (A := Ab) (c := cb1) Tryd.underlying33 Tryd.underlying5 Tryd.underlying9 (ST.out.reads 1 rfl).2.2
          have hv1 := Kd.C_string (P := Tryd.prog) (A := Aw) (c := cw) Tryd.underlying33 Tryd.underlying5 Tryd.underlying9 (ST.out.reads 4 rfl).2.2
          have n6 : ((strOfNums bd).toList != (strOfNums bd).toList) = false := bne_self_eq_false _
          go_upto_region 27 with fail
          (try simp only [Act.put, List.setIfInBounds_toArray, List.set_cons_zero, List.set_cons_succ])
          go_cut [186] (fun v186 wc => v186 = .bool false ∧ wc = w17)
          case first => as_aux_lemma =>
            by_cases cso : so = true
            · subst cso
              have hno := CSO.out.resolve_left (by decide)
              have n8 : ((rd_T71 ops i).f1.toList != (⟨#[111, 116, 104, 101, 114]⟩ : ByteArray).toList) = false := bne_eq_false_iff_eq.mpr hno
              have n8b : ((rd_T71 ops i).f1.toList == (⟨#[111, 116, 104, 101, 114]⟩ : ByteArray).toList) = true := beq_iff_eq.mpr hno
              have n8c : ((rd_T71 ops i).f1.toList == ([111, 116, 104, 101, 114] : List UInt8)) = true := beq_iff_eq.mpr (hno.trans (by rw [ByteArray.toList_eq]))
              clear hno
              go_wp2_with fail
              go_meet
              case rel => exact ⟨by first | rfl | rw [n8c]; rfl | simp [n8c], rfl⟩
            obtain rfl : so = false := by simpa using cso
            go_wp2_with fail
            go_meet
            case rel => exact ⟨rfl, rfl⟩
          case rest =>
          obtain ⟨rfl, rfl⟩ := hcut
          clear hv0 hv1 n6
          as_aux_lemma =>
          have hb0 := ST.out.cell 5 rfl 0 (u := .slice An nx.length cn) rfl
          have hbl := ST.out.lt 5 rfl
          go_wp2_with fail
          with_reducible refine (impl_RemoveFile.calls k1 _ _ nx (rd_T71 ops i).f1 gn true _ (ST.out.reads 6 rfl).2.2 (ST.out.reads 6 rfl).2.1 HB4.out).mono ?_
          rintro e_ w18 ⟨v, rfl, ho, hb⟩
          obtain ⟨Ag, cg, rfl⟩ := Kd.S_slice ho
          replace ST := Zh ((ST.out.row hb ho).sel [0, 5, 6, 7, 8] (by decide))
          clear hb ho HB4 hb0 hbl
          as_aux_lemma =>
          go_wp2_with fail
          replace ST := Zh (ST.out.alloc #[.slice Ag gn.length cg] 29 (g := w18.heap.size) rfl)
          generalize w18.alloc (.cells #[.slice Ag gn.length cg] 29) = w19 at ST ⊢
          with_reducible refine (impl_Content.calls k1 _ _ gn (rd_T71 ops i).f1 s2 false _ (ST.out.reads 1 rfl).2.2 (ST.out.reads 1 rfl).2.1 HB5.out).mono ?_
          rintro e_ w20 ⟨v, rfl, ho, hb⟩
          obtain ⟨As2, cs2, rfl⟩ := Kd.R_slice ho
          replace ST := Zh (ST.out.rowR rfl hb ho)
          clear hb ho HB5
          as_aux_lemma =>
          have hb0 := ST.out.cell 4 rfl 0 (u := .slice An nx.length cn) rfl
          have hbl := ST.out.lt 4 rfl
          have hwr := wrapSub bd.length cb.length HYL.out CLN.out.2
          have HB6' := HB6.out
          try rw [← HY.out] at HB6'
          go_wp2_with fail
          with_reducible refine (impl_CutFile.calls k1 _ _ nx (rd_T71 ops i).f1 (cb.length : Int) ct true _ (ST.out.reads 5 rfl).2.2 (ST.out.reads 5 rfl).2.1 HB6').mono ?_
          rintro e_ w21 ⟨v, rfl, ho, hb⟩
          obtain ⟨Ac, cc1, rfl⟩ := Kd.S_slice ho
          replace ST := Zh (ST.out.row hb ho)
          clear hb ho HB6 HB6' hb0 hbl hwr
          as_aux_lemma =>
          go_wp2_with fail
          replace ST := Zh (ST.out.alloc #[.slice Ac ct.length cc1] 29 (g := w21.heap.size) rfl)
          generalize w21.alloc (.cells #[.slice Ac ct.length cc1] 29) = w22 at ST ⊢
          with_reducible refine (impl_Content.calls k1 _ _ ct (rd_T71 ops i).f1 cb cbo_ _ (k74c_C (ST.out.reads 1 rfl).2.2) (ST.out.reads 1 rfl).2.1 HB7.out).mono ?_
          rintro e_ w23 ⟨v, rfl, ho, hb⟩
          obtain ⟨Az, cz, rfl⟩ := Kd.R_slice ho
          replace ST := Zh ((ST.out.rowR rfl hb ho).sel [0, 6, 7, 8, 9] (by decide))
          clear hb ho HB7
          as_aux_lemma =>
          go_wp2_with fail
          replace ST := Zh ST.out.drew
          obtain ⟨i0z, hi0z, _, hszz, _⟩ := info_parts info5
          have hcut := cut_to (P := Tryd.prog) 33 5 .i64 Tryd.underlying33 hi0z Aw bd.length cw (cb.length : Int) (Int.natCast_nonneg _) (by have := HYL.out; omega) (ST.out.reads 1 rfl).2.1
          rw [Int.toNat_natCast] at hcut
          have hct := Kd.C_take (m := bd.length - 1) (ST.out.reads 1 rfl).2.2 (Nat.sub_le _ _)
          rw [← HY.out] at hct
          clear hi0z hszz
          have p3 : ((cb.length : Int) ≤ (bd.length : Int)) = True := eq_true (by have := HYL.out; omega)
          have p4 : ((0 : Int) ≤ (cb.length : Int)) = True := eq_true (Int.natCast_nonneg _)
          have hwr := wrapSub bd.length cb.length HYL.out CLN.out.2
          have n6 : ((strOfNums cb).toList != (strOfNums cb).toList) = false := bne_self_eq_false _
          refine start_ (n := 13) (S := fun w' => (convert 33 9 (.slice Az cb.length cz)).run Tryd.prog w' = .ok (.string (strOfNums cb)) w' ∧ (convert 33 9 (.slice Aw cb.length cw)).run Tryd.prog w' = .ok (.string (strOfNums cb)) w') (ds := []) #[false, false, false, false, false, false, false, false, false, false, false, false, false] (by kernel_rfl) rfl rfl ⟨Kd.C_string (P := Tryd.prog) (A := Az) (c := cz) Tryd.underlying33 Tryd.underlying5 Tryd.underlying9 (ST.out.reads 0 rfl).2.2, Kd.C_string (P := Tryd.prog) (A := Aw) (c := cw) Tryd.underlying33 Tryd.underlying5 Tryd.underlying9 hct⟩ (fun hHeld => ?_)
          clear hct
          generalize w23.drew = w24 at ST hHeld ⊢
          refine SQ.p0 0 219 ?_
          refine SQ.p0 1 220 ?_
          refine SQ.p0 2 221 ?_
          refine SQ.p0 3 222 ?_
          refine SQ.t0 4 223 hHeld ?_
          refine SQ.p0 5 224 ?_
          refine SQ.p0 6 225 ?_
          refine SQ.p0 7 226 ?_
          refine SQ.p0 8 227 ?_
          refine SQ.p0 9 228 ?_
          refine SQ.t0 10 229 hHeld ?_
          refine SQ.p0 11 230 ?_
          refine SQ.p0 12 231 ?_
          refine done_ (by kernel_rfl) ?_
          clear hHeld hcut p3 p4 hwr n6
          as_aux_lemma =>
          have hb0 := ST.out.cell 2 rfl 0 (u := .slice An nx.length cn) rfl
          have hbl := ST.out.lt 2 rfl
          have hc0 := (blk_cell (FDH.out.step ST.out.b).x 0).trans (show _ = some (.slice Ad d.length cd) from rfl)
          have hl0 := blk_lt (FDH.out.step ST.out.b).x
          have hf0 := Zn (FDH.out.step ST.out.b).x 0
          go_wp2_with fail
          have hP := (FDH.out.step ST.out.b).put (Kd.S_lower (Kd.S_mono (ST.out.own 3 rfl) (fun _ _ => trivial)) FDH.out.b.size)
          clear hb0 hbl hc0 hl0 hf0
          go_roundg k1
          case measure => omega
          case rel => exact ⟨_, nx, An, cn, rfl, HL, ⟨hP⟩⟩
end Go.Proofs.YtmgeffgcihfpcaaDoor.F

namespace Go.Proofs.YtmgeffgcihfpcaaDoor.PK
set_option linter.unusedVariables false
set_option linter.unusedSimpArgs false
open Go.RowKit Go.Proofs.YtmgeffgcihfpcaaDoorW.PrintWords
theorem EvS {α : Type} {g : Nat → Option α} {r : α} (h : Ev (fun k => g (k + 1)) r) : Ev g r := by
  obtain ⟨K, h⟩ := h
  refine ⟨K + 1, fun k hk => ?_⟩
  obtain ⟨m, rfl⟩ : ∃ m, k = m + 1 := ⟨k - 1, by omega⟩
  exact h m (by omega)
theorem EvP {α : Type} {g : Nat → Option α} {r : α} (h : Ev g r) : Ev (fun k => g (k + 1)) r := by
  obtain ⟨K, h⟩ := h
  exact ⟨K, fun k hk => h (k + 1) (by omega)⟩
theorem EvB {α β : Type} {g : Nat → Option α} {f : Nat → α → Option β} {a : α} {r : β} (h : Ev g a) : Ev (fun k => (g k).bind (f k)) r ↔ Ev (fun k => f k a) r := by
  obtain ⟨K, h⟩ := h
  constructor
  · rintro ⟨K', h'⟩
    refine ⟨max K K', fun k hk => ?_⟩
    have h2 : (g k).bind (f k) = some r := h' k (by omega)
    rw [h k (by omega)] at h2
    exact h2
  rintro ⟨K', h'⟩
  refine ⟨max K K', fun k hk => ?_⟩
  show (g k).bind (f k) = some r
  rw [h k (by omega)]
  exact h' k (by omega)
theorem EvN {α : Type} {r : α} : Ev (fun _ => some r) r := ⟨0, fun _ _ => rfl⟩
theorem EvE {α : Type} {g : Nat → Option α} {r : α} (h : Ev g r) : ∃ k, g k = some r := h.rounds
theorem w64 {x : Int} (h : -9223372036854775808 ≤ x) (h' : x ≤ 9223372036854775807) : wrap64 x = x := by
  unfold wrap64
  omega
theorem up {P : Int → Prop} (n : Nat) (base : P n) (step : ∀ i : Nat, i < n → P ((i + 1 : Nat) : Int) → P (i : Int)) : ∀ i : Nat, i ≤ n → P (i : Int) := by
  intro i hi
  obtain ⟨d, hd⟩ : ∃ d, d + i = n := ⟨n - i, by omega⟩
  induction d generalizing i with
  | zero => have : i = n := by omega
            subst this
            exact base
  | succ d ih => exact step i (by omega) (ih (i + 1) (by omega) (by omega))
theorem up0 {P : Int → Prop} (n : Nat) (base : P n) (step : ∀ i : Nat, i < n → P ((i + 1 : Nat) : Int) → P (i : Int)) : P 0 := up n base step 0 (Nat.zero_le _)
theorem getD_nat {α : Type} (l : List α) (z : α) (i : Nat) (h : i < l.length) : l.getD ((i : Int).toNat) z = l[i] := by
  simp [List.getD_eq_getElem?_getD, List.getElem?_eq_getElem h]
theorem drop_at {α : Type} (l : List α) (i : Nat) (h : i < l.length) : l.drop i = l[i] :: l.drop (i + 1) := List.drop_eq_getElem_cons h
end Go.Proofs.YtmgeffgcihfpcaaDoor.PK

namespace Go.Proofs.YtmgeffgcihfpcaaDoor.DK
set_option linter.unusedVariables false
set_option linter.unusedSimpArgs false
open Go.RowKit Go.Proofs.YtmgeffgcihfpcaaDoor.F Go.Proofs.YtmgeffgcihfpcaaDoor.PK Go.Proofs.YtmgeffgcihfpcaaDoorW.PrintWords Go.Proofs.YtmgeffgcihfpcaaDoorW.PrintLast Go.Proofs.YtmgeffgcihfpcaaDoorW.PrintMore
theorem nxt (i n : Nat) (h : i < n) (hn : n ≤ 9223372036854775807) : wrap64 ((i : Int) + 1) = ((i + 1 : Nat) : Int) := by rw [w64 (by omega) (by omega)]; omega
def inB (b : UInt8) : Bool := decide ((97 ≤ b.toNat ∧ b.toNat ≤ 122) ∨ (48 ≤ b.toNat ∧ b.toNat ≤ 57))
def nameM (s : ByteArray) : Bool := s.data.toList.all inB && decide (1 ≤ s.size ∧ s.size ≤ 12)
theorem bt_get (s : ByteArray) (i : Nat) (h : i < s.data.toList.length) : bt s (i : Int) = (s.data.toList[i].toNat : Int) := by
  have hs : i < s.size := by rw [← data_length]; exact h
  unfold bt
  rw [dif_pos (show (i : Int).toNat < s.size by rw [Int.toNat_natCast]; exact hs)]
  simp
  rfl
theorem spec_name (s : ByteArray) (hs : s.size ≤ 9223372036854775807) : Ev (fun k => spec_l01Name.f k s) (nameM s) := by
  have hl := data_length s
  have key := up0 (P := fun i => Ev (fun k => spec_l01Name.l0 k s i) ((s.data.toList.drop i.toNat).all inB && decide (1 ≤ s.size ∧ s.size ≤ 12))) s.size
    (EvS (by
      simp only [spec_l01Name.l0, Int.lt_irrefl, if_false, Int.toNat_natCast, spec_l01In.f]
      rw [List.drop_eq_nil_of_le (by omega), List.all_nil, Bool.true_and]
      by_cases h1 : 1 ≤ (s.size : Int)
      · simp only [if_pos h1, Option.bind_some]
        rw [show decide ((s.size : Int) ≤ 12) = decide (1 ≤ s.size ∧ s.size ≤ 12) from decide_eq_decide.2 (by omega)]
        exact EvN
      simp only [if_neg h1, Option.bind_some]
      rw [decide_eq_false (show ¬ (1 ≤ s.size ∧ s.size ≤ 12) by omega)]
      exact EvN))
    (fun i hi ih => EvS (by
      have hil : i < s.data.toList.length := by omega
      rw [Int.toNat_natCast] at *
      rw [drop_at _ i hil, List.all_cons]
      simp only [spec_l01Name.l0, if_pos (show (i : Int) < (s.size : Int) by omega), if_pos (show 0 ≤ (i : Int) by omega), nxt i _ hi hs]
      have hb := bt_get s i hil
      generalize bt s (i : Int) = x at hb ⊢
      generalize s.data.toList[i] = b at hb ⊢
      by_cases c1 : x ≥ 97
      · by_cases c2 : x ≤ 122
        · simp only [if_pos c1, if_pos c2, show inB b = true from decide_eq_true (by omega), Bool.true_and]; exact ih
        by_cases c3 : x ≥ 48
        · simp only [if_pos c1, if_neg c2, if_pos c3, if_neg (show ¬ x ≤ 57 by omega), show inB b = false from decide_eq_false (by omega), Bool.false_and]; exact EvN
        omega
      by_cases c3 : x ≥ 48
      · by_cases c4 : x ≤ 57
        · simp only [if_neg c1, if_pos c3, if_pos c4, show inB b = true from decide_eq_true (by omega), Bool.true_and]; exact ih
        simp only [if_neg c1, if_pos c3, if_neg c4, show inB b = false from decide_eq_false (by omega), Bool.false_and]; exact EvN
      simp only [if_neg c1, if_neg c3, show inB b = false from decide_eq_false (by omega), Bool.false_and]; exact EvN))
  unfold spec_l01Name.f nameM
  exact key
def cutB : List UInt8 := [97, 98, 99, 100, 101, 102, 103, 104, 105, 106, 107, 108, 109, 110, 111, 112, 113, 114, 115, 116, 117, 118, 119, 120, 121, 122, 48, 49, 50, 51, 52, 53, 54, 55, 56, 57]
theorem cut_in (b : UInt8) : cutB.contains b = inB b := by
  have h : ∀ n : Fin 256, cutB.contains (UInt8.ofNat n.val) = inB (UInt8.ofNat n.val) := by decide +kernel
  have := h ⟨b.toNat, b.toNat_lt⟩
  simpa using this
theorem dw_nil {α : Type} (p : α → Bool) : ∀ l : List α, l.dropWhile p = [] ↔ ∀ x ∈ l, p x = true
  | [] => by simp
  | a :: l => by
    rw [List.dropWhile_cons]
    by_cases h : p a = true
    · rw [if_pos h, dw_nil p l]
      simp [h]
    rw [if_neg h]
    simp [h]
theorem dw_head {α : Type} (p : α → Bool) : ∀ (l : List α) (x : α) (r : List α), l.dropWhile p = x :: r → p x = false
  | [], x, r, h => by simp at h
  | a :: l, x, r, h => by
    rw [List.dropWhile_cons] at h
    by_cases hp : p a = true
    · rw [if_pos hp] at h
      exact dw_head p l x r h
    rw [if_neg hp] at h
    injection h with h1 _
    rw [← h1]
    exact Bool.eq_false_iff.2 hp
theorem dw_mem {α : Type} (p : α → Bool) : ∀ (l : List α) (x : α), x ∈ l.dropWhile p → x ∈ l
  | [], x, h => by simp at h
  | a :: l, x, h => by
    rw [List.dropWhile_cons] at h
    by_cases hp : p a = true
    · rw [if_pos hp] at h
      exact List.mem_cons_of_mem _ (dw_mem p l x h)
    rw [if_neg hp] at h
    exact h
theorem trim_nil (l : List UInt8) : (Go.Lib.trimS l cutB == []) = l.all inB := by
  unfold Go.Lib.trimS Go.Lib.trimLeftS Go.Lib.trimRightS
  rw [Bool.eq_iff_iff, beq_iff_eq, dw_nil, List.all_eq_true]
  constructor
  · intro h
    have hd : l.reverse.dropWhile (cutB.contains ·) = [] := by
      cases hq : l.reverse.dropWhile (cutB.contains ·) with
      | nil => rfl
      | cons x r =>
        have h1 := h x (by rw [hq]; simp)
        have h2 := dw_head (cutB.contains ·) _ _ _ hq
        rw [h1] at h2
        cases h2
    rw [dw_nil] at hd
    intro x hx
    rw [← cut_in]
    exact hd x (List.mem_reverse.2 hx)
  intro h x hx
  rw [cut_in]
  exact h x (List.mem_reverse.1 (dw_mem _ _ _ (List.mem_reverse.1 hx)))
theorem impl_name (s : ByteArray) (hs : s.size ≤ 9223372036854775807) : impl_isFileName.f s = some (nameM s) := by
  unfold impl_isFileName.f nameM
  by_cases h1 : (s.size : Int) ≥ 1
  · by_cases h2 : (s.size : Int) ≤ 12
    · have ht : trimF.f s (⟨#[97, 98, 99, 100, 101, 102, 103, 104, 105, 106, 107, 108, 109, 110, 111, 112, 113, 114, 115, 116, 117, 118, 119, 120, 121, 122, 48, 49, 50, 51, 52, 53, 54, 55, 56, 57]⟩ : ByteArray) = some ⟨(Go.Lib.trimS s.data.toList cutB).toArray⟩ := by
        unfold trimF.f
        rw [if_pos ⟨hs, by decide, by decide⟩]
        rfl
      simp only [if_pos h1, if_pos h2, ht, Option.bind_some]
      rw [Go.Lib.toList_data, trim_nil, decide_eq_true (show 1 ≤ s.size ∧ s.size ≤ 12 by omega), Bool.and_true]
    simp only [if_pos h1, if_neg h2]
    rw [decide_eq_false (show ¬ (1 ≤ s.size ∧ s.size ≤ 12) by omega), Bool.and_false]
  simp only [if_neg h1]
  rw [decide_eq_false (show ¬ (1 ≤ s.size ∧ s.size ≤ 12) by omega), Bool.and_false]
end Go.Proofs.YtmgeffgcihfpcaaDoor.DK

namespace Go.Proofs.YtmgeffgcihfpcaaDoor.F
open Go.RowKit Go.Proofs.YtmgeffgcihfpcaaDoorW.PrintWords Go.Proofs.YtmgeffgcihfpcaaDoorW.PrintWords.Kd Go.Proofs.YtmgeffgcihfpcaaDoorW.PrintMore.Kd Go.Proofs.YtmgeffgcihfpcaaDoorW.PrintLast Go.Proofs.YtmgeffgcihfpcaaDoorW.PrintMore
attribute [local go_sem] max2_int min2_int max_two min_two max_three min_three max_four min_four   -- for this text's walks alone
set_option linter.unusedVariables false
set_option linter.unusedSimpArgs false
end Go.Proofs.YtmgeffgcihfpcaaDoor.F

namespace Go.Proofs.YtmgeffgcihfpcaaDoor.BY
set_option linter.unusedVariables false
set_option linter.unusedSimpArgs false
open Go.RowKit Go.Proofs.YtmgeffgcihfpcaaDoor.F Go.Proofs.YtmgeffgcihfpcaaDoor.PK Go.Proofs.YtmgeffgcihfpcaaDoorW.PrintWords Go.Proofs.YtmgeffgcihfpcaaDoorW.PrintLast
theorem nxt (i n : Nat) (h : i < n) (hn : n ≤ 9223372036854775807) : wrap64 ((i : Int) + 1) = ((i + 1 : Nat) : Int) := by rw [w64 (by omega) (by omega)]; omega
end Go.Proofs.YtmgeffgcihfpcaaDoor.BY

namespace Go.Proofs.YtmgeffgcihfpcaaDoor.F
open Go.RowKit Go.Proofs.YtmgeffgcihfpcaaDoorW.PrintWords Go.Proofs.YtmgeffgcihfpcaaDoorW.PrintWords.Kd Go.Proofs.YtmgeffgcihfpcaaDoorW.PrintMore.Kd Go.Proofs.YtmgeffgcihfpcaaDoorW.PrintLast Go.Proofs.YtmgeffgcihfpcaaDoorW.PrintMore
attribute [local go_sem] max2_int min2_int max_two min_two max_three min_three max_four min_four   -- for this text's walks alone
set_option linter.unusedVariables false
set_option linter.unusedSimpArgs false
end Go.Proofs.YtmgeffgcihfpcaaDoor.F

namespace Go.Proofs.YtmgeffgcihfpcaaDoor.F
open Go.Proofs.YtmgeffgcihfpcaaDoor
open Go.RowKit Go.Proofs.YtmgeffgcihfpcaaDoorW.PrintWords Go.Proofs.YtmgeffgcihfpcaaDoorW.PrintWords.Kd Go.Proofs.YtmgeffgcihfpcaaDoorW.PrintMore.Kd Go.Proofs.YtmgeffgcihfpcaaDoorW.PrintLast Go.Proofs.YtmgeffgcihfpcaaDoorW.PrintMore
attribute [local go_sem] max2_int min2_int max_two min_two max_three min_three max_four min_four   -- for this text's walks alone
set_option linter.unusedVariables false
set_option linter.unusedSimpArgs false
end Go.Proofs.YtmgeffgcihfpcaaDoor.F

namespace Go.Proofs.YtmgeffgcihfpcaaDoor.F
open Go.RowKit Go.Proofs.YtmgeffgcihfpcaaDoorW.PrintWords Go.Proofs.YtmgeffgcihfpcaaDoorW.PrintWords.Kd Go.Proofs.YtmgeffgcihfpcaaDoorW.PrintMore.Kd Go.Proofs.YtmgeffgcihfpcaaDoorW.PrintLast Go.Proofs.YtmgeffgcihfpcaaDoorW.PrintMore
attribute [local go_sem] max2_int min2_int max_two min_two max_three min_three max_four min_four   -- for this text's walks alone
set_option linter.unusedVariables false
set_option linter.unusedSimpArgs false
end Go.Proofs.YtmgeffgcihfpcaaDoor.F

namespace Go.Proofs.YtmgeffgcihfpcaaDoor.DK
set_option linter.unusedVariables false
set_option linter.unusedSimpArgs false
open Go.RowKit Go.Proofs.YtmgeffgcihfpcaaDoor.F Go.Proofs.YtmgeffgcihfpcaaDoor.PK Go.Proofs.YtmgeffgcihfpcaaDoorW.PrintWords Go.Proofs.YtmgeffgcihfpcaaDoorW.PrintLast Go.Proofs.YtmgeffgcihfpcaaDoorW.PrintMore

theorem rd74 (l : List S74) (i : Nat) (h : i < l.length) : rd_T74 l (i : Int) = l[i] := getD_nat l _ i h
def okAt (l : List S74) (i : Nat) : Bool := nameM (rd_T74 l i).f0 && (decide ((rd_T74 l i).f1.length + (rd_T74 l i).f2.length ≤ 20000) && (decide (i = 0) || Op.bytesLess (rd_T74 l ((i - 1 : Nat) : Int)).f0.toList (rd_T74 l i).f0.toList))
def goD (l : List S74) : Nat → Nat → Bool
  | 0, _ => true
  | d + 1, i => okAt l i && goD l d (i + 1)
def diskM (l : List S74) : Bool := decide (l.length ≤ 8) && goD l l.length 0
def wfD (l : List S74) : Prop := ∀ y ∈ l, y.f0.size ≤ 9223372036854775807 ∧ y.f1.length ≤ 1048576 ∧ y.f2.length ≤ 1048576
theorem specGo (l : List S74) (hl : l.length ≤ 1048576) (hw : wfD l) : ∀ d i : Nat, d + i = l.length → Ev (fun k => spec_DiskOk.l0 k i l) (goD l d i) := by
  intro d
  induction d with
  | zero =>
    intro i hi
    refine EvS ?_
    simp only [spec_DiskOk.l0, if_neg (show ¬ (i : Int) < (l.length : Int) by omega)]
    exact EvN
  | succ d ih =>
    intro i hi
    have hil : i < l.length := by omega
    have hy := hw _ (List.getElem_mem hil)
    refine EvS ?_
    have hn := spec_name l[i].f0 hy.1
    have h := ih (i + 1) (by omega)
    rw [← rd74 l i hil] at hn hy
    unfold goD okAt
    simp only [spec_DiskOk.l0, if_pos (show (i : Int) < (l.length : Int) by omega), if_pos (show 0 ≤ (i : Int) by omega), EvB hn, nxt i _ hil (by omega)]
    generalize rd_T74 l (i : Int) = y at hy hn ⊢
    by_cases c1 : nameM y.f0 = true
    · by_cases c2 : (y.f1.length : Int) > 20000
      · simp only [if_pos c1, if_pos c2, decide_eq_false (show ¬ y.f1.length + y.f2.length ≤ 20000 by omega), Bool.false_and, Bool.and_false]; exact EvN
      have hw1 : wrap64 (20000 - (y.f1.length : Int)) = 20000 - (y.f1.length : Int) := w64 (by omega) (by omega)
      by_cases c3 : (y.f2.length : Int) > 20000 - (y.f1.length : Int)
      · simp only [if_pos c1, if_neg c2, hw1, if_pos c3, decide_eq_false (show ¬ y.f1.length + y.f2.length ≤ 20000 by omega), Bool.false_and, Bool.and_false]; exact EvN
      simp only [if_pos c1, if_neg c2, hw1, if_neg c3, c1, decide_eq_true (show y.f1.length + y.f2.length ≤ 20000 by omega), Bool.true_and]
      by_cases c4 : i = 0
      · simp only [if_neg (show ¬ (i : Int) > 0 by omega), decide_eq_true c4, Bool.true_or, Bool.true_and]; exact h
      have hw2 : wrap64 ((i : Int) - 1) = ((i - 1 : Nat) : Int) := by rw [w64 (by omega) (by omega)]; omega
      simp only [if_pos (show (i : Int) > 0 by omega), hw2, if_pos (show 0 ≤ ((i - 1 : Nat) : Int) by omega), if_pos (show ((i - 1 : Nat) : Int) < (l.length : Int) by omega), decide_eq_false c4, Bool.false_or]
      by_cases c5 : Op.bytesLess (rd_T74 l ((i - 1 : Nat) : Int)).f0.toList y.f0.toList = true
      · simp only [if_pos c5, c5, Bool.true_and]; exact h
      simp only [if_neg c5, Bool.eq_false_iff.2 c5, Bool.false_and]; exact EvN
    simp only [if_neg c1, Bool.eq_false_iff.2 c1, Bool.false_and]; exact EvN
theorem implGo (l : List S74) (hl : l.length ≤ 1048576) (hw : wfD l) : ∀ d i : Nat, d + i = l.length → Ev (fun k => impl_isDisk.l0 k l (l.length : Int) i l) (goD l d i && decide (l.length ≤ 8)) := by
  intro d
  induction d with
  | zero =>
    intro i hi
    refine EvS ?_
    simp only [impl_isDisk.l0, if_neg (show ¬ (i : Int) < (l.length : Int) by omega), goD, Bool.true_and]
    rw [show decide ((l.length : Int) ≤ 8) = decide (l.length ≤ 8) from decide_eq_decide.2 (by omega)]
    exact EvN
  | succ d ih =>
    intro i hi
    have hil : i < l.length := by omega
    have hy := hw _ (List.getElem_mem hil)
    refine EvS ?_
    have hn := impl_name l[i].f0 hy.1
    have h := ih (i + 1) (by omega)
    rw [← rd74 l i hil] at hn hy
    unfold goD okAt
    simp only [impl_isDisk.l0, if_pos (show (i : Int) < (l.length : Int) by omega), if_pos (show 0 ≤ (i : Int) by omega), hn, Option.bind_some, nxt i _ hil (by omega)]
    generalize rd_T74 l (i : Int) = y at hy hn ⊢
    by_cases c1 : nameM y.f0 = true
    · have hw1 : wrap64 ((y.f1.length : Int) + (y.f2.length : Int)) = (y.f1.length : Int) + (y.f2.length : Int) := w64 (by omega) (by omega)
      by_cases c3 : (y.f1.length : Int) + (y.f2.length : Int) > 20000
      · simp only [if_pos c1, hw1, if_pos c3, decide_eq_false (show ¬ y.f1.length + y.f2.length ≤ 20000 by omega), Bool.false_and, Bool.and_false]; exact EvN
      simp only [if_pos c1, hw1, if_neg c3, c1, decide_eq_true (show y.f1.length + y.f2.length ≤ 20000 by omega), Bool.true_and]
      by_cases c4 : i = 0
      · simp only [if_neg (show ¬ (i : Int) > 0 by omega), decide_eq_true c4, Bool.true_or, Bool.true_and]; exact h
      have hw2 : wrap64 ((i : Int) - 1) = ((i - 1 : Nat) : Int) := by rw [w64 (by omega) (by omega)]; omega
      simp only [if_pos (show (i : Int) > 0 by omega), hw2, if_pos (show 0 ≤ ((i - 1 : Nat) : Int) by omega), if_pos (show ((i - 1 : Nat) : Int) < (l.length : Int) by omega), decide_eq_false c4, Bool.false_or]
      by_cases c5 : Op.bytesLess (rd_T74 l ((i - 1 : Nat) : Int)).f0.toList y.f0.toList = true
      · simp only [if_pos c5, c5, Bool.true_and]; exact h
      simp only [if_neg c5, Bool.eq_false_iff.2 c5, Bool.false_and]; exact EvN
    simp only [if_neg c1, Bool.eq_false_iff.2 c1, Bool.false_and]; exact EvN
theorem spec_disk (l : List S74) (hl : l.length ≤ 1048576) (hw : wfD l) : Ev (fun k => spec_DiskOk.f k l) (diskM l) := by
  unfold spec_DiskOk.f diskM
  by_cases h : l.length ≤ 8
  · simp only [if_neg (show ¬ (l.length : Int) > 8 by omega), decide_eq_true h, Bool.true_and]
    exact specGo l hl hw l.length 0 rfl
  simp only [if_pos (show (l.length : Int) > 8 by omega), decide_eq_false h, Bool.false_and]
  exact EvN
theorem impl_disk (l : List S74) (hl : l.length ≤ 1048576) (hw : wfD l) : Ev (fun k => impl_isDisk.f k l) (diskM l) := by
  unfold impl_isDisk.f diskM
  rw [Bool.and_comm]
  exact implGo l hl hw l.length 0 rfl
end Go.Proofs.YtmgeffgcihfpcaaDoor.DK
