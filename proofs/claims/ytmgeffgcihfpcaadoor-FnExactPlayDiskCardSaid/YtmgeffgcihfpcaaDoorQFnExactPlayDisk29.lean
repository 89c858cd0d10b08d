/- Merged texts below the law FnExactPlayDisk: Go functions as Lean functions, their contracts, and plain lemmas. -/
import Derived.Test.YtmgeffgcihfpcaaDoorQFnExactPlayDisk23
import Derived.Test.YtmgeffgcihfpcaaDoorQFnExactPlayDisk26
import Derived.Test.YtmgeffgcihfpcaaDoorQFnExactPlayDisk27
import Derived.Test.YtmgeffgcihfpcaaDoorVFnExactPlayDiskOT
import Derived.Test.YtmgeffgcihfpcaaDoorQFnExactPlayDisk24
import Derived.Deep.DeepCutAuto
import Derived.Deep.CutBlock
import Derived.Test.YtmgeffgcihfpcaaDoorVFnExactPlayDiskMore
import Derived.Deep.Slices
import Derived.ChangeSame
import Derived.WideShapes
namespace Go.Proofs.YtmgeffgcihfpcaaDoor.F
open Go.RowKit Go.Proofs.YtmgeffgcihfpcaaDoorW.PrintWords Go.Proofs.YtmgeffgcihfpcaaDoorW.PrintWords.Kd Go.Proofs.YtmgeffgcihfpcaaDoorW.PrintMore.Kd Go.Proofs.YtmgeffgcihfpcaaDoorW.PrintLast Go.Proofs.YtmgeffgcihfpcaaDoorW.PrintMore
attribute [local go_sem] max2_int min2_int max_two min_two max_three min_three max_four min_four   -- for this text's walks alone
set_option linter.unusedVariables false
set_option linter.unusedSimpArgs false
def spec_RenameFile.j0 : Nat → ByteArray → ByteArray → Int → Bool → List (S74) → Option ((List (S74)) × Bool)
 | 0, _, _, _, _, _ => none
 | k + 1, x1, x2, x8, x24, x559000 => if x24 = true then ((spec_l03Copy.f k x559000).bind fun t563 => (some (t563, false))) else (if 0 ≤ x8 then (if x8 < (x559000.length : Int) then ((spec_l03Without.f k x559000 x1).bind fun t568 => ((spec_l03Put.f k t568 x2 ((rd_T74 x559000 x8).f1) ((rd_T74 x559000 x8).f2)).bind fun t571 => (some (t571, true)))) else (none)) else (none))
def spec_RenameFile.f (k : Nat) (l0_0 : List (S74)) (a1 : ByteArray) (a2 : ByteArray) : Option ((List (S74)) × Bool) := (spec_l03Find.f k l0_0 a1).bind fun t560 => ((spec_DiskOk.f k l0_0).bind fun t561 => (if t561 = true then (if t560 < 0 then (spec_RenameFile.j0 k a1 a2 t560 true l0_0) else ((spec_l01Name.f k a2).bind fun t562 => (spec_RenameFile.j0 k a1 a2 t560 (!t562) l0_0))) else (spec_RenameFile.j0 k a1 a2 t560 true l0_0)))
set_option maxHeartbeats 8000000 in
set_option maxRecDepth 100000 in
theorem spec_RenameFile.calls (k : Nat) (A0_0 : Option Addr) (c0_0 : Nat) (l0_0 : List (S74)) (a1 : ByteArray) (a2 : ByteArray) (r1 : List (S74)) (r2 : Bool) (w : World) (hr0_0 : Kd.C k74 w A0_0 l0_0.length l0_0) (hc0_0 : l0_0.length ≤ c0_0) (h : spec_RenameFile.f k l0_0 a1 a2 = some (r1, r2)) :
  Calls Tryd.prog 40 #[.agg #[.slice A0_0 l0_0.length c0_0], .string a1, .string a2] w fun e w' => ∃ v0_ : Value, e = .returned (.tuple #[.agg #[v0_], .bool r2]) ∧ Kd.S k74 74 w' w.heap.size (fun _ => True) v0_ r1 ∧ Below w.heap.size w w' := by
 have hu29 := Tryd.underlying29
 have hu74 := Tryd.underlying74
 have HR0_0 := Zh hr0_0
 have HC0_0 := Zh hc0_0
 clear hr0_0 hc0_0
 have HB := Zh (Below.refl w.heap.size w)
 have H : ((spec_l03Find.f k l0_0 a1).bind fun t560 => ((spec_DiskOk.f k l0_0).bind fun t561 => (if t561 = true then (if t560 < 0 then (spec_RenameFile.j0 k a1 a2 t560 true l0_0) else ((spec_l01Name.f k a2).bind fun t562 => (spec_RenameFile.j0 k a1 a2 t560 (!t562) l0_0))) else (spec_RenameFile.j0 k a1 a2 t560 true l0_0)))) = some (r1, r2) := h
 clear h
 replace H := Option.bind_eq_some_iff.mp H
 obtain ⟨t560, A40, H⟩ := H
 replace H : ((spec_DiskOk.f k l0_0).bind fun t561 => (if t561 = true then (if t560 < 0 then (spec_RenameFile.j0 k a1 a2 t560 true l0_0) else ((spec_l01Name.f k a2).bind fun t562 => (spec_RenameFile.j0 k a1 a2 t560 (!t562) l0_0))) else (spec_RenameFile.j0 k a1 a2 t560 true l0_0))) = some (r1, r2) := H
 have A4 := Zh A40
 clear A40
 have HC5 := Zh H
 clear H
 go_enter Tryd.func40, Tryd.ntmps40
 go_upto_region 2 with (first | ((with_reducible refine gate_dst (N := 3) rfl ?_); refine box_event ?hg (N := 3) ?hd (cs := #[.slice A0_0 l0_0.length c0_0]) (t := 29) ?hr ?_; (case hd => rfl); (case hg => rfl); (case hr => first | (go_simp; done) | (go_simp; rfl)); intro gb558 hg w6 hbox hb; have n0_ := Zh (Zl Zs hb); have n1_ := Zh (hbox); have n2_ := Zh ((by rw [hg]; exact (below_size Zs) : w.heap.size ≤ gb558)); have n3_ := Zh ((by rw [hg]; exact (below_size Zs) : w.heap.size ≤ gb558)); clear HB; have HB := n0_; have BK558 := n1_; have GW558 := n2_; have GE558 := n3_; clear n0_ n1_ n2_ n3_; clear hb hbox hg) | ((with_reducible refine gate_dst (N := 6) rfl ?_); refine box_event ?hg (N := 6) ?hd (cs := #[.slice none 0 0]) (t := 29) ?hr ?_; (case hd => rfl); (case hg => rfl); (case hr => first | (go_simp; done) | (go_simp; rfl)); intro gb559 hg w7 hbox hb; have n0_ := Zh (Zm (g := gb558) (o := .cells #[.slice A0_0 l0_0.length c0_0] 29 (0, 0)) Zk hb); have n1_ := Zh (Zl Zs hb); have n2_ := Zh (hbox); have n3_ := Zh ((by rw [hg]; exact (below_size Zs) : w.heap.size ≤ gb559)); have n4_ := Zh ((by rw [hg]; exact (below_size Zs) : w.heap.size ≤ gb559)); have n5_ := Zh ((by rw [hg]; exact Nat.ne_of_lt (blk_lt (g := gb558) (o := .cells #[.slice A0_0 l0_0.length c0_0] 29 (0, 0)) Zk) : gb558 ≠ gb559)); have n6_ := Zh ((by rw [hg]; exact Nat.ne_of_gt (blk_lt (g := gb558) (o := .cells #[.slice A0_0 l0_0.length c0_0] 29 (0, 0)) Zk) : gb559 ≠ gb558)); clear BK558; clear HB; have BK558 := n0_; have HB := n1_; have BK559 := n2_; have GW559 := n3_; have GE559 := n4_; have NB558_559 := n5_; have NB559_558 := n6_; clear n0_ n1_ n2_ n3_ n4_ n5_ n6_; clear hb hbox hg; have hnb8 := NB558_559.out; have hnc8 := NB559_558.out; have hcz9_0 : w7.cell? ⟨gb558, 0, none⟩ = some (.slice A0_0 l0_0.length c0_0) := (blk_cell BK558.out 0).trans rfl; have hfz9_0 := Zn BK558.out 0) | ((with_reducible refine gate_callee (f := 61) rfl ?_); refine goesL_ (some 12) rfl rfl Tryd.func61 (by kernel_rfl) rfl #[.agg #[.slice A0_0 l0_0.length c0_0], .string a1] rfl (by (try simp only [List.map_toArray, List.map_cons, List.map_nil]); first | done | rfl | (simp only [List.length_drop, List.length_take]; rfl)) ?_; (with_reducible refine (spec_l03Find.calls k _ _ l0_0 a1 t560 _ ?side1 ?side2 A4.out).mono ?_); (case side1 => repeat (first | exact (C_below HR0_0.out HB.out) | (with_reducible refine C_alloc ?_ _) | (with_reducible refine C_drewN ?_ _) | (with_reducible refine C_drew ?_))); (case side2 => exact HC0_0.out); rintro e w10 ⟨rfl, hb⟩; refine ⟨_, rfl, ?_⟩; have n0_ := Zh (Zm (g := gb558) (o := .cells #[.slice A0_0 l0_0.length c0_0] 29 (0, 0)) Zk hb); have n1_ := Zh (Zm (g := gb559) (o := .cells #[.slice none 0 0] 29 (0, 0)) Zk hb); have n2_ := Zh (Zl Zs hb); clear BK558; clear BK559; clear HB; have BK558 := n0_; have BK559 := n1_; have HB := n2_; clear n0_ n1_ n2_; (try clear hb); (try clear hb2); (try clear hk); (try clear hi)))
 (try simp only [Act.put, List.setIfInBounds_toArray, List.set_cons_zero, List.set_cons_succ])
 go_cut [24] (fun v24 wc => ∃ (kq : Nat) (x24_4 : Bool), v24 = .bool x24_4 ∧ Aside0 (spec_RenameFile.j0 kq a1 a2 t560 x24_4 l0_0 = some (r1, r2)) ∧ Aside0 (kq ≤ k) ∧ Aside0 (wc.heap[gb558]? = some (.cells #[(.slice A0_0 l0_0.length c0_0)] 29 (0, 0))) ∧ Aside0 (wc.heap[gb559]? = some (.cells #[(.slice none 0 0)] 29 (0, 0))) ∧ Aside0 (Below w.heap.size w wc))
 case first =>
  have H := HC5.out
  clear HC5
  replace H := Option.bind_eq_some_iff.mp H
  obtain ⟨t561, A110, H⟩ := H
  replace H : (if t561 = true then (if t560 < 0 then (spec_RenameFile.j0 k a1 a2 t560 true l0_0) else ((spec_l01Name.f k a2).bind fun t562 => (spec_RenameFile.j0 k a1 a2 t560 (!t562) l0_0))) else (spec_RenameFile.j0 k a1 a2 t560 true l0_0)) = some (r1, r2) := H
  have A11 := Zh A110
  clear A110
  by_cases c12 : t561 = true
  ·
   subst c12
   have H1 : (if t560 < 0 then (spec_RenameFile.j0 k a1 a2 t560 true l0_0) else ((spec_l01Name.f k a2).bind fun t562 => (spec_RenameFile.j0 k a1 a2 t560 (!t562) l0_0))) = some (r1, r2) := by rw [if_pos rfl] at H; exact H
   clear H
   have H := H1
   clear H1
   by_cases c13 : t560 < 0
   ·
    rw [if_pos c13] at H
    have c13b0 : decide (t560 < 0) = true := decide_eq_true c13
    clear c13
    (first | rw [c13b0] | (simp only [i64_w, i32_w]; rw [c13b0]) | skip)
    have H' := Zh H
    clear H
    have hnb14 := NB558_559.out
    have hnc14 := NB559_558.out
    have hcz15_0 : w10.cell? ⟨gb558, 0, none⟩ = some (.slice A0_0 l0_0.length c0_0) := (blk_cell BK558.out 0).trans rfl
    have hfz15_0 := Zn BK558.out 0
    go_wp2_with (first | ((with_reducible refine gate_callee (f := 15) rfl ?_); refine goesL_ (some 14) rfl rfl Tryd.func15 (by kernel_rfl) rfl #[.agg #[.slice A0_0 l0_0.length c0_0]] rfl (by (try simp only [List.map_toArray, List.map_cons, List.map_nil]); first | done | rfl | (simp only [List.length_drop, List.length_take]; rfl)) ?_; (with_reducible refine (spec_DiskOk.calls k _ _ l0_0 true _ ?side1 ?side2 A11.out).mono ?_); (case side1 => repeat (first | exact (C_below HR0_0.out HB.out) | (with_reducible refine C_alloc ?_ _) | (with_reducible refine C_drewN ?_ _) | (with_reducible refine C_drew ?_))); (case side2 => exact HC0_0.out); rintro e w16 ⟨rfl, hb⟩; refine ⟨_, rfl, ?_⟩; have n0_ := Zh (Zm (g := gb558) (o := .cells #[.slice A0_0 l0_0.length c0_0] 29 (0, 0)) Zk hb); have n1_ := Zh (Zm (g := gb559) (o := .cells #[.slice none 0 0] 29 (0, 0)) Zk hb); have n2_ := Zh (Zl Zs hb); clear BK558; clear BK559; clear HB; have BK558 := n0_; have BK559 := n1_; have HB := n2_; clear n0_ n1_ n2_; (try clear hb); (try clear hb2); (try clear hk); (try clear hi)))
    go_meet
    case rel => exact ⟨_, (true), (by first | rfl | (simp; done) | (simp [*]; done)), H', ⟨by first | omega | exact Nat.le_refl _⟩, ⟨by (with_reducible repeat (first | refine Za ?_ _ | refine Zb ?_ | refine blk_alloc ?_ _)); exact BK558.out⟩, ⟨by (with_reducible repeat (first | refine Za ?_ _ | refine Zb ?_ | refine blk_alloc ?_ _)); exact BK559.out⟩, ⟨by repeat (first | (with_reducible first | exact HB.out | apply Zf | apply Zd | apply Ze | refine Zg ?_ GE558.out | refine Zg ?_ GE559.out) | exact HB.out)⟩⟩
   rw [if_neg c13] at H
   have c13b0 : decide (t560 < 0) = false := decide_eq_false c13
   clear c13
   (first | rw [c13b0] | (simp only [i64_w, i32_w]; rw [c13b0]) | skip)
   replace H := Option.bind_eq_some_iff.mp H
   obtain ⟨t562, A170, H⟩ := H
   replace H : (spec_RenameFile.j0 k a1 a2 t560 (!t562) l0_0) = some (r1, r2) := H
   have A17 := Zh A170
   clear A170
   have H' := Zh H
   clear H
   have hnb18 := NB558_559.out
   have hnc18 := NB559_558.out
   have hcz19_0 : w10.cell? ⟨gb558, 0, none⟩ = some (.slice A0_0 l0_0.length c0_0) := (blk_cell BK558.out 0).trans rfl
   have hfz19_0 := Zn BK558.out 0
   go_wp2_with (first | ((with_reducible refine gate_callee (f := 15) rfl ?_); refine goesL_ (some 14) rfl rfl Tryd.func15 (by kernel_rfl) rfl #[.agg #[.slice A0_0 l0_0.length c0_0]] rfl (by (try simp only [List.map_toArray, List.map_cons, List.map_nil]); first | done | rfl | (simp only [List.length_drop, List.length_take]; rfl)) ?_; (with_reducible refine (spec_DiskOk.calls k _ _ l0_0 true _ ?side1 ?side2 A11.out).mono ?_); (case side1 => repeat (first | exact (C_below HR0_0.out HB.out) | (with_reducible refine C_alloc ?_ _) | (with_reducible refine C_drewN ?_ _) | (with_reducible refine C_drew ?_))); (case side2 => exact HC0_0.out); rintro e w20 ⟨rfl, hb⟩; refine ⟨_, rfl, ?_⟩; have n0_ := Zh (Zm (g := gb558) (o := .cells #[.slice A0_0 l0_0.length c0_0] 29 (0, 0)) Zk hb); have n1_ := Zh (Zm (g := gb559) (o := .cells #[.slice none 0 0] 29 (0, 0)) Zk hb); have n2_ := Zh (Zl Zs hb); clear BK558; clear BK559; clear HB; have BK558 := n0_; have BK559 := n1_; have HB := n2_; clear n0_ n1_ n2_; (try clear hb); (try clear hb2); (try clear hk); (try clear hi)) | (go_at_call 57; (with_reducible refine (spec_l01Name.calls k a2 t562 _ A17.out).mono ?_); rintro e w' ⟨rfl, ⟨nd, rfl⟩⟩))
   go_meet
   case rel => exact ⟨_, (!t562), (by first | rfl | (simp; done) | (simp [*]; done)), H', ⟨by first | omega | exact Nat.le_refl _⟩, ⟨by (with_reducible repeat (first | refine Za ?_ _ | refine Zb ?_ | refine blk_alloc ?_ _)); exact BK558.out⟩, ⟨by (with_reducible repeat (first | refine Za ?_ _ | refine Zb ?_ | refine blk_alloc ?_ _)); exact BK559.out⟩, ⟨by repeat (first | (with_reducible first | exact HB.out | apply Zf | apply Zd | apply Ze | refine Zg ?_ GE558.out | refine Zg ?_ GE559.out) | exact HB.out)⟩⟩
  replace c12 := Bool.eq_false_iff.mpr c12
  subst c12
  have H1 : (spec_RenameFile.j0 k a1 a2 t560 true l0_0) = some (r1, r2) := by rw [if_neg (show ¬ (false = true) by decide)] at H; exact H
  clear H
  have H := H1
  clear H1
  have H' := Zh H
  clear H
  have hnb21 := NB558_559.out
  have hnc21 := NB559_558.out
  have hcz22_0 : w10.cell? ⟨gb558, 0, none⟩ = some (.slice A0_0 l0_0.length c0_0) := (blk_cell BK558.out 0).trans rfl
  have hfz22_0 := Zn BK558.out 0
  go_wp2_with (first | ((with_reducible refine gate_callee (f := 15) rfl ?_); refine goesL_ (some 14) rfl rfl Tryd.func15 (by kernel_rfl) rfl #[.agg #[.slice A0_0 l0_0.length c0_0]] rfl (by (try simp only [List.map_toArray, List.map_cons, List.map_nil]); first | done | rfl | (simp only [List.length_drop, List.length_take]; rfl)) ?_; (with_reducible refine (spec_DiskOk.calls k _ _ l0_0 false _ ?side1 ?side2 A11.out).mono ?_); (case side1 => repeat (first | exact (C_below HR0_0.out HB.out) | (with_reducible refine C_alloc ?_ _) | (with_reducible refine C_drewN ?_ _) | (with_reducible refine C_drew ?_))); (case side2 => exact HC0_0.out); rintro e w23 ⟨rfl, hb⟩; refine ⟨_, rfl, ?_⟩; have n0_ := Zh (Zm (g := gb558) (o := .cells #[.slice A0_0 l0_0.length c0_0] 29 (0, 0)) Zk hb); have n1_ := Zh (Zm (g := gb559) (o := .cells #[.slice none 0 0] 29 (0, 0)) Zk hb); have n2_ := Zh (Zl Zs hb); clear BK558; clear BK559; clear HB; have BK558 := n0_; have BK559 := n1_; have HB := n2_; clear n0_ n1_ n2_; (try clear hb); (try clear hb2); (try clear hk); (try clear hi)))
  go_meet
  case rel => exact ⟨_, (true), (by first | rfl | (simp; done) | (simp [*]; done)), H', ⟨by first | omega | exact Nat.le_refl _⟩, ⟨by (with_reducible repeat (first | refine Za ?_ _ | refine Zb ?_ | refine blk_alloc ?_ _)); exact BK558.out⟩, ⟨by (with_reducible repeat (first | refine Za ?_ _ | refine Zb ?_ | refine blk_alloc ?_ _)); exact BK559.out⟩, ⟨by repeat (first | (with_reducible first | exact HB.out | apply Zf | apply Zd | apply Ze | refine Zg ?_ GE558.out | refine Zg ?_ GE559.out) | exact HB.out)⟩⟩
 case rest =>
  clear HC5
  try clear c1
  try clear c2
  try clear p2
  try clear c4
  try clear c6
  try clear c8
  try clear c12
  try clear c13
  try clear c13b0
  try clear c14
  try clear c15
  try clear c18
  try clear c21
  try clear hcz15_0
  try clear hcz19_0
  try clear hcz22_0
  try clear hcz9_0
  try clear hfz15_0
  try clear hfz19_0
  try clear hfz22_0
  try clear hfz9_0
  obtain ⟨kq, x24_4, rfl, HA, HJ4, BK558, BK559, HB⟩ := hcut
  cases kq with
  | zero => exact absurd HA.out (by simp [spec_RenameFile.j0])
  | succ kj4 =>
   have H := HA.out
   clear HA
   simp only [spec_RenameFile.j0] at H
   by_cases c24 : x24_4 = true
   ·
    subst c24
    have H1 : ((spec_l03Copy.f kj4 l0_0).bind fun t563 => (some (t563, false))) = some (r1, r2) := by rw [if_pos rfl] at H; exact H
    clear H
    have H := H1
    clear H1
    replace H := Option.bind_eq_some_iff.mp H
    obtain ⟨t563, A250, H⟩ := H
    replace H : (some (t563, false)) = some (r1, r2) := H
    have A25 := Zh A250
    clear A250
    simp only [Option.some.injEq, Prod.mk.injEq] at H
    obtain ⟨rfl, rfl⟩ := H
    have hnb26 := NB558_559.out
    have hnc26 := NB559_558.out
    have hcz27_0 : wc.cell? ⟨gb558, 0, none⟩ = some (.slice A0_0 l0_0.length c0_0) := (blk_cell BK558.out 0).trans rfl
    have hfz27_0 := Zn BK558.out 0
    go_wp2_with (first | ((with_reducible refine gate_callee (f := 66) rfl ?_); refine goesL_ (some 26) rfl rfl Tryd.func66 (by kernel_rfl) rfl #[.agg #[.slice A0_0 l0_0.length c0_0]] rfl (by (try simp only [List.map_toArray, List.map_cons, List.map_nil]); first | done | rfl | (simp only [List.length_drop, List.length_take]; rfl)) ?_; (with_reducible refine (spec_l03Copy.calls kj4 _ _ l0_0 t563 _ ?side1 ?side2 A25.out).mono ?_); (case side1 => repeat (first | exact (C_below HR0_0.out HB.out) | (with_reducible refine C_alloc ?_ _) | (with_reducible refine C_drewN ?_ _) | (with_reducible refine C_drew ?_))); (case side2 => exact HC0_0.out); rintro e w28 ⟨v564, rfl, ho0, hb⟩; refine ⟨_, rfl, ?_⟩; have n0_ := Zh (S_lower ho0 (below_size Zs)); have n1_ := Zh (Zm (g := gb558) (o := .cells #[.slice A0_0 l0_0.length c0_0] 29 (0, 0)) Zk hb); have n2_ := Zh (Zm (g := gb559) (o := .cells #[.slice none 0 0] 29 (0, 0)) Zk hb); have n3_ := Zh (Zl Zs hb); clear BK558; clear BK559; clear HB; have HO565 := n0_; have BK558 := n1_; have BK559 := n2_; have HB := n3_; clear n0_ n1_ n2_ n3_; (try clear hb); (try clear hb2); (try clear hk); (try clear hi); (try clear ho0); obtain ⟨Ao29, co29, eo29⟩ := S_slice HO565.out; subst eo29; have hcz30_0 : w28.cell? ⟨gb559, 0, none⟩ = some (.slice none 0 0) := (blk_cell BK559.out 0).trans rfl; have hfz30_0 := Zn BK559.out 0))
    refine Zq (results_ct rfl _ _ gb559 29 #[.slice Ao29 t563.length co29] (0, 0) _ rfl (by (with_reducible repeat (first | refine Za ?_ _ | refine Zb ?_ | refine blk_alloc ?_ _)); refine blk_put (cs := #[.slice none 0 0]) ?_ 0 _ rfl; (with_reducible repeat (first | refine Za ?_ _ | refine Zb ?_ | refine blk_alloc ?_ _)); exact BK559.out) Tryd.underlying29 rfl (by kernel_rfl)) rfl ?_
    exact ⟨_, by first | rfl | (simp [errW_none, errW_some] <;> rfl) | (simp [*, errW_none, errW_some] <;> rfl), by (with_reducible repeat (first | apply S_alloc | apply S_drewN | apply S_drew)); exact S_mono (S_far (p := ⟨gb559, 0, none⟩) (S_types HO565.out BK559.out (by decide)) (fun _ hk => hk.2) (.slice Ao29 t563.length co29)) (fun _ hk => trivial), by repeat (first | (with_reducible first | exact HB.out | apply Zf | apply Zd | apply Ze | refine Zg ?_ GE558.out | refine Zg ?_ GE559.out) | exact HB.out)⟩
   replace c24 := Bool.eq_false_iff.mpr c24
   subst c24
   have H1 : (if 0 ≤ t560 then (if t560 < (l0_0.length : Int) then ((spec_l03Without.f kj4 l0_0 a1).bind fun t568 => ((spec_l03Put.f kj4 t568 a2 ((rd_T74 l0_0 t560).f1) ((rd_T74 l0_0 t560).f2)).bind fun t571 => (some (t571, true)))) else (none)) else (none)) = some (r1, r2) := by rw [if_neg (show ¬ (false = true) by decide)] at H; exact H
   clear H
   have H := H1
   clear H1
   by_cases c31 : 0 ≤ t560
   ·
    rw [if_pos c31] at H
    have c31b0 : decide (0 ≤ t560) = true := decide_eq_true c31
    clear c31
    by_cases c32 : t560 < (l0_0.length : Int)
    ·
     rw [if_pos c32] at H
     have c32b0 : decide (t560 < (l0_0.length : Int)) = true := decide_eq_true c32
     clear c32
     replace H := Option.bind_eq_some_iff.mp H
     obtain ⟨t568, A330, H⟩ := H
     replace H : ((spec_l03Put.f kj4 t568 a2 ((rd_T74 l0_0 t560).f1) ((rd_T74 l0_0 t560).f2)).bind fun t571 => (some (t571, true))) = some (r1, r2) := H
     have A33 := Zh A330
     clear A330
     replace H := Option.bind_eq_some_iff.mp H
     obtain ⟨t571, A340, H⟩ := H
     replace H : (some (t571, true)) = some (r1, r2) := H
     have A34 := Zh A340
     clear A340
     simp only [Option.some.injEq, Prod.mk.injEq] at H
     obtain ⟨rfl, rfl⟩ := H
     have hnb35 := NB558_559.out
     have hnc35 := NB559_558.out
     have hcz36_0 : wc.cell? ⟨gb558, 0, none⟩ = some (.slice A0_0 l0_0.length c0_0) := (blk_cell BK558.out 0).trans rfl
     have hfz36_0 := Zn BK558.out 0
     have p566 : 0 ≤ (t560 : Int) := Zo
     have q566 : t560 < (l0_0.length : Int) := Zo
     obtain ⟨ad566, A566_1, c566_1, A566_2, c566_2, e566, hx566_0, hx566_1, hx566_2, hl566_1, hi566_1, hl566_2, hi566_2⟩ := at_T74 HR0_0.out t560 p566 q566
     cases e566
     replace hx566_0 := Zc HB.out hx566_0
     replace hx566_1 := Zc HB.out hx566_1
     replace hx566_2 := Zc HB.out hx566_2
     have HR566_1 := Zh hi566_1
     have HC566_1 := Zh hl566_1
     clear hi566_1 hl566_1
     have HR566_2 := Zh hi566_2
     have HC566_2 := Zh hl566_2
     clear hi566_2 hl566_2
     replace p566 := eq_true p566
     replace q566 := eq_true q566
     try go_wp2_with (first | ((with_reducible refine gate_dst (N := 9) rfl ?_); refine box_event ?hg (N := 9) ?hd (cs := #[.string (⟨#[]⟩ : ByteArray), .slice none 0 0, .slice none 0 0]) (t := 74) ?hr ?_; (case hd => rfl); (case hg => rfl); (case hr => first | (go_simp; done) | (go_simp; rfl)); intro gb567 hg w37 hbox hb; have n0_ := Zh (Zm (g := gb558) (o := .cells #[.slice (some ad566) l0_0.length c0_0] 29 (0, 0)) Zk hb); have n1_ := Zh (Zm (g := gb559) (o := .cells #[.slice none 0 0] 29 (0, 0)) Zk hb); have n2_ := Zh (Zl Zs hb); have n3_ := Zh (hbox); have n4_ := Zh ((by rw [hg]; exact (below_size Zs) : w.heap.size ≤ gb567)); have n5_ := Zh ((by rw [hg]; exact (below_size Zs) : w.heap.size ≤ gb567)); have n6_ := Zh ((by rw [hg]; exact Nat.ne_of_lt (blk_lt (g := gb558) (o := .cells #[.slice (some ad566) l0_0.length c0_0] 29 (0, 0)) Zk) : gb558 ≠ gb567)); have n7_ := Zh ((by rw [hg]; exact Nat.ne_of_gt (blk_lt (g := gb558) (o := .cells #[.slice (some ad566) l0_0.length c0_0] 29 (0, 0)) Zk) : gb567 ≠ gb558)); have n8_ := Zh ((by rw [hg]; exact Nat.ne_of_lt (blk_lt (g := gb559) (o := .cells #[.slice none 0 0] 29 (0, 0)) Zk) : gb559 ≠ gb567)); have n9_ := Zh ((by rw [hg]; exact Nat.ne_of_gt (blk_lt (g := gb559) (o := .cells #[.slice none 0 0] 29 (0, 0)) Zk) : gb567 ≠ gb559)); clear BK558; clear BK559; clear HB; have BK558 := n0_; have BK559 := n1_; have HB := n2_; have BK567 := n3_; have GW567 := n4_; have GE567 := n5_; have NB558_567 := n6_; have NB567_558 := n7_; have NB559_567 := n8_; have NB567_559 := n9_; clear n0_ n1_ n2_ n3_ n4_ n5_ n6_ n7_ n8_ n9_; clear hb hbox hg; have hnb38 := NB567_558.out; have hnc38 := NB558_567.out; have hnb39 := NB567_559.out; have hnc39 := NB559_567.out; have hcz40_0 : w37.cell? ⟨gb567, 0, none⟩ = some (.string (⟨#[]⟩ : ByteArray)) := (blk_cell BK567.out 0).trans rfl; have hcz40_1 : w37.cell? ⟨gb567, 1, none⟩ = some (.slice none 0 0) := (blk_cell BK567.out 1).trans rfl; have hcz40_2 : w37.cell? ⟨gb567, 2, none⟩ = some (.slice none 0 0) := (blk_cell BK567.out 2).trans rfl; have hfz40_0 := Zn BK567.out 0; have hfz40_1 := Zn BK567.out 1; have hfz40_2 := Zn BK567.out 2))
     have n0_ : Aside0 (((((w37.setCell ⟨gb567, 0, none⟩ (.string ((rd_T74 l0_0 t560).f0))).setCell ⟨gb567, 1, none⟩ (.slice A566_1 ((rd_T74 l0_0 t560).f1).length c566_1)).setCell ⟨gb567, 2, none⟩ (.slice A566_2 ((rd_T74 l0_0 t560).f2).length c566_2)).setCell ⟨gb567, 0, none⟩ (.string a2)).heap[gb558]? = some (.cells #[.slice (some ad566) l0_0.length c0_0] 29 (0, 0))) := ⟨by (with_reducible repeat (first | refine Za ?_ _ | refine Zb ?_ | refine blk_alloc ?_ _)); refine blk_far ?_ NB558_567.out _; (with_reducible repeat (first | refine Za ?_ _ | refine Zb ?_ | refine blk_alloc ?_ _)); refine blk_far ?_ NB558_567.out _; (with_reducible repeat (first | refine Za ?_ _ | refine Zb ?_ | refine blk_alloc ?_ _)); refine blk_far ?_ NB558_567.out _; (with_reducible repeat (first | refine Za ?_ _ | refine Zb ?_ | refine blk_alloc ?_ _)); refine blk_far ?_ NB558_567.out _; (with_reducible repeat (first | refine Za ?_ _ | refine Zb ?_ | refine blk_alloc ?_ _)); exact BK558.out⟩
     have n1_ : Aside0 (((((w37.setCell ⟨gb567, 0, none⟩ (.string ((rd_T74 l0_0 t560).f0))).setCell ⟨gb567, 1, none⟩ (.slice A566_1 ((rd_T74 l0_0 t560).f1).length c566_1)).setCell ⟨gb567, 2, none⟩ (.slice A566_2 ((rd_T74 l0_0 t560).f2).length c566_2)).setCell ⟨gb567, 0, none⟩ (.string a2)).heap[gb559]? = some (.cells #[.slice none 0 0] 29 (0, 0))) := ⟨by (with_reducible repeat (first | refine Za ?_ _ | refine Zb ?_ | refine blk_alloc ?_ _)); refine blk_far ?_ NB559_567.out _; (with_reducible repeat (first | refine Za ?_ _ | refine Zb ?_ | refine blk_alloc ?_ _)); refine blk_far ?_ NB559_567.out _; (with_reducible repeat (first | refine Za ?_ _ | refine Zb ?_ | refine blk_alloc ?_ _)); refine blk_far ?_ NB559_567.out _; (with_reducible repeat (first | refine Za ?_ _ | refine Zb ?_ | refine blk_alloc ?_ _)); refine blk_far ?_ NB559_567.out _; (with_reducible repeat (first | refine Za ?_ _ | refine Zb ?_ | refine blk_alloc ?_ _)); exact BK559.out⟩
     have n2_ : Aside0 (((((w37.setCell ⟨gb567, 0, none⟩ (.string ((rd_T74 l0_0 t560).f0))).setCell ⟨gb567, 1, none⟩ (.slice A566_1 ((rd_T74 l0_0 t560).f1).length c566_1)).setCell ⟨gb567, 2, none⟩ (.slice A566_2 ((rd_T74 l0_0 t560).f2).length c566_2)).setCell ⟨gb567, 0, none⟩ (.string a2)).heap[gb567]? = some (.cells #[.string a2, .slice A566_1 ((rd_T74 l0_0 t560).f1).length c566_1, .slice A566_2 ((rd_T74 l0_0 t560).f2).length c566_2] 74 (0, 0))) := ⟨by (with_reducible repeat (first | refine Za ?_ _ | refine Zb ?_ | refine blk_alloc ?_ _)); refine blk_put (cs := #[.string ((rd_T74 l0_0 t560).f0), .slice A566_1 ((rd_T74 l0_0 t560).f1).length c566_1, .slice A566_2 ((rd_T74 l0_0 t560).f2).length c566_2]) ?_ 0 _ rfl; (with_reducible repeat (first | refine Za ?_ _ | refine Zb ?_ | refine blk_alloc ?_ _)); refine blk_put (cs := #[.string ((rd_T74 l0_0 t560).f0), .slice A566_1 ((rd_T74 l0_0 t560).f1).length c566_1, .slice none 0 0]) ?_ 2 _ rfl; (with_reducible repeat (first | refine Za ?_ _ | refine Zb ?_ | refine blk_alloc ?_ _)); refine blk_put (cs := #[.string ((rd_T74 l0_0 t560).f0), .slice none 0 0, .slice none 0 0]) ?_ 1 _ rfl; (with_reducible repeat (first | refine Za ?_ _ | refine Zb ?_ | refine blk_alloc ?_ _)); refine blk_put (cs := #[.string (⟨#[]⟩ : ByteArray), .slice none 0 0, .slice none 0 0]) ?_ 0 _ rfl; (with_reducible repeat (first | refine Za ?_ _ | refine Zb ?_ | refine blk_alloc ?_ _)); exact BK567.out⟩
     have n3_ : Aside0 (Below w.heap.size w ((((w37.setCell ⟨gb567, 0, none⟩ (.string ((rd_T74 l0_0 t560).f0))).setCell ⟨gb567, 1, none⟩ (.slice A566_1 ((rd_T74 l0_0 t560).f1).length c566_1)).setCell ⟨gb567, 2, none⟩ (.slice A566_2 ((rd_T74 l0_0 t560).f2).length c566_2)).setCell ⟨gb567, 0, none⟩ (.string a2))) := ⟨by repeat (first | (with_reducible first | exact HB.out | apply Zf | apply Zd | apply Ze | refine Zg ?_ GE558.out | refine Zg ?_ GE559.out | refine Zg ?_ GE567.out) | exact HB.out)⟩
     (try clear BK558)
     (try clear BK559)
     (try clear BK567)
     (try clear HB)
     generalize ((((w37.setCell ⟨gb567, 0, none⟩ (.string ((rd_T74 l0_0 t560).f0))).setCell ⟨gb567, 1, none⟩ (.slice A566_1 ((rd_T74 l0_0 t560).f1).length c566_1)).setCell ⟨gb567, 2, none⟩ (.slice A566_2 ((rd_T74 l0_0 t560).f2).length c566_2)).setCell ⟨gb567, 0, none⟩ (.string a2)) = w41 at n0_ n1_ n2_ n3_ ⊢
     have BK558 := n0_
     have BK559 := n1_
     have BK567 := n2_
     have HB := n3_
     clear n0_ n1_ n2_ n3_
     have n0_ := Zh (Zb BK558.out)
     have n1_ := Zh (Zb BK559.out)
     have n2_ := Zh (Zb BK567.out)
     have n3_ := Zh (Ze HB.out)
     clear BK558
     clear BK559
     clear BK567
     clear HB
     have BK558 := n0_
     have BK559 := n1_
     have BK567 := n2_
     have HB := n3_
     clear n0_ n1_ n2_ n3_
     refine start_ (n := 7) (S := fun w' => w'.cell? ⟨gb558, 0, none⟩ = some (.slice (some ad566) l0_0.length c0_0) ∧ w'.cell? ⟨gb567, 0, none⟩ = some (.string a2) ∧ w'.cell? ⟨gb567, 1, none⟩ = some (.slice A566_1 ((rd_T74 l0_0 t560).f1).length c566_1) ∧ w'.cell? ⟨gb567, 2, none⟩ = some (.slice A566_2 ((rd_T74 l0_0 t560).f2).length c566_2)) (ds := []) #[false, false, false, false, false, false, false] (by kernel_rfl) rfl rfl ⟨(blk_cell BK558.out 0).trans rfl, (blk_cell BK567.out 0).trans rfl, (blk_cell BK567.out 1).trans rfl, (blk_cell BK567.out 2).trans rfl⟩ (fun hHeld => ?_)
     generalize w41.drew = w42 at BK558 BK559 BK567 HB hHeld ⊢
     refine pure_ (i := 1) (N := some 35) (v := ?_) (a' := ?_) #[false, true, false, false, false, false, false] rfl rfl (by kernel_rfl) (fun _ _ _ h => h) (Or.inl ⟨by rfl, ?_⟩) ?_ ?_
     rotate_left
     ·
      intro w'
      go_simp
      with_reducible rfl
     rotate_left
     ·
      simp only [Act.put, List.setIfInBounds_toArray, List.set_cons_zero, List.set_cons_succ, i64_w, i32_w]
      rfl
     refine take_ (i := 0) (N := some 34) (v := ?_) (a' := ?_) #[true, true, false, false, false, false, false] rfl rfl (by kernel_rfl) (fun _ _ _ h => h) (Or.inl ⟨by rfl, ?_⟩) hHeld ?_ ?_
     rotate_left
     ·
      rintro w' ⟨s0, s1, s2, s3⟩
      go_simp
      with_reducible rfl
     rotate_left
     ·
      simp only [Act.put, List.setIfInBounds_toArray, List.set_cons_zero, List.set_cons_succ, i64_w, i32_w]
      rfl
     refine take_ (i := 3) (N := some 37) (v := ?_) (a' := ?_) #[true, true, false, true, false, false, false] rfl rfl (by kernel_rfl) (fun _ _ _ h => h) (Or.inl ⟨by rfl, ?_⟩) hHeld ?_ ?_
     rotate_left
     ·
      rintro w' ⟨s0, s1, s2, s3⟩
      go_simp
      with_reducible rfl
     rotate_left
     ·
      simp only [Act.put, List.setIfInBounds_toArray, List.set_cons_zero, List.set_cons_succ, i64_w, i32_w]
      rfl
     refine one_ (i := 2) (N := some 36) #[true, true, true, true, false, false, false] rfl rfl (by kernel_rfl) (by decide) (fun K hK => ?_)
     refine goes_ Tryd.func67 (by kernel_rfl) rfl #[.agg #[.slice (some ad566) l0_0.length c0_0], .string a1] (by rfl) rfl rfl (by (try simp only [List.map_toArray, List.map_cons, List.map_nil]); first | done | rfl | (simp only [List.length_drop, List.length_take]; rfl)) ?_
     with_reducible refine (spec_l03Without.calls kj4 _ _ l0_0 a1 t568 _ ?side1 ?side2 A33.out).mono ?_
     (case side1 => repeat (first | exact (C_below HR0_0.out HB.out) | (with_reducible refine C_alloc ?_ _) | (with_reducible refine C_drewN ?_ _) | (with_reducible refine C_drew ?_)))
     (case side2 => exact HC0_0.out)
     rintro e w43 ⟨v569, rfl, ho0, hb⟩
     refine ⟨_, rfl, ?_⟩
     have n0_ := Zh (S_lower (S_newB ho0 (g := gb567) (o := .cells #[.string a2, .slice A566_1 ((rd_T74 l0_0 t560).f1).length c566_1, .slice A566_2 ((rd_T74 l0_0 t560).f2).length c566_2] 74 (0, 0)) Zk) (below_size Zs))
     have n1_ := Zh (Zm (g := gb558) (o := .cells #[.slice (some ad566) l0_0.length c0_0] 29 (0, 0)) Zk hb)
     have n2_ := Zh (Zm (g := gb559) (o := .cells #[.slice none 0 0] 29 (0, 0)) Zk hb)
     have n3_ := Zh (Zm (g := gb567) (o := .cells #[.string a2, .slice A566_1 ((rd_T74 l0_0 t560).f1).length c566_1, .slice A566_2 ((rd_T74 l0_0 t560).f2).length c566_2] 74 (0, 0)) Zk hb)
     have n4_ := Zh (Zl Zs hb)
     clear BK558
     clear BK559
     clear BK567
     clear HB
     have HO570 := n0_
     have BK558 := n1_
     have BK559 := n2_
     have BK567 := n3_
     have HB := n4_
     clear n0_ n1_ n2_ n3_ n4_
     (try clear hb)
     (try clear hb2)
     (try clear hk)
     (try clear hi)
     (try clear ho0)
     obtain ⟨Ao44, co44, eo44⟩ := S_slice HO570.out
     (first | subst eo44 | (injection eo44 with f1_ f2_ f3_; have f4_ := f1_.symm; have f5_ := f3_.symm; clear f1_ f2_ f3_; subst f4_; subst f5_))
     refine hK.out _ _ ⟨(blk_cell BK558.out 0).trans rfl, (blk_cell BK567.out 0).trans rfl, (blk_cell BK567.out 1).trans rfl, (blk_cell BK567.out 2).trans rfl⟩ (fun hHeld => ?_)
     clear hK K
     refine norm_ (a' := ?_) ?_ ?_
     rotate_left
     ·
      show Act.put _ (some 36) _ = _
      simp only [Act.put, List.setIfInBounds_toArray, List.set_cons_zero, List.set_cons_succ, i64_w, i32_w]
      rfl
     refine one_ (i := 4) (N := some 38) #[true, true, true, true, true, false, false] rfl rfl (by kernel_rfl) (by decide) (fun K hK => ?_)
     refine goes_ Tryd.func70 (by kernel_rfl) rfl #[.agg #[.slice Ao44 t568.length co44], .agg #[.string a2, .slice A566_1 ((rd_T74 l0_0 t560).f1).length c566_1, .slice A566_2 ((rd_T74 l0_0 t560).f2).length c566_2]] (by rfl) rfl rfl (by (try simp only [List.map_toArray, List.map_cons, List.map_nil]); first | done | rfl | (simp only [List.length_drop, List.length_take]; rfl)) ?_
     with_reducible refine (spec_l03Put.calls kj4 _ _ t568 a2 _ _ ((rd_T74 l0_0 t560).f1) _ _ ((rd_T74 l0_0 t560).f2) t571 _ ?side1 ?side2 ?side3 ?side4 ?side5 ?side6 A34.out).mono ?_
     (case side1 => repeat (first | exact (S_reads' HO570.out).2.2 | (with_reducible refine C_alloc ?_ _) | (with_reducible refine C_drewN ?_ _) | (with_reducible refine C_drew ?_)))
     (case side2 => exact (S_reads' HO570.out).2.1)
     (case side3 => repeat (first | exact (C_below HR566_1.out HB.out) | (with_reducible refine C_alloc ?_ _) | (with_reducible refine C_drewN ?_ _) | (with_reducible refine C_drew ?_)))
     (case side4 => exact HC566_1.out)
     (case side5 => repeat (first | exact (C_below HR566_2.out HB.out) | (with_reducible refine C_alloc ?_ _) | (with_reducible refine C_drewN ?_ _) | (with_reducible refine C_drew ?_)))
     (case side6 => exact HC566_2.out)
     rintro e w45 ⟨v572, rfl, ho0, hb⟩
     refine ⟨_, rfl, ?_⟩
     have n0_ := Zh (S_elder' (by (with_reducible repeat (first | apply S_alloc | apply S_drewN | apply S_drew)); exact HO570.out) (S_base ho0) hb)
     have n1_ := Zh (S_lower (S_newB (S_new' ho0 (S_lt (by (with_reducible repeat (first | apply S_alloc | apply S_drewN | apply S_drew)); exact HO570.out))) (g := gb567) (o := .cells #[.string a2, .slice A566_1 ((rd_T74 l0_0 t560).f1).length c566_1, .slice A566_2 ((rd_T74 l0_0 t560).f2).length c566_2] 74 (0, 0)) Zk) (below_size Zs))
     have n2_ := Zh (Zm (g := gb558) (o := .cells #[.slice (some ad566) l0_0.length c0_0] 29 (0, 0)) Zk hb)
     have n3_ := Zh (Zm (g := gb559) (o := .cells #[.slice none 0 0] 29 (0, 0)) Zk hb)
     have n4_ := Zh (Zm (g := gb567) (o := .cells #[.string a2, .slice A566_1 ((rd_T74 l0_0 t560).f1).length c566_1, .slice A566_2 ((rd_T74 l0_0 t560).f2).length c566_2] 74 (0, 0)) Zk hb)
     have n5_ := Zh (Zl Zs hb)
     clear HO570
     clear BK558
     clear BK559
     clear BK567
     clear HB
     have HO570 := n0_
     have HO573 := n1_
     have BK558 := n2_
     have BK559 := n3_
     have BK567 := n4_
     have HB := n5_
     clear n0_ n1_ n2_ n3_ n4_ n5_
     (try clear hb)
     (try clear hb2)
     (try clear hk)
     (try clear hi)
     (try clear ho0)
     obtain ⟨Ao46, co46, eo46⟩ := S_slice HO573.out
     (first | subst eo46 | (injection eo46 with f1_ f2_ f3_; have f4_ := f1_.symm; have f5_ := f3_.symm; clear f1_ f2_ f3_; subst f4_; subst f5_))
     refine hK.out _ _ ⟨(blk_cell BK558.out 0).trans rfl, (blk_cell BK567.out 0).trans rfl, (blk_cell BK567.out 1).trans rfl, (blk_cell BK567.out 2).trans rfl⟩ (fun hHeld => ?_)
     clear hK K
     refine norm_ (a' := ?_) ?_ ?_
     rotate_left
     ·
      show Act.put _ (some 38) _ = _
      simp only [Act.put, List.setIfInBounds_toArray, List.set_cons_zero, List.set_cons_succ, i64_w, i32_w]
      rfl
     refine one_ (i := 5) (N := none) #[true, true, true, true, true, true, false] rfl rfl (by kernel_rfl) (by decide) (fun K hK => ?_)
     have hs47 : w45.cell? ⟨gb559, 0, none⟩ = some (.slice none 0 0) := (blk_cell BK559.out 0).trans rfl
     have hfs47 := Zn BK559.out 0
     have hns47_0 := NB558_559.out
     have hns47_2 := NB567_559.out
     have hms47_0 := NB559_558.out
     have hms47_2 := NB559_567.out
     refine skip_ (w1 := ?_) (by rfl) rfl ?_ ?_
     rotate_left
     ·
      go_simp
      rfl
     refine hK.out _ _ ⟨((cell_far (p := ⟨gb559, _, none⟩) NB558_559.out _).trans (hHeld.1)), ((cell_far (p := ⟨gb559, _, none⟩) NB567_559.out _).trans (hHeld.2.1)), ((cell_far (p := ⟨gb559, _, none⟩) NB567_559.out _).trans (hHeld.2.2.1)), ((cell_far (p := ⟨gb559, _, none⟩) NB567_559.out _).trans (hHeld.2.2.2))⟩ (fun hHeld => ?_)
     clear hK K
     refine pure_ (i := 6) (N := some 7) (v := ?_) (a' := ?_) #[true, true, true, true, true, true, true] rfl rfl (by kernel_rfl) (fun _ _ _ h => h) (Or.inl ⟨by rfl, ?_⟩) ?_ ?_
     rotate_left
     ·
      intro w'
      go_simp
      with_reducible rfl
     rotate_left
     ·
      simp only [Act.put, List.setIfInBounds_toArray, List.set_cons_zero, List.set_cons_succ, i64_w, i32_w]
      rfl
     refine done_ (by kernel_rfl) ?_
     try go_wp2
     refine Zq (results_ct rfl _ _ gb559 29 #[.slice Ao46 t571.length co46] (0, 0) _ rfl (by (with_reducible repeat (first | refine Za ?_ _ | refine Zb ?_ | refine blk_alloc ?_ _)); refine blk_put (cs := #[.slice none 0 0]) ?_ 0 _ rfl; (with_reducible repeat (first | refine Za ?_ _ | refine Zb ?_ | refine blk_alloc ?_ _)); exact BK559.out) Tryd.underlying29 rfl (by kernel_rfl)) rfl ?_
     exact ⟨_, by first | rfl | (simp [errW_none, errW_some] <;> rfl) | (simp [*, errW_none, errW_some] <;> rfl), by (with_reducible repeat (first | apply S_alloc | apply S_drewN | apply S_drew)); exact S_mono (S_far (p := ⟨gb559, 0, none⟩) (S_types HO573.out BK559.out (by decide)) (fun _ hk => hk.2) (.slice Ao46 t571.length co46)) (fun _ hk => trivial), by repeat (first | (with_reducible first | exact HB.out | apply Zf | apply Zd | apply Ze | refine Zg ?_ GE558.out | refine Zg ?_ GE559.out | refine Zg ?_ GE567.out) | exact HB.out)⟩
    rw [if_neg c32] at H
    exact absurd H (by simp)
   rw [if_neg c31] at H
   exact absurd H (by simp)
def spec_RemoveFile.j0 : Nat → ByteArray → Bool → List (S74) → Option ((List (S74)) × Bool)
 | 0, _, _, _ => none
 | k + 1, x1, x14, x256000 => if x14 = true then ((spec_l03Copy.f k x256000).bind fun t259 => (some (t259, false))) else ((spec_l03Without.f k x256000 x1).bind fun t262 => (some (t262, true)))
def spec_RemoveFile.f (k : Nat) (l0_0 : List (S74)) (a1 : ByteArray) : Option ((List (S74)) × Bool) := (spec_DiskOk.f k l0_0).bind fun t257 => (if t257 = true then ((spec_l03Find.f k l0_0 a1).bind fun t258 => (spec_RemoveFile.j0 k a1 (decide (t258 < 0)) l0_0)) else (spec_RemoveFile.j0 k a1 true l0_0))
set_option maxHeartbeats 8000000 in
set_option maxRecDepth 100000 in
theorem spec_RemoveFile.calls (k : Nat) (A0_0 : Option Addr) (c0_0 : Nat) (l0_0 : List (S74)) (a1 : ByteArray) (r1 : List (S74)) (r2 : Bool) (w : World) (hr0_0 : Kd.C k74 w A0_0 l0_0.length l0_0) (hc0_0 : l0_0.length ≤ c0_0) (h : spec_RemoveFile.f k l0_0 a1 = some (r1, r2)) :
  Calls Tryd.prog 25 #[.agg #[.slice A0_0 l0_0.length c0_0], .string a1] w fun e w' => ∃ v0_ : Value, e = .returned (.tuple #[.agg #[v0_], .bool r2]) ∧ Kd.S k74 74 w' w.heap.size (fun _ => True) v0_ r1 ∧ Below w.heap.size w w' := by
 have hu29 := Tryd.underlying29
 have HR0_0 := Zh hr0_0
 have HC0_0 := Zh hc0_0
 clear hr0_0 hc0_0
 have HB := Zh (Below.refl w.heap.size w)
 have H : ((spec_DiskOk.f k l0_0).bind fun t257 => (if t257 = true then ((spec_l03Find.f k l0_0 a1).bind fun t258 => (spec_RemoveFile.j0 k a1 (decide (t258 < 0)) l0_0)) else (spec_RemoveFile.j0 k a1 true l0_0))) = some (r1, r2) := h
 clear h
 have HC3 := Zh H
 clear H
 go_enter Tryd.func25, Tryd.ntmps25
 go_upto_region 1 with (first | ((with_reducible refine gate_dst (N := 2) rfl ?_); refine box_event ?hg (N := 2) ?hd (cs := #[.slice A0_0 l0_0.length c0_0]) (t := 29) ?hr ?_; (case hd => rfl); (case hg => rfl); (case hr => first | (go_simp; done) | (go_simp; rfl)); intro gb255 hg w4 hbox hb; have n0_ := Zh (Zl Zs hb); have n1_ := Zh (hbox); have n2_ := Zh ((by rw [hg]; exact (below_size Zs) : w.heap.size ≤ gb255)); have n3_ := Zh ((by rw [hg]; exact (below_size Zs) : w.heap.size ≤ gb255)); clear HB; have HB := n0_; have BK255 := n1_; have GW255 := n2_; have GE255 := n3_; clear n0_ n1_ n2_ n3_; clear hb hbox hg) | ((with_reducible refine gate_dst (N := 4) rfl ?_); refine box_event ?hg (N := 4) ?hd (cs := #[.slice none 0 0]) (t := 29) ?hr ?_; (case hd => rfl); (case hg => rfl); (case hr => first | (go_simp; done) | (go_simp; rfl)); intro gb256 hg w5 hbox hb; have n0_ := Zh (Zm (g := gb255) (o := .cells #[.slice A0_0 l0_0.length c0_0] 29 (0, 0)) Zk hb); have n1_ := Zh (Zl Zs hb); have n2_ := Zh (hbox); have n3_ := Zh ((by rw [hg]; exact (below_size Zs) : w.heap.size ≤ gb256)); have n4_ := Zh ((by rw [hg]; exact (below_size Zs) : w.heap.size ≤ gb256)); have n5_ := Zh ((by rw [hg]; exact Nat.ne_of_lt (blk_lt (g := gb255) (o := .cells #[.slice A0_0 l0_0.length c0_0] 29 (0, 0)) Zk) : gb255 ≠ gb256)); have n6_ := Zh ((by rw [hg]; exact Nat.ne_of_gt (blk_lt (g := gb255) (o := .cells #[.slice A0_0 l0_0.length c0_0] 29 (0, 0)) Zk) : gb256 ≠ gb255)); clear BK255; clear HB; have BK255 := n0_; have HB := n1_; have BK256 := n2_; have GW256 := n3_; have GE256 := n4_; have NB255_256 := n5_; have NB256_255 := n6_; clear n0_ n1_ n2_ n3_ n4_ n5_ n6_; clear hb hbox hg))
 (try simp only [Act.put, List.setIfInBounds_toArray, List.set_cons_zero, List.set_cons_succ])
 go_cut [14] (fun v14 wc => ∃ (kq : Nat) (x14_2 : Bool), v14 = .bool x14_2 ∧ Aside0 (spec_RemoveFile.j0 kq a1 x14_2 l0_0 = some (r1, r2)) ∧ Aside0 (kq ≤ k) ∧ Aside0 (wc.heap[gb255]? = some (.cells #[(.slice A0_0 l0_0.length c0_0)] 29 (0, 0))) ∧ Aside0 (wc.heap[gb256]? = some (.cells #[(.slice none 0 0)] 29 (0, 0))) ∧ Aside0 (Below w.heap.size w wc))
 case first =>
  have H := HC3.out
  clear HC3
  replace H := Option.bind_eq_some_iff.mp H
  obtain ⟨t257, A60, H⟩ := H
  replace H : (if t257 = true then ((spec_l03Find.f k l0_0 a1).bind fun t258 => (spec_RemoveFile.j0 k a1 (decide (t258 < 0)) l0_0)) else (spec_RemoveFile.j0 k a1 true l0_0)) = some (r1, r2) := H
  have A6 := Zh A60
  clear A60
  by_cases c7 : t257 = true
  ·
   subst c7
   have H1 : ((spec_l03Find.f k l0_0 a1).bind fun t258 => (spec_RemoveFile.j0 k a1 (decide (t258 < 0)) l0_0)) = some (r1, r2) := by rw [if_pos rfl] at H; exact H
   clear H
   have H := H1
   clear H1
   replace H := Option.bind_eq_some_iff.mp H
   obtain ⟨t258, A80, H⟩ := H
   replace H : (spec_RemoveFile.j0 k a1 (decide (t258 < 0)) l0_0) = some (r1, r2) := H
   have A8 := Zh A80
   clear A80
   have H' := Zh H
   clear H
   have hnb9 := NB255_256.out
   have hnc9 := NB256_255.out
   have hcz10_0 : w5.cell? ⟨gb255, 0, none⟩ = some (.slice A0_0 l0_0.length c0_0) := (blk_cell BK255.out 0).trans rfl
   have hfz10_0 := Zn BK255.out 0
   go_wp2_with (first | ((with_reducible refine gate_callee (f := 15) rfl ?_); refine goesL_ (some 7) rfl rfl Tryd.func15 (by kernel_rfl) rfl #[.agg #[.slice A0_0 l0_0.length c0_0]] rfl (by (try simp only [List.map_toArray, List.map_cons, List.map_nil]); first | done | rfl | (simp only [List.length_drop, List.length_take]; rfl)) ?_; (with_reducible refine (spec_DiskOk.calls k _ _ l0_0 true _ ?side1 ?side2 A6.out).mono ?_); (case side1 => repeat (first | exact (C_below HR0_0.out HB.out) | (with_reducible refine C_alloc ?_ _) | (with_reducible refine C_drewN ?_ _) | (with_reducible refine C_drew ?_))); (case side2 => exact HC0_0.out); rintro e w11 ⟨rfl, hb⟩; refine ⟨_, rfl, ?_⟩; have n0_ := Zh (Zm (g := gb255) (o := .cells #[.slice A0_0 l0_0.length c0_0] 29 (0, 0)) Zk hb); have n1_ := Zh (Zm (g := gb256) (o := .cells #[.slice none 0 0] 29 (0, 0)) Zk hb); have n2_ := Zh (Zl Zs hb); clear BK255; clear BK256; clear HB; have BK255 := n0_; have BK256 := n1_; have HB := n2_; clear n0_ n1_ n2_; (try clear hb); (try clear hb2); (try clear hk); (try clear hi); have hcz12_0 : w11.cell? ⟨gb255, 0, none⟩ = some (.slice A0_0 l0_0.length c0_0) := (blk_cell BK255.out 0).trans rfl; have hfz12_0 := Zn BK255.out 0) | (go_at_call 61; (with_reducible refine (spec_l03Find.calls k _ _ l0_0 a1 t258 _ ?side1 ?side2 A8.out).mono ?_); (case side1 => repeat (first | exact (C_below HR0_0.out HB.out) | (with_reducible refine C_alloc ?_ _) | (with_reducible refine C_drewN ?_ _) | (with_reducible refine C_drew ?_))); (case side2 => exact HC0_0.out); rintro e w13 ⟨rfl, hb⟩; have n0_ := Zh (Zm (g := gb255) (o := .cells #[.slice A0_0 l0_0.length c0_0] 29 (0, 0)) Zk hb); have n1_ := Zh (Zm (g := gb256) (o := .cells #[.slice none 0 0] 29 (0, 0)) Zk hb); have n2_ := Zh (Zl Zs hb); clear BK255; clear BK256; clear HB; have BK255 := n0_; have BK256 := n1_; have HB := n2_; clear n0_ n1_ n2_; (try clear hb); (try clear hb2); (try clear hk); (try clear hi)))
   go_meet
   case rel => exact ⟨_, (decide (t258 < 0)), (by first | rfl | (simp; done) | (simp [*]; done)), H', ⟨by first | omega | exact Nat.le_refl _⟩, ⟨by (with_reducible repeat (first | refine Za ?_ _ | refine Zb ?_ | refine blk_alloc ?_ _)); exact BK255.out⟩, ⟨by (with_reducible repeat (first | refine Za ?_ _ | refine Zb ?_ | refine blk_alloc ?_ _)); exact BK256.out⟩, ⟨by repeat (first | (with_reducible first | exact HB.out | apply Zf | apply Zd | apply Ze | refine Zg ?_ GE255.out | refine Zg ?_ GE256.out) | exact HB.out)⟩⟩
  replace c7 := Bool.eq_false_iff.mpr c7
  subst c7
  have H1 : (spec_RemoveFile.j0 k a1 true l0_0) = some (r1, r2) := by rw [if_neg (show ¬ (false = true) by decide)] at H; exact H
  clear H
  have H := H1
  clear H1
  have H' := Zh H
  clear H
  have hnb14 := NB255_256.out
  have hnc14 := NB256_255.out
  have hcz15_0 : w5.cell? ⟨gb255, 0, none⟩ = some (.slice A0_0 l0_0.length c0_0) := (blk_cell BK255.out 0).trans rfl
  have hfz15_0 := Zn BK255.out 0
  go_wp2_with (first | ((with_reducible refine gate_callee (f := 15) rfl ?_); refine goesL_ (some 7) rfl rfl Tryd.func15 (by kernel_rfl) rfl #[.agg #[.slice A0_0 l0_0.length c0_0]] rfl (by (try simp only [List.map_toArray, List.map_cons, List.map_nil]); first | done | rfl | (simp only [List.length_drop, List.length_take]; rfl)) ?_; (with_reducible refine (spec_DiskOk.calls k _ _ l0_0 false _ ?side1 ?side2 A6.out).mono ?_); (case side1 => repeat (first | exact (C_below HR0_0.out HB.out) | (with_reducible refine C_alloc ?_ _) | (with_reducible refine C_drewN ?_ _) | (with_reducible refine C_drew ?_))); (case side2 => exact HC0_0.out); rintro e w16 ⟨rfl, hb⟩; refine ⟨_, rfl, ?_⟩; have n0_ := Zh (Zm (g := gb255) (o := .cells #[.slice A0_0 l0_0.length c0_0] 29 (0, 0)) Zk hb); have n1_ := Zh (Zm (g := gb256) (o := .cells #[.slice none 0 0] 29 (0, 0)) Zk hb); have n2_ := Zh (Zl Zs hb); clear BK255; clear BK256; clear HB; have BK255 := n0_; have BK256 := n1_; have HB := n2_; clear n0_ n1_ n2_; (try clear hb); (try clear hb2); (try clear hk); (try clear hi)))
  go_meet
  case rel => exact ⟨_, (true), (by first | rfl | (simp; done) | (simp [*]; done)), H', ⟨by first | omega | exact Nat.le_refl _⟩, ⟨by (with_reducible repeat (first | refine Za ?_ _ | refine Zb ?_ | refine blk_alloc ?_ _)); exact BK255.out⟩, ⟨by (with_reducible repeat (first | refine Za ?_ _ | refine Zb ?_ | refine blk_alloc ?_ _)); exact BK256.out⟩, ⟨by repeat (first | (with_reducible first | exact HB.out | apply Zf | apply Zd | apply Ze | refine Zg ?_ GE255.out | refine Zg ?_ GE256.out) | exact HB.out)⟩⟩
 case rest =>
  clear HC3
  try clear c1
  try clear c2
  try clear p2
  try clear c7
  try clear c9
  try clear c14
  try clear c15
  try clear hcz10_0
  try clear hcz12_0
  try clear hcz15_0
  try clear hfz10_0
  try clear hfz12_0
  try clear hfz15_0
  obtain ⟨kq, x14_2, rfl, HA, HJ2, BK255, BK256, HB⟩ := hcut
  cases kq with
  | zero => exact absurd HA.out (by simp [spec_RemoveFile.j0])
  | succ kj2 =>
   have H := HA.out
   clear HA
   simp only [spec_RemoveFile.j0] at H
   by_cases c17 : x14_2 = true
   ·
    subst c17
    have H1 : ((spec_l03Copy.f kj2 l0_0).bind fun t259 => (some (t259, false))) = some (r1, r2) := by rw [if_pos rfl] at H; exact H
    clear H
    have H := H1
    clear H1
    replace H := Option.bind_eq_some_iff.mp H
    obtain ⟨t259, A180, H⟩ := H
    replace H : (some (t259, false)) = some (r1, r2) := H
    have A18 := Zh A180
    clear A180
    simp only [Option.some.injEq, Prod.mk.injEq] at H
    obtain ⟨rfl, rfl⟩ := H
    have hnb19 := NB255_256.out
    have hnc19 := NB256_255.out
    have hcz20_0 : wc.cell? ⟨gb255, 0, none⟩ = some (.slice A0_0 l0_0.length c0_0) := (blk_cell BK255.out 0).trans rfl
    have hfz20_0 := Zn BK255.out 0
    go_wp2_with (first | ((with_reducible refine gate_callee (f := 66) rfl ?_); refine goesL_ (some 16) rfl rfl Tryd.func66 (by kernel_rfl) rfl #[.agg #[.slice A0_0 l0_0.length c0_0]] rfl (by (try simp only [List.map_toArray, List.map_cons, List.map_nil]); first | done | rfl | (simp only [List.length_drop, List.length_take]; rfl)) ?_; (with_reducible refine (spec_l03Copy.calls kj2 _ _ l0_0 t259 _ ?side1 ?side2 A18.out).mono ?_); (case side1 => repeat (first | exact (C_below HR0_0.out HB.out) | (with_reducible refine C_alloc ?_ _) | (with_reducible refine C_drewN ?_ _) | (with_reducible refine C_drew ?_))); (case side2 => exact HC0_0.out); rintro e w21 ⟨v260, rfl, ho0, hb⟩; refine ⟨_, rfl, ?_⟩; have n0_ := Zh (S_lower ho0 (below_size Zs)); have n1_ := Zh (Zm (g := gb255) (o := .cells #[.slice A0_0 l0_0.length c0_0] 29 (0, 0)) Zk hb); have n2_ := Zh (Zm (g := gb256) (o := .cells #[.slice none 0 0] 29 (0, 0)) Zk hb); have n3_ := Zh (Zl Zs hb); clear BK255; clear BK256; clear HB; have HO261 := n0_; have BK255 := n1_; have BK256 := n2_; have HB := n3_; clear n0_ n1_ n2_ n3_; (try clear hb); (try clear hb2); (try clear hk); (try clear hi); (try clear ho0); obtain ⟨Ao22, co22, eo22⟩ := S_slice HO261.out; subst eo22; have hcz23_0 : w21.cell? ⟨gb256, 0, none⟩ = some (.slice none 0 0) := (blk_cell BK256.out 0).trans rfl; have hfz23_0 := Zn BK256.out 0))
    refine Zq (results_ct rfl _ _ gb256 29 #[.slice Ao22 t259.length co22] (0, 0) _ rfl (by (with_reducible repeat (first | refine Za ?_ _ | refine Zb ?_ | refine blk_alloc ?_ _)); refine blk_put (cs := #[.slice none 0 0]) ?_ 0 _ rfl; (with_reducible repeat (first | refine Za ?_ _ | refine Zb ?_ | refine blk_alloc ?_ _)); exact BK256.out) Tryd.underlying29 rfl (by kernel_rfl)) rfl ?_
    exact ⟨_, by first | rfl | (simp [errW_none, errW_some] <;> rfl) | (simp [*, errW_none, errW_some] <;> rfl), by (with_reducible repeat (first | apply S_alloc | apply S_drewN | apply S_drew)); exact S_mono (S_far (p := ⟨gb256, 0, none⟩) (S_types HO261.out BK256.out (by decide)) (fun _ hk => hk.2) (.slice Ao22 t259.length co22)) (fun _ hk => trivial), by repeat (first | (with_reducible first | exact HB.out | apply Zf | apply Zd | apply Ze | refine Zg ?_ GE255.out | refine Zg ?_ GE256.out) | exact HB.out)⟩
   replace c17 := Bool.eq_false_iff.mpr c17
   subst c17
   have H1 : ((spec_l03Without.f kj2 l0_0 a1).bind fun t262 => (some (t262, true))) = some (r1, r2) := by rw [if_neg (show ¬ (false = true) by decide)] at H; exact H
   clear H
   have H := H1
   clear H1
   replace H := Option.bind_eq_some_iff.mp H
   obtain ⟨t262, A240, H⟩ := H
   replace H : (some (t262, true)) = some (r1, r2) := H
   have A24 := Zh A240
   clear A240
   simp only [Option.some.injEq, Prod.mk.injEq] at H
   obtain ⟨rfl, rfl⟩ := H
   have hnb25 := NB255_256.out
   have hnc25 := NB256_255.out
   have hcz26_0 : wc.cell? ⟨gb255, 0, none⟩ = some (.slice A0_0 l0_0.length c0_0) := (blk_cell BK255.out 0).trans rfl
   have hfz26_0 := Zn BK255.out 0
   go_wp2_with (first | ((with_reducible refine gate_callee (f := 67) rfl ?_); refine goesL_ (some 19) rfl rfl Tryd.func67 (by kernel_rfl) rfl #[.agg #[.slice A0_0 l0_0.length c0_0], .string a1] rfl (by (try simp only [List.map_toArray, List.map_cons, List.map_nil]); first | done | rfl | (simp only [List.length_drop, List.length_take]; rfl)) ?_; (with_reducible refine (spec_l03Without.calls kj2 _ _ l0_0 a1 t262 _ ?side1 ?side2 A24.out).mono ?_); (case side1 => repeat (first | exact (C_below HR0_0.out HB.out) | (with_reducible refine C_alloc ?_ _) | (with_reducible refine C_drewN ?_ _) | (with_reducible refine C_drew ?_))); (case side2 => exact HC0_0.out); rintro e w27 ⟨v263, rfl, ho0, hb⟩; refine ⟨_, rfl, ?_⟩; have n0_ := Zh (S_lower ho0 (below_size Zs)); have n1_ := Zh (Zm (g := gb255) (o := .cells #[.slice A0_0 l0_0.length c0_0] 29 (0, 0)) Zk hb); have n2_ := Zh (Zm (g := gb256) (o := .cells #[.slice none 0 0] 29 (0, 0)) Zk hb); have n3_ := Zh (Zl Zs hb); clear BK255; clear BK256; clear HB; have HO264 := n0_; have BK255 := n1_; have BK256 := n2_; have HB := n3_; clear n0_ n1_ n2_ n3_; (try clear hb); (try clear hb2); (try clear hk); (try clear hi); (try clear ho0); obtain ⟨Ao28, co28, eo28⟩ := S_slice HO264.out; subst eo28; have hcz29_0 : w27.cell? ⟨gb256, 0, none⟩ = some (.slice none 0 0) := (blk_cell BK256.out 0).trans rfl; have hfz29_0 := Zn BK256.out 0))
   refine Zq (results_ct rfl _ _ gb256 29 #[.slice Ao28 t262.length co28] (0, 0) _ rfl (by (with_reducible repeat (first | refine Za ?_ _ | refine Zb ?_ | refine blk_alloc ?_ _)); refine blk_put (cs := #[.slice none 0 0]) ?_ 0 _ rfl; (with_reducible repeat (first | refine Za ?_ _ | refine Zb ?_ | refine blk_alloc ?_ _)); exact BK256.out) Tryd.underlying29 rfl (by kernel_rfl)) rfl ?_
   exact ⟨_, by first | rfl | (simp [errW_none, errW_some] <;> rfl) | (simp [*, errW_none, errW_some] <;> rfl), by (with_reducible repeat (first | apply S_alloc | apply S_drewN | apply S_drew)); exact S_mono (S_far (p := ⟨gb256, 0, none⟩) (S_types HO264.out BK256.out (by decide)) (fun _ hk => hk.2) (.slice Ao28 t262.length co28)) (fun _ hk => trivial), by repeat (first | (with_reducible first | exact HB.out | apply Zf | apply Zd | apply Ze | refine Zg ?_ GE255.out | refine Zg ?_ GE256.out) | exact HB.out)⟩
end Go.Proofs.YtmgeffgcihfpcaaDoor.F

namespace Go.Proofs.YtmgeffgcihfpcaaDoor.F
open Go.RowKit Go.Proofs.YtmgeffgcihfpcaaDoorW.PrintWords Go.Proofs.YtmgeffgcihfpcaaDoorW.PrintLast Go.Proofs.YtmgeffgcihfpcaaDoorW.PrintMore
open Go.Proofs.YtmgeffgcihfpcaaDoor
set_option linter.unusedVariables false
set_option linter.unusedSimpArgs false
def spec_PlayDisk.step (k : Nat) (d : List S74) (x : List S71) (i : Int) : Option (List S74 × Bool) := if (rd_T71 x i).f0 = 0 then spec_AppendFile.f k d (rd_T71 x i).f1 (rd_T71 x i).f3 else if (rd_T71 x i).f0 = 1 then spec_SyncFile.f k d (rd_T71 x i).f1 else if (rd_T71 x i).f0 = 2 then spec_CutFile.f k d (rd_T71 x i).f1 (rd_T71 x i).f4 else if (rd_T71 x i).f0 = 3 then spec_RenameFile.f k d (rd_T71 x i).f1 (rd_T71 x i).f2 else if (rd_T71 x i).f0 = 4 then spec_RemoveFile.f k d (rd_T71 x i).f1 else some (d, false)
def spec_PlayDisk.l0 : Nat → List S71 → List S74 → List Bool → Int → Option (List S74 × List Bool)
  | 0, _, _, _, _ => none
  | k + 1, x, d, t, i => if i < (x.length : Int) then (if 0 ≤ i then (spec_PlayDisk.step k d x i).bind fun q => (if t.length < 140737488355328 then spec_PlayDisk.l0 k x q.1 (t ++ [q.2]) (wrap64 (i + 1)) else none) else none) else some (d, t)
def spec_PlayDisk.f (k : Nat) (l : List S74) (x : List S71) : Option (List S74 × List Bool) := (spec_DiskOk.f k l).bind fun t => if t = true then (if (x.length : Int) > 200 then some ([], []) else (spec_l03Copy.f k l).bind fun o => spec_PlayDisk.l0 k x o [] 0) else some ([], [])
set_option maxHeartbeats 16000000 in
set_option maxRecDepth 100000 in
theorem spec_PlayDisk.calls (k : Nat) (A0_0 : Option Addr) (c0_0 : Nat) (l0_0 : List (S74)) (A1 : Option Addr) (c1 : Nat) (l1 : List (S71)) (r1 : List (S74)) (r2 : List Bool) (w : World) (hr0_0 : Kd.C k74 w A0_0 l0_0.length l0_0) (hc0_0 : l0_0.length ≤ c0_0) (hr1 : Kd.C k71 w A1 l1.length l1) (hc1 : l1.length ≤ c1) (h : spec_PlayDisk.f k l0_0 l1 = some (r1, r2)) :
    Calls Tryd.prog 43 #[.agg #[.slice A0_0 l0_0.length c0_0], .slice A1 l1.length c1] w fun e w' => ∃ v0_ v1_ : Value, e = .returned (.tuple #[.agg #[v0_], v1_]) ∧ Kd.S k74 74 w' w.heap.size (fun k_ => some k_ ≠ v1_.ownBlock) v0_ r1 ∧ Kd.R Kd.bool 4 w' w.heap.size (fun _ => True) v1_ r2 ∧ Below w.heap.size w w' := by
  have HR := Zh hr0_0
  have HC := Zh hc0_0
  have HR1 := Zh hr1
  clear hr0_0 hc0_0 hr1 hc1
  have ST := Zh (LW.St.start w)
  have hu29 := Tryd.underlying29
  have hu71 := Tryd.underlying71
  unfold spec_PlayDisk.f at h
  replace h := Option.bind_eq_some_iff.mp h
  obtain ⟨tt, HA1, h⟩ := h
  replace HA1 := Zh HA1
  have H := Zh h
  clear h
  go_enter Tryd.func43, Tryd.ntmps43
  go_wp2_with fail
  replace ST := Zh (ST.out.alloc #[.slice A0_0 l0_0.length c0_0] 29 (g := w.heap.size) rfl)
  replace ST := Zh (ST.out.alloc #[.slice none 0 0] 29 (g := w.heap.size + 1) (by simp))
  with_reducible refine (spec_DiskOk.calls k _ _ l0_0 tt _ (Kd.C_below HR.out ST.out.b) HC.out HA1.out).mono ?_
  rintro e w1 ⟨rfl, hb⟩
  replace ST := Zh (ST.out.step hb)
  clear hb
  have h := H.out
  clear H
  have hbad : ∀ c : Bool, c = c := fun _ => rfl
  have hc0 := ST.out.cell 1 rfl 0 (u := .slice A0_0 l0_0.length c0_0) rfl
  have hl0 := ST.out.lt 1 rfl
  have hc3 := ST.out.cell 0 rfl 0 (u := .slice none 0 0) rfl
  have hl3 := ST.out.lt 0 rfl
  have hf3 := ST.out.frozen 0 rfl 0
  cases tt with
  | false =>
    rw [if_neg (by decide)] at h
    obtain ⟨rfl, rfl⟩ := Prod.mk.inj (Option.some.inj h)
    clear h
    go_wp2_with fail
    replace ST := Zh (ST.out.set 0 rfl 0 (.slice none 0 0))
    refine Zq (results_ct rfl _ _ (w.heap.size + 1) 29 #[.slice none 0 0] (0, 0) _ rfl (ST.out.blk 0 rfl) Tryd.underlying29 rfl (by kernel_rfl)) rfl ?_
    exact ⟨_, _, rfl, Kd.S_nil _ _ _ _ _, Kd.R_nil _ _ _ _ _, ST.out.b⟩
  | true =>
    rw [if_pos rfl] at h
    by_cases c2 : (l1.length : Int) > 200
    · rw [if_pos c2] at h
      obtain ⟨rfl, rfl⟩ := Prod.mk.inj (Option.some.inj h)
      have q2 : decide (200 < (l1.length : Int)) = true := decide_eq_true c2
      have q3 : decide (200 < l1.length) = true := decide_eq_true (by omega)
      clear h c2
      go_wp2_with fail
      replace ST := Zh (ST.out.set 0 rfl 0 (.slice none 0 0))
      refine Zq (results_ct rfl _ _ (w.heap.size + 1) 29 #[.slice none 0 0] (0, 0) _ rfl (ST.out.blk 0 rfl) Tryd.underlying29 rfl (by kernel_rfl)) rfl ?_
      exact ⟨_, _, rfl, Kd.S_nil _ _ _ _ _, Kd.R_nil _ _ _ _ _, ST.out.b⟩
    rw [if_neg c2] at h
    have q2 : decide (200 < (l1.length : Int)) = false := decide_eq_false c2
    have q3 : decide (200 < l1.length) = false := decide_eq_false (by omega)
    replace h := Option.bind_eq_some_iff.mp h
    obtain ⟨o, HA2, h⟩ := h
    replace HA2 := Zh HA2
    have H := Zh h
    clear h c2
    go_wp2_with fail
    with_reducible refine (spec_l03Copy.calls k _ _ l0_0 o _ (Kd.C_below HR.out ST.out.b) HC.out HA2.out).mono ?_
    rintro e w2 ⟨v2, rfl, ho, hb⟩
    obtain ⟨Ao, co, rfl⟩ := Kd.S_slice ho
    replace ST := Zh (ST.out.row hb ho)
    clear hb ho hc0 hl0 hc3 hl3 hf3 q2 q3
    go_wp2_with fail
    replace ST := Zh (ST.out.alloc #[.slice Ao o.length co] 29 (g := w2.heap.size) rfl)
    replace ST := Zh (ST.out.rowR (d := Kd.bool) (e := 4) (xs := []) rfl (Zf (Below.refl _ _) (.cells #[] 4)) (R_emptyB _))
    replace ST := Zh (ST.out.sel [0, 2, 1, 3] (by decide))
    have e6 : (w2.alloc (.cells #[.slice Ao o.length co] 29)).heap.size = w2.heap.size + 1 := by simp
    rw [e6] at ST
    generalize hW : (w2.alloc (.cells #[.slice Ao o.length co] 29)).alloc (.cells #[] 4) = W at ST ⊢
    clear hW
    go_loopg [7, 8] k (fun kq va vb w' => ∃ (d : List S74) (t : List Bool) (i : Int) (Fd Ft : Nat → Prop) (Ad : Option Addr) (cd : Nat) (At : Option Addr) (ct : Nat), va = .slice At t.length ct ∧ vb = .int .i64 i ∧ Aside0 (spec_PlayDisk.l0 kq l1 d t i = some (r1, r2)) ∧ Aside0 (LW.St w w' [LW.row Kd.bool 4 w.heap.size (.slice At t.length ct) t Ft, LW.row k74 74 w.heap.size (.slice Ad d.length cd) d Fd, LW.box w2.heap.size #[.slice Ad d.length cd] 29, LW.box (w.heap.size + 1) #[.slice none 0 0] 29]))
    case atStart => exact ⟨o, [], 0, _, _, Ao, co, some ⟨w2.heap.size + 1, 0, none⟩, 0, rfl, rfl, H, ST⟩
    case round =>
      clear ST H
      obtain ⟨d, t, i, Fd, Ft, Az, cz, At, ct, rfl, rfl, HA, ST⟩ := hrel
      cases gk with
      | zero => exact absurd HA.out (by simp [spec_PlayDisk.l0])
      | succ k1 =>
        have h := HA.out
        clear HA
        simp only [spec_PlayDisk.l0] at h
        by_cases c3 : i < (l1.length : Int)
        · rw [if_pos c3] at h
          by_cases c4 : 0 ≤ i
          · rw [if_pos c4] at h
            obtain ⟨⟨d', okk⟩, HS, h⟩ := Option.bind_eq_some_iff.mp h
            by_cases c5 : t.length < 140737488355328
            · rw [if_pos c5] at h
              have H' := Zh h
              have HSZ := Zh c5
              clear h c5
              obtain ⟨ad, A3, c3_, e, E0, E1, E2, E3, E4, g3l, g3⟩ := at_T71 HR1.out i c4 c3
              cases e
              have HI3 := Zh g3
              have HL3 := Zh g3l
              have hx0 := (ST.out.b.cell (Zi w _ E0)).trans E0
              have hx1 := (ST.out.b.cell (Zi w _ E1)).trans E1
              have hx2 := (ST.out.b.cell (Zi w _ E2)).trans E2
              have hx3 := (ST.out.b.cell (Zi w _ E3)).trans E3
              have hx4 := (ST.out.b.cell (Zi w _ E4)).trans E4
              have q3 := decide_eq_true c3
              have p3 := eq_true c3
              have p4 := eq_true c4
              clear E0 E1 E2 E3 E4 g3l g3 c3 c4
              simp only [spec_PlayDisk.step] at HS
              have hc0 := ST.out.cell 2 rfl 0 (u := .slice Az d.length cz) rfl
              have hl0 := ST.out.lt 2 rfl
              go_upto_block 2 with fail
              replace ST := Zh (ST.out.alloc #[.int .i64 (rd_T71 l1 i).f0, .string (rd_T71 l1 i).f1, .string (rd_T71 l1 i).f2, .slice A3 (rd_T71 l1 i).f3.length c3_, .int .i64 (rd_T71 l1 i).f4] 71 (g := wr.heap.size) rfl)
              replace ST := Zh (ST.out.alloc #[.slice Az d.length cz] 29 (g := wr.heap.size + 1) (by simp))
              generalize (wr.alloc (.cells #[.int .i64 (rd_T71 l1 i).f0, .string (rd_T71 l1 i).f1, .string (rd_T71 l1 i).f2, .slice A3 (rd_T71 l1 i).f3.length c3_, .int .i64 (rd_T71 l1 i).f4] 71)).alloc (.cells #[.slice Az d.length cz] 29) = w4 at ST ⊢
              clear hx0 hx1 hx2 hx3 hx4 hc0 hl0
              have hx0 := ST.out.cell 1 rfl 0 (u := .int .i64 (rd_T71 l1 i).f0) rfl
              have hx1 := ST.out.cell 1 rfl 1 (u := .string (rd_T71 l1 i).f1) rfl
              have hx2 := ST.out.cell 1 rfl 2 (u := .string (rd_T71 l1 i).f2) rfl
              have hx3 := ST.out.cell 1 rfl 3 (u := .slice A3 (rd_T71 l1 i).f3.length c3_) rfl
              have hx4 := ST.out.cell 1 rfl 4 (u := .int .i64 (rd_T71 l1 i).f4) rfl
              have hl0 := ST.out.lt 1 rfl
              have hc0 := ST.out.cell 4 rfl 0 (u := .slice Az d.length cz) rfl
              have hl1 := ST.out.lt 4 rfl
              go_cut [10] (fun vk wc => ∃ (Ad : Option Addr) (cd : Nat) (Fd Ft : Nat → Prop), vk = .bool okk ∧ Aside0 (LW.St w wc [LW.row Kd.bool 4 w.heap.size (.slice At t.length ct) t Ft, LW.row k74 74 w.heap.size (.slice Ad d'.length cd) d' Fd, LW.box (wr.heap.size + 1) #[.slice Ad d'.length cd] 29, LW.box w2.heap.size #[.slice Az d.length cz] 29, LW.box (w.heap.size + 1) #[.slice none 0 0] 29]))
              case first =>
                by_cases g0 : (rd_T71 l1 i).f0 = 0
                · rw [if_pos g0] at HS
                  replace HS := Zh HS
                  have n0 : ((rd_T71 l1 i).f0 == 0) = true := beq_iff_eq.mpr g0
                  clear g0
                  go_wp2_with fail
                  with_reducible refine (spec_AppendFile.calls k1 _ _ d (rd_T71 l1 i).f1 _ _ (rd_T71 l1 i).f3 d' okk _ ((ST.out.reads 3 rfl).2.2) (ST.out.reads 3 rfl).2.1 (Kd.C_below HI3.out ST.out.b) HL3.out HS.out).mono ?_
                  rintro e w5 ⟨v5, rfl, ho, hb⟩
                  obtain ⟨A5, c5, rfl⟩ := Kd.S_slice ho
                  replace ST := Zh (ST.out.row hb ho)
                  clear hb ho hx0 hx1 hx2 hx3 hx4 hl0 hc0 hl1
                  have hc0 := ST.out.cell 1 rfl 0 (u := .slice Az d.length cz) rfl
                  have hl0 := ST.out.lt 1 rfl
                  have hf0 := ST.out.frozen 1 rfl 0
                  go_wp2
                  replace ST := Zh ((ST.out.set 1 rfl 0 (.slice A5 d'.length c5)).sel [3, 0, 1, 5, 6] (by decide))
                  go_meet
                  case rel => exact ⟨A5, c5, _, _, rfl, ST⟩
                have n0 : ((rd_T71 l1 i).f0 == 0) = false := by rw [beq_eq_false_iff_ne]; exact g0
                by_cases g1 : (rd_T71 l1 i).f0 = 1
                · rw [if_neg g0, if_pos g1] at HS
                  replace HS := Zh HS
                  have n1 : ((rd_T71 l1 i).f0 == 1) = true := beq_iff_eq.mpr g1
                  clear g0 g1
                  go_wp2_with fail
                  with_reducible refine (spec_SyncFile.calls k1 _ _ d (rd_T71 l1 i).f1 d' okk _ ((ST.out.reads 3 rfl).2.2) (ST.out.reads 3 rfl).2.1 HS.out).mono ?_
                  rintro e w5 ⟨v5, rfl, ho, hb⟩
                  obtain ⟨A5, c5, rfl⟩ := Kd.S_slice ho
                  replace ST := Zh (ST.out.row hb ho)
                  clear hb ho hx0 hx1 hx2 hx3 hx4 hl0 hc0 hl1
                  have hc0 := ST.out.cell 1 rfl 0 (u := .slice Az d.length cz) rfl
                  have hl0 := ST.out.lt 1 rfl
                  have hf0 := ST.out.frozen 1 rfl 0
                  go_wp2
                  replace ST := Zh ((ST.out.set 1 rfl 0 (.slice A5 d'.length c5)).sel [3, 0, 1, 5, 6] (by decide))
                  go_meet
                  case rel => exact ⟨A5, c5, _, _, rfl, ST⟩
                have n1 : ((rd_T71 l1 i).f0 == 1) = false := by rw [beq_eq_false_iff_ne]; exact g1
                by_cases g2 : (rd_T71 l1 i).f0 = 2
                · rw [if_neg g0, if_neg g1, if_pos g2] at HS
                  replace HS := Zh HS
                  have n2 : ((rd_T71 l1 i).f0 == 2) = true := beq_iff_eq.mpr g2
                  clear g0 g1 g2
                  go_wp2_with fail
                  with_reducible refine (spec_CutFile.calls k1 _ _ d (rd_T71 l1 i).f1 (rd_T71 l1 i).f4 d' okk _ ((ST.out.reads 3 rfl).2.2) (ST.out.reads 3 rfl).2.1 HS.out).mono ?_
                  rintro e w5 ⟨v5, rfl, ho, hb⟩
                  obtain ⟨A5, c5, rfl⟩ := Kd.S_slice ho
                  replace ST := Zh (ST.out.row hb ho)
                  clear hb ho hx0 hx1 hx2 hx3 hx4 hl0 hc0 hl1
                  have hc0 := ST.out.cell 1 rfl 0 (u := .slice Az d.length cz) rfl
                  have hl0 := ST.out.lt 1 rfl
                  have hf0 := ST.out.frozen 1 rfl 0
                  go_wp2
                  replace ST := Zh ((ST.out.set 1 rfl 0 (.slice A5 d'.length c5)).sel [3, 0, 1, 5, 6] (by decide))
                  go_meet
                  case rel => exact ⟨A5, c5, _, _, rfl, ST⟩
                have n2 : ((rd_T71 l1 i).f0 == 2) = false := by rw [beq_eq_false_iff_ne]; exact g2
                by_cases g3 : (rd_T71 l1 i).f0 = 3
                · rw [if_neg g0, if_neg g1, if_neg g2, if_pos g3] at HS
                  replace HS := Zh HS
                  have n3 : ((rd_T71 l1 i).f0 == 3) = true := beq_iff_eq.mpr g3
                  clear g0 g1 g2 g3
                  go_wp2_with fail
                  with_reducible refine (spec_RenameFile.calls k1 _ _ d (rd_T71 l1 i).f1 (rd_T71 l1 i).f2 d' okk _ ((ST.out.reads 3 rfl).2.2) (ST.out.reads 3 rfl).2.1 HS.out).mono ?_
                  rintro e w5 ⟨v5, rfl, ho, hb⟩
                  obtain ⟨A5, c5, rfl⟩ := Kd.S_slice ho
                  replace ST := Zh (ST.out.row hb ho)
                  clear hb ho hx0 hx1 hx2 hx3 hx4 hl0 hc0 hl1
                  have hc0 := ST.out.cell 1 rfl 0 (u := .slice Az d.length cz) rfl
                  have hl0 := ST.out.lt 1 rfl
                  have hf0 := ST.out.frozen 1 rfl 0
                  go_wp2
                  replace ST := Zh ((ST.out.set 1 rfl 0 (.slice A5 d'.length c5)).sel [3, 0, 1, 5, 6] (by decide))
                  go_meet
                  case rel => exact ⟨A5, c5, _, _, rfl, ST⟩
                have n3 : ((rd_T71 l1 i).f0 == 3) = false := by rw [beq_eq_false_iff_ne]; exact g3
                by_cases g4 : (rd_T71 l1 i).f0 = 4
                · rw [if_neg g0, if_neg g1, if_neg g2, if_neg g3, if_pos g4] at HS
                  replace HS := Zh HS
                  have n4 : ((rd_T71 l1 i).f0 == 4) = true := beq_iff_eq.mpr g4
                  clear g0 g1 g2 g3 g4
                  go_wp2_with fail
                  with_reducible refine (spec_RemoveFile.calls k1 _ _ d (rd_T71 l1 i).f1 d' okk _ ((ST.out.reads 3 rfl).2.2) (ST.out.reads 3 rfl).2.1 HS.out).mono ?_
                  rintro e w5 ⟨v5, rfl, ho, hb⟩
                  obtain ⟨A5, c5, rfl⟩ := Kd.S_slice ho
                  replace ST := Zh (ST.out.row hb ho)
                  clear hb ho hx0 hx1 hx2 hx3 hx4 hl0 hc0 hl1
                  have hc0 := ST.out.cell 1 rfl 0 (u := .slice Az d.length cz) rfl
                  have hl0 := ST.out.lt 1 rfl
                  have hf0 := ST.out.frozen 1 rfl 0
                  go_wp2
                  replace ST := Zh ((ST.out.set 1 rfl 0 (.slice A5 d'.length c5)).sel [3, 0, 1, 5, 6] (by decide))
                  go_meet
                  case rel => exact ⟨A5, c5, _, _, rfl, ST⟩
                have n4 : ((rd_T71 l1 i).f0 == 4) = false := by rw [beq_eq_false_iff_ne]; exact g4
                rw [if_neg g0, if_neg g1, if_neg g2, if_neg g3, if_neg g4] at HS
                obtain ⟨rfl, rfl⟩ := Prod.mk.inj (Option.some.inj HS)
                clear HS g0 g1 g2 g3 g4
                go_wp2
                replace ST := Zh (ST.out.sel [2, 3, 0, 4, 5] (by decide))
                go_meet
                case rel => exact ⟨_, _, _, _, rfl, ST⟩
              case rest =>
              clear ST hx0 hx1 hx2 hx3 hx4 hl0 hc0 hl1 HS p3 p4 q3
              obtain ⟨Ad, cd, Fd, Ft, rfl, ST⟩ := hcut
              have hc0 := ST.out.cell 2 rfl 0 (u := .slice Ad d'.length cd) rfl
              have hl0 := ST.out.lt 2 rfl
              have hc1 := ST.out.cell 3 rfl 0 (u := .slice Az d.length cz) rfl
              have hl1 := ST.out.lt 3 rfl
              have hf1 := ST.out.frozen 3 rfl 0
              have hne := ST.out.ne 2 3 (by decide) rfl rfl
              have hne' := hne.symm
              go_upto_region 23 with fail
              replace ST := Zh ((ST.out.set 3 rfl 0 (.slice Ad d'.length cd)).sel [0, 1, 3, 4] (by decide))
              generalize wc.setCell ⟨w2.heap.size, 0, none⟩ (.slice Ad d'.length cd) = w7 at ST ⊢
              clear hc0 hl0 hc1 hl1 hf1 hne hne'
              go_wp2_with ((with_reducible refine gate_builtin (b := .append) (xs := #[.tmp 89, .tmp 91]) rfl ?_); at_builtin; refine Kd.R_append Kd.bool (w0 := w) w.heap.size rfl (.tmp 89) (.tmp 91) 57 4 (.bool false) 1 rfl Tryd.underlying57 (by kernel_rfl) rfl (by decide) (by omega) (.slice At t.length ct) t okk [.bool okk] (fun k => Ft k ∨ w7.heap.size ≤ k) (fun _ => False) rfl rfl rfl (fun _ h => h.elim) (fun k hk => .inr hk) (Kd.R_mono (Kd.S_R (ST.out.own 0 rfl)) (fun k hk => .inl hk)) ST.out.b ST.out.b.size (by have := HSZ.out; omega) ?_; intro v1 w6 s1 s2 s3 s4; obtain ⟨A8, c8, hv⟩ := Kd.R_slice s1; rw [List.length_append] at hv; subst hv; have Q := Zh (And.intro s1 (And.intro s2 s3)); clear s1 s2 s3 s4)
              obtain ⟨s1, s2, s3⟩ := Q.out
              have hST := ST.out.grow 0 rfl (LW.row Kd.bool 4 w.heap.size (.slice A8 (t.length + 1) c8) (t ++ [okk]) (fun k => Ft k ∨ (w7.heap.size ≤ k ∧ k < w6.heap.size))) (fun k hk => hk) (LW.S_flat rfl (Kd.R_mono (Kd.R_tight rfl s1) (fun k hk => (s1.1 k hk.symm).elim .inl (fun a => .inr ⟨a, Kd.R_lt s1 k hk.symm⟩)))) s2 ⟨s3.size, fun k hk hn => s3.block k hk (fun he => hn ((Kd.S_R (ST.out.own 0 rfl)).1 k he.symm))⟩
              clear s1 s2 s3 Q
              go_roundg k1
              case measure => omega
              case rel => exact ⟨_, t ++ [okk], _, _, _, Ad, cd, A8, c8, by rw [List.length_append]; rfl, rfl, H', ⟨by rw [List.length_append]; exact hST⟩⟩
            rw [if_neg c5] at h; exact absurd h (by simp)
          rw [if_neg c4] at h; exact absurd h (by simp)
        rw [if_neg c3] at h
        obtain ⟨rfl, rfl⟩ := Prod.mk.inj (Option.some.inj h)
        have q3 := decide_eq_false c3
        clear h c3
        have hc0 := ST.out.cell 2 rfl 0 (u := .slice Az d.length cz) rfl
        have hl0 := ST.out.lt 2 rfl
        have hc1 := ST.out.cell 3 rfl 0 (u := .slice none 0 0) rfl
        have hl1 := ST.out.lt 3 rfl
        have hf1 := ST.out.frozen 3 rfl 0
        have hne := ST.out.ne 2 3 (by decide) rfl rfl
        have hne' := hne.symm
        go_wp2_with fail
        replace ST := Zh (ST.out.set 3 rfl 0 (.slice Az d.length cz))
        refine Zq (results_ct rfl _ _ (w.heap.size + 1) 29 #[.slice Az d.length cz] (0, 0) _ rfl (ST.out.blk 3 rfl) Tryd.underlying29 rfl (by kernel_rfl)) rfl ?_
        have hd := LW.Its.disj ST.out.i 1 0 _ _ (by decide) rfl rfl
        exact ⟨_, _, rfl, Kd.S_mono (ST.out.own 1 rfl) (fun k hk he => hd k hk ((Kd.S_R (ST.out.own 0 rfl)).1 k he.symm)), Kd.R_mono (Kd.S_R (ST.out.own 0 rfl)) (fun _ _ => trivial), ST.out.b⟩
end Go.Proofs.YtmgeffgcihfpcaaDoor.F

namespace Go.Proofs.YtmgeffgcihfpcaaDoor.F
open Go.RowKit Go.Proofs.YtmgeffgcihfpcaaDoorW.PrintWords Go.Proofs.YtmgeffgcihfpcaaDoorW.PrintLast Go.Proofs.YtmgeffgcihfpcaaDoorW.PrintMore
set_option linter.unusedVariables false
set_option linter.unusedSimpArgs false
set_option maxHeartbeats 8000000 in
set_option maxRecDepth 100000 in
theorem laws_markFileS.callsC (k : Nat) (P0_ : Nat → Prop) (u9000_ : Value) (l0 : List S74) (a1 : Int) (r1 : Int) (r2 : List S74) (w0 w : World) (hB : Below w0.heap.size w0 w) (ho0 : Kd.S k74c 74 w w0.heap.size P0_ u9000_ l0) (h : laws_markFileS.f k l0 a1 = some (r1, r2)) :
    Calls Tryd.prog 65 #[u9000_, .int .i64 a1] w fun e w' => e = .returned (.int .i64 r1) ∧ Kd.S k74c 74 w' w0.heap.size P0_ u9000_ r2 ∧ Below w0.heap.size w0 w' ∧ Kept w w' (fun k_ => P0_ k_) := by
  obtain ⟨A0, c0, rfl⟩ := Kd.S_slice ho0
  have HO0 := Zh ho0
  have HK := Zh (Kept.refl w (fun k_ => P0_ k_))
  have HB := Zh hB
  clear hB ho0
  have H' := Zh (show laws_markFileS.l0 k l0 a1 0 = some (r1, r2) from h)
  clear h
  have hu74 := Tryd.underlying74
  go_enter Tryd.func65, Tryd.ntmps65
  go_wp2
  go_loopg [1, 5] k (fun kq v1 v5 w' => ∃ (x0 : List S74) (x1 x5 : Int), v1 = .int .i64 x1 ∧ v5 = .int .i64 x5 ∧ Aside0 (laws_markFileS.l0 kq x0 x1 x5 = some (r1, r2)) ∧ Aside0 (kq ≤ k) ∧ Aside0 (Kd.S k74c 74 w' w0.heap.size P0_ (.slice A0 l0.length c0) x0) ∧ Aside0 (Kept w w' (fun k_ => P0_ k_)) ∧ Aside0 (Below w0.heap.size w0 w'))
  case atStart => exact ⟨l0, a1, 0, by first | rfl | (simp; done), by first | rfl | (simp; done), H', ⟨Nat.le_refl _⟩, HO0, HK, HB⟩
  case round =>
    clear H' HO0 HK HB
    obtain ⟨x0, x1, x5, rfl, rfl, HA, HK1, HO, HK, HB⟩ := hrel
    cases gk with
    | zero => exact absurd HA.out (by simp [laws_markFileS.l0])
    | succ k1 =>
      have H := HA.out
      clear HA
      have hl : l0.length = x0.length := (Kd.S_reads' HO.out).1
      simp only [laws_markFileS.l0, ← hl] at H
      by_cases c3 : x5 < (l0.length : Int)
      · rw [if_pos c3] at H
        have q5 := decide_eq_true c3
        by_cases c4 : 0 ≤ x5
        · rw [if_pos c4] at H
          obtain ⟨t0, A4, H⟩ := Option.bind_eq_some_iff.mp H
          obtain ⟨⟨t1, t2⟩, A5, H⟩ := Option.bind_eq_some_iff.mp H
          obtain ⟨⟨t3, t4⟩, A7, H⟩ := Option.bind_eq_some_iff.mp H
          dsimp only at A7 H
          have H' := Zh H
          clear H
          have A3 := Zh A4
          clear A4
          have p6 := eq_true c4
          have q6 := eq_true c3
          have C3 := Zh c3
          have C4 := Zh c4
          have HL := Zh hl
          clear hl
          go_wp2_with fail
          refine (laws_markText.calls k1 x1 t0 _ A3.out).mono ?_
          rintro e w5 ⟨rfl, hb0⟩
          replace HO := Zh (Kd.S_below HO.out hb0)
          replace HB := Zh (below_then HB.out HB.out.size hb0)
          replace HK := Zh (HK.out.below hb0)
          clear hb0
          have hl := HL.out
          have c3 := C3.out
          have c4 := C4.out
          obtain ⟨g, cap, oki, c, hv, hg, hok, hcl, hM, hcc, hfr, hoki, hH⟩ := S_lent HO.out z74 x5 c4 (by omega)
          have hM : k74c.M w5 w0.heap.size oki (rd_T74 x0 x5) c := hM
          generalize rd_T74 x0 x5 = y at A5 A7 hM
          have A6 := Zh A5
          have A8 := Zh A7
          clear A5 A7
          obtain ⟨pp, v1, v2, x1, x2, rfl, hcu1, hcu2, hA1, hA2⟩ := k74c_openA hM
          have hNN := fun k (h1 : some k = x1.ownBlock) (h2 : some k = x2.ownBlock) => (hA2.1 k h2.symm).2 (hA1.1 k h1.symm).2
          have hR1 := Kd.R_mono hA1 (fun _ h => h.1)
          have hR2 := Kd.R_mono hA2 (fun _ h => h.1)
          have hx0 : w5.cell? ⟨g, x5.toNat * 3, none⟩ = some (.string y.f0) := hcc 0 _ rfl
          have hf0 : w5.frozen? ⟨g, x5.toNat * 3, none⟩ = false := hfr 0
          have hil : x5.toNat < x0.length := by omega
          have hP := (Kd.S_seg (okg := fun _ => False) (seg := [.string t0]) (j := 0) (x' := (⟨t0, y.f1, y.f2⟩ : S74)) (Kd.H_mono (v := .slice (some ⟨g, 0, none⟩) x0.length cap) (hv ▸ hH) (fun k hk => ⟨hk, fun h => h⟩)) c4 (by omega) (show 0 + 1 ≤ 3 by decide) (k74c_mkM _ _ _ (⟨t0, y.f1, y.f2⟩ : S74) hcu1 hcu2 hR1 hR2 hNN) (fun k hk => .inl hk) (fun k hk => hk.elim)).1
          have HP : Aside0 (Kd.S k74c 74 (w5.setCell ⟨g, x5.toNat * 3, none⟩ (.string t0)) w0.heap.size P0_ (.slice (some ⟨g, 0, none⟩) x0.length cap) (x0.set x5.toNat (⟨t0, y.f1, y.f2⟩ : S74))) := ⟨hP⟩
          have HB2 := Zh (Zg (g := g) (j := x5.toNat * 3) (v := .string t0) HB.out hg)
          have HK2 := Zh (Kept.setCell (p := ⟨g, x5.toNat * 3, none⟩) HK.out (.inl hok) (.string t0))
          injection hv with e1 e2 e3
          subst e1
          subst e3
          have HIL := Zh hil
          clear hNN hA1 hA2 hcu1 hcu2
          clear e2 hM hcc hfr hoki hH hcl hR1 hR2 hP hil HO HB HK hg hok hl
          go_wp2_with ((with_reducible refine gate_store (t := 9) (p := 17) rfl ?_); refine store_event (t := 9) (p := 17) (v := ?vo) (w1 := (w5.setCell ⟨g, x5.toNat * 3, none⟩ (.string t0))) ?hg ?ho ?hn ?hr ?_; (case ho => rfl); (case hg => rfl); (case hn => rfl); (case hr => first | (go_simp; done) | (go_simp; rfl)); intro w2 hw; rw [← hw] at HP HB2 HK2; clear hw hx0 hf0; obtain ⟨g2, cap2, oki, c, hv, hg, hok, hcl, hM, hcc, hfr, hoki, hH⟩ := S_lent HP.out z74 x5 C4.out (by rw [List.length_set]; exact (Int.toNat_lt C4.out).1 HIL.out); injection hv with e1 e2 e3; injection e1 with e1; injection e1 with e1; subst e1; clear e2 e3; rw [List.getD_eq_getElem?_getD, List.getElem?_set_self HIL.out, Option.getD_some] at hM; obtain ⟨pp2, v3, v4, x3, x4, rfl, hcu3, hcu4, hA1, hA2⟩ := k74c_openA hM; have CU3 := Zh hcu3; have CU4 := Zh hcu4; clear hcu3 hcu4; have GN := Zh (fun k (h1 : some k = x3.ownBlock) (h2 : some k = x4.ownBlock) => (hA2.1 k h2.symm).2 (hA1.1 k h1.symm).2); have hR1 := Kd.R_mono hA1 (fun _ h => h.1); have hR2 := Kd.R_mono hA2 (fun _ h => h.1); have hx1 : w2.cell? ⟨g, x5.toNat * 3 + 1, none⟩ = some v3 := hcc 1 _ rfl; have hx2 : w2.cell? ⟨g, x5.toNat * 3 + 2, none⟩ = some v4 := hcc 2 _ rfl; have GR1 := Zh hR1; have GR2 := Zh hR2; have GH := Zh hH; have GI := Zh hoki; have GO := Zh hok; clear hM hcc hfr hoki hH hcl hR1 hR2 hg hok HP hA1 hA2)
          have T1 := Kd.R_tight rfl GR1.out
          have T2 := Kd.R_tight rfl GR2.out
          refine (laws_markByteS.callsC k1 (fun k => some k = x3.ownBlock) v3 x3 y.f1 _ t1 t2 w0 _ HB2.out CU3.out T1 A6.out).mono ?_
          rintro e w3 ⟨rfl, hR1, hB1, hK1⟩
          have U1 := Zh (R_back rfl T1 hR1)
          have U2 := Zh (Kd.R_kept T2 hK1 (fun k h1 h2 => GN.out k h2 h1))
          have UH := Zh (Kd.H_kept GH.out hK1 (fun k hk hn hs => hn (GR1.out.1 k hs.symm)))
          have UK := Zh (HK2.out.then_ hK1 (fun k hk => .inl (GI.out k (GR1.out.1 k hk.symm)).1))
          have hx3 : w3.cell? ⟨g, x5.toNat * 3 + 2, none⟩ = some v4 := cell_kept hx2 hK1 (fun hs => (GI.out _ (GR1.out.1 _ hs.symm)).2 rfl)
          have UB := Zh hB1
          have NE1 := Zh GN.out
          clear T1 T2 hR1 hB1 hK1 hx1 hx2 GH HK2 HB2
          go_wp2_with fail
          refine (laws_markByteS.callsC k1 (fun k => some k = x4.ownBlock) v4 x4 y.f2 _ t3 t4 w0 _ UB.out CU4.out U2.out A8.out).mono ?_
          rintro e w4 ⟨rfl, hR2, hB1, hK1⟩
          have V2 := R_back rfl U2.out hR2
          have V1 := Kd.R_kept U1.out hK1 NE1.out
          have VH := Kd.H_kept UH.out hK1 (fun k hk hn hs => hn (GR2.out.1 k hs.symm))
          have N1 := Zh (Kd.H_back VH (okp := oki) (k74c_mkM _ _ _ (⟨t0, t2, t4⟩ : S74) CU3.out CU4.out (Kd.R_mono V1 (fun k hk => GR1.out.1 k hk.symm)) (Kd.R_mono V2 (fun k hk => GR2.out.1 k hk.symm)) GN.out) (fun _ h => h))
          rw [List.set_set] at N1
          have N2 := Zh (UK.out.then_ hK1 (fun k hk => .inl (GI.out k (GR2.out.1 k hk.symm)).1))
          have N3 := Zh hB1
          clear V1 V2 VH hR2 hB1 hK1 hx3 U1 U2 UH UK UB NE1 GR1 GR2 GI GO
          rw [HL.out.symm] at N1
          go_wp2
          go_roundg k1
          case measure => have := HK1.out; omega
          case rel => exact ⟨_, t3, _, rfl, by first | rfl | (simp; done), H', ⟨by have := HK1.out; omega⟩, N1, N2, N3⟩
        rw [if_neg c4] at H
        exact absurd H (by simp)
      rw [if_neg c3] at H
      have q5 := decide_eq_false c3
      simp only [Option.some.injEq, Prod.mk.injEq] at H
      obtain ⟨rfl, rfl⟩ := H
      clear hl c3
      go_wp2
      go_ret
      exact ⟨rfl, HO.out, HB.out, HK.out⟩
set_option maxHeartbeats 8000000 in
theorem laws_markDisk.callsC (k : Nat) (P0_0_ : Nat → Prop) (u9000_ : Value) (l0_0 : List S74) (a1 : Int) (r1 : Int) (r2 : List S74) (w0 w : World) (hB : Below w0.heap.size w0 w) (ho0_0 : Kd.S k74c 74 w w0.heap.size P0_0_ u9000_ l0_0) (h : laws_markDisk.f k l0_0 a1 = some (r1, r2)) :
    Calls Tryd.prog 22 #[.agg #[u9000_], .int .i64 a1] w fun e w' => e = .returned (.int .i64 r1) ∧ Kd.S k74c 74 w' w0.heap.size P0_0_ u9000_ r2 ∧ Below w0.heap.size w0 w' ∧ Kept w w' (fun k_ => P0_0_ k_) := by
  obtain ⟨A0, c0, rfl⟩ := Kd.S_slice ho0_0
  have HO0 := Zh ho0_0
  have HB := Zh hB
  have H := Zh (show laws_markFileS.f k l0_0 a1 = some (r1, r2) from h)
  clear hB ho0_0 h
  go_enter Tryd.func22, Tryd.ntmps22
  go_wp2_with fail
  have B1 := Zf (Below.refl w.heap.size w) (.cells #[.slice A0 l0_0.length c0] 29)
  refine (laws_markFileS.callsC k P0_0_ _ l0_0 a1 r1 r2 w0 _ (below_then HB.out HB.out.size B1) (Kd.S_below HO0.out B1) H.out).mono ?_
  rintro e w' ⟨rfl, hS, hB2, hK⟩
  have HS := Zh hS
  have HB2 := Zh hB2
  have HK := Zh ((Kept.of_below B1 _).then_ hK (fun k hk => .inl hk))
  clear hS hB2 hK B1
  go_wp2
  go_ret
  exact ⟨rfl, HS.out, HB2.out, HK.out⟩
end Go.Proofs.YtmgeffgcihfpcaaDoor.F

namespace Go.Proofs.YtmgeffgcihfpcaaDoor.F
open Go.RowKit Go.Proofs.YtmgeffgcihfpcaaDoorW.PrintWords Go.Proofs.YtmgeffgcihfpcaaDoorW.PrintLast Go.Proofs.YtmgeffgcihfpcaaDoorW.PrintMore
open Go.Proofs.YtmgeffgcihfpcaaDoor
set_option linter.unusedVariables false
set_option linter.unusedSimpArgs false
def laws_FnExactPlayDisk.f (k : Nat) (l0_0 : List (S101)) (l1 : List (S90)) : Option Bool := ((laws_szDisk.f k l0_0 1048576).bind fun p2 => (if p2 < 0 then some true else ((laws_szDiskOpS.f k l1 p2).bind fun p6 => (if p6 < 0 then some true else ((laws_toDisk.f k l0_0).bind fun p12 => ((laws_toDiskOpS.f k l1).bind fun p19 => ((spec_PlayDisk.f k p12 p19).bind fun p27 => ((laws_toDisk.f k l0_0).bind fun p40 => ((laws_toDiskOpS.f k l1).bind fun p47 => ((impl_PlayDisk.f k p40 p47).bind fun p57 => ((laws_eqDisk.f k p57.1 p27.1).bind fun p70 => (if p70 = true then ((laws_eqBoolS.f k p57.2 p27.2).bind fun p73 => (if p73 = true then ((laws_toDisk.f k l0_0).bind fun p77 => ((laws_eqDisk.f k p40 p77).bind fun p84 => (if p84 = true then ((laws_toDiskOpS.f k l1).bind fun p87 => ((laws_eqDiskOpS.f k p47 p87).bind fun p94 => (if p94 = true then ((laws_markDisk.f k p40 1).bind fun p100 => ((laws_markDiskOpS.f k p47 p100.1).bind fun p106 => (if p106.1 < 0 then none else ((laws_eqDisk.f k p57.1 p27.1).bind fun p116 => (if p116 = true then ((laws_eqBoolS.f k p57.2 p27.2).bind fun p119 => (if p119 = true then ((laws_markDisk.f k p57.1 1).bind fun p125 => ((laws_markBoolS.f k p57.2 p125.1).bind fun p131 => ((laws_heldDisk.f k p125.2 1).bind fun p138 => (if p138 < 0 then none else ((laws_heldBoolS.f k p131.2 p138).bind fun p142 => (if p142 < 0 then none else (if p142 = p131.1 then ((laws_toDisk.f k l0_0).bind fun p150 => ((laws_toDiskOpS.f k l1).bind fun p157 => ((impl_PlayDisk.f k p150 p157).bind fun p165 => ((laws_eqDisk.f k p165.1 p27.1).bind fun p178 => (if p178 = true then ((laws_eqBoolS.f k p165.2 p27.2).bind fun p181 => (if p181 = true then ((laws_heldDisk.f k p125.2 1).bind fun p186 => (if p186 < 0 then none else ((laws_heldBoolS.f k p131.2 p186).bind fun p190 => (if p190 < 0 then none else (if p190 = p131.1 then (some true) else none))))) else none)) else none))))) else none))))))) else none)) else none))))) else none))) else none))) else none)) else none))))))))))))
set_option maxHeartbeats 16000000 in
set_option maxRecDepth 100000 in
theorem laws_FnExactPlayDisk.calls (k : Nat) (A0_0 : Option Addr) (c0_0 : Nat) (l0_0 : List (S101)) (A1 : Option Addr) (c1 : Nat) (l1 : List (S90)) (r : Bool) (w : World) (hr0_0 : Kd.C k101 w A0_0 l0_0.length l0_0) (hc0_0 : l0_0.length ≤ c0_0) (hr1 : Kd.C k90 w A1 l1.length l1) (hc1 : l1.length ≤ c1) (h : laws_FnExactPlayDisk.f k l0_0 l1 = some r) :
    Calls Tryd.prog 11 #[.agg #[.slice A0_0 l0_0.length c0_0], .slice A1 l1.length c1] w fun e w' => e = .returned (.bool r) ∧ Below w.heap.size w w' := by
  have HR0_0 := Zh hr0_0
  have HC0_0 := Zh hc0_0
  clear hr0_0 hc0_0
  have HR1 := Zh hr1
  have HC1 := Zh hc1
  clear hr1 hc1
  have ST := Zh (LW.St.start w)
  unfold laws_FnExactPlayDisk.f at h
  go_enter Tryd.func11, Tryd.ntmps11
  go_wp2_with fail
  replace ST := Zh (ST.out.alloc #[.slice A0_0 l0_0.length c0_0] 24 (g := w.heap.size) rfl)
  replace h := Option.bind_eq_some_iff.mp h
  obtain ⟨t1, HA_, h⟩ := h
  try dsimp only at h
  replace HA_ := Zh HA_
  with_reducible refine (laws_szDisk.calls k _ _ l0_0 1048576 t1 _ (Kd.C_below HR0_0.out ST.out.b) HC0_0.out HA_.out).mono ?_
  rintro e w3 ⟨rfl, hb⟩
  clear HA_
  replace ST := Zh (ST.out.step hb)
  clear hb
  by_cases c4 : t1 < 0
  · rw [if_pos c4] at h
    obtain rfl := Option.some.inj h
    have c4b : decide (t1 < 0) = true := decide_eq_true c4
    clear c4
    go_wp2
    go_ret
    exact ⟨rfl, ST.out.b⟩
  rw [if_neg c4] at h
  have c4b : decide (t1 < 0) = false := decide_eq_false c4
  clear c4
  go_wp2_with fail
  replace h := Option.bind_eq_some_iff.mp h
  obtain ⟨t5, HA_, h⟩ := h
  try dsimp only at h
  replace HA_ := Zh HA_
  with_reducible refine (laws_szDiskOpS.calls k _ _ l1 t1 t5 _ (Kd.C_below HR1.out ST.out.b) HC1.out HA_.out).mono ?_
  rintro e w7 ⟨rfl, hb⟩
  clear HA_
  replace ST := Zh (ST.out.step hb)
  clear hb
  have hc8 := ST.out.cell 0 rfl 0 (u := .slice A0_0 l0_0.length c0_0) rfl
  have hl9 := ST.out.lt 0 rfl
  by_cases c10 : t5 < 0
  · rw [if_pos c10] at h
    obtain rfl := Option.some.inj h
    have c10b : decide (t5 < 0) = true := decide_eq_true c10
    clear c10
    go_wp2
    go_ret
    exact ⟨rfl, ST.out.b⟩
  rw [if_neg c10] at h
  have c10b : decide (t5 < 0) = false := decide_eq_false c10
  clear c10
  go_wp2_with fail
  replace h := Option.bind_eq_some_iff.mp h
  obtain ⟨t11, HA_, h⟩ := h
  try dsimp only at h
  replace HA_ := Zh HA_
  with_reducible refine (laws_toDisk.calls k _ _ l0_0 t11 _ (Kd.C_below HR0_0.out ST.out.b) HC0_0.out HA_.out).mono ?_
  rintro e w13 ⟨v14, rfl, ho15, hb⟩
  clear HA_
  obtain ⟨A16, c17, rfl⟩ := Kd.S_slice ho15
  replace ST := Zh (ST.out.row hb ho15)
  clear hb ho15
  clear hc8 hl9
  go_wp2_with fail
  replace h := Option.bind_eq_some_iff.mp h
  obtain ⟨t18, HA_, h⟩ := h
  try dsimp only at h
  replace HA_ := Zh HA_
  with_reducible refine (laws_toDiskOpS.calls k _ _ l1 t18 _ (Kd.C_below HR1.out ST.out.b) HC1.out HA_.out).mono ?_
  rintro e w20 ⟨v21, rfl, ho22, hb⟩
  clear HA_
  obtain ⟨A23, c24, rfl⟩ := Kd.S_slice ho22
  replace ST := Zh (ST.out.row hb ho22)
  clear hb ho22
  go_wp2_with fail
  replace h := Option.bind_eq_some_iff.mp h
  obtain ⟨⟨t25, t26⟩, HA_, h⟩ := h
  try dsimp only at h
  replace HA_ := Zh HA_
  with_reducible refine (spec_PlayDisk.calls k _ _ t11 _ _ t18 t25 t26 _ (ST.out.reads 1 rfl).2.2 (ST.out.reads 1 rfl).2.1 (ST.out.reads 0 rfl).2.2 (ST.out.reads 0 rfl).2.1 HA_.out).mono ?_
  rintro e w28 ⟨v29, v30, rfl, ho31, ho32, hb⟩
  clear HA_
  obtain ⟨A33, c34, rfl⟩ := Kd.S_slice ho31
  obtain ⟨A35, c36, rfl⟩ := Kd.R_slice ho32
  replace ST := Zh (ST.out.rows2S rfl hb ho31 ho32)
  clear hb ho31 ho32
  have hc37 := ST.out.cell 4 rfl 0 (u := .slice A0_0 l0_0.length c0_0) rfl
  have hl38 := ST.out.lt 4 rfl
  go_wp2_with fail
  replace ST := Zh (ST.out.alloc #[.slice A33 t25.length c34] 29 (g := w28.heap.size) rfl)
  replace h := Option.bind_eq_some_iff.mp h
  obtain ⟨t39, HA_, h⟩ := h
  try dsimp only at h
  replace HA_ := Zh HA_
  with_reducible refine (laws_toDisk.calls k _ _ l0_0 t39 _ (Kd.C_below HR0_0.out ST.out.b) HC0_0.out HA_.out).mono ?_
  rintro e w41 ⟨v42, rfl, ho43, hb⟩
  clear HA_
  obtain ⟨A44, c45, rfl⟩ := Kd.S_slice ho43
  replace ST := Zh (ST.out.row hb ho43)
  clear hb ho43
  clear hc37 hl38
  go_wp2_with fail
  replace ST := Zh (ST.out.alloc #[.slice A44 t39.length c45] 29 (g := w41.heap.size) rfl)
  replace h := Option.bind_eq_some_iff.mp h
  obtain ⟨t46, HA_, h⟩ := h
  try dsimp only at h
  replace HA_ := Zh HA_
  with_reducible refine (laws_toDiskOpS.calls k _ _ l1 t46 _ (Kd.C_below HR1.out ST.out.b) HC1.out HA_.out).mono ?_
  rintro e w48 ⟨v49, rfl, ho50, hb⟩
  clear HA_
  obtain ⟨A51, c52, rfl⟩ := Kd.S_slice ho50
  replace ST := Zh (ST.out.row hb ho50)
  clear hb ho50
  have hc53 := ST.out.cell 1 rfl 0 (u := .slice A44 t39.length c45) rfl
  have hl54 := ST.out.lt 1 rfl
  go_wp2_with fail
  replace h := Option.bind_eq_some_iff.mp h
  obtain ⟨⟨t55, t56⟩, HA_, h⟩ := h
  try dsimp only at h
  replace HA_ := Zh HA_
  with_reducible refine (impl_PlayDisk.calls k _ _ t39 _ _ t46 t55 t56 _ (ST.out.reads 2 rfl).2.2 (ST.out.reads 2 rfl).2.1 (ST.out.reads 0 rfl).2.2 (ST.out.reads 0 rfl).2.1 HA_.out).mono ?_
  rintro e w58 ⟨v59, v60, rfl, ho61, ho62, hb⟩
  clear HA_
  obtain ⟨A63, c64, rfl⟩ := Kd.S_slice ho61
  obtain ⟨A65, c66, rfl⟩ := Kd.R_slice ho62
  replace ST := Zh (ST.out.rows2S rfl hb ho61 ho62)
  clear hb ho61 ho62
  clear hc53 hl54
  have hc67 := ST.out.cell 5 rfl 0 (u := .slice A33 t25.length c34) rfl
  have hl68 := ST.out.lt 5 rfl
  go_wp2_with fail
  replace ST := Zh (ST.out.alloc #[.slice A63 t55.length c64] 29 (g := w58.heap.size) rfl)
  replace h := Option.bind_eq_some_iff.mp h
  obtain ⟨t69, HA_, h⟩ := h
  try dsimp only at h
  replace HA_ := Zh HA_
  with_reducible refine (laws_eqDisk.calls k _ _ t55 _ _ t25 t69 _ (k74c_C (ST.out.reads 1 rfl).2.2) (ST.out.reads 1 rfl).2.1 (ST.out.reads 7 rfl).2.2 (ST.out.reads 7 rfl).2.1 HA_.out).mono ?_
  rintro e w71 ⟨rfl, hb⟩
  clear HA_
  replace ST := Zh (ST.out.step hb)
  clear hb
  obtain rfl : t69 = true := by
    cases t69 with
    | true => rfl
    | false => exact absurd h (by simp)
  first | rw [if_pos rfl] at h | rw [if_pos trivial] at h
  clear hc67 hl68
  go_wp2_with fail
  replace h := Option.bind_eq_some_iff.mp h
  obtain ⟨t72, HA_, h⟩ := h
  try dsimp only at h
  replace HA_ := Zh HA_
  with_reducible refine (laws_eqBoolS.calls k _ _ t56 _ _ t26 t72 _ (ST.out.reads 2 rfl).2.2 (ST.out.reads 2 rfl).2.1 (ST.out.reads 8 rfl).2.2 (ST.out.reads 8 rfl).2.1 HA_.out).mono ?_
  rintro e w74 ⟨rfl, hb⟩
  clear HA_
  replace hb := Drawn0.below hb
  replace ST := Zh (ST.out.step hb)
  clear hb
  obtain rfl : t72 = true := by
    cases t72 with
    | true => rfl
    | false => exact absurd h (by simp)
  first | rw [if_pos rfl] at h | rw [if_pos trivial] at h
  go_wp2_with fail
  replace ST := Zh ST.out.drew
  refine start_ (n := 5) (S := fun w' => w'.cell? ⟨w41.heap.size, 0, none⟩ = some (.slice A44 t39.length c45) ∧ w'.cell? ⟨w.heap.size, 0, none⟩ = some (.slice A0_0 l0_0.length c0_0)) (ds := []) #[false, false, false, false, false] (by kernel_rfl) rfl rfl ⟨ST.out.cell 4 rfl 0 rfl, ST.out.cell 11 rfl 0 rfl⟩ (fun hHeld => ?_)
  generalize w74.drew = w75 at ST hHeld ⊢
  refine take_ (i := 0) (N := some 55) (v := ?_) (a' := ?_) #[true, false, false, false, false] rfl rfl (by kernel_rfl) (fun _ _ _ h => h) (Or.inl ⟨by rfl, ?_⟩) hHeld ?_ ?_
  rotate_left
  · rintro w' ⟨s0, s1⟩
    go_simp
    with_reducible rfl
  rotate_left
  · simp only [Act.put, List.setIfInBounds_toArray, List.set_cons_zero, List.set_cons_succ, i64_w, i32_w]
    rfl
  refine take_ (i := 1) (N := some 56) (v := ?_) (a' := ?_) #[true, true, false, false, false] rfl rfl (by kernel_rfl) (fun _ _ _ h => h) (Or.inl ⟨by rfl, ?_⟩) hHeld ?_ ?_
  rotate_left
  · rintro w' ⟨s0, s1⟩
    go_simp
    with_reducible rfl
  rotate_left
  · simp only [Act.put, List.setIfInBounds_toArray, List.set_cons_zero, List.set_cons_succ, i64_w, i32_w]
    rfl
  refine one_ (i := 2) (N := some 57) #[true, true, true, false, false] rfl rfl (by kernel_rfl) (by decide) (fun K hK => ?_)
  replace h := Option.bind_eq_some_iff.mp h
  obtain ⟨t76, HA_, h⟩ := h
  try dsimp only at h
  replace HA_ := Zh HA_
  refine goes_ Tryd.func16 (by kernel_rfl) rfl #[.agg #[.slice A0_0 l0_0.length c0_0]] (by rfl) rfl rfl (by (try simp only [List.map_toArray, List.map_cons, List.map_nil]); first | done | rfl) ?_
  with_reducible refine (laws_toDisk.calls k _ _ l0_0 t76 _ (Kd.C_below HR0_0.out ST.out.b) HC0_0.out HA_.out).mono ?_
  rintro e w78 ⟨v79, rfl, ho80, hb⟩
  clear HA_
  refine ⟨_, rfl, ?_⟩
  obtain ⟨A81, c82, rfl⟩ := Kd.S_slice ho80
  replace ST := Zh (ST.out.row hb ho80)
  clear hb ho80
  refine hK.out _ _ ⟨ST.out.cell 5 rfl 0 rfl, ST.out.cell 12 rfl 0 rfl⟩ (fun hHeld => ?_)
  clear hK K
  refine norm_ (a' := ?_) ?_ ?_
  rotate_left
  · show Act.put _ (some 57) _ = _
    simp only [Act.put, List.setIfInBounds_toArray, List.set_cons_zero, List.set_cons_succ, i64_w, i32_w]
    rfl
  refine one_ (i := 3) (N := some 58) #[true, true, true, true, false] rfl rfl (by kernel_rfl) (by decide) (fun K hK => ?_)
  replace h := Option.bind_eq_some_iff.mp h
  obtain ⟨t83, HA_, h⟩ := h
  try dsimp only at h
  replace HA_ := Zh HA_
  refine goes_ Tryd.func18 (by kernel_rfl) rfl #[.agg #[.slice A44 t39.length c45], .agg #[.slice A81 t76.length c82]] (by rfl) rfl rfl (by (try simp only [List.map_toArray, List.map_cons, List.map_nil]); first | done | rfl) ?_
  with_reducible refine (laws_eqDisk.calls k _ _ t39 _ _ t76 t83 _ (ST.out.reads 6 rfl).2.2 (ST.out.reads 6 rfl).2.1 (ST.out.reads 0 rfl).2.2 (ST.out.reads 0 rfl).2.1 HA_.out).mono ?_
  rintro e w85 ⟨rfl, hb⟩
  clear HA_
  refine ⟨_, rfl, ?_⟩
  replace ST := Zh (ST.out.step hb)
  clear hb
  obtain rfl : t83 = true := by
    cases t83 with
    | true => rfl
    | false => exact absurd h (by simp)
  first | rw [if_pos rfl] at h | rw [if_pos trivial] at h
  refine hK.out _ _ ⟨ST.out.cell 5 rfl 0 rfl, ST.out.cell 12 rfl 0 rfl⟩ (fun hHeld => ?_)
  clear hK K
  refine norm_ (a' := ?_) ?_ ?_
  rotate_left
  · show Act.put _ (some 58) _ = _
    simp only [Act.put, List.setIfInBounds_toArray, List.set_cons_zero, List.set_cons_succ, i64_w, i32_w]
    rfl
  refine pure_ (i := 4) (N := some 59) (v := ?_) (a' := ?_) #[true, true, true, true, true] rfl rfl (by kernel_rfl) (fun _ _ _ h => h) (Or.inl ⟨by rfl, ?_⟩) ?_ ?_
  rotate_left
  · intro w'
    go_simp
    with_reducible rfl
  rotate_left
  · simp only [Act.put, List.setIfInBounds_toArray, List.set_cons_zero, List.set_cons_succ, i64_w, i32_w]
    rfl
  refine done_ (by kernel_rfl) ?_
  go_wp2_with fail
  replace h := Option.bind_eq_some_iff.mp h
  obtain ⟨t86, HA_, h⟩ := h
  try dsimp only at h
  replace HA_ := Zh HA_
  with_reducible refine (laws_toDiskOpS.calls k _ _ l1 t86 _ (Kd.C_below HR1.out ST.out.b) HC1.out HA_.out).mono ?_
  rintro e w88 ⟨v89, rfl, ho90, hb⟩
  clear HA_
  obtain ⟨A91, c92, rfl⟩ := Kd.S_slice ho90
  replace ST := Zh (ST.out.row hb ho90)
  clear hb ho90
  go_wp2_with fail
  replace h := Option.bind_eq_some_iff.mp h
  obtain ⟨t93, HA_, h⟩ := h
  try dsimp only at h
  replace HA_ := Zh HA_
  with_reducible refine (laws_eqDiskOpS.calls k _ _ t46 _ _ t86 t93 _ (ST.out.reads 5 rfl).2.2 (ST.out.reads 5 rfl).2.1 (ST.out.reads 0 rfl).2.2 (ST.out.reads 0 rfl).2.1 HA_.out).mono ?_
  rintro e w95 ⟨rfl, hb⟩
  clear HA_
  replace ST := Zh (ST.out.step hb)
  clear hb
  obtain rfl : t93 = true := by
    cases t93 with
    | true => rfl
    | false => exact absurd h (by simp)
  first | rw [if_pos rfl] at h | rw [if_pos trivial] at h
  have hc96 := ST.out.cell 6 rfl 0 (u := .slice A44 t39.length c45) rfl
  have hl97 := ST.out.lt 6 rfl
  go_wp2_with fail
  replace h := Option.bind_eq_some_iff.mp h
  obtain ⟨⟨t98, t99⟩, HA_, h⟩ := h
  try dsimp only at h
  replace HA_ := Zh HA_
  with_reducible refine (laws_markDisk.calls k _ _ t39 1 t98 t99 w _ ST.out.b (ST.out.own 7 rfl) HA_.out).mono ?_
  rintro e w101 ⟨rfl, ho102, hb, hk⟩
  clear HA_
  replace ST := Zh (ST.out.write 7 rfl ho102 hb hk)
  clear hb hk ho102
  have el103 := (ST.out.reads 7 rfl).1
  simp only [el103] at ST ⊢
  clear el103
  clear hc96 hl97
  go_wp2_with fail
  replace h := Option.bind_eq_some_iff.mp h
  obtain ⟨⟨t104, t105⟩, HA_, h⟩ := h
  try dsimp only at h
  replace HA_ := Zh HA_
  with_reducible refine (laws_markDiskOpS.calls k _ _ t46 t98 t104 t105 w _ ST.out.b (ST.out.own 5 rfl) HA_.out).mono ?_
  rintro e w107 ⟨rfl, ho108, hb, hk⟩
  clear HA_
  replace ST := Zh (ST.out.write 5 rfl ho108 hb hk)
  clear hb hk ho108
  have el109 := (ST.out.reads 5 rfl).1
  simp only [el109] at ST ⊢
  clear el109
  have hc110 := ST.out.cell 2 rfl 0 (u := .slice A63 t55.length c64) rfl
  have hl111 := ST.out.lt 2 rfl
  have hc112 := ST.out.cell 8 rfl 0 (u := .slice A33 t25.length c34) rfl
  have hl113 := ST.out.lt 8 rfl
  by_cases c114 : t104 < 0
  · rw [if_pos c114] at h
    exact absurd h (by simp)
  rw [if_neg c114] at h
  have c114b : decide (t104 < 0) = false := decide_eq_false c114
  clear c114
  go_wp2_with fail
  replace h := Option.bind_eq_some_iff.mp h
  obtain ⟨t115, HA_, h⟩ := h
  try dsimp only at h
  replace HA_ := Zh HA_
  with_reducible refine (laws_eqDisk.calls k _ _ t55 _ _ t25 t115 _ (k74c_C (ST.out.reads 3 rfl).2.2) (ST.out.reads 3 rfl).2.1 (ST.out.reads 9 rfl).2.2 (ST.out.reads 9 rfl).2.1 HA_.out).mono ?_
  rintro e w117 ⟨rfl, hb⟩
  clear HA_
  replace ST := Zh (ST.out.step hb)
  clear hb
  obtain rfl : t115 = true := by
    cases t115 with
    | true => rfl
    | false => exact absurd h (by simp)
  first | rw [if_pos rfl] at h | rw [if_pos trivial] at h
  clear hc110 hl111 hc112 hl113
  go_wp2_with fail
  replace h := Option.bind_eq_some_iff.mp h
  obtain ⟨t118, HA_, h⟩ := h
  try dsimp only at h
  replace HA_ := Zh HA_
  with_reducible refine (laws_eqBoolS.calls k _ _ t56 _ _ t26 t118 _ (ST.out.reads 4 rfl).2.2 (ST.out.reads 4 rfl).2.1 (ST.out.reads 10 rfl).2.2 (ST.out.reads 10 rfl).2.1 HA_.out).mono ?_
  rintro e w120 ⟨rfl, hb⟩
  clear HA_
  replace hb := Drawn0.below hb
  replace ST := Zh (ST.out.step hb)
  clear hb
  obtain rfl : t118 = true := by
    cases t118 with
    | true => rfl
    | false => exact absurd h (by simp)
  first | rw [if_pos rfl] at h | rw [if_pos trivial] at h
  have hc121 := ST.out.cell 2 rfl 0 (u := .slice A63 t55.length c64) rfl
  have hl122 := ST.out.lt 2 rfl
  go_wp2_with fail
  replace h := Option.bind_eq_some_iff.mp h
  obtain ⟨⟨t123, t124⟩, HA_, h⟩ := h
  try dsimp only at h
  replace HA_ := Zh HA_
  with_reducible refine (laws_markDisk.callsC k _ _ t55 1 t123 t124 w _ ST.out.b (ST.out.own 3 rfl) HA_.out).mono ?_
  rintro e w126 ⟨rfl, ho127, hb, hk⟩
  clear HA_
  replace ST := Zh (ST.out.write 3 rfl ho127 hb hk)
  clear hb hk ho127
  have el128 := (ST.out.reads 3 rfl).1
  simp only [el128] at ST ⊢
  clear el128
  clear hc121 hl122
  go_wp2_with fail
  replace h := Option.bind_eq_some_iff.mp h
  obtain ⟨⟨t129, t130⟩, HA_, h⟩ := h
  try dsimp only at h
  replace HA_ := Zh HA_
  with_reducible refine (laws_markBoolS.calls k _ _ t56 t123 t129 t130 w _ ST.out.b (Kd.S_R (ST.out.own 4 rfl)) HA_.out).mono ?_
  rintro e w132 ⟨rfl, ho133, hb, hk⟩
  clear HA_
  replace ST := Zh (ST.out.writeR rfl 4 rfl ho133 hb hk)
  clear hb hk ho133
  have el134 := (ST.out.reads 4 rfl).1
  simp only [el134] at ST ⊢
  clear el134
  have hc135 := ST.out.cell 2 rfl 0 (u := .slice A63 t124.length c64) rfl
  have hl136 := ST.out.lt 2 rfl
  go_wp2_with fail
  replace h := Option.bind_eq_some_iff.mp h
  obtain ⟨t137, HA_, h⟩ := h
  try dsimp only at h
  replace HA_ := Zh HA_
  with_reducible refine (laws_heldDisk.calls k _ _ t124 1 t137 _ (k74c_C (ST.out.reads 3 rfl).2.2) (ST.out.reads 3 rfl).2.1 HA_.out).mono ?_
  rintro e w139 ⟨rfl, hb⟩
  clear HA_
  replace ST := Zh (ST.out.step hb)
  clear hb
  clear hc135 hl136
  by_cases c140 : t137 < 0
  · rw [if_pos c140] at h
    exact absurd h (by simp)
  rw [if_neg c140] at h
  have c140b : decide (t137 < 0) = false := decide_eq_false c140
  clear c140
  go_wp2_with fail
  replace h := Option.bind_eq_some_iff.mp h
  obtain ⟨t141, HA_, h⟩ := h
  try dsimp only at h
  replace HA_ := Zh HA_
  with_reducible refine (laws_heldBoolS.calls k _ _ t130 t137 t141 _ (ST.out.reads 4 rfl).2.2 (ST.out.reads 4 rfl).2.1 HA_.out).mono ?_
  rintro e w143 ⟨rfl, hb⟩
  clear HA_
  replace hb := Drawn0.below hb
  replace ST := Zh (ST.out.step hb)
  clear hb
  have hc144 := ST.out.cell 13 rfl 0 (u := .slice A0_0 l0_0.length c0_0) rfl
  have hl145 := ST.out.lt 13 rfl
  by_cases c146 : t141 < 0
  · rw [if_pos c146] at h
    exact absurd h (by simp)
  rw [if_neg c146] at h
  have c146b : decide (t141 < 0) = false := decide_eq_false c146
  clear c146
  have e147 : t141 = t129 := by
    refine Decidable.byContradiction fun e_ => ?_
    rw [if_neg e_] at h
    exact absurd h (by simp)
  rw [if_pos e147] at h
  obtain rfl : t129 = t141 := by first | exact e147 | exact e147.symm
  clear e147
  have hq148 : (t129 != t129) = false := bne_self_eq_false _
  go_wp2_with fail
  replace h := Option.bind_eq_some_iff.mp h
  obtain ⟨t149, HA_, h⟩ := h
  try dsimp only at h
  replace HA_ := Zh HA_
  with_reducible refine (laws_toDisk.calls k _ _ l0_0 t149 _ (Kd.C_below HR0_0.out ST.out.b) HC0_0.out HA_.out).mono ?_
  rintro e w151 ⟨v152, rfl, ho153, hb⟩
  clear HA_
  obtain ⟨A154, c155, rfl⟩ := Kd.S_slice ho153
  replace ST := Zh (ST.out.row hb ho153)
  clear hb ho153
  clear hc144 hl145
  go_wp2_with fail
  replace h := Option.bind_eq_some_iff.mp h
  obtain ⟨t156, HA_, h⟩ := h
  try dsimp only at h
  replace HA_ := Zh HA_
  with_reducible refine (laws_toDiskOpS.calls k _ _ l1 t156 _ (Kd.C_below HR1.out ST.out.b) HC1.out HA_.out).mono ?_
  rintro e w158 ⟨v159, rfl, ho160, hb⟩
  clear HA_
  obtain ⟨A161, c162, rfl⟩ := Kd.S_slice ho160
  replace ST := Zh (ST.out.row hb ho160)
  clear hb ho160
  go_wp2_with fail
  replace h := Option.bind_eq_some_iff.mp h
  obtain ⟨⟨t163, t164⟩, HA_, h⟩ := h
  try dsimp only at h
  replace HA_ := Zh HA_
  with_reducible refine (impl_PlayDisk.calls k _ _ t149 _ _ t156 t163 t164 _ (ST.out.reads 1 rfl).2.2 (ST.out.reads 1 rfl).2.1 (ST.out.reads 0 rfl).2.2 (ST.out.reads 0 rfl).2.1 HA_.out).mono ?_
  rintro e w166 ⟨v167, v168, rfl, ho169, ho170, hb⟩
  clear HA_
  obtain ⟨A171, c172, rfl⟩ := Kd.S_slice ho169
  obtain ⟨A173, c174, rfl⟩ := Kd.R_slice ho170
  replace ST := Zh (ST.out.rows2S rfl hb ho169 ho170)
  clear hb ho169 ho170
  have hc175 := ST.out.cell 12 rfl 0 (u := .slice A33 t25.length c34) rfl
  have hl176 := ST.out.lt 12 rfl
  go_wp2_with fail
  replace ST := Zh (ST.out.alloc #[.slice A171 t163.length c172] 29 (g := w166.heap.size) rfl)
  replace h := Option.bind_eq_some_iff.mp h
  obtain ⟨t177, HA_, h⟩ := h
  try dsimp only at h
  replace HA_ := Zh HA_
  with_reducible refine (laws_eqDisk.calls k _ _ t163 _ _ t25 t177 _ (k74c_C (ST.out.reads 1 rfl).2.2) (ST.out.reads 1 rfl).2.1 (ST.out.reads 14 rfl).2.2 (ST.out.reads 14 rfl).2.1 HA_.out).mono ?_
  rintro e w179 ⟨rfl, hb⟩
  clear HA_
  replace ST := Zh (ST.out.step hb)
  clear hb
  obtain rfl : t177 = true := by
    cases t177 with
    | true => rfl
    | false => exact absurd h (by simp)
  first | rw [if_pos rfl] at h | rw [if_pos trivial] at h
  clear hc175 hl176
  go_wp2_with fail
  replace h := Option.bind_eq_some_iff.mp h
  obtain ⟨t180, HA_, h⟩ := h
  try dsimp only at h
  replace HA_ := Zh HA_
  with_reducible refine (laws_eqBoolS.calls k _ _ t164 _ _ t26 t180 _ (ST.out.reads 2 rfl).2.2 (ST.out.reads 2 rfl).2.1 (ST.out.reads 15 rfl).2.2 (ST.out.reads 15 rfl).2.1 HA_.out).mono ?_
  rintro e w182 ⟨rfl, hb⟩
  clear HA_
  replace hb := Drawn0.below hb
  replace ST := Zh (ST.out.step hb)
  clear hb
  obtain rfl : t180 = true := by
    cases t180 with
    | true => rfl
    | false => exact absurd h (by simp)
  first | rw [if_pos rfl] at h | rw [if_pos trivial] at h
  have hc183 := ST.out.cell 7 rfl 0 (u := .slice A63 t124.length c64) rfl
  have hl184 := ST.out.lt 7 rfl
  go_wp2_with fail
  replace h := Option.bind_eq_some_iff.mp h
  obtain ⟨t185, HA_, h⟩ := h
  try dsimp only at h
  replace HA_ := Zh HA_
  with_reducible refine (laws_heldDisk.calls k _ _ t124 1 t185 _ (k74c_C (ST.out.reads 8 rfl).2.2) (ST.out.reads 8 rfl).2.1 HA_.out).mono ?_
  rintro e w187 ⟨rfl, hb⟩
  clear HA_
  replace ST := Zh (ST.out.step hb)
  clear hb
  clear hc183 hl184
  by_cases c188 : t185 < 0
  · rw [if_pos c188] at h
    exact absurd h (by simp)
  rw [if_neg c188] at h
  have c188b : decide (t185 < 0) = false := decide_eq_false c188
  clear c188
  go_wp2_with fail
  replace h := Option.bind_eq_some_iff.mp h
  obtain ⟨t189, HA_, h⟩ := h
  try dsimp only at h
  replace HA_ := Zh HA_
  with_reducible refine (laws_heldBoolS.calls k _ _ t130 t185 t189 _ (ST.out.reads 9 rfl).2.2 (ST.out.reads 9 rfl).2.1 HA_.out).mono ?_
  rintro e w191 ⟨rfl, hb⟩
  clear HA_
  replace hb := Drawn0.below hb
  replace ST := Zh (ST.out.step hb)
  clear hb
  by_cases c192 : t189 < 0
  · rw [if_pos c192] at h
    exact absurd h (by simp)
  rw [if_neg c192] at h
  have c192b : decide (t189 < 0) = false := decide_eq_false c192
  clear c192
  have e193 : t189 = t129 := by
    refine Decidable.byContradiction fun e_ => ?_
    rw [if_neg e_] at h
    exact absurd h (by simp)
  rw [if_pos e193] at h
  obtain rfl : t129 = t189 := by first | exact e193 | exact e193.symm
  clear e193
  have hq194 : (t129 != t129) = false := bne_self_eq_false _
  obtain rfl := Option.some.inj h
  go_wp2
  go_ret
  exact ⟨rfl, ST.out.b⟩
end Go.Proofs.YtmgeffgcihfpcaaDoor.F

namespace Go.Proofs.YtmgeffgcihfpcaaDoor.PK
set_option linter.unusedVariables false
set_option linter.unusedSimpArgs false
open Go.RowKit Go.Proofs.YtmgeffgcihfpcaaDoorW.PrintWords
theorem EvS {α : Type} {g : Nat → Option α} {r : α} (h : Ev (fun k => g (k + 1)) r) : Ev g r := by
  obtain ⟨K, h⟩ := h
  refine ⟨K + 1, fun k hk => ?_⟩
  obtain ⟨m, rfl⟩ : ∃ m, k = m + 1 := ⟨k - 1, by omega⟩
  exact h m (by omega)
theorem EvP {α : Type} {g : Nat → Option α} {r : α} (h : Ev g r) : Ev (fun k => g (k + 1)) r := by
  obtain ⟨K, h⟩ := h
  exact ⟨K, fun k hk => h (k + 1) (by omega)⟩
theorem EvB {α β : Type} {g : Nat → Option α} {f : Nat → α → Option β} {a : α} {r : β} (h : Ev g a) : Ev (fun k => (g k).bind (f k)) r ↔ Ev (fun k => f k a) r := by
  obtain ⟨K, h⟩ := h
  constructor
  · rintro ⟨K', h'⟩
    refine ⟨max K K', fun k hk => ?_⟩
    have h2 : (g k).bind (f k) = some r := h' k (by omega)
    rw [h k (by omega)] at h2
    exact h2
  rintro ⟨K', h'⟩
  refine ⟨max K K', fun k hk => ?_⟩
  show (g k).bind (f k) = some r
  rw [h k (by omega)]
  exact h' k (by omega)
theorem EvN {α : Type} {r : α} : Ev (fun _ => some r) r := ⟨0, fun _ _ => rfl⟩
theorem EvE {α : Type} {g : Nat → Option α} {r : α} (h : Ev g r) : ∃ k, g k = some r := h.rounds
theorem w64 {x : Int} (h : -9223372036854775808 ≤ x) (h' : x ≤ 9223372036854775807) : wrap64 x = x := by
  unfold wrap64
  omega
theorem up {P : Int → Prop} (n : Nat) (base : P n) (step : ∀ i : Nat, i < n → P ((i + 1 : Nat) : Int) → P (i : Int)) : ∀ i : Nat, i ≤ n → P (i : Int) := by
  intro i hi
  obtain ⟨d, hd⟩ : ∃ d, d + i = n := ⟨n - i, by omega⟩
  induction d generalizing i with
  | zero => have : i = n := by omega
            subst this
            exact base
  | succ d ih => exact step i (by omega) (ih (i + 1) (by omega) (by omega))
theorem up0 {P : Int → Prop} (n : Nat) (base : P n) (step : ∀ i : Nat, i < n → P ((i + 1 : Nat) : Int) → P (i : Int)) : P 0 := up n base step 0 (Nat.zero_le _)
theorem getD_nat {α : Type} (l : List α) (z : α) (i : Nat) (h : i < l.length) : l.getD ((i : Int).toNat) z = l[i] := by
  simp [List.getD_eq_getElem?_getD, List.getElem?_eq_getElem h]
theorem drop_at {α : Type} (l : List α) (i : Nat) (h : i < l.length) : l.drop i = l[i] :: l.drop (i + 1) := List.drop_eq_getElem_cons h
end Go.Proofs.YtmgeffgcihfpcaaDoor.PK

namespace Go.Proofs.YtmgeffgcihfpcaaDoor.DK
set_option linter.unusedVariables false
set_option linter.unusedSimpArgs false
open Go.RowKit Go.Proofs.YtmgeffgcihfpcaaDoor.F Go.Proofs.YtmgeffgcihfpcaaDoor.PK Go.Proofs.YtmgeffgcihfpcaaDoorW.PrintWords Go.Proofs.YtmgeffgcihfpcaaDoorW.PrintLast Go.Proofs.YtmgeffgcihfpcaaDoorW.PrintMore
theorem nxt (i n : Nat) (h : i < n) (hn : n ≤ 9223372036854775807) : wrap64 ((i : Int) + 1) = ((i + 1 : Nat) : Int) := by rw [w64 (by omega) (by omega)]; omega
def inB (b : UInt8) : Bool := decide ((97 ≤ b.toNat ∧ b.toNat ≤ 122) ∨ (48 ≤ b.toNat ∧ b.toNat ≤ 57))
def nameM (s : ByteArray) : Bool := s.data.toList.all inB && decide (1 ≤ s.size ∧ s.size ≤ 12)
theorem bt_get (s : ByteArray) (i : Nat) (h : i < s.data.toList.length) : bt s (i : Int) = (s.data.toList[i].toNat : Int) := by
  have hs : i < s.size := by rw [← data_length]; exact h
  unfold bt
  rw [dif_pos (show (i : Int).toNat < s.size by rw [Int.toNat_natCast]; exact hs)]
  simp
  rfl
theorem spec_name (s : ByteArray) (hs : s.size ≤ 9223372036854775807) : Ev (fun k => spec_l01Name.f k s) (nameM s) := by
  have hl := data_length s
  have key := up0 (P := fun i => Ev (fun k => spec_l01Name.l0 k s i) ((s.data.toList.drop i.toNat).all inB && decide (1 ≤ s.size ∧ s.size ≤ 12))) s.size
    (EvS (by
      simp only [spec_l01Name.l0, Int.lt_irrefl, if_false, Int.toNat_natCast, spec_l01In.f]
      rw [List.drop_eq_nil_of_le (by omega), List.all_nil, Bool.true_and]
      by_cases h1 : 1 ≤ (s.size : Int)
      · simp only [if_pos h1, Option.bind_some]
        rw [show decide ((s.size : Int) ≤ 12) = decide (1 ≤ s.size ∧ s.size ≤ 12) from decide_eq_decide.2 (by omega)]
        exact EvN
      simp only [if_neg h1, Option.bind_some]
      rw [decide_eq_false (show ¬ (1 ≤ s.size ∧ s.size ≤ 12) by omega)]
      exact EvN))
    (fun i hi ih => EvS (by
      have hil : i < s.data.toList.length := by omega
      rw [Int.toNat_natCast] at *
      rw [drop_at _ i hil, List.all_cons]
      simp only [spec_l01Name.l0, if_pos (show (i : Int) < (s.size : Int) by omega), if_pos (show 0 ≤ (i : Int) by omega), nxt i _ hi hs]
      have hb := bt_get s i hil
      generalize bt s (i : Int) = x at hb ⊢
      generalize s.data.toList[i] = b at hb ⊢
      by_cases c1 : x ≥ 97
      · by_cases c2 : x ≤ 122
        · simp only [if_pos c1, if_pos c2, show inB b = true from decide_eq_true (by omega), Bool.true_and]; exact ih
        by_cases c3 : x ≥ 48
        · simp only [if_pos c1, if_neg c2, if_pos c3, if_neg (show ¬ x ≤ 57 by omega), show inB b = false from decide_eq_false (by omega), Bool.false_and]; exact EvN
        omega
      by_cases c3 : x ≥ 48
      · by_cases c4 : x ≤ 57
        · simp only [if_neg c1, if_pos c3, if_pos c4, show inB b = true from decide_eq_true (by omega), Bool.true_and]; exact ih
        simp only [if_neg c1, if_pos c3, if_neg c4, show inB b = false from decide_eq_false (by omega), Bool.false_and]; exact EvN
      simp only [if_neg c1, if_neg c3, show inB b = false from decide_eq_false (by omega), Bool.false_and]; exact EvN))
  unfold spec_l01Name.f nameM
  exact key
def cutB : List UInt8 := [97, 98, 99, 100, 101, 102, 103, 104, 105, 106, 107, 108, 109, 110, 111, 112, 113, 114, 115, 116, 117, 118, 119, 120, 121, 122, 48, 49, 50, 51, 52, 53, 54, 55, 56, 57]
theorem cut_in (b : UInt8) : cutB.contains b = inB b := by
  have h : ∀ n : Fin 256, cutB.contains (UInt8.ofNat n.val) = inB (UInt8.ofNat n.val) := by decide +kernel
  have := h ⟨b.toNat, b.toNat_lt⟩
  simpa using this
theorem dw_nil {α : Type} (p : α → Bool) : ∀ l : List α, l.dropWhile p = [] ↔ ∀ x ∈ l, p x = true
  | [] => by simp
  | a :: l => by
    rw [List.dropWhile_cons]
    by_cases h : p a = true
    · rw [if_pos h, dw_nil p l]
      simp [h]
    rw [if_neg h]
    simp [h]
theorem dw_head {α : Type} (p : α → Bool) : ∀ (l : List α) (x : α) (r : List α), l.dropWhile p = x :: r → p x = false
  | [], x, r, h => by simp at h
  | a :: l, x, r, h => by
    rw [List.dropWhile_cons] at h
    by_cases hp : p a = true
    · rw [if_pos hp] at h
      exact dw_head p l x r h
    rw [if_neg hp] at h
    injection h with h1 _
    rw [← h1]
    exact Bool.eq_false_iff.2 hp
theorem dw_mem {α : Type} (p : α → Bool) : ∀ (l : List α) (x : α), x ∈ l.dropWhile p → x ∈ l
  | [], x, h => by simp at h
  | a :: l, x, h => by
    rw [List.dropWhile_cons] at h
    by_cases hp : p a = true
    · rw [if_pos hp] at h
      exact List.mem_cons_of_mem _ (dw_mem p l x h)
    rw [if_neg hp] at h
    exact h
theorem trim_nil (l : List UInt8) : (Go.Lib.trimS l cutB == []) = l.all inB := by
  unfold Go.Lib.trimS Go.Lib.trimLeftS Go.Lib.trimRightS
  rw [Bool.eq_iff_iff, beq_iff_eq, dw_nil, List.all_eq_true]
  constructor
  · intro h
    have hd : l.reverse.dropWhile (cutB.contains ·) = [] := by
      cases hq : l.reverse.dropWhile (cutB.contains ·) with
      | nil => rfl
      | cons x r =>
        have h1 := h x (by rw [hq]; simp)
        have h2 := dw_head (cutB.contains ·) _ _ _ hq
        rw [h1] at h2
        cases h2
    rw [dw_nil] at hd
    intro x hx
    rw [← cut_in]
    exact hd x (List.mem_reverse.2 hx)
  intro h x hx
  rw [cut_in]
  exact h x (List.mem_reverse.1 (dw_mem _ _ _ (List.mem_reverse.1 hx)))
theorem impl_name (s : ByteArray) (hs : s.size ≤ 9223372036854775807) : impl_isFileName.f s = some (nameM s) := by
  unfold impl_isFileName.f nameM
  by_cases h1 : (s.size : Int) ≥ 1
  · by_cases h2 : (s.size : Int) ≤ 12
    · have ht : trimF.f s (⟨#[97, 98, 99, 100, 101, 102, 103, 104, 105, 106, 107, 108, 109, 110, 111, 112, 113, 114, 115, 116, 117, 118, 119, 120, 121, 122, 48, 49, 50, 51, 52, 53, 54, 55, 56, 57]⟩ : ByteArray) = some ⟨(Go.Lib.trimS s.data.toList cutB).toArray⟩ := by
        unfold trimF.f
        rw [if_pos ⟨hs, by decide, by decide⟩]
        rfl
      simp only [if_pos h1, if_pos h2, ht, Option.bind_some]
      rw [Go.Lib.toList_data, trim_nil, decide_eq_true (show 1 ≤ s.size ∧ s.size ≤ 12 by omega), Bool.and_true]
    simp only [if_pos h1, if_neg h2]
    rw [decide_eq_false (show ¬ (1 ≤ s.size ∧ s.size ≤ 12) by omega), Bool.and_false]
  simp only [if_neg h1]
  rw [decide_eq_false (show ¬ (1 ≤ s.size ∧ s.size ≤ 12) by omega), Bool.and_false]
end Go.Proofs.YtmgeffgcihfpcaaDoor.DK

namespace Go.Proofs.YtmgeffgcihfpcaaDoor.BY
set_option linter.unusedVariables false
set_option linter.unusedSimpArgs false
open Go.RowKit Go.Proofs.YtmgeffgcihfpcaaDoor.F Go.Proofs.YtmgeffgcihfpcaaDoor.PK Go.Proofs.YtmgeffgcihfpcaaDoorW.PrintWords Go.Proofs.YtmgeffgcihfpcaaDoorW.PrintLast
theorem rd_at (l : List Int) (i : Nat) (h : i < l.length) : rd l (i : Int) = l[i] := getD_nat l _ i h
theorem nxt (i n : Nat) (h : i < n) (hn : n ≤ 9223372036854775807) : wrap64 ((i : Int) + 1) = ((i + 1 : Nat) : Int) := by rw [w64 (by omega) (by omega)]; omega
theorem toByteS (l : List Int) (hl : l.length ≤ 1048576) : Ev (fun k => laws_toByteS.f k l) l := by
  have key := up (P := fun i => ∀ x : List Int, x.length = l.length → (∀ j : Nat, (j : Int) < i → x[j]? = l[j]?) → Ev (fun k => laws_toByteS.l0 k l x i) l) l.length
      (fun x h0 h1 => by
        have : x = l := List.ext_getElem? fun j => by
          by_cases hj : j < l.length
          · exact h1 j (by omega)
          rw [List.getElem?_eq_none (by omega), List.getElem?_eq_none (by omega)]
        subst this
        exact EvS (by simp only [laws_toByteS.l0, Int.lt_irrefl, if_false]; exact EvN))
      (fun i hi ih x h0 h1 => by
        refine EvS ?_
        simp only [laws_toByteS.l0, rd_at l i hi, Option.bind_some, h0, Int.toNat_natCast, if_pos (show (i : Int) < (l.length : Int) by omega), if_pos (show 0 ≤ (i : Int) by omega), nxt i _ hi (by omega)]
        refine ih _ (by simpa using h0) fun j hj => ?_
        by_cases hji : j = i
        · subst hji
          rw [List.getElem?_set_self (by omega)]
          simp [List.getElem?_eq_getElem hi]
        rw [List.getElem?_set_ne (by omega)]
        exact h1 j (by omega))
  have := key 0 (Nat.zero_le _) (List.replicate l.length 0) (by simp) (fun j hj => absurd hj (by omega))
  unfold laws_toByteS.f
  simp only [Int.toNat_natCast, if_pos (show 0 ≤ (l.length : Int) by omega), if_pos (show l.length ≤ 281474976710656 by omega)]
  exact this
theorem eqByteS (x : List Int) (hx : x.length ≤ 9223372036854775807) : Ev (fun k => laws_eqByteS.f k x x) true := by
  have key := up (P := fun i => Ev (fun k => laws_eqByteS.l0 k x x i) true) x.length
    (EvS (by simp only [laws_eqByteS.l0, Int.lt_irrefl, if_false]; exact EvN))
    (fun i hi ih => EvS (by simp only [laws_eqByteS.l0, if_true, Option.bind_some, if_pos (show (i : Int) < (x.length : Int) by omega), if_pos (show 0 ≤ (i : Int) by omega), nxt i _ hi hx]; exact ih))
  have := key 0 (Nat.zero_le _)
  unfold laws_eqByteS.f
  simp only [if_true]
  exact this
end Go.Proofs.YtmgeffgcihfpcaaDoor.BY

namespace Go.Proofs.YtmgeffgcihfpcaaDoor.DK
set_option linter.unusedVariables false
set_option linter.unusedSimpArgs false
open Go.RowKit Go.Proofs.YtmgeffgcihfpcaaDoor.F Go.Proofs.YtmgeffgcihfpcaaDoor.PK Go.Proofs.YtmgeffgcihfpcaaDoorW.PrintWords Go.Proofs.YtmgeffgcihfpcaaDoorW.PrintLast Go.Proofs.YtmgeffgcihfpcaaDoorW.PrintMore
open Go.Proofs.YtmgeffgcihfpcaaDoor.BY (toByteS eqByteS)
theorem rd74 (l : List S74) (i : Nat) (h : i < l.length) : rd_T74 l (i : Int) = l[i] := getD_nat l _ i h
theorem rd101 (l : List S101) (i : Nat) (h : i < l.length) : rd_T101 l (i : Int) = l[i] := getD_nat l _ i h
def conv101 (x : S101) : S74 := ⟨x.f0, x.f1, x.f2⟩
theorem toFile (a : ByteArray) (b c : List Int) (hb : b.length ≤ 1048576) (hc : c.length ≤ 1048576) : Ev (fun k => laws_toFile.f k a b c) (a, b, c) := by
  unfold laws_toFile.f
  simp only [EvB (toByteS b hb), EvB (toByteS c hc)]
  exact EvN
theorem toFileS (l : List S101) (hl : l.length ≤ 1048576) (hs : ∀ y ∈ l, y.f1.length ≤ 1048576 ∧ y.f2.length ≤ 1048576) : Ev (fun k => laws_toFileS.f k l) (l.map conv101) := by
  have key := up (P := fun i => ∀ x : List S74, x.length = l.length → (∀ j : Nat, (j : Int) < i → x[j]? = (l.map conv101)[j]?) → Ev (fun k => laws_toFileS.l0 k l x i) (l.map conv101)) l.length
      (fun x h0 h1 => by
        have : x = l.map conv101 := List.ext_getElem? fun j => by
          by_cases hj : j < l.length
          · exact h1 j (by omega)
          rw [List.getElem?_eq_none (by omega), List.getElem?_eq_none (by rw [List.length_map]; omega)]
        subst this
        exact EvS (by simp only [laws_toFileS.l0, Int.lt_irrefl, if_false]; exact EvN))
      (fun i hi ih x h0 h1 => by
        have hy := hs _ (List.getElem_mem hi)
        refine EvS ?_
        simp only [laws_toFileS.l0, rd101 l i hi, EvB (toFile l[i].f0 l[i].f1 l[i].f2 hy.1 hy.2), h0, Int.toNat_natCast, if_pos (show (i : Int) < (l.length : Int) by omega), if_pos (show 0 ≤ (i : Int) by omega), nxt i _ hi (by omega)]
        refine ih _ (by simpa using h0) fun j hj => ?_
        by_cases hji : j = i
        · subst hji
          rw [List.getElem?_set_self (by omega)]
          simp [List.getElem?_eq_getElem hi, conv101]
        rw [List.getElem?_set_ne (by omega)]
        exact h1 j (by omega))
  have := key 0 (Nat.zero_le _) (List.replicate l.length z74) (by simp) (fun j hj => absurd hj (by omega))
  unfold laws_toFileS.f
  have hS : (l.length ≤ 4398046511104) = True := eq_true (by omega)
  simp only [Int.toNat_natCast, if_pos (show 0 ≤ (l.length : Int) by omega), hS, if_true]
  exact this
theorem toDisk (l : List S101) (hl : l.length ≤ 1048576) (hs : ∀ y ∈ l, y.f1.length ≤ 1048576 ∧ y.f2.length ≤ 1048576) : Ev (fun k => laws_toDisk.f k l) (l.map conv101) := by
  unfold laws_toDisk.f
  simp only [EvB (toFileS l hl hs)]
  exact EvN
theorem szByteS (l : List Int) (c : Int) (h0 : 0 ≤ c) (h1 : c ≤ 1048576) (hl : l.length ≤ 9223372036854775807) : ∃ t, laws_szByteS.f l c = some t ∧ t ≤ c ∧ (0 ≤ t → (l.length : Int) ≤ c) := by
  unfold laws_szByteS.f
  rw [w64 (by omega) (by omega)]
  split
  · exact ⟨_, rfl, by omega, by omega⟩
  exact ⟨_, rfl, by omega, by omega⟩
theorem szFile (a : ByteArray) (b d : List Int) (c : Int) (h0 : 0 ≤ c) (h1 : c ≤ 1048576) (ha : a.size ≤ 9223372036854775807) (hb : b.length ≤ 9223372036854775807) (hd : d.length ≤ 9223372036854775807) : ∃ t, laws_szFile.f a b d c = some t ∧ t ≤ c ∧ (0 ≤ t → b.length ≤ 1048576 ∧ d.length ≤ 1048576) := by
  unfold laws_szFile.f
  rw [w64 (by omega) (by omega)]
  by_cases g : c - (a.size : Int) < 0
  · exact ⟨-1, by rw [if_pos g], by omega, by omega⟩
  obtain ⟨t, e, a1, a2⟩ := szByteS b (c - (a.size : Int)) (by omega) (by omega) hb
  by_cases g1 : t < 0
  · exact ⟨-1, by simp only [if_neg g, e, Option.bind_some, if_pos g1], by omega, by omega⟩
  obtain ⟨u, e2, b1, b2⟩ := szByteS d t (by omega) (by omega) hd
  by_cases g2 : u < 0
  · exact ⟨-1, by simp only [if_neg g, e, Option.bind_some, if_neg g1, e2, if_pos g2], by omega, by omega⟩
  exact ⟨u, by simp only [if_neg g, e, Option.bind_some, if_neg g1, e2, if_neg g2], by omega, by omega⟩
def wfF (l : List S101) : Prop := ∀ y ∈ l, y.f0.size ≤ 9223372036854775807 ∧ y.f1.length ≤ 9223372036854775807 ∧ y.f2.length ≤ 9223372036854775807
theorem eqFile (a : ByteArray) (b c : List Int) (hb : b.length ≤ 9223372036854775807) (hc : c.length ≤ 9223372036854775807) : Ev (fun k => laws_eqFile.f k a b c a b c) true := by
  unfold laws_eqFile.f
  simp only [if_true, EvB (eqByteS b hb), EvB (eqByteS c hc)]
  exact EvN
theorem eqFileS (x : List S74) (hx : x.length ≤ 9223372036854775807) (hy : ∀ y ∈ x, y.f1.length ≤ 9223372036854775807 ∧ y.f2.length ≤ 9223372036854775807) : Ev (fun k => laws_eqFileS.f k x x) true := by
  have key := up (P := fun i => Ev (fun k => laws_eqFileS.l0 k x x i) true) x.length
    (EvS (by simp only [laws_eqFileS.l0, Int.lt_irrefl, if_false]; exact EvN))
    (fun i hi ih => EvS (by
      have e := eqFile x[i].f0 x[i].f1 x[i].f2 (hy _ (List.getElem_mem hi)).1 (hy _ (List.getElem_mem hi)).2
      simp only [laws_eqFileS.l0, rd74 x i hi, if_pos (show (i : Int) < (x.length : Int) by omega), if_pos (show 0 ≤ (i : Int) by omega), EvB e, if_true, nxt i _ hi hx]; exact ih))
  have := key 0 (Nat.zero_le _)
  unfold laws_eqFileS.f
  simp only [if_true]
  exact this
theorem eqDisk (x : List S74) (hx : x.length ≤ 9223372036854775807) (hy : ∀ y ∈ x, y.f1.length ≤ 9223372036854775807 ∧ y.f2.length ≤ 9223372036854775807) : Ev (fun k => laws_eqDisk.f k x x) true := by
  unfold laws_eqDisk.f
  simp only [EvB (eqFileS x hx hy), if_true]
  exact EvN
def okAt (l : List S74) (i : Nat) : Bool := nameM (rd_T74 l i).f0 && (decide ((rd_T74 l i).f1.length + (rd_T74 l i).f2.length ≤ 20000) && (decide (i = 0) || Op.bytesLess (rd_T74 l ((i - 1 : Nat) : Int)).f0.toList (rd_T74 l i).f0.toList))
def goD (l : List S74) : Nat → Nat → Bool
  | 0, _ => true
  | d + 1, i => okAt l i && goD l d (i + 1)
def diskM (l : List S74) : Bool := decide (l.length ≤ 8) && goD l l.length 0
def wfD (l : List S74) : Prop := ∀ y ∈ l, y.f0.size ≤ 9223372036854775807 ∧ y.f1.length ≤ 1048576 ∧ y.f2.length ≤ 1048576
theorem specGo (l : List S74) (hl : l.length ≤ 1048576) (hw : wfD l) : ∀ d i : Nat, d + i = l.length → Ev (fun k => spec_DiskOk.l0 k i l) (goD l d i) := by
  intro d
  induction d with
  | zero =>
    intro i hi
    refine EvS ?_
    simp only [spec_DiskOk.l0, if_neg (show ¬ (i : Int) < (l.length : Int) by omega)]
    exact EvN
  | succ d ih =>
    intro i hi
    have hil : i < l.length := by omega
    have hy := hw _ (List.getElem_mem hil)
    refine EvS ?_
    have hn := spec_name l[i].f0 hy.1
    have h := ih (i + 1) (by omega)
    rw [← rd74 l i hil] at hn hy
    unfold goD okAt
    simp only [spec_DiskOk.l0, if_pos (show (i : Int) < (l.length : Int) by omega), if_pos (show 0 ≤ (i : Int) by omega), EvB hn, nxt i _ hil (by omega)]
    generalize rd_T74 l (i : Int) = y at hy hn ⊢
    by_cases c1 : nameM y.f0 = true
    · by_cases c2 : (y.f1.length : Int) > 20000
      · simp only [if_pos c1, if_pos c2, decide_eq_false (show ¬ y.f1.length + y.f2.length ≤ 20000 by omega), Bool.false_and, Bool.and_false]; exact EvN
      have hw1 : wrap64 (20000 - (y.f1.length : Int)) = 20000 - (y.f1.length : Int) := w64 (by omega) (by omega)
      by_cases c3 : (y.f2.length : Int) > 20000 - (y.f1.length : Int)
      · simp only [if_pos c1, if_neg c2, hw1, if_pos c3, decide_eq_false (show ¬ y.f1.length + y.f2.length ≤ 20000 by omega), Bool.false_and, Bool.and_false]; exact EvN
      simp only [if_pos c1, if_neg c2, hw1, if_neg c3, c1, decide_eq_true (show y.f1.length + y.f2.length ≤ 20000 by omega), Bool.true_and]
      by_cases c4 : i = 0
      · simp only [if_neg (show ¬ (i : Int) > 0 by omega), decide_eq_true c4, Bool.true_or, Bool.true_and]; exact h
      have hw2 : wrap64 ((i : Int) - 1) = ((i - 1 : Nat) : Int) := by rw [w64 (by omega) (by omega)]; omega
      simp only [if_pos (show (i : Int) > 0 by omega), hw2, if_pos (show 0 ≤ ((i - 1 : Nat) : Int) by omega), if_pos (show ((i - 1 : Nat) : Int) < (l.length : Int) by omega), decide_eq_false c4, Bool.false_or]
      by_cases c5 : Op.bytesLess (rd_T74 l ((i - 1 : Nat) : Int)).f0.toList y.f0.toList = true
      · simp only [if_pos c5, c5, Bool.true_and]; exact h
      simp only [if_neg c5, Bool.eq_false_iff.2 c5, Bool.false_and]; exact EvN
    simp only [if_neg c1, Bool.eq_false_iff.2 c1, Bool.false_and]; exact EvN
theorem implGo (l : List S74) (hl : l.length ≤ 1048576) (hw : wfD l) : ∀ d i : Nat, d + i = l.length → Ev (fun k => impl_isDisk.l0 k l (l.length : Int) i l) (goD l d i && decide (l.length ≤ 8)) := by
  intro d
  induction d with
  | zero =>
    intro i hi
    refine EvS ?_
    simp only [impl_isDisk.l0, if_neg (show ¬ (i : Int) < (l.length : Int) by omega), goD, Bool.true_and]
    rw [show decide ((l.length : Int) ≤ 8) = decide (l.length ≤ 8) from decide_eq_decide.2 (by omega)]
    exact EvN
  | succ d ih =>
    intro i hi
    have hil : i < l.length := by omega
    have hy := hw _ (List.getElem_mem hil)
    refine EvS ?_
    have hn := impl_name l[i].f0 hy.1
    have h := ih (i + 1) (by omega)
    rw [← rd74 l i hil] at hn hy
    unfold goD okAt
    simp only [impl_isDisk.l0, if_pos (show (i : Int) < (l.length : Int) by omega), if_pos (show 0 ≤ (i : Int) by omega), hn, Option.bind_some, nxt i _ hil (by omega)]
    generalize rd_T74 l (i : Int) = y at hy hn ⊢
    by_cases c1 : nameM y.f0 = true
    · have hw1 : wrap64 ((y.f1.length : Int) + (y.f2.length : Int)) = (y.f1.length : Int) + (y.f2.length : Int) := w64 (by omega) (by omega)
      by_cases c3 : (y.f1.length : Int) + (y.f2.length : Int) > 20000
      · simp only [if_pos c1, hw1, if_pos c3, decide_eq_false (show ¬ y.f1.length + y.f2.length ≤ 20000 by omega), Bool.false_and, Bool.and_false]; exact EvN
      simp only [if_pos c1, hw1, if_neg c3, c1, decide_eq_true (show y.f1.length + y.f2.length ≤ 20000 by omega), Bool.true_and]
      by_cases c4 : i = 0
      · simp only [if_neg (show ¬ (i : Int) > 0 by omega), decide_eq_true c4, Bool.true_or, Bool.true_and]; exact h
      have hw2 : wrap64 ((i : Int) - 1) = ((i - 1 : Nat) : Int) := by rw [w64 (by omega) (by omega)]; omega
      simp only [if_pos (show (i : Int) > 0 by omega), hw2, if_pos (show 0 ≤ ((i - 1 : Nat) : Int) by omega), if_pos (show ((i - 1 : Nat) : Int) < (l.length : Int) by omega), decide_eq_false c4, Bool.false_or]
      by_cases c5 : Op.bytesLess (rd_T74 l ((i - 1 : Nat) : Int)).f0.toList y.f0.toList = true
      · simp only [if_pos c5, c5, Bool.true_and]; exact h
      simp only [if_neg c5, Bool.eq_false_iff.2 c5, Bool.false_and]; exact EvN
    simp only [if_neg c1, Bool.eq_false_iff.2 c1, Bool.false_and]; exact EvN
theorem spec_disk (l : List S74) (hl : l.length ≤ 1048576) (hw : wfD l) : Ev (fun k => spec_DiskOk.f k l) (diskM l) := by
  unfold spec_DiskOk.f diskM
  by_cases h : l.length ≤ 8
  · simp only [if_neg (show ¬ (l.length : Int) > 8 by omega), decide_eq_true h, Bool.true_and]
    exact specGo l hl hw l.length 0 rfl
  simp only [if_pos (show (l.length : Int) > 8 by omega), decide_eq_false h, Bool.false_and]
  exact EvN
theorem impl_disk (l : List S74) (hl : l.length ≤ 1048576) (hw : wfD l) : Ev (fun k => impl_isDisk.f k l) (diskM l) := by
  unfold impl_isDisk.f diskM
  rw [Bool.and_comm]
  exact implGo l hl hw l.length 0 rfl
end Go.Proofs.YtmgeffgcihfpcaaDoor.DK

namespace Go.Proofs.YtmgeffgcihfpcaaDoor.MT
set_option linter.unusedVariables false
set_option linter.unusedSimpArgs false
open Go.RowKit Go.Proofs.YtmgeffgcihfpcaaDoor.F Go.Proofs.YtmgeffgcihfpcaaDoor.PK Go.Proofs.YtmgeffgcihfpcaaDoorW.PrintWords Go.Proofs.YtmgeffgcihfpcaaDoorW.PrintLast
theorem strOf1 (x : Int) : (strOfNums [x]).size = 1 := rfl
theorem markText (x : Int) (h : x ≤ 9223372036854775807) : ∃ s, Ev (fun k => laws_markText.f k x) s := by
  have key : ∀ (d : Nat) (x : Int) (s : ByteArray), x < 10 ^ d → s.size + d ≤ 30 → ∃ r, Ev (fun k => laws_markText.l0 k x s) r := by
    intro d
    induction d with
    | zero =>
      intro x s hx hs
      have hS : (1 + s.size ≤ 9223372036854775807) = True := eq_true (by omega)
      refine ⟨(⟨#[109]⟩ : ByteArray) ++ s, EvS ?_⟩
      simp only [laws_markText.l0, if_neg (show ¬ x > 0 by simp at hx; omega), hS, if_true]
      exact EvN
    | succ d ih =>
      intro x s hx hs
      have hS : (1 + s.size ≤ 9223372036854775807) = True := eq_true (by omega)
      by_cases h0 : x > 0
      · have h10 : (10 : Int) ^ (d + 1) = 10 * 10 ^ d := by rw [Int.pow_succ, Int.mul_comm]
        have hq : Int.tdiv x 10 = x / 10 := Int.tdiv_eq_ediv_of_nonneg (by omega)
        obtain ⟨r, hr⟩ := ih (wrap64 (x / 10)) (strOfNums [(wrap64 (48 + (Int.tmod x 10))) % 256] ++ s) (by unfold wrap64; omega) (by rw [ByteArray.size_append, strOf1]; omega)
        refine ⟨r, EvS ?_⟩
        simp only [laws_markText.l0, if_pos h0, Option.bind_some, strOf1, hS, if_true, hq]
        exact hr
      refine ⟨(⟨#[109]⟩ : ByteArray) ++ s, EvS ?_⟩
      simp only [laws_markText.l0, if_neg h0, hS, if_true]
      exact EvN
  by_cases h0 : x ≤ 0
  · exact ⟨⟨#[109, 48]⟩, by unfold laws_markText.f; simp only [if_pos h0]; exact EvN⟩
  have h19 : (10 : Int) ^ 19 = 10000000000000000000 := by decide
  obtain ⟨r, hr⟩ := key 19 x ⟨#[]⟩ (by omega) (show 0 + 19 ≤ 30 by omega)
  exact ⟨r, by unfold laws_markText.f; simp only [if_neg h0]; exact hr⟩
end Go.Proofs.YtmgeffgcihfpcaaDoor.MT

namespace Go.Proofs.YtmgeffgcihfpcaaDoor.BY
set_option linter.unusedVariables false
set_option linter.unusedSimpArgs false
open Go.RowKit Go.Proofs.YtmgeffgcihfpcaaDoor.F Go.Proofs.YtmgeffgcihfpcaaDoor.PK Go.Proofs.YtmgeffgcihfpcaaDoorW.PrintWords Go.Proofs.YtmgeffgcihfpcaaDoorW.PrintLast
theorem markByteS (l : List Int) (hl : l.length ≤ 9000000000000000000) (a : Int) (ha : 0 ≤ a) (hla : a + l.length ≤ 9223372036854775807) : ∃ (m : Int) (l' : List Int), Ev (fun k => laws_markByteS.f k l a) (m, l') ∧ m = a + l.length ∧ l'.length = l.length ∧ Ev (fun k => laws_heldByteS.f k l' a) m := by
  have key : ∀ (d i : Nat), d + i = l.length → ∀ (x : List Int) (b : Int), x.length = l.length → b = a + i → ∃ l', Ev (fun k => laws_markByteS.l0 k x b i) (a + l.length, l') ∧ l'.length = l.length ∧ (∀ j, j < i → l'[j]? = x[j]?) ∧ Ev (fun k => laws_heldByteS.l0 k l' b i) (a + l.length) := by
    intro d
    induction d with
    | zero =>
      intro i hi x b hx hb
      have hi : i = l.length := by omega
      subst hi
      subst hb
      exact ⟨x, EvS (by simp only [laws_markByteS.l0, hx, Int.lt_irrefl, if_false]; exact EvN), hx, fun _ _ => rfl, EvS (by simp only [laws_heldByteS.l0, hx, Int.lt_irrefl, if_false]; exact EvN)⟩
    | succ d ih =>
      intro i hi x b hx hb
      have hw : wrap64 (b + 1) = b + 1 := w64 (by omega) (by omega)
      obtain ⟨l', h1, h2, h3, h4⟩ := ih (i + 1) (by omega) (x.set i (b % 256)) (b + 1) (by simpa using hx) (by omega)
      have hli : i < l'.length := by omega
      have he : l'[i] = b % 256 := by
        have := h3 i (by omega)
        rw [List.getElem?_set_self (by omega), List.getElem?_eq_getElem hli] at this
        exact Option.some.inj this
      refine ⟨l', EvS ?_, h2, fun j hj => ?_, EvS ?_⟩
      · simp only [laws_markByteS.l0, if_pos (show (i : Int) < (x.length : Int) by omega), if_pos (show 0 ≤ (i : Int) by omega), hw, Int.toNat_natCast, nxt i l.length (by omega) (by omega)]
        exact h1
      · rw [h3 j (by omega), List.getElem?_set_ne (by omega)]
      simp only [laws_heldByteS.l0, if_pos (show (i : Int) < (l'.length : Int) by omega), if_pos (show 0 ≤ (i : Int) by omega), hw, rd_at l' i hli, he, if_true, nxt i l.length (by omega) (by omega)]
      exact h4
  obtain ⟨l', h1, h2, _, h4⟩ := key l.length 0 (by omega) l a rfl (by omega)
  exact ⟨_, l', h1, rfl, h2, h4⟩
end Go.Proofs.YtmgeffgcihfpcaaDoor.BY

namespace Go.Proofs.YtmgeffgcihfpcaaDoor.DK
set_option linter.unusedVariables false
set_option linter.unusedSimpArgs false
open Go.RowKit Go.Proofs.YtmgeffgcihfpcaaDoor.F Go.Proofs.YtmgeffgcihfpcaaDoor.PK Go.Proofs.YtmgeffgcihfpcaaDoorW.PrintWords Go.Proofs.YtmgeffgcihfpcaaDoorW.PrintLast Go.Proofs.YtmgeffgcihfpcaaDoorW.PrintMore
open Go.Proofs.YtmgeffgcihfpcaaDoor.BY (toByteS eqByteS markByteS)
open Go.Proofs.YtmgeffgcihfpcaaDoor.MT (markText)
theorem szDiskB (l : List S101) (hl : l.length ≤ 9223372036854775807) (hs : wfF l) : ∃ t, Ev (fun k => laws_szDisk.f k l 1048576) t ∧ t ≤ 1048576 ∧ (0 ≤ t → l.length ≤ 1048576 ∧ ∀ y ∈ l, y.f1.length ≤ 1048576 ∧ y.f2.length ≤ 1048576) := by
  have key := up (P := fun i => ∀ x, 0 ≤ x → x ≤ 1048576 → ∃ t, Ev (fun k => laws_szFileS.l0 k l x i) t ∧ t ≤ x ∧ (0 ≤ t → ∀ y ∈ l.drop i.toNat, y.f1.length ≤ 1048576 ∧ y.f2.length ≤ 1048576)) l.length
      (fun x g0 g1 => ⟨x, EvS (by simp only [laws_szFileS.l0, Int.lt_irrefl, if_false]; exact EvN), Int.le_refl _, fun _ y hy => by rw [Int.toNat_natCast, List.drop_length] at hy; cases hy⟩)
      (fun i hi ih x g0 g1 => by
        have hz := hs _ (List.getElem_mem hi)
        obtain ⟨t, e1, e2, e3⟩ := szFile l[i].f0 l[i].f1 l[i].f2 x g0 g1 hz.1 hz.2.1 hz.2.2
        by_cases h2 : t < 0
        · refine ⟨-1, EvS ?_, by omega, by omega⟩
          simp only [laws_szFileS.l0, rd101 l i hi, e1, Option.bind_some, if_pos h2, if_pos (show (i : Int) < (l.length : Int) by omega), if_pos (show 0 ≤ (i : Int) by omega)]
          exact EvN
        obtain ⟨t', h3, h3b, h4⟩ := ih t (by omega) (by omega)
        refine ⟨t', EvS ?_, by omega, fun ht y hy => ?_⟩
        · simp only [laws_szFileS.l0, rd101 l i hi, e1, Option.bind_some, if_neg h2, if_pos (show (i : Int) < (l.length : Int) by omega), if_pos (show 0 ≤ (i : Int) by omega), nxt i _ hi hl]
          exact h3
        rw [Int.toNat_natCast, drop_at l i hi] at hy
        rcases List.mem_cons.1 hy with rfl | hy
        · exact e3 (by omega)
        exact h4 ht y (by rw [Int.toNat_natCast]; exact hy))
  have hF : ∃ t, Ev (fun k => laws_szFileS.f k l 1048576) t ∧ t ≤ 1048576 ∧ (0 ≤ t → l.length ≤ 1048576 ∧ ∀ y ∈ l, y.f1.length ≤ 1048576 ∧ y.f2.length ≤ 1048576) := by
    unfold laws_szFileS.f
    rw [w64 (x := 1048576 - (l.length : Int)) (by omega) (by omega)]
    by_cases h : (1048576 - (l.length : Int)) < 0
    · exact ⟨-1, by simp only [if_pos h]; exact EvN, by omega, by omega⟩
    obtain ⟨t, h2, h2b, h3⟩ := key 0 (Nat.zero_le _) (1048576 - (l.length : Int)) (by omega) (by omega)
    exact ⟨t, by simp only [if_neg h]; exact h2, by omega, fun ht => ⟨by omega, fun y hy => h3 ht y (by simpa using hy)⟩⟩
  obtain ⟨t, h1, h1b, h2⟩ := hF
  unfold laws_szDisk.f
  by_cases h : t < 0
  · exact ⟨-1, by simp only [EvB h1, if_pos h]; exact EvN, by omega, by omega⟩
  exact ⟨t, by simp only [EvB h1, if_neg h]; exact EvN, h1b, h2⟩
theorem rd71 (l : List S71) (i : Nat) (h : i < l.length) : rd_T71 l (i : Int) = l[i] := getD_nat l _ i h
theorem rd90 (l : List S90) (i : Nat) (h : i < l.length) : rd_T90 l (i : Int) = l[i] := getD_nat l _ i h
theorem rdB (l : List Bool) (i : Nat) (h : i < l.length) : rdOf false l (i : Int) = l[i] := getD_nat l _ i h
def conv90 (x : S90) : S71 := ⟨x.f0, x.f1, x.f2, x.f3, x.f4⟩
def wfO (l : List S90) : Prop := ∀ y ∈ l, y.f1.size ≤ 9223372036854775807 ∧ y.f2.size ≤ 9223372036854775807 ∧ y.f3.length ≤ 9223372036854775807
theorem szOp (a : Int) (b c : ByteArray) (d : List Int) (e n : Int) (h0 : 0 ≤ n) (h1 : n ≤ 1048576) (hb : b.size ≤ 9223372036854775807) (hc : c.size ≤ 9223372036854775807) (hd : d.length ≤ 9223372036854775807) : ∃ t, laws_szDiskOp.f a b c d e n = some t ∧ t ≤ n ∧ (0 ≤ t → d.length ≤ 1048576) := by
  unfold laws_szDiskOp.f
  rw [w64 (x := n - (b.size : Int)) (by omega) (by omega)]
  by_cases g : n - (b.size : Int) < 0
  · exact ⟨-1, by rw [if_pos g], by omega, by omega⟩
  rw [if_neg g, w64 (x := n - (b.size : Int) - (c.size : Int)) (by omega) (by omega)]
  by_cases g1 : n - (b.size : Int) - (c.size : Int) < 0
  · exact ⟨-1, by rw [if_pos g1], by omega, by omega⟩
  obtain ⟨u, e2, b1, b2⟩ := szByteS d (n - (b.size : Int) - (c.size : Int)) (by omega) (by omega) hd
  by_cases g2 : u < 0
  · exact ⟨-1, by simp only [if_neg g1, e2, Option.bind_some, if_pos g2], by omega, by omega⟩
  exact ⟨u, by simp only [if_neg g1, e2, Option.bind_some, if_neg g2], by omega, by omega⟩
theorem szOps (l : List S90) (c : Int) (h0 : 0 ≤ c) (h1 : c ≤ 1048576) (hl : l.length ≤ 9223372036854775807) (hs : wfO l) : ∃ t, Ev (fun k => laws_szDiskOpS.f k l c) t ∧ (0 ≤ t → l.length ≤ 1048576 ∧ ∀ y ∈ l, y.f3.length ≤ 1048576) := by
  have key := up (P := fun i => ∀ x, 0 ≤ x → x ≤ 1048576 → ∃ t, Ev (fun k => laws_szDiskOpS.l0 k l x i) t ∧ (0 ≤ t → ∀ y ∈ l.drop i.toNat, y.f3.length ≤ 1048576)) l.length
      (fun x g0 g1 => ⟨x, EvS (by simp only [laws_szDiskOpS.l0, Int.lt_irrefl, if_false]; exact EvN), fun _ y hy => by rw [Int.toNat_natCast, List.drop_length] at hy; cases hy⟩)
      (fun i hi ih x g0 g1 => by
        have hz := hs _ (List.getElem_mem hi)
        obtain ⟨t, e1, e2, e3⟩ := szOp l[i].f0 l[i].f1 l[i].f2 l[i].f3 l[i].f4 x g0 g1 hz.1 hz.2.1 hz.2.2
        by_cases h2 : t < 0
        · refine ⟨-1, EvS ?_, by omega⟩
          simp only [laws_szDiskOpS.l0, rd90 l i hi, e1, Option.bind_some, if_pos h2, if_pos (show (i : Int) < (l.length : Int) by omega), if_pos (show 0 ≤ (i : Int) by omega)]
          exact EvN
        obtain ⟨t', h3, h4⟩ := ih t (by omega) (by omega)
        refine ⟨t', EvS ?_, fun ht y hy => ?_⟩
        · simp only [laws_szDiskOpS.l0, rd90 l i hi, e1, Option.bind_some, if_neg h2, if_pos (show (i : Int) < (l.length : Int) by omega), if_pos (show 0 ≤ (i : Int) by omega), nxt i _ hi hl]
          exact h3
        rw [Int.toNat_natCast, drop_at l i hi] at hy
        rcases List.mem_cons.1 hy with rfl | hy
        · exact e3 (by omega)
        exact h4 ht y (by rw [Int.toNat_natCast]; exact hy))
  unfold laws_szDiskOpS.f
  rw [w64 (x := c - (l.length : Int)) (by omega) (by omega)]
  by_cases h : (c - (l.length : Int)) < 0
  · exact ⟨-1, by simp only [if_pos h]; exact EvN, by omega⟩
  obtain ⟨t, h2, h3⟩ := key 0 (Nat.zero_le _) (c - (l.length : Int)) (by omega) (by omega)
  exact ⟨t, by simp only [if_neg h]; exact h2, fun ht => ⟨by omega, fun y hy => h3 ht y (by simpa using hy)⟩⟩
theorem toOps (l : List S90) (hl : l.length ≤ 1048576) (hs : ∀ y ∈ l, y.f3.length ≤ 1048576) : Ev (fun k => laws_toDiskOpS.f k l) (l.map conv90) := by
  have key := up (P := fun i => ∀ x : List S71, x.length = l.length → (∀ j : Nat, (j : Int) < i → x[j]? = (l.map conv90)[j]?) → Ev (fun k => laws_toDiskOpS.l0 k l x i) (l.map conv90)) l.length
      (fun x h0 h1 => by
        have : x = l.map conv90 := List.ext_getElem? fun j => by
          by_cases hj : j < l.length
          · exact h1 j (by omega)
          rw [List.getElem?_eq_none (by omega), List.getElem?_eq_none (by rw [List.length_map]; omega)]
        subst this
        exact EvS (by simp only [laws_toDiskOpS.l0, Int.lt_irrefl, if_false]; exact EvN))
      (fun i hi ih x h0 h1 => by
        have hy := hs _ (List.getElem_mem hi)
        have ht : Ev (fun k => laws_toDiskOp.f k l[i].f0 l[i].f1 l[i].f2 l[i].f3 l[i].f4) (l[i].f0, l[i].f1, l[i].f2, l[i].f3, l[i].f4) := by
          unfold laws_toDiskOp.f
          simp only [EvB (toByteS l[i].f3 hy)]
          exact EvN
        refine EvS ?_
        simp only [laws_toDiskOpS.l0, rd90 l i hi, EvB ht, h0, Int.toNat_natCast, if_pos (show (i : Int) < (l.length : Int) by omega), if_pos (show 0 ≤ (i : Int) by omega), nxt i _ hi (by omega)]
        refine ih _ (by simpa using h0) fun j hj => ?_
        by_cases hji : j = i
        · subst hji
          rw [List.getElem?_set_self (by omega), List.getElem?_map, List.getElem?_eq_getElem hi]
          rfl
        rw [List.getElem?_set_ne (by omega)]
        exact h1 j (by omega))
  have := key 0 (Nat.zero_le _) (List.replicate l.length z71) (by simp) (fun j hj => absurd hj (by omega))
  unfold laws_toDiskOpS.f
  have hS : (l.length ≤ 3909374676536) = True := eq_true (by omega)
  simp only [Int.toNat_natCast, if_pos (show 0 ≤ (l.length : Int) by omega), hS, if_true]
  exact this
theorem eqOps (x : List S71) (hx : x.length ≤ 9223372036854775807) (hy : ∀ y ∈ x, y.f3.length ≤ 9223372036854775807) : Ev (fun k => laws_eqDiskOpS.f k x x) true := by
  have key := up (P := fun i => Ev (fun k => laws_eqDiskOpS.l0 k x x i) true) x.length
    (EvS (by simp only [laws_eqDiskOpS.l0, Int.lt_irrefl, if_false]; exact EvN))
    (fun i hi ih => EvS (by
      have e : Ev (fun k => laws_eqDiskOp.f k x[i].f0 x[i].f1 x[i].f2 x[i].f3 x[i].f4 x[i].f0 x[i].f1 x[i].f2 x[i].f3 x[i].f4) true := by
        unfold laws_eqDiskOp.f
        simp only [if_true, EvB (eqByteS x[i].f3 (hy _ (List.getElem_mem hi)))]
        exact EvN
      simp only [laws_eqDiskOpS.l0, rd71 x i hi, if_pos (show (i : Int) < (x.length : Int) by omega), if_pos (show 0 ≤ (i : Int) by omega), EvB e, if_true, nxt i _ hi hx]; exact ih))
  have := key 0 (Nat.zero_le _)
  unfold laws_eqDiskOpS.f
  simp only [if_true]
  exact this
theorem eqBools (x : List Bool) (hx : x.length ≤ 9223372036854775807) : Ev (fun k => laws_eqBoolS.f k x x) true := by
  have key := up (P := fun i => Ev (fun k => laws_eqBoolS.l0 k x x i) true) x.length
    (EvS (by simp only [laws_eqBoolS.l0, Int.lt_irrefl, if_false]; exact EvN))
    (fun i hi ih => EvS (by simp only [laws_eqBoolS.l0, bne_self_eq_false, Bool.false_eq_true, if_false, if_pos (show (i : Int) < (x.length : Int) by omega), if_pos (show 0 ≤ (i : Int) by omega), nxt i _ hi hx]; exact ih))
  have := key 0 (Nat.zero_le _)
  unfold laws_eqBoolS.f
  simp only [if_true]
  exact this
theorem markBoolG : ∀ (d i : Nat) (l : List Bool) (s : Int), d + i = l.length → l.length ≤ 3000000 → 0 ≤ s → s + d ≤ 4000000000000000 → ∃ (m : Int) (l' : List Bool), Ev (fun k => laws_markBoolS.l0 k l s i) (m, l') ∧ s ≤ m ∧ l'.length = l.length ∧ (∀ j, j < i → l'[j]? = l[j]?) ∧ Ev (fun k => laws_heldBoolS.l0 k l' s i) m := by
  intro d
  induction d with
  | zero =>
    intro i l s hi hl h0 h1
    have hi : i = l.length := by omega
    subst hi
    exact ⟨s, l, EvS (by simp only [laws_markBoolS.l0, Int.lt_irrefl, if_false]; exact EvN), by omega, rfl, fun _ _ => rfl, EvS (by simp only [laws_heldBoolS.l0, Int.lt_irrefl, if_false]; exact EvN)⟩
  | succ d ih =>
    intro i l s hi hl h0 h1
    have hil : i < l.length := by omega
    obtain ⟨m, l', a1, a2, a3, a4, a5⟩ := ih (i + 1) (l.set i ((Int.tmod s 3) == 0)) (s + 1) (by simp; omega) (by simpa using hl) (by omega) (by omega)
    have hli : i < l'.length := by rw [a3]; simpa using hil
    have he : l'[i] = ((Int.tmod s 3) == 0) := by
      have := a4 i (by omega)
      rw [List.getElem?_set_self hil, List.getElem?_eq_getElem hli] at this
      exact Option.some.inj this
    have hw := w64 (x := s + 1) (by omega) (by omega)
    refine ⟨m, l', EvS ?_, by omega, by simpa using a3, fun j hj => ?_, EvS ?_⟩
    · simp only [laws_markBoolS.l0, if_pos (show (i : Int) < (l.length : Int) by omega), if_pos (show 0 ≤ (i : Int) by omega), hw, Int.toNat_natCast, nxt i l.length hil (by omega)]
      exact a1
    · rw [a4 j (by omega), List.getElem?_set_ne (by omega)]
    have hll : l'.length = l.length := by simpa using a3
    simp only [laws_heldBoolS.l0, hll, if_pos (show (i : Int) < (l.length : Int) by omega), if_pos (show 0 ≤ (i : Int) by omega), rdB l' i hli, he, bne_self_eq_false, Bool.false_eq_true, if_false, hw, nxt i l.length hil (by omega)]
    exact a5
theorem markBools (l : List Bool) (s : Int) (hl : l.length ≤ 3000000) (h0 : 0 ≤ s) (h1 : s ≤ 3990000000000000) : ∃ (m : Int) (l' : List Bool), Ev (fun k => laws_markBoolS.f k l s) (m, l') ∧ s ≤ m ∧ Ev (fun k => laws_heldBoolS.f k l' s) m := by
  obtain ⟨m, l', a1, a2, _, _, a5⟩ := markBoolG l.length 0 l s rfl hl h0 (by omega)
  exact ⟨m, l', by unfold laws_markBoolS.f; exact a1, a2, by unfold laws_heldBoolS.f; exact a5⟩
theorem markOpG (B : Nat) (hB : B ≤ 3000000) : ∀ (d i : Nat) (l : List S71) (s : Int), d + i = l.length → l.length ≤ 3000000 → (∀ y ∈ l, 4 + y.f3.length ≤ B) → 0 ≤ s → s + d * B ≤ 3950000000000000 → ∃ (m : Int) (l' : List S71), Ev (fun k => laws_markDiskOpS.l0 k l s i) (m, l') ∧ s ≤ m := by
  intro d
  induction d with
  | zero =>
    intro i l s hi hl hy h0 h1
    have hi : i = l.length := by omega
    subst hi
    exact ⟨s, l, EvS (by simp only [laws_markDiskOpS.l0, Int.lt_irrefl, if_false]; exact EvN), by omega⟩
  | succ d ih =>
    intro i l s hi hl hy h0 h1
    have hil : i < l.length := by omega
    have hyi := hy _ (List.getElem_mem hil)
    have hq : ((d + 1 : Nat) : Int) * (B : Int) = (d : Int) * (B : Int) + (B : Int) := by rw [Int.natCast_succ, Int.add_mul, Int.one_mul]
    have hdn : (0 : Int) ≤ (d : Int) * (B : Int) := Int.mul_nonneg (by omega) (by omega)
    rw [hq] at h1
    have hw1 := w64 (x := s + 1) (by omega) (by omega)
    have hw2 := w64 (x := s + 1 + 1) (by omega) (by omega)
    have hw3 := w64 (x := s + 1 + 1 + 1) (by omega) (by omega)
    obtain ⟨t1, e1⟩ := markText (s + 1) (by omega)
    obtain ⟨t2, e2⟩ := markText (s + 1 + 1) (by omega)
    obtain ⟨b, n', a1, a2, a3, a4⟩ := markByteS l[i].f3 (by omega) (s + 1 + 1 + 1) (by omega) (by omega)
    have hw4 := w64 (x := b + 1) (by omega) (by omega)
    obtain ⟨m, l', f1, f2⟩ := ih (i + 1) (l.set i ⟨s, t1, t2, n', b⟩) (b + 1) (by simp; omega) (by simpa using hl) (fun y hmem => by
      rcases List.mem_or_eq_of_mem_set hmem with h | rfl
      · exact hy y h
      simp only [a3]; exact hyi) (by omega) (by omega)
    refine ⟨m, l', EvS ?_, by omega⟩
    simp only [laws_markDiskOpS.l0, if_pos (show (i : Int) < (l.length : Int) by omega), if_pos (show 0 ≤ (i : Int) by omega), hw1, hw2, hw3, EvB e1, EvB e2, rd71 l i hil, EvB a1, hw4, Int.toNat_natCast, nxt i l.length hil (by omega)]
    exact f1
theorem markOps (l : List S71) (s : Int) (hl : l.length ≤ 1048576) (hy : ∀ y ∈ l, y.f3.length ≤ 1048576) (h0 : 0 ≤ s) (h1 : s ≤ 2500000000000000) : ∃ (m : Int) (l' : List S71), Ev (fun k => laws_markDiskOpS.f k l s) (m, l') ∧ s ≤ m := by
  have hm : (l.length : Int) * ((1048580 : Nat) : Int) ≤ 1048576 * 1048580 := Int.mul_le_mul (by omega) (by omega) (by omega) (by omega)
  obtain ⟨m, l', a1, a2⟩ := markOpG 1048580 (by omega) l.length 0 l s rfl (by omega) (fun y h => by have := hy y h; omega) h0 (by omega)
  exact ⟨m, l', by unfold laws_markDiskOpS.f; exact a1, a2⟩
end Go.Proofs.YtmgeffgcihfpcaaDoor.DK

namespace Go.Proofs.YtmgeffgcihfpcaaDoor.F
open Go.RowKit Go.Proofs.YtmgeffgcihfpcaaDoorW.PrintWords Go.Proofs.YtmgeffgcihfpcaaDoorW.PrintWords.Kd Go.Proofs.YtmgeffgcihfpcaaDoorW.PrintMore.Kd Go.Proofs.YtmgeffgcihfpcaaDoorW.PrintLast Go.Proofs.YtmgeffgcihfpcaaDoorW.PrintMore
attribute [local go_sem] max2_int min2_int max_two min_two max_three min_three max_four min_four   -- for this text's walks alone
set_option linter.unusedVariables false
set_option linter.unusedSimpArgs false
end Go.Proofs.YtmgeffgcihfpcaaDoor.F

namespace Go.Proofs.YtmgeffgcihfpcaaDoor.DK
set_option linter.unusedVariables false
set_option linter.unusedSimpArgs false
open Go.RowKit Go.Proofs.YtmgeffgcihfpcaaDoor.F Go.Proofs.YtmgeffgcihfpcaaDoor.PK Go.Proofs.YtmgeffgcihfpcaaDoorW.PrintWords Go.Proofs.YtmgeffgcihfpcaaDoorW.PrintLast Go.Proofs.YtmgeffgcihfpcaaDoorW.PrintMore
theorem rdI (l : List Int) (i : Nat) (h : i < l.length) : rd l (i : Int) = l[i] := getD_nat l _ i h
theorem bytesS (l : List Int) (hl : l.length ≤ 1000000000) : Ev (fun k => spec_l01Bytes.f k l) l := by
  have key := up0 (P := fun i => Ev (fun k => spec_l01Bytes.l0 k l (l.take i.toNat) i) l) l.length
    (EvS (by simp only [spec_l01Bytes.l0, Int.lt_irrefl, if_false, Int.toNat_natCast, List.take_length]; exact EvN))
    (fun i hi ih => EvS (by
      simp only [spec_l01Bytes.l0, if_pos (show (i : Int) < (l.length : Int) by omega), if_pos (show 0 ≤ (i : Int) by omega), Int.toNat_natCast, rdI l i hi, nxt i _ hi (by omega), if_pos (show (l.take i).length < 140737488355328 by rw [List.length_take]; omega)]
      rw [Int.toNat_natCast, List.take_add_one, List.getElem?_eq_getElem hi] at ih
      exact ih))
  unfold spec_l01Bytes.f
  exact key
theorem joinS (l m : List Int) (hl : l.length ≤ 1000000000) (hm : m.length ≤ 1000000000) : Ev (fun k => spec_l01Join.f k l m) (l ++ m) := by
  have key := up0 (P := fun i => Ev (fun k => spec_l01Join.l0 k m (l ++ m.take i.toNat) i) (l ++ m)) m.length
    (EvS (by simp only [spec_l01Join.l0, Int.lt_irrefl, if_false, Int.toNat_natCast, List.take_length]; exact EvN))
    (fun i hi ih => EvS (by
      simp only [spec_l01Join.l0, if_pos (show (i : Int) < (m.length : Int) by omega), if_pos (show 0 ≤ (i : Int) by omega), Int.toNat_natCast, rdI m i hi, nxt i _ hi (by omega), if_pos (show (l ++ m.take i).length < 140737488355328 by rw [List.length_append, List.length_take]; omega)]
      rw [Int.toNat_natCast, List.take_add_one, List.getElem?_eq_getElem hi, ← List.append_assoc] at ih
      exact ih))
  unfold spec_l01Join.f
  simp only [EvB (bytesS l hl)]
  have e : l ++ m.take (0 : Int).toNat = l := by simp
  rw [e] at key
  exact key
def isN (a : ByteArray) : ByteArray → Bool := fun s => s.toList == a.toList
theorem find_ev (l : List S74) (a : ByteArray) (hl : l.length ≤ 1048576) : Ev (fun k => spec_l03Find.f k l a) (idxF (isN a) l 0) := by
  have key := up0 (P := fun i => Ev (fun k => spec_l03Find.l0 k a i l) (idxF (isN a) (l.drop i.toNat) i)) l.length
    (EvS (by
      simp only [spec_l03Find.l0, Int.lt_irrefl, if_false, Int.toNat_natCast, List.drop_length, idxF]
      exact EvN))
    (fun i hi ih => EvS (by
      rw [Int.toNat_natCast] at *
      rw [drop_at l i hi]
      simp only [spec_l03Find.l0, if_pos (show (i : Int) < (l.length : Int) by omega), if_pos (show 0 ≤ (i : Int) by omega), rd74 l i hi, nxt i _ hi (by omega), idxF]
      by_cases h : l[i].f0.toList = a.toList
      · simp only [if_pos h, isN, beq_iff_eq.2 h, if_true]; exact EvN
      simp only [if_neg h, isN, beq_eq_false_iff_ne.2 h, Bool.false_eq_true, if_false]
      exact ih))
  unfold spec_l03Find.f
  exact key
theorem idxF_bd (p : ByteArray → Bool) : ∀ (l : List S74) (i : Int), 0 ≤ i → idxF p l i = -1 ∨ (i ≤ idxF p l i ∧ idxF p l i < i + l.length) := by
  intro l
  induction l with
  | nil => intro i _; exact .inl rfl
  | cons x t ih =>
    intro i hi
    unfold idxF
    by_cases h : p x.f0 = true
    · rw [if_pos h]; right; simp only [List.length_cons]; omega
    rw [if_neg h]
    rcases ih (i + 1) (by omega) with h1 | h1
    · exact .inl h1
    right; simp only [List.length_cons]; omega
def contentM (l : List S74) (a : ByteArray) : List Int × Bool := if diskM l = true then (if idxF (isN a) l 0 < 0 then ([], false) else ((rd_T74 l (idxF (isN a) l 0)).f1 ++ (rd_T74 l (idxF (isN a) l 0)).f2, true)) else ([], false)
theorem at_bd (l : List S74) (hw : wfD l) (i : Int) (h0 : 0 ≤ i) (h1 : i < l.length) : (rd_T74 l i).f1.length ≤ 1048576 ∧ (rd_T74 l i).f2.length ≤ 1048576 := by
  obtain ⟨n, rfl⟩ := Int.eq_ofNat_of_zero_le h0
  have hn : n < l.length := by omega
  rw [rd74 l n hn]
  exact (hw _ (List.getElem_mem hn)).2
theorem content_le (l : List S74) (a : ByteArray) (hw : wfD l) : (contentM l a).1.length ≤ 2097152 := by
  unfold contentM
  by_cases h : diskM l = true
  · rw [if_pos h]
    by_cases h2 : idxF (isN a) l 0 < 0
    · rw [if_pos h2]; simp
    rw [if_neg h2]
    have := idxF_bd (isN a) l 0 (by omega)
    have := at_bd l hw (idxF (isN a) l 0) (by omega) (by omega)
    rw [List.length_append]
    omega
  rw [if_neg h]; simp
theorem spec_content (l : List S74) (a : ByteArray) (hl : l.length ≤ 1048576) (hw : wfD l) : Ev (fun k => spec_Content.f k l a) (contentM l a) := by
  unfold spec_Content.f contentM
  simp only [EvB (find_ev l a hl), EvB (spec_disk l hl hw)]
  have hb := idxF_bd (isN a) l 0 (by omega)
  generalize idxF (isN a) l 0 = i at hb ⊢
  by_cases h : diskM l = true
  · by_cases h2 : i < 0
    · simp only [if_pos h, if_pos h2]; exact EvN
    have hr := at_bd l hw i (by omega) (by omega)
    simp only [if_pos h, if_neg h2, if_pos (show 0 ≤ i by omega), if_pos (show i < (l.length : Int) by omega), EvB (joinS (rd_T74 l i).f1 (rd_T74 l i).f2 (by omega) (by omega))]
    exact EvN
  simp only [if_neg h]; exact EvN
theorem lt47 (n m : Nat) (h : n ≤ 1000000000) (h' : m ≤ 1000000000) : n + m < 140737488355328 := by omega
theorem lt_irr : ∀ a : List UInt8, Op.bytesLess a a = false
  | [] => rfl
  | x :: r => by simp [Op.bytesLess, lt_irr r]
theorem lt_trans : ∀ a b c : List UInt8, Op.bytesLess a b = true → Op.bytesLess b c = true → Op.bytesLess a c = true
  | a, b, [], _, h => by cases b <;> simp [Op.bytesLess] at h
  | [], b, z :: c, _, _ => rfl
  | x :: a, [], z :: c, h, _ => by simp [Op.bytesLess] at h
  | x :: a, y :: b, z :: c, h, h' => by
    simp only [Op.bytesLess, Bool.or_eq_true, decide_eq_true_eq, Bool.and_eq_true, beq_iff_eq, UInt8.lt_iff_toNat_lt] at h h' ⊢
    rcases h with h | ⟨rfl, h⟩
    · rcases h' with h' | ⟨rfl, h'⟩
      · exact .inl (by omega)
      exact .inl h
    rcases h' with h' | ⟨rfl, h'⟩
    · exact .inl h'
    exact .inr ⟨rfl, lt_trans a b c h h'⟩
theorem lt_ne {a b : List UInt8} (h : Op.bytesLess a b = true) : a ≠ b := by
  rintro rfl
  rw [lt_irr] at h
  cases h
theorem lt_total : ∀ a b : List UInt8, Op.bytesLess a b = false → Op.bytesLess b a = false → a = b
  | [], [], _, _ => rfl
  | [], y :: b, h, _ => by simp [Op.bytesLess] at h
  | x :: a, [], _, h => by simp [Op.bytesLess] at h
  | x :: a, y :: b, h, h' => by
    simp only [Op.bytesLess, Bool.or_eq_false_iff, decide_eq_false_iff_not, Bool.and_eq_false_iff, beq_eq_false_iff_ne, UInt8.lt_iff_toNat_lt] at h h'
    have e : x = y := UInt8.toNat_inj.1 (by omega)
    subst e
    rw [lt_total a b (h.2.resolve_left (fun h => h rfl)) (h'.2.resolve_left (fun h => h rfl))]
def nm (x : S74) : List UInt8 := x.f0.toList
def srt (l : List S74) : Prop := ∀ i j : Nat, i < j → ∀ x y, l[i]? = some x → l[j]? = some y → Op.bytesLess (nm x) (nm y) = true
theorem goD_at (l : List S74) : ∀ d i : Nat, goD l d i = true → ∀ j, i ≤ j → j < i + d → okAt l j = true := by
  intro d
  induction d with
  | zero => intro i _ j _ _; omega
  | succ d ih =>
    intro i h j h1 h2
    unfold goD at h
    rw [Bool.and_eq_true] at h
    by_cases e : j = i
    · subst e; exact h.1
    exact ih (i + 1) h.2 j (by omega) (by omega)
theorem goD_of (l : List S74) : ∀ d i : Nat, (∀ j, i ≤ j → j < i + d → okAt l j = true) → goD l d i = true := by
  intro d
  induction d with
  | zero => intro i _; rfl
  | succ d ih =>
    intro i h
    unfold goD
    rw [Bool.and_eq_true]
    exact ⟨h i (by omega) (by omega), ih (i + 1) (fun j h1 h2 => h j (by omega) (by omega))⟩
theorem disk_srt {l : List S74} (h : diskM l = true) : srt l := by
  unfold diskM at h
  rw [Bool.and_eq_true] at h
  have hk := goD_at l _ _ h.2
  have step : ∀ j, j + 1 < l.length → Op.bytesLess (nm (l.getD j z74)) (nm (l.getD (j + 1) z74)) = true := by
    intro j hj
    have := hk (j + 1) (by omega) (by omega)
    unfold okAt at this
    rw [Bool.and_eq_true, Bool.and_eq_true, Bool.or_eq_true] at this
    have h3 := this.2.2.resolve_left (by simp)
    simpa [rd_T74, nm] using h3
  have key : ∀ j i : Nat, i < j → j < l.length → Op.bytesLess (nm (l.getD i z74)) (nm (l.getD j z74)) = true := by
    intro j
    induction j with
    | zero => intro i h1; omega
    | succ j ih =>
      intro i h1 h2
      by_cases e : i = j
      · subst e; exact step i h2
      exact lt_trans _ _ _ (ih i (by omega) (by omega)) (step j h2)
  intro i j hij x y hx hy
  have h1 := (List.getElem?_eq_some_iff.1 hy).1
  have := key j i hij h1
  rw [List.getD_eq_getElem?_getD, List.getD_eq_getElem?_getD, hx, hy] at this
  exact this
theorem idxF_at (p : ByteArray → Bool) : ∀ (l : List S74) (s : Int), (idxF p l s = -1 ∧ ∀ x ∈ l, p x.f0 = false) ∨ (∃ m : Nat, ∃ x, idxF p l s = s + m ∧ l[m]? = some x ∧ p x.f0 = true ∧ ∀ (j : Nat) (y : S74), j < m → l[j]? = some y → p y.f0 = false) := by
  intro l
  induction l with
  | nil => intro s; exact .inl ⟨rfl, fun x hx => by cases hx⟩
  | cons x t ih =>
    intro s
    unfold idxF
    by_cases h : p x.f0 = true
    · rw [if_pos h]
      exact .inr ⟨0, x, by simp, rfl, h, fun j y hj => by omega⟩
    rw [if_neg h]
    rcases ih (s + 1) with ⟨h1, h2⟩ | ⟨m, y, h1, h2, h3, h4⟩
    · refine .inl ⟨h1, fun y hy => ?_⟩
      rcases List.mem_cons.1 hy with rfl | hy
      · exact Bool.eq_false_iff.2 h
      exact h2 y hy
    refine .inr ⟨m + 1, y, by rw [h1]; omega, by rw [List.getElem?_cons_succ]; exact h2, h3, fun j z hj hz => ?_⟩
    cases j with
    | zero => simp only [List.getElem?_cons_zero, Option.some.injEq] at hz; subst hz; exact Bool.eq_false_iff.2 h
    | succ j => rw [List.getElem?_cons_succ] at hz; exact h4 j z (by omega) hz
def notN (a : ByteArray) : S74 → Bool := fun x => !isN a x.f0
theorem filter_all {α : Type} {p : α → Bool} {l : List α} (h : ∀ x ∈ l, p x = true) : l.filter p = l := List.filter_eq_self.2 h
theorem split_at {α : Type} (l : List α) (m : Nat) (x : α) (h : l[m]? = some x) : l = l.take m ++ x :: l.drop (m + 1) := by
  obtain ⟨h1, h2⟩ := List.getElem?_eq_some_iff.1 h
  conv => lhs; rw [← List.take_append_drop m l, List.drop_eq_getElem_cons h1, h2]
theorem without_at {l : List S74} (hs : srt l) (a : ByteArray) (m : Nat) (x : S74) (hx : l[m]? = some x) (hp : isN a x.f0 = true) : l.filter (notN a) = l.eraseIdx m := by
  have hn : nm x = a.toList := by simpa [isN, nm] using hp
  have hb : ∀ y ∈ l.take m, notN a y = true := by
    intro y hy
    obtain ⟨j, hj⟩ := List.mem_iff_getElem?.1 hy
    rw [List.getElem?_take] at hj
    split at hj
    · have := lt_ne (hs j m (by omega) y x hj hx)
      simp only [notN, isN, Bool.not_eq_true', beq_eq_false_iff_ne]
      rw [← hn]; exact this
    cases hj
  have ha : ∀ y ∈ l.drop (m + 1), notN a y = true := by
    intro y hy
    obtain ⟨j, hj⟩ := List.mem_iff_getElem?.1 hy
    rw [List.getElem?_drop] at hj
    have := lt_ne (hs m (m + 1 + j) (by omega) x y hx hj)
    simp only [notN, isN, Bool.not_eq_true', beq_eq_false_iff_ne]
    rw [← hn]; exact fun e => this e.symm
  conv => lhs; rw [split_at l m x hx]
  rw [List.filter_append, filter_all hb, List.filter_cons, if_neg (by simp [notN, hp]), filter_all ha, List.eraseIdx_eq_take_drop_succ]
theorem copyS (l : List S74) (hl : l.length ≤ 100000000) (hw : ∀ y ∈ l, y.f1.length ≤ 100000000 ∧ y.f2.length ≤ 100000000) : Ev (fun k => spec_l03Copy.f k l) l := by
  have key := up0 (P := fun i => Ev (fun k => spec_l03Copy.l0 k i l (l.take i.toNat)) l) l.length
    (EvS (by simp only [spec_l03Copy.l0, Int.lt_irrefl, if_false, Int.toNat_natCast, List.take_length]; exact EvN))
    (fun i hi ih => EvS (by
      have hy := hw _ (List.getElem_mem hi)
      simp only [spec_l03Copy.l0, if_pos (show (i : Int) < (l.length : Int) by omega), if_pos (show 0 ≤ (i : Int) by omega), Int.toNat_natCast, rd74 l i hi, EvB (bytesS _ (show l[i].f1.length ≤ 1000000000 by omega)), EvB (bytesS _ (show l[i].f2.length ≤ 1000000000 by omega)), nxt i _ hi (by omega), if_pos (show (l.take i).length < 2199023255552 by rw [List.length_take]; omega)]
      rw [Int.toNat_natCast, List.take_add_one, List.getElem?_eq_getElem hi] at ih
      exact ih))
  unfold spec_l03Copy.f
  exact key
theorem copyI (l : List S74) (hl : l.length ≤ 100000000) (hw : ∀ y ∈ l, y.f1.length ≤ 100000000 ∧ y.f2.length ≤ 100000000) : Ev (fun k => impl_copyDisk.f k l) l := by
  have key := up0 (P := fun i => Ev (fun k => impl_copyDisk.l0 k l (l.length : Int) i (l.take i.toNat)) l) l.length
    (EvS (by simp only [impl_copyDisk.l0, Int.lt_irrefl, if_false, Int.toNat_natCast, List.take_length]; exact EvN))
    (fun i hi ih => EvS (by
      have hy := hw _ (List.getElem_mem hi)
      simp only [impl_copyDisk.l0, if_pos (show (i : Int) < (l.length : Int) by omega), if_pos (show 0 ≤ (i : Int) by omega), Int.toNat_natCast, rd74 l i hi, Option.bind_some, if_pos (show ([] : List Int).length + l[i].f1.length < 140737488355328 by rw [List.length_nil]; omega), if_pos (show ([] : List Int).length + l[i].f2.length < 140737488355328 by rw [List.length_nil]; omega), List.nil_append, nxt i _ hi (by omega), if_pos (show (l.take i).length < 2199023255552 by rw [List.length_take]; omega)]
      rw [Int.toNat_natCast, List.take_add_one, List.getElem?_eq_getElem hi] at ih
      exact ih))
  unfold impl_copyDisk.f
  exact key
theorem withoutS (l : List S74) (a : ByteArray) (hl : l.length ≤ 100000000) (hw : ∀ y ∈ l, y.f1.length ≤ 100000000 ∧ y.f2.length ≤ 100000000) : Ev (fun k => spec_l03Without.f k l a) (l.filter (notN a)) := by
  have key := up0 (P := fun i => Ev (fun k => spec_l03Without.l0 k a i l ((l.take i.toNat).filter (notN a))) (l.filter (notN a))) l.length
    (EvS (by
      have hlf : (l.filter (notN a)).length ≤ 100000000 := Nat.le_trans (List.length_filter_le _ _) hl
      simp only [spec_l03Without.l0, Int.lt_irrefl, if_false, Int.toNat_natCast, List.take_length, EvB (copyS _ hlf (fun y hy => hw y (List.mem_filter.1 hy).1))]
      exact EvN))
    (fun i hi ih => EvS (by
      have hlf : ((l.take i).filter (notN a)).length ≤ i := Nat.le_trans (List.length_filter_le _ _) (by rw [List.length_take]; omega)
      rw [Int.toNat_natCast, List.take_add_one, List.getElem?_eq_getElem hi, Option.toList_some, List.filter_append, List.filter_cons, List.filter_nil] at ih
      simp only [spec_l03Without.l0, if_pos (show (i : Int) < (l.length : Int) by omega), if_pos (show 0 ≤ (i : Int) by omega), Int.toNat_natCast, rd74 l i hi, nxt i _ hi (by omega)]
      by_cases c : l[i].f0.toList = a.toList
      · rw [if_neg (by simp [notN, isN, c]), List.append_nil] at ih
        simp only [if_pos c]
        exact ih
      rw [if_pos (by simp [notN, isN, c])] at ih
      simp only [if_neg c, if_pos (show ((l.take i).filter (notN a)).length < 2199023255552 by omega)]
      exact ih))
  unfold spec_l03Without.f
  exact key
def lessN (a : ByteArray) : S74 → Bool := fun x => Op.bytesLess (nm x) a.toList
def putGo (f : S74) : Bool → List S74 → List S74 → List S74
  | b, [], out => if b = true then out else out ++ [f]
  | true, x :: r, out => if nm x = nm f then putGo f true r out else putGo f true r (out ++ [x])
  | false, x :: r, out => if lessN f.f0 x = true then (if nm x = nm f then putGo f false r out else putGo f false r (out ++ [x])) else (if nm x = nm f then putGo f true r (out ++ [f]) else putGo f true r (out ++ [f] ++ [x]))
theorem putGo_true (f : S74) : ∀ (l out : List S74), putGo f true l out = out ++ l.filter (notN f.f0)
  | [], out => by simp [putGo]
  | x :: r, out => by
    unfold putGo
    by_cases c : nm x = nm f
    · rw [if_pos c, putGo_true f r out, List.filter_cons, if_neg (by simp [notN, isN]; exact c)]
    rw [if_neg c, putGo_true f r _, List.filter_cons, if_pos (by simp [notN, isN]; exact c), List.append_assoc]; rfl
theorem putGo_false (f : S74) : ∀ (l out : List S74), putGo f false l out = out ++ l.takeWhile (lessN f.f0) ++ f :: (l.dropWhile (lessN f.f0)).filter (notN f.f0)
  | [], out => by simp [putGo]
  | x :: r, out => by
    unfold putGo
    by_cases h : lessN f.f0 x = true
    · have c : ¬ nm x = nm f := lt_ne h
      rw [if_pos h, if_neg c, putGo_false f r _, List.takeWhile_cons_of_pos h, List.dropWhile_cons_of_pos h]
      simp
    rw [if_neg h, List.takeWhile_cons_of_neg h, List.dropWhile_cons_of_neg h]
    by_cases c : nm x = nm f
    · rw [if_pos c, putGo_true, List.filter_cons, if_neg (by simp [notN, isN]; exact c)]
      simp
    rw [if_neg c, putGo_true, List.filter_cons, if_pos (by simp [notN, isN]; exact c)]
    simp
def putM (l : List S74) (f : S74) : List S74 := l.takeWhile (lessN f.f0) ++ f :: (l.dropWhile (lessN f.f0)).filter (notN f.f0)
theorem put_len (f : S74) : ∀ (b : Bool) (l out : List S74), (putGo f b l out).length ≤ out.length + l.length + 1 := by
  intro b l out
  cases b with
  | true => rw [putGo_true, List.length_append]; have := List.length_filter_le (notN f.f0) l; omega
  | false =>
    rw [putGo_false]
    have h1 := List.length_filter_le (notN f.f0) (l.dropWhile (lessN f.f0))
    have h2 : (l.takeWhile (lessN f.f0)).length + (l.dropWhile (lessN f.f0)).length = l.length := by rw [← List.length_append, List.takeWhile_append_dropWhile]
    simp only [List.length_append, List.length_cons]
    omega
theorem put_mem (f : S74) (l : List S74) : ∀ y ∈ putM l f, y = f ∨ y ∈ l := by
  intro y hy
  rcases List.mem_append.1 hy with h | h
  · exact .inr ((List.takeWhile_sublist _).subset h)
  rcases List.mem_cons.1 h with h | h
  · exact .inl h
  exact .inr ((List.dropWhile_sublist _).subset (List.mem_filter.1 h).1)
def removeM (l : List S74) (a : ByteArray) : List S74 × Bool := if diskM l = true then (if idxF (isN a) l 0 < 0 then (l, false) else (l.eraseIdx (idxF (isN a) l 0).toNat, true)) else (l, false)
theorem wfD_le {l : List S74} (hw : wfD l) : ∀ y ∈ l, y.f1.length ≤ 100000000 ∧ y.f2.length ≤ 100000000 := fun y hy => by have := hw y hy; omega
theorem idx_in (l : List S74) (a : ByteArray) (h : ¬ idxF (isN a) l 0 < 0) : ∃ (m : Nat) (x : S74), idxF (isN a) l 0 = m ∧ l[m]? = some x ∧ isN a x.f0 = true ∧ m < l.length := by
  rcases idxF_at (isN a) l 0 with ⟨h1, _⟩ | ⟨m, x, h1, h2, h3, _⟩
  · omega
  exact ⟨m, x, by omega, h2, h3, (List.getElem?_eq_some_iff.1 h2).1⟩
theorem spec_remove (l : List S74) (a : ByteArray) (hl : l.length ≤ 1048576) (hw : wfD l) : Ev (fun k => spec_RemoveFile.f k l a) (removeM l a) := by
  have hc := copyS l (by omega) (wfD_le hw)
  unfold spec_RemoveFile.f removeM
  simp only [EvB (spec_disk l hl hw)]
  by_cases h : diskM l = true
  · simp only [if_pos h, EvB (find_ev l a hl)]
    refine EvS ?_
    by_cases h2 : idxF (isN a) l 0 < 0
    · simp only [spec_RemoveFile.j0, decide_eq_true h2, if_true, EvB (EvP hc), if_pos h2]
      exact (EvB hc).2 EvN
    obtain ⟨m, x, e, hx, hp, hm⟩ := idx_in l a h2
    have hW := withoutS l a (by omega) (wfD_le hw)
    rw [without_at (disk_srt h) a m x hx hp] at hW
    simp only [spec_RemoveFile.j0, decide_eq_false h2, Bool.false_eq_true, if_false, if_neg h2]
    rw [e, Int.toNat_natCast]
    exact (EvB hW).2 EvN
  simp only [if_neg h]
  refine EvS ?_
  simp only [spec_RemoveFile.j0, if_true]
  exact (EvB hc).2 EvN
theorem impl_remove (l : List S74) (a : ByteArray) (hl : l.length ≤ 1048576) (hw : wfD l) : Ev (fun k => impl_removeFile.f k l a) (removeM l a) := by
  have hc := copyI l (by omega) (wfD_le hw)
  have hf : impl_fileOf.f l a = some (idxF (isN a) l 0) := by unfold impl_fileOf.f; rw [if_pos (by omega)]; rfl
  unfold impl_removeFile.f removeM
  simp only [EvB hc, hf, Option.bind_some, EvB (impl_disk l hl hw)]
  by_cases h : diskM l = true
  · simp only [if_pos h]
    by_cases h2 : idxF (isN a) l 0 < 0
    · simp only [if_pos h2]; exact EvN
    obtain ⟨m, x, e, hx, hp, hm⟩ := idx_in l a h2
    simp only [if_neg h2, if_pos (show idxF (isN a) l 0 < (l.length : Int) by omega)]
    exact EvN
  simp only [if_neg h]; exact EvN
theorem putS (l : List S74) (f : S74) (hl : l.length ≤ 10000000) (hw : ∀ y ∈ l, y.f1.length ≤ 100000000 ∧ y.f2.length ≤ 100000000) (hf : f.f1.length ≤ 100000000 ∧ f.f2.length ≤ 100000000) : Ev (fun k => spec_l03Put.f k l f.f0 f.f1 f.f2) (putM l f) := by
  have hsz : (putM l f).length ≤ 100000000 := by
    have := put_len f false l []
    rw [putGo_false, List.length_nil] at this
    simp only [List.nil_append] at this
    show (l.takeWhile (lessN f.f0) ++ f :: (l.dropWhile (lessN f.f0)).filter (notN f.f0)).length ≤ _
    omega
  have fin : Ev (fun k => spec_l03Copy.f k (putM l f)) (putM l f) := copyS _ hsz (fun y hy => by
    rcases put_mem f l y hy with rfl | h
    · exact hf
    exact hw y h)
  have key : ∀ d i : Nat, d + i = l.length → ∀ (b : Bool) (out : List S74), out.length ≤ 2 * i → putGo f b (l.drop i) out = putM l f → Ev (fun k => spec_l03Put.l0 k b i l f.f0 f.f1 f.f2 out) (putM l f) := by
    intro d
    induction d with
    | zero =>
      intro i hi b out h1 h3
      have hi : i = l.length := by omega
      subst hi
      rw [List.drop_length] at h3
      refine EvS ?_
      simp only [spec_l03Put.l0, Int.lt_irrefl, if_false]
      cases b with
      | true =>
        simp only [putGo, if_true] at h3
        subst h3
        simp only [if_true]
        exact (EvB fin).2 EvN
      | false =>
        simp only [putGo, Bool.false_eq_true, if_false] at h3
        simp only [Bool.false_eq_true, if_false, if_pos (show out.length < 2199023255552 by omega)]
        rw [h3]
        exact (EvB fin).2 EvN
    | succ d ih =>
      intro i hi b out h1 h3
      have hil : i < l.length := by omega
      rw [drop_at l i hil] at h3
      have ih' := fun b out h1 h3 => ih (i + 1) (by omega) b out h1 h3
      refine EvS ?_
      have hi1 : (i : Int) < (l.length : Int) := by omega
      have hi0 : 0 ≤ (i : Int) := by omega
      have hnx := nxt i _ hil (by omega)
      simp only [spec_l03Put.l0, if_pos hi1, if_pos hi0, rd74 l i hil]
      cases b with
      | true =>
        simp only [if_true]
        refine EvS ?_
        simp only [spec_l03Put.j1, Bool.false_eq_true, if_false, if_pos hi1, if_pos hi0, rd74 l i hil, hnx]
        simp only [putGo] at h3
        by_cases c : l[i].f0.toList = f.f0.toList
        · rw [if_pos (show nm l[i] = nm f from c)] at h3
          simp only [if_pos c]
          exact ih' _ _ (by omega) h3
        rw [if_neg (show ¬ nm l[i] = nm f from c)] at h3
        simp only [if_neg c, if_pos (show out.length < 2199023255552 by omega)]
        exact ih' _ _ (by simp; omega) h3
      | false =>
        simp only [Bool.false_eq_true, if_false]
        refine EvS ?_
        simp only [putGo] at h3
        by_cases g : lessN f.f0 l[i] = true
        · have g' : Op.bytesLess l[i].f0.toList f.f0.toList = true := g
          rw [if_pos g] at h3
          simp only [g', Bool.not_true, spec_l03Put.j1, Bool.false_eq_true, if_false, if_pos hi1, if_pos hi0, rd74 l i hil, hnx]
          by_cases c : l[i].f0.toList = f.f0.toList
          · rw [if_pos (show nm l[i] = nm f from c)] at h3
            simp only [if_pos c]
            exact ih' _ _ (by omega) h3
          rw [if_neg (show ¬ nm l[i] = nm f from c)] at h3
          simp only [if_neg c, if_pos (show out.length < 2199023255552 by omega)]
          exact ih' _ _ (by simp; omega) h3
        have g' : Op.bytesLess l[i].f0.toList f.f0.toList = false := Bool.eq_false_iff.2 g
        rw [if_neg g] at h3
        simp only [g', Bool.not_false, spec_l03Put.j1, if_true, if_pos hi1, if_pos hi0, rd74 l i hil, hnx, if_pos (show out.length < 2199023255552 by omega), Option.bind_some]
        by_cases c : l[i].f0.toList = f.f0.toList
        · rw [if_pos (show nm l[i] = nm f from c)] at h3
          simp only [if_pos c]
          exact ih' _ _ (by simp; omega) h3
        rw [if_neg (show ¬ nm l[i] = nm f from c)] at h3
        have hlen : (out ++ [(⟨f.f0, f.f1, f.f2⟩ : S74)]).length < 2199023255552 := by simp; omega
        simp only [if_neg c, if_pos hlen]
        exact ih' _ _ (by simp; omega) h3
  have := key l.length 0 rfl false [] (by simp) (by rw [List.drop_zero, putGo_false]; rfl)
  unfold spec_l03Put.f
  exact this
theorem wfD_le' {l : List S74} (hw : wfD l) : ∀ y ∈ l, y.f1.length ≤ 100000000 ∧ y.f2.length ≤ 100000000 := fun y hy => by have := hw y hy; omega
theorem content_ok {l : List S74} {a : ByteArray} (h : (contentM l a).2 = true) : diskM l = true ∧ ¬ idxF (isN a) l 0 < 0 ∧ (contentM l a).1 = (rd_T74 l (idxF (isN a) l 0)).f1 ++ (rd_T74 l (idxF (isN a) l 0)).f2 := by
  unfold contentM at h ⊢
  by_cases h1 : diskM l = true
  · rw [if_pos h1] at h ⊢
    by_cases h2 : idxF (isN a) l 0 < 0
    · rw [if_pos h2] at h; cases h
    rw [if_neg h2]; exact ⟨h1, h2, rfl⟩
  rw [if_neg h1] at h; cases h
theorem content_no {l : List S74} {a : ByteArray} (h : ¬ (contentM l a).2 = true) : diskM l = true → idxF (isN a) l 0 < 0 := by
  intro h1
  refine Decidable.byContradiction fun h2 => h ?_
  unfold contentM
  rw [if_pos h1, if_neg h2]
theorem idx_at (l : List S74) (a : ByteArray) (h : ¬ idxF (isN a) l 0 < 0) : ∃ (m : Nat) (x : S74), idxF (isN a) l 0 = m ∧ l[m]? = some x ∧ nm x = a.toList ∧ m < l.length := by
  rcases idxF_at (isN a) l 0 with ⟨h1, _⟩ | ⟨m, x, h1, h2, h3, _⟩
  · omega
  exact ⟨m, x, by omega, h2, by simpa [isN, nm] using h3, (List.getElem?_eq_some_iff.1 h2).1⟩
theorem put_at {l : List S74} (hs : srt l) (f : S74) (m : Nat) (x : S74) (hx : l[m]? = some x) (hn : nm x = f.f0.toList) : putM l f = l.set m f := by
  have hb : ∀ y ∈ l.take m, lessN f.f0 y = true := by
    intro y hy
    obtain ⟨j, hj⟩ := List.mem_iff_getElem?.1 hy
    rw [List.getElem?_take] at hj
    split at hj
    · have := hs j m (by omega) y x hj hx
      rw [hn] at this
      exact this
    cases hj
  have ha : ∀ y ∈ l.drop (m + 1), notN f.f0 y = true := by
    intro y hy
    obtain ⟨j, hj⟩ := List.mem_iff_getElem?.1 hy
    rw [List.getElem?_drop] at hj
    have := lt_ne (hs m (m + 1 + j) (by omega) x y hx hj)
    simp only [notN, isN, Bool.not_eq_true', beq_eq_false_iff_ne]
    rw [← hn]; exact fun e => this e.symm
  have hx0 : lessN f.f0 x = false := by unfold lessN; rw [hn, lt_irr]
  have hx1 : notN f.f0 x = false := by unfold notN isN; rw [Bool.not_eq_false', beq_iff_eq]; exact hn
  have hm := (List.getElem?_eq_some_iff.1 hx).1
  unfold putM
  have e1 : l.takeWhile (lessN f.f0) = l.take m := by
    conv => lhs; rw [split_at l m x hx]
    rw [List.takeWhile_append_of_pos hb, List.takeWhile_cons_of_neg (by rw [hx0]; decide), List.append_nil]
  have e2 : l.dropWhile (lessN f.f0) = x :: l.drop (m + 1) := by
    conv => lhs; rw [split_at l m x hx]
    rw [List.dropWhile_append_of_pos hb, List.dropWhile_cons_of_neg (by rw [hx0]; decide)]
  rw [e1, e2, List.filter_cons, if_neg (by rw [hx1]; decide), filter_all ha, List.set_eq_take_append_cons_drop, if_pos hm]
theorem mem_set {l : List S74} {m : Nat} {f y : S74} (h : y ∈ l.set m f) : y = f ∨ y ∈ l := (List.mem_or_eq_of_mem_set h).symm
theorem content_at (l : List S74) (hw : wfD l) (i : Int) (h0 : 0 ≤ i) (h1 : i < l.length) : impl_File_content.f (rd_T74 l i).f0 (rd_T74 l i).f1 (rd_T74 l i).f2 = some ((rd_T74 l i).f1 ++ (rd_T74 l i).f2) := by
  have hr := at_bd l hw i h0 h1
  unfold impl_File_content.f
  rw [Option.bind_some, if_pos (lt47 _ _ (by simp) (by omega)), Option.bind_some, if_pos (lt47 _ _ (by simp; omega) (by omega)), List.nil_append]
abbrev ltF (x y : S74) : Prop := Op.bytesLess (nm x) (nm y) = true
theorem srt_pw {l : List S74} : srt l ↔ l.Pairwise ltF := by
  rw [List.pairwise_iff_getElem]
  constructor
  · intro h i j hi hj hij
    exact h i j hij _ _ (List.getElem?_eq_getElem hi) (List.getElem?_eq_getElem hj)
  intro h i j hij x y hx hy
  obtain ⟨hi, rfl⟩ := List.getElem?_eq_some_iff.1 hx
  obtain ⟨hj, rfl⟩ := List.getElem?_eq_some_iff.1 hy
  exact h i j hi hj hij
theorem ins_take (x : S74) : ∀ l : List S74, l.take (wIdx x.f0 l) = l.takeWhile (lessN x.f0) ∧ l.drop (wIdx x.f0 l) = l.dropWhile (lessN x.f0)
  | [] => ⟨rfl, rfl⟩
  | y :: r => by
    obtain ⟨h1, h2⟩ := ins_take x r
    unfold wIdx
    cases h : Op.bytesLess y.f0.toList x.f0.toList with
    | true =>
      have hl : lessN x.f0 y = true := h
      simp only [if_true, List.take_succ_cons, List.drop_succ_cons, List.takeWhile_cons, List.dropWhile_cons, hl, h1, h2, and_self]
    | false =>
      have hl : lessN x.f0 y = false := h
      simp only [Bool.false_eq_true, if_false, List.take_zero, List.drop_zero, List.takeWhile_cons, List.dropWhile_cons, hl, and_self]
theorem ins_eq (l : List S74) (x : S74) : insM l x = l.takeWhile (lessN x.f0) ++ x :: l.dropWhile (lessN x.f0) := by
  unfold insM
  rw [(ins_take x l).1, (ins_take x l).2]
theorem less_not {a : ByteArray} {y : S74} (h : lessN a y = true) : notN a y = true := by
  have := lt_ne (a := nm y) (b := a.toList) h
  unfold notN isN
  simpa [nm] using this
theorem dw_less {a : ByteArray} : ∀ {l : List S74}, l.Pairwise ltF → ∀ y ∈ l.dropWhile (lessN a), lessN a y = false
  | [], _, y, hy => by simp at hy
  | x :: r, h, y, hy => by
    rw [List.dropWhile_cons] at hy
    cases hx : lessN a x with
    | true => rw [hx, if_pos rfl] at hy; exact dw_less (List.pairwise_cons.1 h).2 y hy
    | false =>
      rw [hx, if_neg (by decide)] at hy
      rcases List.mem_cons.1 hy with rfl | hy
      · exact hx
      cases hq : lessN a y with
      | false => rfl
      | true =>
        have h1 : lessN a x = true := lt_trans _ _ _ ((List.pairwise_cons.1 h).1 y hy) hq
        rw [hx] at h1
        cases h1
theorem tw_app {p : S74 → Bool} : ∀ (t d : List S74), (∀ y ∈ t, p y = true) → (∀ y ∈ d, p y = false) → (t ++ d).takeWhile p = t ∧ (t ++ d).dropWhile p = d
  | [], d, _, hd => by
    cases d with
    | nil => exact ⟨rfl, rfl⟩
    | cons y r =>
      have := hd y List.mem_cons_self
      simp [List.takeWhile_cons, List.dropWhile_cons, this]
  | x :: t, d, ht, hd => by
    obtain ⟨h1, h2⟩ := tw_app t d (fun y hy => ht y (List.mem_cons_of_mem _ hy)) hd
    have := ht x List.mem_cons_self
    simp [List.takeWhile_cons, List.dropWhile_cons, this, h1, h2]
theorem tw_all {p : S74 → Bool} : ∀ (l : List S74), ∀ y ∈ l.takeWhile p, p y = true
  | [], y, hy => by simp at hy
  | x :: r, y, hy => by
    rw [List.takeWhile_cons] at hy
    cases hx : p x with
    | true =>
      rw [hx, if_pos rfl] at hy
      rcases List.mem_cons.1 hy with rfl | hy
      · exact hx
      exact tw_all r y hy
    | false => rw [hx, if_neg (by decide)] at hy; simp at hy
theorem fil_split {a : ByteArray} {l : List S74} (h : l.Pairwise ltF) : (l.filter (notN a)).takeWhile (lessN a) = l.takeWhile (lessN a) ∧ (l.filter (notN a)).dropWhile (lessN a) = (l.dropWhile (lessN a)).filter (notN a) := by
  have e : l.filter (notN a) = l.takeWhile (lessN a) ++ (l.dropWhile (lessN a)).filter (notN a) := by
    conv => lhs; rw [← List.takeWhile_append_dropWhile (p := lessN a) (l := l)]
    rw [List.filter_append, filter_all (fun y hy => less_not (tw_all l y hy))]
  rw [e]
  exact tw_app _ _ (fun y hy => tw_all l y hy) (fun y hy => dw_less h y (List.mem_filter.1 hy).1)
theorem ins_put {l : List S74} (h : l.Pairwise ltF) (f : S74) : insM (l.filter (notN f.f0)) f = putM l f := by
  rw [ins_eq, (fil_split h).1, (fil_split h).2]
  rfl
theorem put_fil {l : List S74} (h : l.Pairwise ltF) (f : S74) : putM (l.filter (notN f.f0)) f = putM l f := by
  unfold putM
  rw [(fil_split h).1, (fil_split h).2, List.filter_filter]
  simp only [Bool.and_self]
theorem disk_each {l : List S74} (h : diskM l = true) : l.length ≤ 8 ∧ ∀ y ∈ l, nameM y.f0 = true ∧ y.f1.length + y.f2.length ≤ 20000 := by
  unfold diskM at h
  rw [Bool.and_eq_true, decide_eq_true_iff] at h
  refine ⟨h.1, fun y hy => ?_⟩
  obtain ⟨j, hj, rfl⟩ := List.mem_iff_getElem.1 hy
  have hk := goD_at l _ _ h.2 j (by omega) (by omega)
  unfold okAt at hk
  rw [Bool.and_eq_true, Bool.and_eq_true, decide_eq_true_iff, rd74 l j hj] at hk
  exact ⟨hk.1, hk.2.1⟩
theorem disk_of {l : List S74} (h1 : l.length ≤ 8) (h2 : ∀ y ∈ l, nameM y.f0 = true ∧ y.f1.length + y.f2.length ≤ 20000) (h3 : l.Pairwise ltF) : diskM l = true := by
  unfold diskM
  rw [Bool.and_eq_true, decide_eq_true_iff]
  refine ⟨h1, goD_of l _ _ fun j _ hj => ?_⟩
  have hj : j < l.length := by omega
  have hy := h2 _ (List.getElem_mem hj)
  unfold okAt
  rw [Bool.and_eq_true, Bool.and_eq_true, decide_eq_true_iff, rd74 l j hj]
  refine ⟨hy.1, hy.2, ?_⟩
  by_cases h0 : j = 0
  · simp [h0]
  rw [rd74 l (j - 1) (by omega), Bool.or_eq_true]
  exact .inr (List.pairwise_iff_getElem.1 h3 (j - 1) j (by omega) hj (by omega))
theorem disk_fil {l : List S74} (p : S74 → Bool) (h : diskM l = true) : diskM (l.filter p) = true := by
  obtain ⟨h1, h2⟩ := disk_each h
  exact disk_of (Nat.le_trans (List.length_filter_le _ _) h1) (fun y hy => h2 y (List.mem_filter.1 hy).1) ((srt_pw.1 (disk_srt h)).filter _)
theorem remove_fil {l : List S74} (a : ByteArray) (h : diskM l = true) : (removeM l a).1 = l.filter (notN a) := by
  unfold removeM
  rw [if_pos h]
  rcases idxF_at (isN a) l 0 with ⟨e, hn⟩ | ⟨m, x, e, hx, hp, _⟩
  · rw [if_pos (by omega)]
    exact (filter_all (fun y hy => by unfold notN; rw [hn y hy]; rfl)).symm
  rw [if_neg (by omega), without_at (disk_srt h) a m x hx hp]
  show l.eraseIdx _ = _
  congr 1
  omega
def renM (l : List S74) (a b : ByteArray) : List S74 × Bool := if diskM l = true ∧ ¬ idxF (isN a) l 0 < 0 ∧ nameM b = true then (putM (l.filter (notN a)) ⟨b, (rd_T74 l (idxF (isN a) l 0)).f1, (rd_T74 l (idxF (isN a) l 0)).f2⟩, true) else (l, false)
theorem ba_ext {a b : ByteArray} (h : a.toList = b.toList) : a = b := by
  rw [ByteArray.toList_eq, ByteArray.toList_eq] at h
  cases a with
  | mk x => cases b with
    | mk y => simpa using h
theorem spec_ren (l : List S74) (a b : ByteArray) (hl : l.length ≤ 1048576) (hw : wfD l) (hb : b.size ≤ 9223372036854775807) : Ev (fun k => spec_RenameFile.f k l a b) (renM l a b) := by
  have hc := copyS l (by omega) (wfD_le hw)
  have bad : ∀ i : Int, ¬ (diskM l = true ∧ ¬ idxF (isN a) l 0 < 0 ∧ nameM b = true) → Ev (fun k => spec_RenameFile.j0 k a b i true l) (renM l a b) := fun i h => EvS (by
    unfold renM
    rw [if_neg h]
    simp only [spec_RenameFile.j0, if_true]
    exact (EvB hc).2 EvN)
  unfold spec_RenameFile.f
  refine (EvB (find_ev l a hl)).2 ?_
  refine (EvB (spec_disk l hl hw)).2 ?_
  by_cases h : diskM l = true
  · by_cases h2 : idxF (isN a) l 0 < 0
    · simp only [if_pos h, if_pos h2]
      exact bad _ (fun q => q.2.1 h2)
    simp only [if_pos h, if_neg h2]
    refine (EvB (spec_name b hb)).2 ?_
    by_cases h3 : nameM b = true
    · obtain ⟨m, x, e, hx, hn, hm⟩ := idx_at l a h2
      rw [h3]
      refine EvS ?_
      have hr := hw _ (List.getElem_mem hm)
      have hW := withoutS l a (by omega) (wfD_le hw)
      have hl1 : (l.filter (notN a)).length ≤ l.length := List.length_filter_le _ _
      have hP := putS (l.filter (notN a)) (⟨b, (rd_T74 l (idxF (isN a) l 0)).f1, (rd_T74 l (idxF (isN a) l 0)).f2⟩ : S74) (by omega) (fun y hy => wfD_le hw y (List.mem_filter.1 hy).1) (by
        show (rd_T74 l (idxF (isN a) l 0)).f1.length ≤ 100000000 ∧ (rd_T74 l (idxF (isN a) l 0)).f2.length ≤ 100000000
        rw [e, rd74 l m hm]
        omega)
      unfold renM
      simp only [spec_RenameFile.j0, Bool.not_true, Bool.false_eq_true, if_false, if_pos (show 0 ≤ idxF (isN a) l 0 by omega), if_pos (show idxF (isN a) l 0 < (l.length : Int) by omega), if_pos (show diskM l = true ∧ ¬ idxF (isN a) l 0 < 0 ∧ nameM b = true from ⟨h, h2, h3⟩)]
      refine (EvB hW).2 ?_
      exact (EvB hP).2 EvN
    rw [Bool.eq_false_iff.2 h3]
    exact bad _ (fun q => h3 q.2.2)
  simp only [if_neg h]
  exact bad _ (fun q => h q.1)
theorem impl_ren (l : List S74) (a b : ByteArray) (hl : l.length ≤ 1048576) (hw : wfD l) (hb : b.size ≤ 9223372036854775807) : Ev (fun k => impl_renameFile.f k l a b) (renM l a b) := by
  have hc := copyI l (by omega) (wfD_le hw)
  have hf : impl_fileOf.f l a = some (idxF (isN a) l 0) := by unfold impl_fileOf.f; rw [if_pos (by omega)]; rfl
  unfold impl_renameFile.f renM
  simp only [hf, Option.bind_some, EvB (impl_disk l hl hw)]
  by_cases h : diskM l = true
  · by_cases h2 : idxF (isN a) l 0 < 0
    · simp only [if_pos h, if_pos h2, if_neg (show ¬ (diskM l = true ∧ ¬ idxF (isN a) l 0 < 0 ∧ nameM b = true) from fun q => q.2.1 h2)]
      exact (EvB hc).2 EvN
    simp only [if_pos h, if_neg h2, impl_name b hb, Option.bind_some]
    by_cases h3 : nameM b = true
    · obtain ⟨m, x, e, hx, hn, hm⟩ := idx_at l a h2
      have hpw := srt_pw.1 (disk_srt h)
      simp only [if_pos h3, if_pos (show diskM l = true ∧ ¬ idxF (isN a) l 0 < 0 ∧ nameM b = true from ⟨h, h2, h3⟩)]
      by_cases h4 : a.toList = b.toList
      · have hab := ba_ext h4
        subst hab
        simp only [if_true]
        have hp := put_fil hpw (⟨a, (rd_T74 l (idxF (isN a) l 0)).f1, (rd_T74 l (idxF (isN a) l 0)).f2⟩ : S74)
        rw [put_at (disk_srt h) _ m x hx hn] at hp
        have hxm : l[m] = x := by rw [List.getElem?_eq_getElem hm] at hx; exact Option.some.inj hx
        have hf : (⟨a, (rd_T74 l (idxF (isN a) l 0)).f1, (rd_T74 l (idxF (isN a) l 0)).f2⟩ : S74) = x := by
          rw [e, rd74 l m hm, hxm]
          have : x.f0 = a := ba_ext hn
          cases x
          simp only at this ⊢
          rw [this]
        rw [hf] at hp
        have hxa : x.f0 = a := ba_ext hn
        rw [hxa] at hp
        rw [hf, hp, show l.set m x = l by rw [← hxm]; exact List.set_getElem_self hm]
        exact (EvB hc).2 EvN
      simp only [if_neg h4]
      have hd1 := disk_fil (notN a) h
      have hl1 : (l.filter (notN a)).length ≤ l.length := List.length_filter_le _ _
      have hw1 : wfD (l.filter (notN a)) := fun y hy => hw y (List.mem_filter.1 hy).1
      have hl2 : ((l.filter (notN a)).filter (notN b)).length ≤ (l.filter (notN a)).length := List.length_filter_le _ _
      refine (EvB (impl_remove l a hl hw)).2 ?_
      rw [remove_fil a h]
      refine (EvB (impl_remove (l.filter (notN a)) b (by omega) hw1)).2 ?_
      rw [remove_fil b hd1]
      refine (EvB hc).2 ?_
      simp only [if_pos (show idxF (isN a) l 0 < (l.length : Int) by omega), if_pos (show (((l.filter (notN a)).filter (notN b)).length + 1) * 64 ≤ 140737488355328 by omega)]
      rw [ins_put (srt_pw.1 (disk_srt hd1)) (⟨b, (rd_T74 l (idxF (isN a) l 0)).f1, (rd_T74 l (idxF (isN a) l 0)).f2⟩ : S74)]
      exact EvN
    simp only [if_neg h3, if_neg (show ¬ (diskM l = true ∧ ¬ idxF (isN a) l 0 < 0 ∧ nameM b = true) from fun q => h3 q.2.2)]
    exact (EvB hc).2 EvN
  simp only [if_neg h, if_neg (show ¬ (diskM l = true ∧ ¬ idxF (isN a) l 0 < 0 ∧ nameM b = true) from fun q => h q.1)]
  exact (EvB hc).2 EvN
def appF (l : List S74) (a : ByteArray) (d f1 f2 : List Int) : List S74 × Bool := if d.length + f1.length + f2.length ≤ 20000 then (putM l ⟨a, f1, f2 ++ d⟩, true) else (l, false)
def appM (l : List S74) (a : ByteArray) (d : List Int) : List S74 × Bool :=
  if diskM l = true ∧ nameM a = true then (if idxF (isN a) l 0 < 0 then (if l.length = 8 then (l, false) else appF l a d [] []) else appF l a d (rd_T74 l (idxF (isN a) l 0)).f1 (rd_T74 l (idxF (isN a) l 0)).f2) else (l, false)
theorem spec_fin (l : List S74) (a : ByteArray) (d f1 f2 : List Int) (hl : l.length ≤ 1048576) (hw : wfD l) (hd : d.length ≤ 1048576) (h1 : f1.length ≤ 1048576) (h2 : f2.length ≤ 1048576) : Ev (fun k => spec_AppendFile.fin k l a d f1 f2) (appF l a d f1 f2) := by
  have hc := copyS l (by omega) (wfD_le hw)
  have e : wrap64 (wrap64 (20000 - (f1.length : Int)) - (f2.length : Int)) = 20000 - (f1.length : Int) - (f2.length : Int) := by
    rw [w64 (x := 20000 - (f1.length : Int)) (by omega) (by omega), w64 (by omega) (by omega)]
  unfold spec_AppendFile.fin appF
  rw [e]
  by_cases h : d.length + f1.length + f2.length ≤ 20000
  · have hP := putS l (⟨a, f1, f2 ++ d⟩ : S74) (by omega) (wfD_le hw) ⟨by show f1.length ≤ _; omega, by show (f2 ++ d).length ≤ _; rw [List.length_append]; omega⟩
    simp only [if_pos h, if_neg (show ¬ (d.length : Int) > 20000 - (f1.length : Int) - (f2.length : Int) by omega)]
    refine (EvB (joinS f2 d (by omega) (by omega))).2 ?_
    exact (EvB hP).2 EvN
  simp only [if_neg h, if_pos (show (d.length : Int) > 20000 - (f1.length : Int) - (f2.length : Int) by omega)]
  exact (EvB hc).2 EvN
theorem spec_app (l : List S74) (a : ByteArray) (d : List Int) (hl : l.length ≤ 1048576) (hw : wfD l) (ha : a.size ≤ 9223372036854775807) (hd : d.length ≤ 1048576) : Ev (fun k => spec_AppendFile.f k l a d) (appM l a d) := by
  have hc := copyS l (by omega) (wfD_le hw)
  unfold spec_AppendFile.f appM
  refine (EvB (find_ev l a hl)).2 ?_
  refine (EvB (spec_disk l hl hw)).2 ?_
  by_cases h : diskM l = true
  · simp only [if_pos h]
    refine (EvB (spec_name a ha)).2 ?_
    by_cases h3 : nameM a = true
    · simp only [if_pos h3, if_pos (show diskM l = true ∧ nameM a = true from ⟨h, h3⟩)]
      by_cases h2 : idxF (isN a) l 0 < 0
      · simp only [if_neg (show ¬ 0 ≤ idxF (isN a) l 0 by omega), if_pos h2]
        by_cases h8 : l.length = 8
        · simp only [if_pos h8, if_pos (show (l.length : Int) = 8 by omega)]
          exact (EvB hc).2 EvN
        simp only [if_neg h8, if_neg (show ¬ (l.length : Int) = 8 by omega)]
        exact spec_fin l a d [] [] hl hw hd (by simp) (by simp)
      obtain ⟨m, x, e, hx, hn, hm⟩ := idx_at l a h2
      have hr := hw _ (List.getElem_mem hm)
      have hxm : l[m] = x := by rw [List.getElem?_eq_getElem hm] at hx; exact Option.some.inj hx
      have hna : (rd_T74 l (idxF (isN a) l 0)).f0 = a := by rw [e, rd74 l m hm, hxm]; exact ba_ext hn
      simp only [if_pos (show 0 ≤ idxF (isN a) l 0 by omega), if_pos (show idxF (isN a) l 0 < (l.length : Int) by omega), if_neg h2]
      rw [hna]
      exact spec_fin l a d _ _ hl hw hd (by rw [e, rd74 l m hm]; exact hr.2.1) (by rw [e, rd74 l m hm]; exact hr.2.2)
    simp only [if_neg h3, if_neg (show ¬ (diskM l = true ∧ nameM a = true) from fun q => h3 q.2)]
    exact (EvB hc).2 EvN
  simp only [if_neg h, if_neg (show ¬ (diskM l = true ∧ nameM a = true) from fun q => h q.1)]
  exact (EvB hc).2 EvN
end Go.Proofs.YtmgeffgcihfpcaaDoor.DK

namespace Go.Proofs.YtmgeffgcihfpcaaDoor.DK
set_option linter.unusedVariables false
set_option linter.unusedSimpArgs false
open Go.RowKit Go.Proofs.YtmgeffgcihfpcaaDoor.F Go.Proofs.YtmgeffgcihfpcaaDoor.PK Go.Proofs.YtmgeffgcihfpcaaDoorW.PrintWords Go.Proofs.YtmgeffgcihfpcaaDoorW.PrintLast Go.Proofs.YtmgeffgcihfpcaaDoorW.PrintMore
open Go.Proofs.YtmgeffgcihfpcaaDoor.BY (toByteS eqByteS)
def wfW (l : List S74) : Prop := ∀ y ∈ l, y.f0.size ≤ 9223372036854775807 ∧ y.f1.length ≤ 4194304 ∧ y.f2.length ≤ 4194304
theorem implGoW (l : List S74) (hl : l.length ≤ 1048576) (hw : wfW l) : ∀ d i : Nat, d + i = l.length → Ev (fun k => impl_isDisk.l0 k l (l.length : Int) i l) (goD l d i && decide (l.length ≤ 8)) := by
  intro d
  induction d with
  | zero =>
    intro i hi
    refine EvS ?_
    simp only [impl_isDisk.l0, if_neg (show ¬ (i : Int) < (l.length : Int) by omega), goD, Bool.true_and]
    rw [show decide ((l.length : Int) ≤ 8) = decide (l.length ≤ 8) from decide_eq_decide.2 (by omega)]
    exact EvN
  | succ d ih =>
    intro i hi
    have hil : i < l.length := by omega
    have hy := hw _ (List.getElem_mem hil)
    refine EvS ?_
    have hn := impl_name l[i].f0 hy.1
    have h := ih (i + 1) (by omega)
    rw [← rd74 l i hil] at hn hy
    unfold goD okAt
    simp only [impl_isDisk.l0, if_pos (show (i : Int) < (l.length : Int) by omega), if_pos (show 0 ≤ (i : Int) by omega), hn, Option.bind_some, nxt i _ hil (by omega)]
    generalize rd_T74 l (i : Int) = y at hy hn ⊢
    by_cases c1 : nameM y.f0 = true
    · have hw1 : wrap64 ((y.f1.length : Int) + (y.f2.length : Int)) = (y.f1.length : Int) + (y.f2.length : Int) := w64 (by omega) (by omega)
      by_cases c3 : (y.f1.length : Int) + (y.f2.length : Int) > 20000
      · simp only [if_pos c1, hw1, if_pos c3, decide_eq_false (show ¬ y.f1.length + y.f2.length ≤ 20000 by omega), Bool.false_and, Bool.and_false]; exact EvN
      simp only [if_pos c1, hw1, if_neg c3, c1, decide_eq_true (show y.f1.length + y.f2.length ≤ 20000 by omega), Bool.true_and]
      by_cases c4 : i = 0
      · simp only [if_neg (show ¬ (i : Int) > 0 by omega), decide_eq_true c4, Bool.true_or, Bool.true_and]; exact h
      have hw2 : wrap64 ((i : Int) - 1) = ((i - 1 : Nat) : Int) := by rw [w64 (by omega) (by omega)]; omega
      simp only [if_pos (show (i : Int) > 0 by omega), hw2, if_pos (show 0 ≤ ((i - 1 : Nat) : Int) by omega), if_pos (show ((i - 1 : Nat) : Int) < (l.length : Int) by omega), decide_eq_false c4, Bool.false_or]
      by_cases c5 : Op.bytesLess (rd_T74 l ((i - 1 : Nat) : Int)).f0.toList y.f0.toList = true
      · simp only [if_pos c5, c5, Bool.true_and]; exact h
      simp only [if_neg c5, Bool.eq_false_iff.2 c5, Bool.false_and]; exact EvN
    simp only [if_neg c1, Bool.eq_false_iff.2 c1, Bool.false_and]; exact EvN
theorem impl_diskW (l : List S74) (hl : l.length ≤ 1048576) (hw : wfW l) : Ev (fun k => impl_isDisk.f k l) (diskM l) := by
  unfold impl_isDisk.f diskM
  rw [Bool.and_comm]
  exact implGoW l hl hw l.length 0 rfl
end Go.Proofs.YtmgeffgcihfpcaaDoor.DK

namespace Go.Proofs.YtmgeffgcihfpcaaDoor.DK
set_option linter.unusedVariables false
set_option linter.unusedSimpArgs false
open Go.RowKit Go.Proofs.YtmgeffgcihfpcaaDoor.F Go.Proofs.YtmgeffgcihfpcaaDoor.PK Go.Proofs.YtmgeffgcihfpcaaDoorW.PrintWords Go.Proofs.YtmgeffgcihfpcaaDoorW.PrintLast Go.Proofs.YtmgeffgcihfpcaaDoorW.PrintMore
theorem impl_fin (l p : List S74) (a : ByteArray) (d : List Int) (m : Nat) (hm : m < p.length) (hn : p[m].f0 = a) (hi : idxF (isN a) p 0 = (m : Int)) (hl : l.length ≤ 1048576) (hw : wfD l) (hpl : p.length ≤ 1048576) (hp : wfD p) (hd : d.length ≤ 1048576) :
    Ev (fun k => impl_appendFile.fin k l p a d) (if diskM (p.set m ⟨a, p[m].f1, p[m].f2 ++ d⟩) = true then (p.set m ⟨a, p[m].f1, p[m].f2 ++ d⟩, true) else (l, false)) := by
  have hc := copyI l (by omega) (wfD_le hw)
  have hf : impl_fileOf.f p a = some (idxF (isN a) p 0) := by unfold impl_fileOf.f; rw [if_pos (by omega)]; rfl
  have hr := hp _ (List.getElem_mem hm)
  have hD := impl_diskW (p.set m ⟨a, p[m].f1, p[m].f2 ++ d⟩) (by rw [List.length_set]; exact hpl) (fun y hy => by
    rcases mem_set hy with rfl | hy
    · refine ⟨by rw [← hn]; exact hr.1, ?_, ?_⟩
      · show p[m].f1.length ≤ _; omega
      show (p[m].f2 ++ d).length ≤ _; rw [List.length_append]; omega
    have := hp y hy
    exact ⟨this.1, by omega, by omega⟩)
  unfold impl_appendFile.fin
  simp only [hf, Option.bind_some, hi, rd74 p m hm, hn, Int.toNat_natCast, if_pos (show 0 ≤ (m : Int) by omega), if_pos (show (m : Int) < (p.length : Int) by omega), if_pos (show p[m].f2.length + d.length ≤ 140737488355328 by omega)]
  refine (EvB hD).2 ?_
  by_cases h : diskM (p.set m ⟨a, p[m].f1, p[m].f2 ++ d⟩) = true
  · simp only [if_pos h]; exact EvN
  simp only [if_neg h]; exact (EvB hc).2 EvN
theorem disk_set (l : List S74) (m : Nat) (hm : m < l.length) (h : diskM l = true) (f : S74) (hn : f.f0 = l[m].f0) : diskM (l.set m f) = decide (f.f1.length + f.f2.length ≤ 20000) := by
  obtain ⟨h1, h2⟩ := disk_each h
  by_cases hb : f.f1.length + f.f2.length ≤ 20000
  · rw [decide_eq_true hb]
    refine disk_of (by rw [List.length_set]; exact h1) (fun y hy => ?_) (List.pairwise_iff_getElem.2 fun i j hi hj hij => ?_)
    · rcases mem_set hy with rfl | hy
      · exact ⟨by rw [hn]; exact (h2 _ (List.getElem_mem hm)).1, hb⟩
      exact h2 y hy
    rw [List.length_set] at hi hj
    have hs := List.pairwise_iff_getElem.1 (srt_pw.1 (disk_srt h)) i j hi hj hij
    have e : ∀ q (hq : q < l.length), nm ((l.set m f)[q]'(by rw [List.length_set]; exact hq)) = nm l[q] := fun q hq => by
      rw [List.getElem_set]
      split
      · rename_i e; subst e; unfold nm; rw [hn]
      rfl
    show Op.bytesLess (nm _) (nm _) = true
    rw [e i hi, e j hj]
    exact hs
  rw [decide_eq_false hb]
  cases hd : diskM (l.set m f) with
  | false => rfl
  | true => exact absurd ((disk_each hd).2 f (List.mem_set hm f)).2 hb
theorem fin_there (l : List S74) (a : ByteArray) (d : List Int) (m : Nat) (hm : m < l.length) (hn : l[m].f0 = a) (hi : idxF (isN a) l 0 = (m : Int)) (h : diskM l = true) (hl : l.length ≤ 1048576) (hw : wfD l) (hd : d.length ≤ 1048576) :
    Ev (fun k => impl_appendFile.fin k l l a d) (appF l a d l[m].f1 l[m].f2) := by
  have hF := impl_fin l l a d m hm hn hi hl hw hl hw hd
  have hs := disk_set l m hm h (⟨a, l[m].f1, l[m].f2 ++ d⟩ : S74) hn.symm
  have hp := put_at (disk_srt h) (⟨a, l[m].f1, l[m].f2 ++ d⟩ : S74) m l[m] (List.getElem?_eq_getElem hm) (by unfold nm; rw [hn])
  rw [hs] at hF
  unfold appF
  rw [hp]
  by_cases hb : d.length + l[m].f1.length + l[m].f2.length ≤ 20000
  · rw [if_pos hb]
    rwa [if_pos (decide_eq_true (show l[m].f1.length + (l[m].f2 ++ d).length ≤ 20000 by rw [List.length_append]; omega))] at hF
  rw [if_neg hb]
  rwa [if_neg (by rw [decide_eq_true_iff]; show ¬ l[m].f1.length + (l[m].f2 ++ d).length ≤ 20000; rw [List.length_append]; omega)] at hF
theorem put_new {l : List S74} (f : S74) (h : ∀ x ∈ l, isN f.f0 x.f0 = false) : putM l f = l.takeWhile (lessN f.f0) ++ f :: l.dropWhile (lessN f.f0) := by
  unfold putM
  rw [filter_all (fun y hy => by unfold notN; rw [h y (dw_mem _ _ _ hy)]; rfl)]
theorem disk_new {l : List S74} (f : S74) (h : diskM l = true) (hn : nameM f.f0 = true) (hno : ∀ x ∈ l, isN f.f0 x.f0 = false) : diskM (l.takeWhile (lessN f.f0) ++ f :: l.dropWhile (lessN f.f0)) = decide (l.length < 8 ∧ f.f1.length + f.f2.length ≤ 20000) := by
  obtain ⟨h1, h2⟩ := disk_each h
  have hpw := srt_pw.1 (disk_srt h)
  have hlen : (l.takeWhile (lessN f.f0) ++ f :: l.dropWhile (lessN f.f0)).length = l.length + 1 := by
    have := congrArg List.length (List.takeWhile_append_dropWhile (p := lessN f.f0) (l := l))
    simp only [List.length_append, List.length_cons] at this ⊢
    omega
  by_cases hb : l.length < 8 ∧ f.f1.length + f.f2.length ≤ 20000
  · rw [decide_eq_true hb]
    refine disk_of (by omega) (fun y hy => ?_) ?_
    · rcases List.mem_append.1 hy with hy | hy
      · exact h2 y ((List.takeWhile_sublist _).subset hy)
      rcases List.mem_cons.1 hy with rfl | hy
      · exact ⟨hn, hb.2⟩
      exact h2 y (dw_mem _ _ _ hy)
    have hs := hpw
    rw [← List.takeWhile_append_dropWhile (p := lessN f.f0) (l := l), List.pairwise_append] at hs
    refine List.pairwise_append.2 ⟨hs.1, List.pairwise_cons.2 ⟨fun y hy => ?_, hs.2.1⟩, fun x hx y hy => ?_⟩
    · have a1 := dw_less hpw y hy
      cases hq : Op.bytesLess (nm f) (nm y) with
      | true => exact hq
      | false =>
        have := lt_total _ _ a1 hq
        have h3 := hno y (dw_mem _ _ _ hy)
        unfold isN at h3
        rw [beq_eq_false_iff_ne] at h3
        exact absurd this h3
    rcases List.mem_cons.1 hy with rfl | hy
    · exact tw_all l x hx
    exact hs.2.2 x hx y hy
  rw [decide_eq_false hb]
  cases hd : diskM (l.takeWhile (lessN f.f0) ++ f :: l.dropWhile (lessN f.f0)) with
  | false => rfl
  | true =>
    have := disk_each hd
    exact absurd ⟨by omega, (this.2 f (by simp)).2⟩ hb
theorem fin_new (l : List S74) (a : ByteArray) (d : List Int) (h : diskM l = true) (hn : nameM a = true) (hno : ∀ x ∈ l, isN a x.f0 = false) (hl : l.length ≤ 1048576) (hw : wfD l) (ha : a.size ≤ 9223372036854775807) (hd : d.length ≤ 1048576) :
    Ev (fun k => impl_appendFile.fin k l (insM l ⟨a, [], []⟩) a d) (if l.length = 8 then (l, false) else appF l a d [] []) := by
  have h8 := (disk_each h).1
  obtain ⟨T, hT⟩ : ∃ T, T = l.takeWhile (lessN a) := ⟨_, rfl⟩
  obtain ⟨D, hD⟩ : ∃ D, D = l.dropWhile (lessN a) := ⟨_, rfl⟩
  have hTD : T ++ D = l := by rw [hT, hD]; exact List.takeWhile_append_dropWhile
  have hlen : T.length + D.length = l.length := by rw [← hTD, List.length_append]
  have hins : insM l ⟨a, [], []⟩ = T ++ (⟨a, [], []⟩ : S74) :: D := by rw [ins_eq, hT, hD]
  have hdk := disk_new (⟨a, [], d⟩ : S74) h hn hno
  have hput := put_new (l := l) (⟨a, [], d⟩ : S74) hno
  simp only [← hT, ← hD] at hdk hput
  have hpl : (T ++ (⟨a, [], []⟩ : S74) :: D).length = l.length + 1 := by simp only [List.length_append, List.length_cons]; omega
  have hm : T.length < (T ++ (⟨a, [], []⟩ : S74) :: D).length := by omega
  have hget : (T ++ (⟨a, [], []⟩ : S74) :: D)[T.length] = ⟨a, [], []⟩ := by simp
  have hidx : idxF (isN a) (T ++ (⟨a, [], []⟩ : S74) :: D) 0 = (T.length : Int) := by
    rcases idxF_at (isN a) (T ++ (⟨a, [], []⟩ : S74) :: D) 0 with ⟨_, q⟩ | ⟨m, x, e, hx, hp, q⟩
    · have := q ⟨a, [], []⟩ (by simp)
      simp [isN] at this
    have hle : ¬ m < T.length := fun hlt => by
      rw [List.getElem?_append_left hlt] at hx
      have := hno x (by rw [← hTD]; exact List.mem_append_left _ (List.mem_of_getElem? hx))
      rw [this] at hp
      cases hp
    have hge : ¬ T.length < m := fun hlt => by
      have := q T.length ⟨a, [], []⟩ hlt (by rw [List.getElem?_eq_getElem hm, hget])
      simp [isN] at this
    omega
  have hF := impl_fin l (T ++ (⟨a, [], []⟩ : S74) :: D) a d T.length hm (by rw [hget]) hidx hl hw (by omega) (fun y hy => by
    rcases List.mem_append.1 hy with hy | hy
    · exact hw y (by rw [← hTD]; exact List.mem_append_left _ hy)
    rcases List.mem_cons.1 hy with rfl | hy
    · exact ⟨ha, by simp, by simp⟩
    exact hw y (by rw [← hTD]; exact List.mem_append_right _ hy)) hd
  rw [hget] at hF
  simp only [List.nil_append] at hF
  rw [show (T ++ (⟨a, [], []⟩ : S74) :: D).set T.length ⟨a, [], d⟩ = T ++ (⟨a, [], d⟩ : S74) :: D by simp, hdk] at hF
  rw [hins]
  unfold appF
  simp only [List.length_nil, List.nil_append, hput]
  by_cases e8 : l.length = 8
  · rw [if_pos e8]
    rwa [if_neg (by rw [decide_eq_true_iff]; omega)] at hF
  rw [if_neg e8]
  by_cases hb : d.length ≤ 20000
  · rw [if_pos (by omega)]
    rwa [if_pos (by rw [decide_eq_true_iff]; exact ⟨by omega, by simpa using hb⟩)] at hF
  rw [if_neg (by omega)]
  rwa [if_neg (by rw [decide_eq_true_iff]; intro q; exact hb (by simpa using q.2))] at hF
theorem impl_app (l : List S74) (a : ByteArray) (d : List Int) (hl : l.length ≤ 1048576) (hw : wfD l) (ha : a.size ≤ 9223372036854775807) (hd : d.length ≤ 1048576) : Ev (fun k => impl_appendFile.f k l a d) (appM l a d) := by
  have hc := copyI l (by omega) (wfD_le hw)
  have hf : impl_fileOf.f l a = some (idxF (isN a) l 0) := by unfold impl_fileOf.f; rw [if_pos (by omega)]; rfl
  unfold impl_appendFile.f appM
  refine (EvB hc).2 ?_
  refine (EvB (impl_disk l hl hw)).2 ?_
  by_cases h : diskM l = true
  · simp only [if_pos h, impl_name a ha, Option.bind_some]
    by_cases h3 : nameM a = true
    · simp only [if_pos h3, if_pos (show diskM l = true ∧ nameM a = true from ⟨h, h3⟩), hf, Option.bind_some]
      by_cases h2 : idxF (isN a) l 0 < 0
      · simp only [if_pos h2, if_pos (show (l.length + 1) * 64 ≤ 140737488355328 by omega)]
        refine fin_new l a d h h3 ?_ hl hw ha hd
        rcases idxF_at (isN a) l 0 with ⟨_, q⟩ | ⟨m, x, e, _, _, _⟩
        · exact q
        omega
      obtain ⟨m, x, e, hx, hn, hm⟩ := idx_at l a h2
      have hxm : l[m] = x := by rw [List.getElem?_eq_getElem hm] at hx; exact Option.some.inj hx
      simp only [if_neg h2]
      rw [e, rd74 l m hm]
      exact fin_there l a d m hm (by rw [hxm]; exact ba_ext hn) e h hl hw hd
    simp only [if_neg h3, if_neg (show ¬ (diskM l = true ∧ nameM a = true) from fun q => h3 q.2)]
    exact EvN
  simp only [if_neg h, if_neg (show ¬ (diskM l = true ∧ nameM a = true) from fun q => h q.1)]
  exact EvN
def syncM (l : List S74) (a : ByteArray) : List S74 × Bool := if (contentM l a).2 = true then (l.set (idxF (isN a) l 0).toNat ⟨a, (contentM l a).1, []⟩, true) else (l, false)
theorem spec_sync (l : List S74) (a : ByteArray) (hl : l.length ≤ 1048576) (hw : wfD l) : Ev (fun k => spec_SyncFile.f k l a) (syncM l a) := by
  have hc := copyS l (by omega) (wfD_le' hw)
  have hS := spec_content l a hl hw
  have hb := content_le l a hw
  unfold spec_SyncFile.f syncM
  simp only [EvB hS]
  by_cases h : (contentM l a).2 = true
  · obtain ⟨h1, h2, _⟩ := content_ok h
    obtain ⟨m, x, e, hx, hn, hm⟩ := idx_at l a h2
    have hP := putS l ⟨a, (contentM l a).1, []⟩ (by omega) (wfD_le' hw) ⟨by show (contentM l a).1.length ≤ 100000000; omega, by simp⟩
    rw [put_at (disk_srt h1) _ m x hx hn] at hP
    simp only [if_pos h]
    rw [e, Int.toNat_natCast]
    exact (EvB hP).2 EvN
  simp only [if_neg h]
  exact (EvB hc).2 EvN
theorem impl_sync (l : List S74) (a : ByteArray) (hl : l.length ≤ 1048576) (hw : wfD l) : Ev (fun k => impl_syncFile.f k l a) (syncM l a) := by
  have hc := copyI l (by omega) (wfD_le' hw)
  have hf : impl_fileOf.f l a = some (idxF (isN a) l 0) := by unfold impl_fileOf.f; rw [if_pos (by omega)]; rfl
  unfold impl_syncFile.f syncM
  simp only [EvB hc, hf, Option.bind_some, EvB (impl_disk l hl hw)]
  by_cases h : (contentM l a).2 = true
  · obtain ⟨h1, h2, h3⟩ := content_ok h
    obtain ⟨m, x, e, hx, hn, hm⟩ := idx_at l a h2
    have hil : idxF (isN a) l 0 < (l.length : Int) := by omega
    simp only [if_pos h1, if_neg h2, if_pos hil, content_at l hw _ (by omega) hil, Option.bind_some, if_pos h, h3]
    exact EvN
  simp only [if_neg h]
  by_cases h1 : diskM l = true
  · simp only [if_pos h1, if_pos (content_no h h1)]; exact EvN
  simp only [if_neg h1]; exact EvN
def cutM (l : List S74) (a : ByteArray) (n : Int) : List S74 × Bool := if (contentM l a).2 = true then (if 0 ≤ n ∧ n ≤ ((contentM l a).1.length : Int) then (l.set (idxF (isN a) l 0).toNat ⟨a, (contentM l a).1.take n.toNat, []⟩, true) else (l, false)) else (l, false)
theorem spec_cut (l : List S74) (a : ByteArray) (n : Int) (hl : l.length ≤ 1048576) (hw : wfD l) : Ev (fun k => spec_CutFile.f k l a n) (cutM l a n) := by
  have hc := copyS l (by omega) (wfD_le' hw)
  have hS := spec_content l a hl hw
  have hb := content_le l a hw
  unfold spec_CutFile.f cutM
  simp only [EvB hS]
  by_cases h : (contentM l a).2 = true
  · obtain ⟨h1, h2, _⟩ := content_ok h
    obtain ⟨m, x, e, hx, hn, hm⟩ := idx_at l a h2
    simp only [if_pos h]
    by_cases g : 0 ≤ n ∧ n ≤ ((contentM l a).1.length : Int)
    · have hIn : spec_l01In.f n 0 ((contentM l a).1.length : Int) = some true := by unfold spec_l01In.f; rw [if_pos g.1, decide_eq_true g.2]
      have hP := putS l ⟨a, (contentM l a).1.take n.toNat, []⟩ (by omega) (wfD_le' hw) ⟨by show ((contentM l a).1.take n.toNat).length ≤ 100000000; rw [List.length_take]; omega, by simp⟩
      rw [put_at (disk_srt h1) _ m x hx hn] at hP
      simp only [hIn, Option.bind_some, Bool.not_true, if_pos g]
      refine EvS ?_
      simp only [spec_CutFile.j0, Bool.false_eq_true, if_false, if_pos g.1, if_pos g.2]
      rw [e, Int.toNat_natCast]
      exact (EvB hP).2 EvN
    have hIn : spec_l01In.f n 0 ((contentM l a).1.length : Int) = some false := by
      unfold spec_l01In.f
      by_cases g1 : 0 ≤ n
      · rw [if_pos g1, decide_eq_false (fun g2 => g ⟨g1, g2⟩)]
      rw [if_neg g1]
    simp only [hIn, Option.bind_some, Bool.not_false, if_neg g]
    refine EvS ?_
    simp only [spec_CutFile.j0, if_true]
    exact (EvB hc).2 EvN
  simp only [if_neg h]
  refine EvS ?_
  simp only [spec_CutFile.j0, if_true]
  exact (EvB hc).2 EvN
theorem impl_cut (l : List S74) (a : ByteArray) (n : Int) (hl : l.length ≤ 1048576) (hw : wfD l) : Ev (fun k => impl_cutFile.f k l a n) (cutM l a n) := by
  have hc := copyI l (by omega) (wfD_le' hw)
  have hf : impl_fileOf.f l a = some (idxF (isN a) l 0) := by unfold impl_fileOf.f; rw [if_pos (by omega)]; rfl
  unfold impl_cutFile.f cutM
  simp only [EvB hc, hf, Option.bind_some, EvB (impl_disk l hl hw)]
  by_cases h : (contentM l a).2 = true
  · obtain ⟨h1, h2, h3⟩ := content_ok h
    obtain ⟨m, x, e, hx, hn, hm⟩ := idx_at l a h2
    have hil : idxF (isN a) l 0 < (l.length : Int) := by omega
    simp only [if_pos h1, if_neg h2, if_pos hil, content_at l hw _ (by omega) hil, Option.bind_some, if_pos h, h3]
    by_cases g1 : n < 0
    · simp only [if_pos g1, if_neg (show ¬ (0 ≤ n ∧ n ≤ (((rd_T74 l (idxF (isN a) l 0)).f1 ++ (rd_T74 l (idxF (isN a) l 0)).f2).length : Int)) by omega)]; exact EvN
    by_cases g2 : n > (((rd_T74 l (idxF (isN a) l 0)).f1 ++ (rd_T74 l (idxF (isN a) l 0)).f2).length : Int)
    · simp only [if_neg g1, if_pos g2, if_neg (show ¬ (0 ≤ n ∧ n ≤ (((rd_T74 l (idxF (isN a) l 0)).f1 ++ (rd_T74 l (idxF (isN a) l 0)).f2).length : Int)) by omega)]; exact EvN
    simp only [if_neg g1, if_neg g2, if_pos (show 0 ≤ n ∧ n ≤ (((rd_T74 l (idxF (isN a) l 0)).f1 ++ (rd_T74 l (idxF (isN a) l 0)).f2).length : Int) by omega)]; exact EvN
  simp only [if_neg h]
  by_cases h1 : diskM l = true
  · simp only [if_pos h1, if_pos (content_no h h1)]; exact EvN
  simp only [if_neg h1]; exact EvN
theorem disk_wf {l : List S74} (h : diskM l = true) : wfD l := fun y hy => by
  obtain ⟨h1, h2⟩ := (disk_each h).2 y hy
  unfold nameM at h1
  rw [Bool.and_eq_true, decide_eq_true_iff] at h1
  omega
theorem idx_no {l : List S74} {a : ByteArray} (h : idxF (isN a) l 0 < 0) : ∀ x ∈ l, isN a x.f0 = false := by
  rcases idxF_at (isN a) l 0 with ⟨_, q⟩ | ⟨m, x, e, _, _, _⟩
  · exact q
  omega
theorem put_disk {l : List S74} (f : S74) (h : diskM l = true) (hn : nameM f.f0 = true) (hb : f.f1.length + f.f2.length ≤ 20000) (hl : idxF (isN f.f0) l 0 < 0 → l.length < 8) : diskM (putM l f) = true := by
  by_cases h2 : idxF (isN f.f0) l 0 < 0
  · rw [put_new f (idx_no h2), disk_new f h hn (idx_no h2), decide_eq_true_iff]
    exact ⟨hl h2, hb⟩
  obtain ⟨m, x, e, hx, hnm, hm⟩ := idx_at l f.f0 h2
  have hxm : l[m] = x := by rw [List.getElem?_eq_getElem hm] at hx; exact Option.some.inj hx
  rw [put_at (disk_srt h) f m x hx hnm, disk_set l m hm h f (by rw [hxm]; exact (ba_ext hnm).symm), decide_eq_true_iff]
  exact hb
theorem app_disk {l : List S74} (a : ByteArray) (d : List Int) (h : diskM l = true) : diskM (appM l a d).1 = true := by
  have h8 := (disk_each h).1
  unfold appM
  by_cases hc : diskM l = true ∧ nameM a = true
  · rw [if_pos hc]
    by_cases h2 : idxF (isN a) l 0 < 0
    · rw [if_pos h2]
      by_cases h3 : l.length = 8
      · rw [if_pos h3]; exact h
      rw [if_neg h3]
      unfold appF
      split
      · rename_i hb
        exact put_disk (⟨a, [], [] ++ d⟩ : S74) h hc.2 (by simp only [List.length_nil, List.nil_append] at hb ⊢; omega) (fun _ => by omega)
      exact h
    rw [if_neg h2]
    unfold appF
    split
    · rename_i hb
      exact put_disk _ h hc.2 (by simp only [List.length_append]; omega) (fun q => absurd q h2)
    exact h
  rw [if_neg hc]; exact h
theorem content_disk {l : List S74} {a : ByteArray} (h : diskM l = true) (hi : ¬ idxF (isN a) l 0 < 0) : ∃ (m : Nat) (hm : m < l.length), idxF (isN a) l 0 = m ∧ l[m].f0 = a ∧ contentM l a = (l[m].f1 ++ l[m].f2, true) ∧ l[m].f1.length + l[m].f2.length ≤ 20000 := by
  obtain ⟨m, x, e, hx, hn, hm⟩ := idx_at l a hi
  have hxm : l[m] = x := by rw [List.getElem?_eq_getElem hm] at hx; exact Option.some.inj hx
  refine ⟨m, hm, e, by rw [hxm]; exact ba_ext hn, ?_, ((disk_each h).2 _ (List.getElem_mem hm)).2⟩
  unfold contentM
  rw [if_pos h, if_neg hi, e, rd74 l m hm]
theorem content_none {l : List S74} {a : ByteArray} (hi : idxF (isN a) l 0 < 0) : (contentM l a).2 = false := by
  unfold contentM
  split
  · rfl
  rfl
theorem sync_disk {l : List S74} (a : ByteArray) (h : diskM l = true) : diskM (syncM l a).1 = true := by
  unfold syncM
  by_cases hi : idxF (isN a) l 0 < 0
  · rw [content_none hi, if_neg (by decide)]; exact h
  obtain ⟨m, hm, e, hn, hc, hb⟩ := content_disk h hi
  rw [hc, if_pos rfl, e, Int.toNat_natCast, disk_set l m hm h _ (by exact hn.symm), decide_eq_true_iff]
  simp only [List.length_append, List.length_nil]
  omega
theorem cut_disk {l : List S74} (a : ByteArray) (n : Int) (h : diskM l = true) : diskM (cutM l a n).1 = true := by
  unfold cutM
  by_cases hi : idxF (isN a) l 0 < 0
  · rw [content_none hi, if_neg (by decide)]; exact h
  obtain ⟨m, hm, e, hn, hc, hb⟩ := content_disk h hi
  rw [hc, if_pos rfl]
  split
  · rw [e, Int.toNat_natCast, disk_set l m hm h _ (by exact hn.symm), decide_eq_true_iff]
    simp only [List.length_take, List.length_append, List.length_nil]
    omega
  exact h
theorem remove_disk {l : List S74} (a : ByteArray) (h : diskM l = true) : diskM (removeM l a).1 = true := by
  rw [remove_fil a h]
  exact disk_fil (notN a) h
theorem fil_lt {l : List S74} {a : ByteArray} (hi : ¬ idxF (isN a) l 0 < 0) : (l.filter (notN a)).length < l.length := by
  obtain ⟨m, x, e, hx, hp, hm⟩ := idx_in l a hi
  have hxm : l[m] = x := by rw [List.getElem?_eq_getElem hm] at hx; exact Option.some.inj hx
  rw [List.length_filter_lt_length_iff_exists]
  exact ⟨x, by rw [← hxm]; exact List.getElem_mem hm, by unfold notN; rw [hp]; decide⟩
theorem ren_disk {l : List S74} (a b : ByteArray) (h : diskM l = true) : diskM (renM l a b).1 = true := by
  unfold renM
  by_cases hc : diskM l = true ∧ ¬ idxF (isN a) l 0 < 0 ∧ nameM b = true
  · rw [if_pos hc]
    obtain ⟨m, hm, e, hn, _, hb⟩ := content_disk h hc.2.1
    have h8 := (disk_each h).1
    have hf := fil_lt hc.2.1
    refine put_disk _ (disk_fil (notN a) h) hc.2.2 ?_ (fun _ => by omega)
    rw [e, rd74 l m hm]
    exact hb
  rw [if_neg hc]; exact h
def stepM (d : List S74) (o : S71) : List S74 × Bool := if o.f0 = 0 then appM d o.f1 o.f3 else if o.f0 = 1 then syncM d o.f1 else if o.f0 = 2 then cutM d o.f1 o.f4 else if o.f0 = 3 then renM d o.f1 o.f2 else if o.f0 = 4 then removeM d o.f1 else (d, false)
def playL : List S71 → List S74 → List Bool → List S74 × List Bool
  | [], d, t => (d, t)
  | o :: r, d, t => playL r (stepM d o).1 (t ++ [(stepM d o).2])
def playM (l : List S74) (x : List S71) : List S74 × List Bool := if diskM l = true then (if (x.length : Int) > 200 then ([], []) else playL x l []) else ([], [])
def wfP (x : List S71) : Prop := ∀ y ∈ x, y.f1.size ≤ 9223372036854775807 ∧ y.f2.size ≤ 9223372036854775807 ∧ y.f3.length ≤ 1048576
theorem step_disk {d : List S74} (o : S71) (h : diskM d = true) : diskM (stepM d o).1 = true := by
  unfold stepM
  split
  · exact app_disk _ _ h
  split
  · exact sync_disk _ h
  split
  · exact cut_disk _ _ h
  split
  · exact ren_disk _ _ h
  split
  · exact remove_disk _ h
  exact h
theorem play_disk : ∀ (x : List S71) (d : List S74) (t : List Bool), diskM d = true → diskM (playL x d t).1 = true ∧ (playL x d t).2.length = t.length + x.length
  | [], d, t, h => ⟨h, by simp [playL]⟩
  | o :: r, d, t, h => by
    obtain ⟨h1, h2⟩ := play_disk r (stepM d o).1 (t ++ [(stepM d o).2]) (step_disk o h)
    refine ⟨h1, ?_⟩
    simp only [playL, List.length_cons]
    rw [h2, List.length_append]
    simp only [List.length_cons, List.length_nil]
    omega
theorem impl_step (d : List S74) (x : List S71) (i : Nat) (hi : i < x.length) (h : diskM d = true) (hx : wfP x) : Ev (fun k => impl_PlayDisk.step k d x i) (stepM d x[i]) := by
  have hw := disk_wf h
  have h8 := (disk_each h).1
  have ho := hx _ (List.getElem_mem hi)
  unfold impl_PlayDisk.step stepM
  simp only [rd71 x i hi]
  by_cases g0 : x[i].f0 = 0
  · simp only [if_pos g0]; exact impl_app d _ _ (by omega) hw ho.1 ho.2.2
  by_cases g1 : x[i].f0 = 1
  · simp only [if_neg g0, if_pos g1]; exact impl_sync d _ (by omega) hw
  by_cases g2 : x[i].f0 = 2
  · simp only [if_neg g0, if_neg g1, if_pos g2]; exact impl_cut d _ _ (by omega) hw
  by_cases g3 : x[i].f0 = 3
  · simp only [if_neg g0, if_neg g1, if_neg g2, if_pos g3]; exact impl_ren d _ _ (by omega) hw ho.2.1
  by_cases g4 : x[i].f0 = 4
  · simp only [if_neg g0, if_neg g1, if_neg g2, if_neg g3, if_pos g4]; exact impl_remove d _ (by omega) hw
  simp only [if_neg g0, if_neg g1, if_neg g2, if_neg g3, if_neg g4]; exact EvN
theorem spec_step (d : List S74) (x : List S71) (i : Nat) (hi : i < x.length) (h : diskM d = true) (hx : wfP x) : Ev (fun k => spec_PlayDisk.step k d x i) (stepM d x[i]) := by
  have hw := disk_wf h
  have h8 := (disk_each h).1
  have ho := hx _ (List.getElem_mem hi)
  unfold spec_PlayDisk.step stepM
  simp only [rd71 x i hi]
  by_cases g0 : x[i].f0 = 0
  · simp only [if_pos g0]; exact spec_app d _ _ (by omega) hw ho.1 ho.2.2
  by_cases g1 : x[i].f0 = 1
  · simp only [if_neg g0, if_pos g1]; exact spec_sync d _ (by omega) hw
  by_cases g2 : x[i].f0 = 2
  · simp only [if_neg g0, if_neg g1, if_pos g2]; exact spec_cut d _ _ (by omega) hw
  by_cases g3 : x[i].f0 = 3
  · simp only [if_neg g0, if_neg g1, if_neg g2, if_pos g3]; exact spec_ren d _ _ (by omega) hw ho.2.1
  by_cases g4 : x[i].f0 = 4
  · simp only [if_neg g0, if_neg g1, if_neg g2, if_neg g3, if_pos g4]; exact spec_remove d _ (by omega) hw
  simp only [if_neg g0, if_neg g1, if_neg g2, if_neg g3, if_neg g4]; exact EvN
theorem impl_playL (x : List S71) (hx : wfP x) (hl : x.length ≤ 1000000) (d : List S74) (h : diskM d = true) : Ev (fun k => impl_PlayDisk.l0 k x d [] 0) (playL x d []) := by
  have key := up (P := fun i => ∀ (d : List S74) (t : List Bool), diskM d = true → (t.length : Int) = i → Ev (fun k => impl_PlayDisk.l0 k x d t i) (playL (x.drop i.toNat) d t)) x.length
    (fun d t hd ht => EvS (by simp only [impl_PlayDisk.l0, Int.lt_irrefl, if_false, Int.toNat_natCast, List.drop_length, playL]; exact EvN))
    (fun i hi ih d t hd ht => EvS (by
      have hs := impl_step d x i hi hd hx
      have hS : (t.length < 140737488355328) = True := eq_true (by omega)
      rw [Int.toNat_natCast, drop_at x i hi]
      simp only [impl_PlayDisk.l0, if_pos (show (i : Int) < (x.length : Int) by omega), if_pos (show 0 ≤ (i : Int) by omega), EvB hs, hS, if_true, playL, nxt i _ hi (show x.length ≤ 9223372036854775807 by omega)]
      have := ih (stepM d x[i]).1 (t ++ [(stepM d x[i]).2]) (step_disk _ hd) (by simp only [List.length_append, List.length_cons, List.length_nil]; omega)
      rw [Int.toNat_natCast] at this
      exact this))
  exact key 0 (Nat.zero_le _) d [] h rfl
theorem spec_playL (x : List S71) (hx : wfP x) (hl : x.length ≤ 1000000) (d : List S74) (h : diskM d = true) : Ev (fun k => spec_PlayDisk.l0 k x d [] 0) (playL x d []) := by
  have key := up (P := fun i => ∀ (d : List S74) (t : List Bool), diskM d = true → (t.length : Int) = i → Ev (fun k => spec_PlayDisk.l0 k x d t i) (playL (x.drop i.toNat) d t)) x.length
    (fun d t hd ht => EvS (by simp only [spec_PlayDisk.l0, Int.lt_irrefl, if_false, Int.toNat_natCast, List.drop_length, playL]; exact EvN))
    (fun i hi ih d t hd ht => EvS (by
      have hs := spec_step d x i hi hd hx
      have hS : (t.length < 140737488355328) = True := eq_true (by omega)
      rw [Int.toNat_natCast, drop_at x i hi]
      simp only [spec_PlayDisk.l0, if_pos (show (i : Int) < (x.length : Int) by omega), if_pos (show 0 ≤ (i : Int) by omega), EvB hs, hS, if_true, playL, nxt i _ hi (show x.length ≤ 9223372036854775807 by omega)]
      have := ih (stepM d x[i]).1 (t ++ [(stepM d x[i]).2]) (step_disk _ hd) (by simp only [List.length_append, List.length_cons, List.length_nil]; omega)
      rw [Int.toNat_natCast] at this
      exact this))
  exact key 0 (Nat.zero_le _) d [] h rfl
theorem impl_play (l : List S74) (x : List S71) (hl : l.length ≤ 1048576) (hw : wfD l) (hx : wfP x) : Ev (fun k => impl_PlayDisk.f k l x) (playM l x) := by
  unfold impl_PlayDisk.f playM
  refine (EvB (impl_disk l hl hw)).2 ?_
  by_cases h : diskM l = true
  · simp only [if_pos h]
    by_cases h2 : (x.length : Int) > 200
    · simp only [if_pos h2]; exact EvN
    simp only [if_neg h2]
    refine (EvB (copyI l (by omega) (wfD_le hw))).2 ?_
    exact impl_playL x hx (by omega) l h
  simp only [if_neg h]; exact EvN
theorem spec_play (l : List S74) (x : List S71) (hl : l.length ≤ 1048576) (hw : wfD l) (hx : wfP x) : Ev (fun k => spec_PlayDisk.f k l x) (playM l x) := by
  unfold spec_PlayDisk.f playM
  refine (EvB (spec_disk l hl hw)).2 ?_
  by_cases h : diskM l = true
  · simp only [if_pos h]
    by_cases h2 : (x.length : Int) > 200
    · simp only [if_pos h2]; exact EvN
    simp only [if_neg h2]
    refine (EvB (copyS l (by omega) (wfD_le hw))).2 ?_
    exact spec_playL x hx (by omega) l h
  simp only [if_neg h]; exact EvN
theorem play_le (l : List S74) (x : List S71) : (playM l x).1.length ≤ 8 ∧ (∀ y ∈ (playM l x).1, y.f1.length + y.f2.length ≤ 20000) ∧ (playM l x).2.length ≤ 200 := by
  unfold playM
  split
  · rename_i h
    split
    · exact ⟨Nat.zero_le _, fun y (hy : y ∈ ([] : List S74)) => (by cases hy), Nat.zero_le _⟩
    obtain ⟨h1, h2⟩ := play_disk x l [] h
    obtain ⟨h3, h4⟩ := disk_each h1
    refine ⟨h3, fun y hy => (h4 y hy).2, ?_⟩
    rw [h2]
    simp only [List.length_nil]
    omega
  exact ⟨Nat.zero_le _, fun y (hy : y ∈ ([] : List S74)) => (by cases hy), Nat.zero_le _⟩
end Go.Proofs.YtmgeffgcihfpcaaDoor.DK

namespace Go.Proofs.YtmgeffgcihfpcaaDoor.DK
set_option linter.unusedVariables false
set_option linter.unusedSimpArgs false
open Go.RowKit Go.Proofs.YtmgeffgcihfpcaaDoor.F Go.Proofs.YtmgeffgcihfpcaaDoor.PK Go.Proofs.YtmgeffgcihfpcaaDoorW.PrintWords Go.Proofs.YtmgeffgcihfpcaaDoorW.PrintLast Go.Proofs.YtmgeffgcihfpcaaDoorW.PrintMore
open Go.Proofs.YtmgeffgcihfpcaaDoor.BY (markByteS)
open Go.Proofs.YtmgeffgcihfpcaaDoor.MT (markText)
theorem markFS (B : Nat) (hB : B ≤ 3000000) : ∀ (d i : Nat) (x : List S74) (a : Int), d + i = x.length → x.length ≤ 3000000 → (∀ y ∈ x, 1 + y.f1.length + y.f2.length ≤ B) → 0 ≤ a → a + d * B ≤ 3900000000000000 →
    ∃ (m : Int) (x' : List S74), Ev (fun k => laws_markFileS.l0 k x a i) (m, x') ∧ a ≤ m ∧ m ≤ a + d * B ∧ x'.length = x.length ∧ (∀ j, j < i → x'[j]? = x[j]?) ∧ Ev (fun k => laws_heldFileS.l0 k x' a i) m := by
  intro d
  induction d with
  | zero =>
    intro i x a hi hx hy h0 h1
    have hi : i = x.length := by omega
    subst hi
    exact ⟨a, x, EvS (by simp only [laws_markFileS.l0, Int.lt_irrefl, if_false]; exact EvN), Int.le_refl _, by omega, rfl, fun _ _ => rfl, EvS (by simp only [laws_heldFileS.l0, Int.lt_irrefl, if_false]; exact EvN)⟩
  | succ d ih =>
    intro i x a hi hx hy h0 h1
    have hix : i < x.length := by omega
    have hyi := hy _ (List.getElem_mem hix)
    have hq : ((d + 1 : Nat) : Int) * (B : Int) = (d : Int) * (B : Int) + (B : Int) := by rw [Int.natCast_succ, Int.add_mul, Int.one_mul]
    have hdn : (0 : Int) ≤ (d : Int) * (B : Int) := Int.mul_nonneg (by omega) (by omega)
    rw [hq] at h1
    have hw : wrap64 (a + 1) = a + 1 := w64 (by omega) (by omega)
    obtain ⟨s, hs⟩ := markText a (by omega)
    obtain ⟨b, n', a1, a2, a3, a4⟩ := markByteS x[i].f1 (by omega) (a + 1) (by omega) (by omega)
    obtain ⟨c, w', b1, b2, b3, b4⟩ := markByteS x[i].f2 (by omega) b (by omega) (by omega)
    obtain ⟨m, x', f1, f2, f3, f4, f5, f6⟩ := ih (i + 1) (x.set i ⟨s, n', w'⟩) c (by simp; omega) (by simpa using hx) (fun y hmem => by
      rcases List.mem_or_eq_of_mem_set hmem with h | rfl
      · exact hy y h
      simp only [a3, b3]; exact hyi) (by omega) (by omega)
    have hli : i < x'.length := by rw [f4]; simpa using hix
    have he : x'[i] = ⟨s, n', w'⟩ := by
      have := f5 i (by omega)
      rw [List.getElem?_set_self hix, List.getElem?_eq_getElem hli] at this
      exact Option.some.inj this
    refine ⟨m, x', EvS ?_, by omega, by rw [hq]; omega, by simpa using f4, fun j hj => ?_, EvS ?_⟩
    · simp only [laws_markFileS.l0, if_pos (show (i : Int) < (x.length : Int) by omega), if_pos (show 0 ≤ (i : Int) by omega), EvB hs, rd74 x i hix, hw, EvB a1, EvB b1, Int.toNat_natCast, nxt i x.length hix (by omega)]
      exact f1
    · rw [f5 j (by omega), List.getElem?_set_ne (by omega)]
    simp only [laws_heldFileS.l0, if_pos (show (i : Int) < (x'.length : Int) by omega), if_pos (show 0 ≤ (i : Int) by omega), EvB hs, rd74 x' i hli, he, if_true, hw, EvB a4, EvB b4, if_neg (show ¬ b < 0 by omega), if_neg (show ¬ c < 0 by omega), nxt i x'.length hli (by rw [f4]; simp; omega)]
    exact f6
end Go.Proofs.YtmgeffgcihfpcaaDoor.DK

namespace Go.Proofs.YtmgeffgcihfpcaaDoor.Pure
set_option linter.unusedVariables false
set_option linter.unusedSimpArgs false
open Go.RowKit Go.Proofs.YtmgeffgcihfpcaaDoor.F Go.Proofs.YtmgeffgcihfpcaaDoor.PK Go.Proofs.YtmgeffgcihfpcaaDoorW.PrintWords Go.Proofs.YtmgeffgcihfpcaaDoorW.PrintLast
open Go.Proofs.YtmgeffgcihfpcaaDoor.DK Go.Proofs.YtmgeffgcihfpcaaDoor.BY
theorem FnExactPlayDisk (l0_0 : List (S101)) (l1 : List (S90)) (hw0 : l0_0.length ≤ 9223372036854775807 ∧ ∀ y_ ∈ l0_0, ((y_.f0.size ≤ 9223372036854775807) ∧ (y_.f1.length ≤ 9223372036854775807 ∧ ∀ z_ ∈ y_.f1, ((Lit.int .u8 z_).wf = true)) ∧ (y_.f2.length ≤ 9223372036854775807 ∧ ∀ z_ ∈ y_.f2, ((Lit.int .u8 z_).wf = true)))) (hw1 : l1.length ≤ 9223372036854775807 ∧ ∀ y_ ∈ l1, (((Lit.int .i64 y_.f0).wf = true) ∧ (y_.f1.size ≤ 9223372036854775807) ∧ (y_.f2.size ≤ 9223372036854775807) ∧ (y_.f3.length ≤ 9223372036854775807 ∧ ∀ z_ ∈ y_.f3, ((Lit.int .u8 z_).wf = true)) ∧ ((Lit.int .i64 y_.f4).wf = true))) : ∃ k, laws_FnExactPlayDisk.f k l0_0 l1 = some true := by
  refine EvE ?_
  unfold laws_FnExactPlayDisk.f
  obtain ⟨t, h1, h1b, h3⟩ := szDiskB l0_0 hw0.1 (fun y hy => ⟨(hw0.2 y hy).1, (hw0.2 y hy).2.1.1, (hw0.2 y hy).2.2.1⟩)
  simp only [EvB h1]
  by_cases h : t < 0
  · simp only [if_pos h]; exact EvN
  obtain ⟨u, g1, g3⟩ := szOps l1 t (by omega) (by omega) hw1.1 (fun y hy => ⟨(hw1.2 y hy).2.1, (hw1.2 y hy).2.2.1, (hw1.2 y hy).2.2.2.1.1⟩)
  simp only [if_neg h, EvB g1]
  by_cases hu : u < 0
  · simp only [if_pos hu]; exact EvN
  have h3 := h3 (by omega)
  have g3 := g3 (by omega)
  have hT := toDisk l0_0 h3.1 h3.2
  have hO := toOps l1 g3.1 g3.2
  have hw : wfD (l0_0.map conv101) := fun r hr => by
    obtain ⟨y, hy, rfl⟩ := List.mem_map.1 hr
    exact ⟨(hw0.2 y hy).1, h3.2 y hy⟩
  have hx : wfP (l1.map conv90) := fun r hr => by
    obtain ⟨y, hy, rfl⟩ := List.mem_map.1 hr
    exact ⟨(hw1.2 y hy).2.1, (hw1.2 y hy).2.2.1, g3.2 y hy⟩
  have hl : (l0_0.map conv101).length ≤ 1048576 := by rw [List.length_map]; exact h3.1
  have hxl : (l1.map conv90).length ≤ 1048576 := by rw [List.length_map]; exact g3.1
  generalize l0_0.map conv101 = l at hT hw hl
  generalize l1.map conv90 = x at hO hx hxl
  have hS := spec_play l x hl hw hx
  have hI := impl_play l x hl hw hx
  have hc := play_le l x
  generalize playM l x = r at hS hI hc
  obtain ⟨b, q⟩ := r
  simp only at hc
  have hwb := hc.2.1
  have hE := eqDisk l (by omega) (fun y hy => by have := hw y hy; omega)
  have hQ := eqDisk b (by omega) (fun y hy => by have := hwb y hy; omega)
  have hX := eqOps x (by omega) (fun y hy => by have := (hx y hy).2.2; omega)
  have hQB := eqBools q (by omega)
  have hm : (l.length : Int) * ((2097153 : Nat) : Int) ≤ 1048576 * 2097153 := Int.mul_le_mul (by omega) (by omega) (by omega) (by omega)
  have hm2 : (b.length : Int) * ((2097153 : Nat) : Int) ≤ 1048577 * 2097153 := Int.mul_le_mul (by omega) (by omega) (by omega) (by omega)
  obtain ⟨m, l', m1, m2, mB, _⟩ := markFS 2097153 (by omega) l.length 0 l 1 rfl (by omega) (fun y hy => by have := hw y hy; omega) (by omega) (by omega)
  replace m1 : Ev (fun k => laws_markDisk.f k l 1) (m, l') := m1
  obtain ⟨m3, x', o1, o2⟩ := markOps x m hxl (fun y hy => (hx y hy).2.2) (by omega) (by omega)
  obtain ⟨n, b', q1, q2, qB, _, _, q3⟩ := markFS 2097153 (by omega) b.length 0 b 1 rfl (by omega) (fun y hy => by have := hwb y hy; omega) (by omega) (by omega)
  replace q1 : Ev (fun k => laws_markDisk.f k b 1) (n, b') := q1
  replace q3 : Ev (fun k => laws_heldDisk.f k b' 1) n := by
    have q3 : Ev (fun k => laws_heldFileS.f k b' 1) n := q3
    unfold laws_heldDisk.f
    simp only [EvB q3, if_neg (show ¬ n < 0 by omega)]
    exact EvN
  obtain ⟨n2, q', s1, s2, s3⟩ := markBools q n (by omega) (by omega) (by omega)
  simp only [if_neg hu, EvB hT, EvB hO, EvB hS, EvB hI, EvB hQ, EvB hX, EvB hQB, if_true, EvB hE, EvB m1, EvB o1, if_neg (show ¬ m3 < 0 by omega), EvB q1, EvB q3, EvB s1, EvB s3, if_neg (show ¬ n < 0 by omega), if_neg (show ¬ n2 < 0 by omega)]
  exact EvN
end Go.Proofs.YtmgeffgcihfpcaaDoor.Pure

namespace Go.Proofs.YtmgeffgcihfpcaaDoor.Opens
set_option linter.unusedVariables false
set_option linter.unusedSimpArgs false
open Go.RowKit Go.Proofs.YtmgeffgcihfpcaaDoorW.PrintWords
def Opens (P : Program) (t : TypeId) {α : Type} (d : Kd α) (ok : α → Prop) : Prop :=
  P.cellsOf t = d.sz ∧ ∀ (H : Type) (enc : TypeId × Value → H) (w : World) (spare : Nat → Bool) (fuel : Nat) (cs : List Value) (x : DataW H × List MemPlace), DataW.trod enc P w 0 spare true fuel t cs = some x → ∃ a : α, d.K w a cs ∧ ok a
variable {P : Program}
theorem opens_int {t : TypeId} {k : IntKind} (ht : P.underlying t = some (.int k)) (hc : P.cellsOf t = 1) : Opens P t (Kd.int k) (fun a => (Lit.int k a).wf = true) :=
  ⟨hc, fun _ _ _ _ _ _ _ h => by
    obtain ⟨n, rfl, _, hw⟩ := DataW.trod_int ht h
    exact ⟨n, rfl, hw⟩⟩
theorem opens_string {t : TypeId} (ht : P.underlying t = some .string) (hc : P.cellsOf t = 1) : Opens P t Kd.string (fun a => a.size ≤ 9223372036854775807) :=
  ⟨hc, fun _ _ _ _ _ _ _ h => by
    obtain ⟨n, rfl, _, hw⟩ := DataW.trod_string ht h
    exact ⟨n, rfl, hw⟩⟩
theorem add_add (a : Addr) (i j : Nat) : (a.add i).add j = a.add (i + j) := by
  unfold Addr.add
  by_cases hi : i = 0 <;> by_cases hj : j = 0 <;> simp [hi, hj, Nat.add_assoc]
theorem opens_slice {t e : TypeId} {α : Type} {d : Kd α} {ok : α → Prop} (ht : P.underlying t = some (.slice e)) (hc : P.cellsOf t = 1) (hd : Opens P e d ok) :
    Opens P t (Kd.slice e d) (fun l => l.length ≤ 9223372036854775807 ∧ ∀ a ∈ l, ok a) :=
  ⟨hc, fun H enc w spare fuel cs x h => by
    rcases Deep.open_slice ht h with ⟨rfl, _⟩ | ⟨a, len, cap, m, n, D, Pl, rfl, _, hl, hm, hmm, hxx, hx⟩
    · exact ⟨[], ⟨none, 0, rfl, Nat.le_refl _, rfl, Nat.zero_le _, fun h => absurd h (Nat.lt_irrefl _)⟩, Nat.zero_le _, fun _ h => nomatch h⟩
    have hlm : len ≤ m := by rw [hmm]; split <;> omega
    have hex : ∀ i, i < len → ∃ b : α, ∃ cs', w.cells? 0 (a.add (i * P.cellsOf e)) (P.cellsOf e) = some cs' ∧ d.K w b cs' ∧ ok b := fun i hi => by
      obtain ⟨cs', h1, h2⟩ := hx i (Nat.lt_of_lt_of_le hi hlm)
      obtain ⟨b, hb⟩ := hd.2 H enc w spare n cs' _ h2
      exact ⟨b, cs', h1, hb.1, hb.2⟩
    have hml : len ≤ 9223372036854775807 := by unfold maxLen at hm; omega
    obtain ⟨l, hll, hat⟩ : ∃ l : List α, l.length = len ∧ ∀ i p, l[i]? = some p → ∃ cs', w.cells? 0 (a.add (i * P.cellsOf e)) (P.cellsOf e) = some cs' ∧ d.K w p cs' ∧ ok p := by
      clear hx hlm hmm hl hm hml hxx h
      induction len with
      | zero => exact ⟨[], rfl, fun i p h => by simp at h⟩
      | succ len ih =>
        obtain ⟨l, hll, hat⟩ := ih (fun i hi => hex i (Nat.lt_succ_of_lt hi))
        obtain ⟨b, hb⟩ := hex len (Nat.lt_succ_self _)
        refine ⟨l ++ [b], by simp [hll], fun i p h => ?_⟩
        rcases Nat.lt_or_ge i l.length with hi | hi
        · rw [List.getElem?_append_left hi] at h
          exact hat i p h
        rw [List.getElem?_append_right hi] at h
        have hi0 : i - l.length = 0 := by
          rcases Nat.eq_zero_or_pos (i - l.length) with h0 | h0
          · exact h0
          rw [List.getElem?_eq_none (by simp; omega)] at h
          cases h
        rw [hi0] at h
        have : b = p := by simpa using h
        subst this
        have : i = len := by omega
        subst this
        exact hb
    subst hll
    refine ⟨l, ⟨some a, cap, rfl, hl, rfl, hml, fun _ => ⟨a, rfl, fun j p hj => ?_⟩⟩, hml, fun b hb => ?_⟩
    · obtain ⟨cs', h1, hk, _⟩ := hat j p hj
      obtain ⟨_, hlen, hcell⟩ := World.cells?_some h1
      refine ⟨cs', hlen.trans hd.1, hk, fun i u hu => ?_⟩
      have hi : i < P.cellsOf e := by
        have := (List.getElem?_eq_some_iff.1 hu).1
        omega
      have := hcell i hi
      rw [hu, add_add, hd.1] at this
      exact this
    obtain ⟨i, hi⟩ := List.getElem?_of_mem hb
    obtain ⟨_, _, _, hok⟩ := hat i b hi
    exact hok⟩
def OpensF (P : Program) (fs : List Field) (off : Nat) {α : Type} (d : Kd α) (ok : α → Prop) : Prop :=
  ∀ (H : Type) (enc : TypeId × Value → H) (w : World) (spare : Nat → Bool) (n : Nat) (cs : List Value), (∀ f, f ∈ fs → ∃ y, DataW.trod enc P w 0 spare true n f.type ((cs.drop f.offset).take (P.cellsOf f.type)) = some y) → cs.length = off + d.sz → ∃ a : α, d.K w a (cs.drop off) ∧ ok a
theorem opens_last {f : Field} {off : Nat} {α : Type} {d : Kd α} {ok : α → Prop} (ho : f.offset = off) (hd : Opens P f.type d ok) : OpensF P [f] off d ok := fun H enc w spare n cs hf hl => by
  obtain ⟨y, hy⟩ := hf f (List.mem_singleton.2 rfl)
  rw [ho, List.take_of_length_le (by rw [List.length_drop, hl, hd.1]; omega)] at hy
  exact hd.2 H enc w spare n _ y hy
theorem opens_field {f : Field} {fs : List Field} {off : Nat} {α β : Type} {d : Kd α} {d' : Kd β} {ok : α → Prop} {ok' : β → Prop} (ho : f.offset = off) (hd : Opens P f.type d ok) (hr : OpensF P fs (off + d.sz) d' ok') :
    OpensF P (f :: fs) off (Kd.pair d d') (fun p => ok p.1 ∧ ok' p.2) := fun H enc w spare n cs hf hl => by
  obtain ⟨y, hy⟩ := hf f (List.mem_cons_self ..)
  have hz : (Kd.pair d d').sz = d.sz + d'.sz := rfl
  rw [ho, hd.1] at hy
  obtain ⟨a, ha, hoa⟩ := hd.2 H enc w spare n _ y hy
  obtain ⟨b, hb, hob⟩ := hr H enc w spare n cs (fun g hg => hf g (List.mem_cons_of_mem _ hg)) (by omega)
  refine ⟨(a, b), ⟨(cs.drop off).take d.sz, cs.drop (off + d.sz), ?_, ha, hb⟩, hoa, hob⟩
  rw [← List.drop_drop, List.take_append_drop]
theorem opens_struct {t : TypeId} {fs : Array Field} {α : Type} {d : Kd α} {ok : α → Prop} (ht : P.underlying t = some (.struct fs)) (hc : P.cellsOf t = d.sz) (hf : OpensF P fs.toList 0 d ok) : Opens P t d ok :=
  ⟨hc, fun H enc w spare fuel cs x h => by
    obtain ⟨xs, n, _, _, hlen, hxs, hi⟩ := DataW.trod_struct ht h
    have := hf H enc w spare n cs (fun f hm => by
      obtain ⟨i, hi'⟩ := List.getElem?_of_mem hm
      have hq := hi i f (by simpa using hi')
      have hlt : i < xs.length := by
        have := (List.getElem?_eq_some_iff.1 hi').1
        rw [hxs]
        simpa using this
      rw [List.getElem?_eq_getElem hlt] at hq
      exact ⟨_, hq⟩) (by omega)
    simpa using this⟩
theorem opens_iso {t : TypeId} {α β : Type} {d : Kd α} {ok : α → Prop} (f : β → α) (g : α → β) (hfg : ∀ a, f (g a) = a) (h : Opens P t d ok) : Opens P t (Kd.iso d f) (fun b => ok (f b)) :=
  ⟨h.1, fun H enc w spare fuel cs x hx => by
    obtain ⟨a, ha, hok⟩ := h.2 H enc w spare fuel cs x hx
    exact ⟨g a, by show d.K w (f (g a)) cs; rw [hfg]; exact ha, by show ok (f (g a)); rw [hfg]; exact hok⟩⟩
end Go.Proofs.YtmgeffgcihfpcaaDoor.Opens
