/- Merged texts below the law FnExactWalCompact: Go functions as Lean functions, their contracts, and plain lemmas. -/
import Derived.Test.YtcgojdhbphocgaaDoorQFnExactWalCompact23
import Derived.Test.YtcgojdhbphocgaaDoorQFnExactWalCompact29
import Derived.Test.YtcgojdhbphocgaaDoorVFnExactWalCompactOT
namespace Go.Proofs.YtcgojdhbphocgaaDoor.F
open Go.RowKit Go.Proofs.YtcgojdhbphocgaaDoorW.PrintWords Go.Proofs.YtcgojdhbphocgaaDoorW.PrintWords.Kd Go.Proofs.YtcgojdhbphocgaaDoorW.PrintMore.Kd Go.Proofs.YtcgojdhbphocgaaDoorW.PrintLast Go.Proofs.YtcgojdhbphocgaaDoorW.PrintMore
attribute [local go_sem] max2_int min2_int max_two min_two max_three min_three max_four min_four   -- for this text's walks alone
set_option linter.unusedVariables false
set_option linter.unusedSimpArgs false
def spec_RemoveFile.j0 : Nat → ByteArray → Bool → List (S55) → Option ((List (S55)) × Bool)
 | 0, _, _, _ => none
 | k + 1, x1, x14, x636000 => if x14 = true then ((spec_l03Copy.f k x636000).bind fun t639 => (some (t639, false))) else ((spec_l03Without.f k x636000 x1).bind fun t642 => (some (t642, true)))
def spec_RemoveFile.f (k : Nat) (l0_0 : List (S55)) (a1 : ByteArray) : Option ((List (S55)) × Bool) := (spec_DiskOk.f k l0_0).bind fun t637 => (if t637 = true then ((spec_l03Find.f k l0_0 a1).bind fun t638 => (spec_RemoveFile.j0 k a1 (decide (t638 < 0)) l0_0)) else (spec_RemoveFile.j0 k a1 true l0_0))
set_option maxHeartbeats 8000000 in
set_option maxRecDepth 100000 in
theorem spec_RemoveFile.calls (k : Nat) (A0_0 : Option Addr) (c0_0 : Nat) (l0_0 : List (S55)) (a1 : ByteArray) (r1 : List (S55)) (r2 : Bool) (w : World) (hr0_0 : Kd.C k55 w A0_0 l0_0.length l0_0) (hc0_0 : l0_0.length ≤ c0_0) (h : spec_RemoveFile.f k l0_0 a1 = some (r1, r2)) :
  Calls Tryd.prog 63 #[.agg #[.slice A0_0 l0_0.length c0_0], .string a1] w fun e w' => ∃ v0_ : Value, e = .returned (.tuple #[.agg #[v0_], .bool r2]) ∧ Kd.S k55 55 w' w.heap.size (fun _ => True) v0_ r1 ∧ Below w.heap.size w w' := by
 have hu28 := Tryd.underlying28
 have HR0_0 := Zh hr0_0
 have HC0_0 := Zh hc0_0
 clear hr0_0 hc0_0
 have HB := Zh (Below.refl w.heap.size w)
 have H : ((spec_DiskOk.f k l0_0).bind fun t637 => (if t637 = true then ((spec_l03Find.f k l0_0 a1).bind fun t638 => (spec_RemoveFile.j0 k a1 (decide (t638 < 0)) l0_0)) else (spec_RemoveFile.j0 k a1 true l0_0))) = some (r1, r2) := h
 clear h
 have HC3 := Zh H
 clear H
 go_enter Tryd.func63, Tryd.ntmps63
 go_upto_region 1 with (first | ((with_reducible refine gate_dst (N := 2) rfl ?_); refine box_event ?hg (N := 2) ?hd (cs := #[.slice A0_0 l0_0.length c0_0]) (t := 28) ?hr ?_; (case hd => rfl); (case hg => rfl); (case hr => first | (go_simp; done) | (go_simp; rfl)); intro gb635 hg w4 hbox hb; have n0_ := Zh (Zl Zs hb); have n1_ := Zh (hbox); have n2_ := Zh ((by rw [hg]; exact (below_size Zs) : w.heap.size ≤ gb635)); have n3_ := Zh ((by rw [hg]; exact (below_size Zs) : w.heap.size ≤ gb635)); clear HB; have HB := n0_; have BK635 := n1_; have GW635 := n2_; have GE635 := n3_; clear n0_ n1_ n2_ n3_; clear hb hbox hg) | ((with_reducible refine gate_dst (N := 4) rfl ?_); refine box_event ?hg (N := 4) ?hd (cs := #[.slice none 0 0]) (t := 28) ?hr ?_; (case hd => rfl); (case hg => rfl); (case hr => first | (go_simp; done) | (go_simp; rfl)); intro gb636 hg w5 hbox hb; have n0_ := Zh (Zm (g := gb635) (o := .cells #[.slice A0_0 l0_0.length c0_0] 28 (0, 0)) Zk hb); have n1_ := Zh (Zl Zs hb); have n2_ := Zh (hbox); have n3_ := Zh ((by rw [hg]; exact (below_size Zs) : w.heap.size ≤ gb636)); have n4_ := Zh ((by rw [hg]; exact (below_size Zs) : w.heap.size ≤ gb636)); have n5_ := Zh ((by rw [hg]; exact Nat.ne_of_lt (blk_lt (g := gb635) (o := .cells #[.slice A0_0 l0_0.length c0_0] 28 (0, 0)) Zk) : gb635 ≠ gb636)); have n6_ := Zh ((by rw [hg]; exact Nat.ne_of_gt (blk_lt (g := gb635) (o := .cells #[.slice A0_0 l0_0.length c0_0] 28 (0, 0)) Zk) : gb636 ≠ gb635)); clear BK635; clear HB; have BK635 := n0_; have HB := n1_; have BK636 := n2_; have GW636 := n3_; have GE636 := n4_; have NB635_636 := n5_; have NB636_635 := n6_; clear n0_ n1_ n2_ n3_ n4_ n5_ n6_; clear hb hbox hg))
 (try simp only [Act.put, List.setIfInBounds_toArray, List.set_cons_zero, List.set_cons_succ])
 go_cut [14] (fun v14 wc => ∃ (kq : Nat) (x14_2 : Bool), v14 = .bool x14_2 ∧ Aside0 (spec_RemoveFile.j0 kq a1 x14_2 l0_0 = some (r1, r2)) ∧ Aside0 (kq ≤ k) ∧ Aside0 (wc.heap[gb635]? = some (.cells #[(.slice A0_0 l0_0.length c0_0)] 28 (0, 0))) ∧ Aside0 (wc.heap[gb636]? = some (.cells #[(.slice none 0 0)] 28 (0, 0))) ∧ Aside0 (Below w.heap.size w wc))
 case first =>
  have H := HC3.out
  clear HC3
  replace H := Option.bind_eq_some_iff.mp H
  obtain ⟨t637, A60, H⟩ := H
  replace H : (if t637 = true then ((spec_l03Find.f k l0_0 a1).bind fun t638 => (spec_RemoveFile.j0 k a1 (decide (t638 < 0)) l0_0)) else (spec_RemoveFile.j0 k a1 true l0_0)) = some (r1, r2) := H
  have A6 := Zh A60
  clear A60
  by_cases c7 : t637 = true
  ·
   subst c7
   have H1 : ((spec_l03Find.f k l0_0 a1).bind fun t638 => (spec_RemoveFile.j0 k a1 (decide (t638 < 0)) l0_0)) = some (r1, r2) := by rw [if_pos rfl] at H; exact H
   clear H
   have H := H1
   clear H1
   replace H := Option.bind_eq_some_iff.mp H
   obtain ⟨t638, A80, H⟩ := H
   replace H : (spec_RemoveFile.j0 k a1 (decide (t638 < 0)) l0_0) = some (r1, r2) := H
   have A8 := Zh A80
   clear A80
   have H' := Zh H
   clear H
   have hnb9 := NB635_636.out
   have hnc9 := NB636_635.out
   have hcz10_0 : w5.cell? ⟨gb635, 0, none⟩ = some (.slice A0_0 l0_0.length c0_0) := (blk_cell BK635.out 0).trans rfl
   have hfz10_0 := Zn BK635.out 0
   go_wp2_with (first | ((with_reducible refine gate_callee (f := 84) rfl ?_); refine goesL_ (some 7) rfl rfl Tryd.func84 (by kernel_rfl) rfl #[.agg #[.slice A0_0 l0_0.length c0_0]] rfl (by (try simp only [List.map_toArray, List.map_cons, List.map_nil]); first | done | rfl | (simp only [List.length_drop, List.length_take]; rfl)) ?_; (with_reducible refine (spec_DiskOk.calls k _ _ l0_0 true _ ?side1 ?side2 A6.out).mono ?_); (case side1 => repeat (first | exact (C_below HR0_0.out HB.out) | (with_reducible refine C_alloc ?_ _) | (with_reducible refine C_drewN ?_ _) | (with_reducible refine C_drew ?_))); (case side2 => exact HC0_0.out); rintro e w11 ⟨rfl, hb⟩; refine ⟨_, rfl, ?_⟩; have n0_ := Zh (Zm (g := gb635) (o := .cells #[.slice A0_0 l0_0.length c0_0] 28 (0, 0)) Zk hb); have n1_ := Zh (Zm (g := gb636) (o := .cells #[.slice none 0 0] 28 (0, 0)) Zk hb); have n2_ := Zh (Zl Zs hb); clear BK635; clear BK636; clear HB; have BK635 := n0_; have BK636 := n1_; have HB := n2_; clear n0_ n1_ n2_; (try clear hb); (try clear hb2); (try clear hk); (try clear hi); have hcz12_0 : w11.cell? ⟨gb635, 0, none⟩ = some (.slice A0_0 l0_0.length c0_0) := (blk_cell BK635.out 0).trans rfl; have hfz12_0 := Zn BK635.out 0) | (go_at_call 83; (with_reducible refine (spec_l03Find.calls k _ _ l0_0 a1 t638 _ ?side1 ?side2 A8.out).mono ?_); (case side1 => repeat (first | exact (C_below HR0_0.out HB.out) | (with_reducible refine C_alloc ?_ _) | (with_reducible refine C_drewN ?_ _) | (with_reducible refine C_drew ?_))); (case side2 => exact HC0_0.out); rintro e w13 ⟨rfl, hb⟩; have n0_ := Zh (Zm (g := gb635) (o := .cells #[.slice A0_0 l0_0.length c0_0] 28 (0, 0)) Zk hb); have n1_ := Zh (Zm (g := gb636) (o := .cells #[.slice none 0 0] 28 (0, 0)) Zk hb); have n2_ := Zh (Zl Zs hb); clear BK635; clear BK636; clear HB; have BK635 := n0_; have BK636 := n1_; have HB := n2_; clear n0_ n1_ n2_; (try clear hb); (try clear hb2); (try clear hk); (try clear hi)))
   go_meet
   case rel => exact ⟨_, (decide (t638 < 0)), (by first | rfl | (simp; done) | (simp [*]; done)), H', ⟨by first | omega | exact Nat.le_refl _⟩, ⟨by (with_reducible repeat (first | refine Za ?_ _ | refine Zb ?_ | refine blk_alloc ?_ _)); exact BK635.out⟩, ⟨by (with_reducible repeat (first | refine Za ?_ _ | refine Zb ?_ | refine blk_alloc ?_ _)); exact BK636.out⟩, ⟨by repeat (first | (with_reducible first | exact HB.out | apply Zf | apply Zd | apply Ze | refine Zg ?_ GE635.out | refine Zg ?_ GE636.out) | exact HB.out)⟩⟩
  replace c7 := Bool.eq_false_iff.mpr c7
  subst c7
  have H1 : (spec_RemoveFile.j0 k a1 true l0_0) = some (r1, r2) := by rw [if_neg (show ¬ (false = true) by decide)] at H; exact H
  clear H
  have H := H1
  clear H1
  have H' := Zh H
  clear H
  have hnb14 := NB635_636.out
  have hnc14 := NB636_635.out
  have hcz15_0 : w5.cell? ⟨gb635, 0, none⟩ = some (.slice A0_0 l0_0.length c0_0) := (blk_cell BK635.out 0).trans rfl
  have hfz15_0 := Zn BK635.out 0
  go_wp2_with (first | ((with_reducible refine gate_callee (f := 84) rfl ?_); refine goesL_ (some 7) rfl rfl Tryd.func84 (by kernel_rfl) rfl #[.agg #[.slice A0_0 l0_0.length c0_0]] rfl (by (try simp only [List.map_toArray, List.map_cons, List.map_nil]); first | done | rfl | (simp only [List.length_drop, List.length_take]; rfl)) ?_; (with_reducible refine (spec_DiskOk.calls k _ _ l0_0 false _ ?side1 ?side2 A6.out).mono ?_); (case side1 => repeat (first | exact (C_below HR0_0.out HB.out) | (with_reducible refine C_alloc ?_ _) | (with_reducible refine C_drewN ?_ _) | (with_reducible refine C_drew ?_))); (case side2 => exact HC0_0.out); rintro e w16 ⟨rfl, hb⟩; refine ⟨_, rfl, ?_⟩; have n0_ := Zh (Zm (g := gb635) (o := .cells #[.slice A0_0 l0_0.length c0_0] 28 (0, 0)) Zk hb); have n1_ := Zh (Zm (g := gb636) (o := .cells #[.slice none 0 0] 28 (0, 0)) Zk hb); have n2_ := Zh (Zl Zs hb); clear BK635; clear BK636; clear HB; have BK635 := n0_; have BK636 := n1_; have HB := n2_; clear n0_ n1_ n2_; (try clear hb); (try clear hb2); (try clear hk); (try clear hi)))
  go_meet
  case rel => exact ⟨_, (true), (by first | rfl | (simp; done) | (simp [*]; done)), H', ⟨by first | omega | exact Nat.le_refl _⟩, ⟨by (with_reducible repeat (first | refine Za ?_ _ | refine Zb ?_ | refine blk_alloc ?_ _)); exact BK635.out⟩, ⟨by (with_reducible repeat (first | refine Za ?_ _ | refine Zb ?_ | refine blk_alloc ?_ _)); exact BK636.out⟩, ⟨by repeat (first | (with_reducible first | exact HB.out | apply Zf | apply Zd | apply Ze | refine Zg ?_ GE635.out | refine Zg ?_ GE636.out) | exact HB.out)⟩⟩
 case rest =>
  clear HC3
  try clear c1
  try clear p2
  try clear c6
  try clear c7
  try clear c8
  try clear c9
  try clear c14
  try clear hcz10_0
  try clear hcz12_0
  try clear hcz15_0
  try clear hfz10_0
  try clear hfz12_0
  try clear hfz15_0
  obtain ⟨kq, x14_2, rfl, HA, HJ2, BK635, BK636, HB⟩ := hcut
  cases kq with
  | zero => exact absurd HA.out (by simp [spec_RemoveFile.j0])
  | succ kj2 =>
   have H := HA.out
   clear HA
   simp only [spec_RemoveFile.j0] at H
   by_cases c17 : x14_2 = true
   ·
    subst c17
    have H1 : ((spec_l03Copy.f kj2 l0_0).bind fun t639 => (some (t639, false))) = some (r1, r2) := by rw [if_pos rfl] at H; exact H
    clear H
    have H := H1
    clear H1
    replace H := Option.bind_eq_some_iff.mp H
    obtain ⟨t639, A180, H⟩ := H
    replace H : (some (t639, false)) = some (r1, r2) := H
    have A18 := Zh A180
    clear A180
    simp only [Option.some.injEq, Prod.mk.injEq] at H
    obtain ⟨rfl, rfl⟩ := H
    have hnb19 := NB635_636.out
    have hnc19 := NB636_635.out
    have hcz20_0 : wc.cell? ⟨gb635, 0, none⟩ = some (.slice A0_0 l0_0.length c0_0) := (blk_cell BK635.out 0).trans rfl
    have hfz20_0 := Zn BK635.out 0
    go_wp2_with (first | ((with_reducible refine gate_callee (f := 54) rfl ?_); refine goesL_ (some 16) rfl rfl Tryd.func54 (by kernel_rfl) rfl #[.agg #[.slice A0_0 l0_0.length c0_0]] rfl (by (try simp only [List.map_toArray, List.map_cons, List.map_nil]); first | done | rfl | (simp only [List.length_drop, List.length_take]; rfl)) ?_; (with_reducible refine (spec_l03Copy.calls kj2 _ _ l0_0 t639 _ ?side1 ?side2 A18.out).mono ?_); (case side1 => repeat (first | exact (C_below HR0_0.out HB.out) | (with_reducible refine C_alloc ?_ _) | (with_reducible refine C_drewN ?_ _) | (with_reducible refine C_drew ?_))); (case side2 => exact HC0_0.out); rintro e w21 ⟨v640, rfl, ho0, hb⟩; refine ⟨_, rfl, ?_⟩; have n0_ := Zh (S_lower ho0 (below_size Zs)); have n1_ := Zh (Zm (g := gb635) (o := .cells #[.slice A0_0 l0_0.length c0_0] 28 (0, 0)) Zk hb); have n2_ := Zh (Zm (g := gb636) (o := .cells #[.slice none 0 0] 28 (0, 0)) Zk hb); have n3_ := Zh (Zl Zs hb); clear BK635; clear BK636; clear HB; have HO641 := n0_; have BK635 := n1_; have BK636 := n2_; have HB := n3_; clear n0_ n1_ n2_ n3_; (try clear hb); (try clear hb2); (try clear hk); (try clear hi); (try clear ho0); obtain ⟨Ao22, co22, eo22⟩ := S_slice HO641.out; subst eo22; have hcz23_0 : w21.cell? ⟨gb636, 0, none⟩ = some (.slice none 0 0) := (blk_cell BK636.out 0).trans rfl; have hfz23_0 := Zn BK636.out 0))
    refine Zq (results_ct rfl _ _ gb636 28 #[.slice Ao22 t639.length co22] (0, 0) _ rfl (by (with_reducible repeat (first | refine Za ?_ _ | refine Zb ?_ | refine blk_alloc ?_ _)); refine blk_put (cs := #[.slice none 0 0]) ?_ 0 _ rfl; (with_reducible repeat (first | refine Za ?_ _ | refine Zb ?_ | refine blk_alloc ?_ _)); exact BK636.out) Tryd.underlying28 rfl (by kernel_rfl)) rfl ?_
    exact ⟨_, by first | rfl | (simp [errW_none, errW_some] <;> rfl) | (simp [*, errW_none, errW_some] <;> rfl), by (with_reducible repeat (first | apply S_alloc | apply S_drewN | apply S_drew)); exact S_mono (S_far (p := ⟨gb636, 0, none⟩) (S_types HO641.out BK636.out (by decide)) (fun _ hk => hk.2) (.slice Ao22 t639.length co22)) (fun _ hk => trivial), by repeat (first | (with_reducible first | exact HB.out | apply Zf | apply Zd | apply Ze | refine Zg ?_ GE635.out | refine Zg ?_ GE636.out) | exact HB.out)⟩
   replace c17 := Bool.eq_false_iff.mpr c17
   subst c17
   have H1 : ((spec_l03Without.f kj2 l0_0 a1).bind fun t642 => (some (t642, true))) = some (r1, r2) := by rw [if_neg (show ¬ (false = true) by decide)] at H; exact H
   clear H
   have H := H1
   clear H1
   replace H := Option.bind_eq_some_iff.mp H
   obtain ⟨t642, A240, H⟩ := H
   replace H : (some (t642, true)) = some (r1, r2) := H
   have A24 := Zh A240
   clear A240
   simp only [Option.some.injEq, Prod.mk.injEq] at H
   obtain ⟨rfl, rfl⟩ := H
   have hnb25 := NB635_636.out
   have hnc25 := NB636_635.out
   have hcz26_0 : wc.cell? ⟨gb635, 0, none⟩ = some (.slice A0_0 l0_0.length c0_0) := (blk_cell BK635.out 0).trans rfl
   have hfz26_0 := Zn BK635.out 0
   go_wp2_with (first | ((with_reducible refine gate_callee (f := 95) rfl ?_); refine goesL_ (some 19) rfl rfl Tryd.func95 (by kernel_rfl) rfl #[.agg #[.slice A0_0 l0_0.length c0_0], .string a1] rfl (by (try simp only [List.map_toArray, List.map_cons, List.map_nil]); first | done | rfl | (simp only [List.length_drop, List.length_take]; rfl)) ?_; (with_reducible refine (spec_l03Without.calls kj2 _ _ l0_0 a1 t642 _ ?side1 ?side2 A24.out).mono ?_); (case side1 => repeat (first | exact (C_below HR0_0.out HB.out) | (with_reducible refine C_alloc ?_ _) | (with_reducible refine C_drewN ?_ _) | (with_reducible refine C_drew ?_))); (case side2 => exact HC0_0.out); rintro e w27 ⟨v643, rfl, ho0, hb⟩; refine ⟨_, rfl, ?_⟩; have n0_ := Zh (S_lower ho0 (below_size Zs)); have n1_ := Zh (Zm (g := gb635) (o := .cells #[.slice A0_0 l0_0.length c0_0] 28 (0, 0)) Zk hb); have n2_ := Zh (Zm (g := gb636) (o := .cells #[.slice none 0 0] 28 (0, 0)) Zk hb); have n3_ := Zh (Zl Zs hb); clear BK635; clear BK636; clear HB; have HO644 := n0_; have BK635 := n1_; have BK636 := n2_; have HB := n3_; clear n0_ n1_ n2_ n3_; (try clear hb); (try clear hb2); (try clear hk); (try clear hi); (try clear ho0); obtain ⟨Ao28, co28, eo28⟩ := S_slice HO644.out; subst eo28; have hcz29_0 : w27.cell? ⟨gb636, 0, none⟩ = some (.slice none 0 0) := (blk_cell BK636.out 0).trans rfl; have hfz29_0 := Zn BK636.out 0))
   refine Zq (results_ct rfl _ _ gb636 28 #[.slice Ao28 t642.length co28] (0, 0) _ rfl (by (with_reducible repeat (first | refine Za ?_ _ | refine Zb ?_ | refine blk_alloc ?_ _)); refine blk_put (cs := #[.slice none 0 0]) ?_ 0 _ rfl; (with_reducible repeat (first | refine Za ?_ _ | refine Zb ?_ | refine blk_alloc ?_ _)); exact BK636.out) Tryd.underlying28 rfl (by kernel_rfl)) rfl ?_
   exact ⟨_, by first | rfl | (simp [errW_none, errW_some] <;> rfl) | (simp [*, errW_none, errW_some] <;> rfl), by (with_reducible repeat (first | apply S_alloc | apply S_drewN | apply S_drew)); exact S_mono (S_far (p := ⟨gb636, 0, none⟩) (S_types HO644.out BK636.out (by decide)) (fun _ hk => hk.2) (.slice Ao28 t642.length co28)) (fun _ hk => trivial), by repeat (first | (with_reducible first | exact HB.out | apply Zf | apply Zd | apply Ze | refine Zg ?_ GE635.out | refine Zg ?_ GE636.out) | exact HB.out)⟩
def spec_Frames.l0 : Nat → List (List Int) → List Int → Int → Option (List Int)
 | 0, _, _, _ => none
 | k + 1, x0, x3, x4 => if x4 < (x0.length : Int) then (if 0 ≤ x4 then ((spec_Frame.f k (rd_L2 x0 x4)).bind fun t649 => (if (t649.length : Int) = 0 then (some ([] : List Int)) else ((spec_l01Join.f k x3 t649).bind fun t652 => (spec_Frames.l0 k x0 t652 (wrap64 (x4 + 1)))))) else (none)) else (some x3)
def spec_Frames.f (k : Nat) (l0 : List (List Int)) : Option (List Int) := if (l0.length : Int) > 200 then (some ([] : List Int)) else (spec_Frames.l0 k l0 (([] : List Int)) 0)
set_option maxHeartbeats 8000000 in
set_option maxRecDepth 100000 in
theorem spec_Frames.calls (k : Nat) (A0 : Option Addr) (c0 : Nat) (l0 : List (List Int)) (r : List Int) (w : World) (hr0 : Kd.C (Kd.slice 5 (Kd.int .u8)) w A0 l0.length l0) (hc0 : l0.length ≤ c0) (h : spec_Frames.f k l0 = some r) :
  Calls Tryd.prog 64 #[.slice A0 l0.length c0] w fun e w' => ∃ v0_ : Value, e = .returned (v0_) ∧ Kd.R (Kd.int .u8) 5 w' w.heap.size (fun _ => True) v0_ r ∧ Below w.heap.size w w' := by
 have HR0 := Zh hr0
 have HC0 := Zh hc0
 clear hr0 hc0
 have HB := Zh (Below.refl w.heap.size w)
 have H : (if (l0.length : Int) > 200 then (some ([] : List Int)) else (spec_Frames.l0 k l0 (([] : List Int)) 0)) = some r := h
 clear h
 by_cases c2 : (l0.length : Int) > 200
 ·
  rw [if_pos c2] at H
  have c2b0 : decide (200 < (l0.length : Int)) = true := decide_eq_true c2
  have c2b1 : decide (200 < l0.length) = true := decide_eq_true (by omega)
  clear c2
  obtain rfl := Option.some.inj H
  go_enter Tryd.func64, Tryd.ntmps64
  go_wp2
  go_ret
  exact ⟨_, by first | rfl | (simp [errW_none, errW_some] <;> rfl) | (simp [*, errW_none, errW_some] <;> rfl), by first | exact R_nil _ _ _ _ _ | exact N_nil _ _ _ _ _ | exact V_nil _ _ _ _ _ | exact Q_nil _ _ _ _ _ | exact S_nil _ _ _ _ _, by repeat (first | (with_reducible first | exact HB.out | apply Zf | apply Zd | apply Ze) | exact HB.out)⟩
 rw [if_neg c2] at H
 have c2b0 : decide (200 < (l0.length : Int)) = false := decide_eq_false c2
 have c2b1 : decide (200 < l0.length) = false := decide_eq_false (by omega)
 clear c2
 obtain ⟨y645, hy645⟩ : ∃ y_ : List Int, y_ = (([] : List Int)) := ⟨_, rfl⟩
 replace H : (spec_Frames.l0 k l0 y645 0) = some r := by first | (rw [hy645]; with_reducible exact H) | (have H2_ := (Option.bind_some _ _).symm.trans H; rw [hy645]; with_reducible exact H2_) | (have H2_ := (Option.bind_some _ _).symm.trans H; with_reducible exact H2_) | with_reducible exact H | (rw [hy645]; exact H) | exact H
 have Ny645 := Zh hy645
 clear hy645
 have H' := Zh H
 clear H
 go_enter Tryd.func64, Tryd.ntmps64
 go_wp2_with (first | ((with_reducible refine gate_dst (N := 9) rfl ?_); refine R_lit (Kd.int .u8) _ 5 ?hg (N := 9) ?hd (xs := ([] : List Int)) (inner := []) (ok := fun _ => True) (okp := fun _ => True) ?hr ?hp (fun _ hk => hk) trivial (Below.refl _ _) (Nat.le_refl _) (by simp) ?_; (case hd => rfl); (case hg => rfl); (case hr => first | (go_simp; done) | (go_simp; rfl)); (case hp => exact (Reps.none _ _)); intro v646 w3 ho4 hb hg_ hnew_; clear hg_ hnew_; (first | rw [← Ny645.out] at ho4 | (simp only [Int.reduceToNat] at ho4; rw [← Ny645.out] at ho4)); have n0_ := Zh (R_lower ho4 (below_size Zs)); have n1_ := Zh (Zl Zs hb); clear HB; have HO647 := n0_; have HB := n1_; clear n0_ n1_; clear hb ho4))
 go_loopg [3, 4] k (fun kq v3 v4 w' => ∃ (x3_1 : List Int) (x4_1 : Int), v4 = .int .i64 x4_1 ∧ Aside0 (spec_Frames.l0 kq l0 x3_1 x4_1 = some r) ∧ Aside0 (kq ≤ k) ∧ Aside0 (Kd.R (Kd.int .u8) 5 w' w.heap.size (fun _ => True) v3 x3_1) ∧ Aside0 (Below w.heap.size w w'))
 case atStart => exact ⟨(y645), (0), (by first | rfl | (simp; done) | (simp [*]; done)), H', ⟨Nat.le_refl _⟩, ⟨by (with_reducible repeat (first | apply R_alloc | apply R_drewN | apply R_drew)); exact HO647.out⟩, ⟨by repeat (first | (with_reducible first | exact HB.out | apply Zf | apply Zd | apply Ze) | exact HB.out)⟩⟩
 case round =>
  clear H'
  try clear c2
  try clear c2b0
  try clear c2b1
  try clear p2
  obtain ⟨x3_1, x4_1, rfl, HA, HK1, HO_3, HB⟩ := hrel
  cases gk with
  | zero => exact absurd HA.out (by simp [spec_Frames.l0])
  | succ k1 =>
   have H := HA.out
   clear HA
   simp only [spec_Frames.l0] at H
   by_cases c5 : x4_1 < (l0.length : Int)
   ·
    rw [if_pos c5] at H
    have c5b0 : decide (x4_1 < (l0.length : Int)) = true := decide_eq_true c5
    clear c5
    by_cases c6 : 0 ≤ x4_1
    ·
     rw [if_pos c6] at H
     have c6b0 : decide (0 ≤ x4_1) = true := decide_eq_true c6
     clear c6
     replace H := Option.bind_eq_some_iff.mp H
     obtain ⟨t649, A70, H⟩ := H
     replace H : (if (t649.length : Int) = 0 then (some ([] : List Int)) else ((spec_l01Join.f k1 x3_1 t649).bind fun t652 => (spec_Frames.l0 k1 l0 t652 (wrap64 (x4_1 + 1))))) = some r := H
     have A7 := Zh A70
     clear A70
     by_cases c8 : (t649.length : Int) = 0
     ·
      rw [if_pos c8] at H
      have c8b0 : ((t649.length : Int) == 0) = true := beq_iff_eq.mpr c8
      have c8b1 : ((t649.length : Int) != 0) = false := bne_eq_false_iff_eq.mpr c8
      clear c8
      obtain rfl := Option.some.inj H
      have p648 : 0 ≤ (x4_1 : Int) := Zo
      have q648 : x4_1 < (l0.length : Int) := Zo
      obtain ⟨ad648, A648_0, c648_0, e648, hx648_0, hl648_0, hi648_0⟩ := at_L2 HR0.out x4_1 p648 q648
      cases e648
      replace hx648_0 := Zc HB.out hx648_0
      have HR648_0 := Zh hi648_0
      have HC648_0 := Zh hl648_0
      clear hi648_0 hl648_0
      replace p648 := eq_true p648
      replace q648 := eq_true q648
      go_wp2_with (first | ((with_reducible refine gate_callee (f := 58) rfl ?_); refine goesL_ (some 20) rfl rfl Tryd.func58 (by kernel_rfl) rfl #[.slice A648_0 (rd_L2 l0 x4_1).length c648_0] rfl (by (try simp only [List.map_toArray, List.map_cons, List.map_nil]); first | done | rfl | (simp only [List.length_drop, List.length_take]; rfl)) ?_; (with_reducible refine (spec_Frame.calls k1 _ _ (rd_L2 l0 x4_1) t649 _ ?side1 ?side2 A7.out).mono ?_); (case side1 => repeat (first | exact (C_below HR648_0.out HB.out) | (with_reducible refine C_alloc ?_ _) | (with_reducible refine C_drewN ?_ _) | (with_reducible refine C_drew ?_))); (case side2 => exact HC648_0.out); rintro e w9 ⟨v650, rfl, ho0, hb⟩; refine ⟨_, rfl, ?_⟩; have n0_ := Zh (R_elder' (by (with_reducible repeat (first | apply R_alloc | apply R_drewN | apply R_drew)); exact HO_3.out) (R_base ho0) hb); have n1_ := Zh (R_lower (R_new' ho0 (R_lt (by (with_reducible repeat (first | apply R_alloc | apply R_drewN | apply R_drew)); exact HO_3.out))) (below_size Zs)); have n2_ := Zh (Zl Zs hb); clear HO_3; clear HB; have HO_3 := n0_; have HO651 := n1_; have HB := n2_; clear n0_ n1_ n2_; (try clear hb); (try clear hb2); (try clear hk); (try clear hi); (try clear ho0); obtain ⟨Ao10, co10, eo10⟩ := R_slice HO651.out; subst eo10))
      go_ret
      exact ⟨_, by first | rfl | (simp [errW_none, errW_some] <;> rfl) | (simp [*, errW_none, errW_some] <;> rfl), by first | exact R_nil _ _ _ _ _ | exact N_nil _ _ _ _ _ | exact V_nil _ _ _ _ _ | exact Q_nil _ _ _ _ _ | exact S_nil _ _ _ _ _, by repeat (first | (with_reducible first | exact HB.out | apply Zf | apply Zd | apply Ze) | exact HB.out)⟩
     rw [if_neg c8] at H
     have c8b0 : ((t649.length : Int) == 0) = false := beq_eq_false_iff_ne.mpr c8
     have c8b1 : ((t649.length : Int) != 0) = true := bne_iff_ne.mpr c8
     have c8b2 : ¬ (t649 = []) := fun h_ => c8 (by rw [h_]; rfl)
     replace H := Option.bind_eq_some_iff.mp H
     obtain ⟨t652, A110, H⟩ := H
     replace H : (spec_Frames.l0 k1 l0 t652 (wrap64 (x4_1 + 1))) = some r := H
     have A11 := Zh A110
     clear A110
     have H' := Zh H
     clear H
     have p648 : 0 ≤ (x4_1 : Int) := Zo
     have q648 : x4_1 < (l0.length : Int) := Zo
     obtain ⟨ad648, A648_0, c648_0, e648, hx648_0, hl648_0, hi648_0⟩ := at_L2 HR0.out x4_1 p648 q648
     cases e648
     replace hx648_0 := Zc HB.out hx648_0
     have HR648_0 := Zh hi648_0
     have HC648_0 := Zh hl648_0
     clear hi648_0 hl648_0
     replace p648 := eq_true p648
     replace q648 := eq_true q648
     go_wp2_with (first | ((with_reducible refine gate_callee (f := 58) rfl ?_); refine goesL_ (some 20) rfl rfl Tryd.func58 (by kernel_rfl) rfl #[.slice A648_0 (rd_L2 l0 x4_1).length c648_0] rfl (by (try simp only [List.map_toArray, List.map_cons, List.map_nil]); first | done | rfl | (simp only [List.length_drop, List.length_take]; rfl)) ?_; (with_reducible refine (spec_Frame.calls k1 _ _ (rd_L2 l0 x4_1) t649 _ ?side1 ?side2 A7.out).mono ?_); (case side1 => repeat (first | exact (C_below HR648_0.out HB.out) | (with_reducible refine C_alloc ?_ _) | (with_reducible refine C_drewN ?_ _) | (with_reducible refine C_drew ?_))); (case side2 => exact HC648_0.out); rintro e w12 ⟨v650, rfl, ho0, hb⟩; refine ⟨_, rfl, ?_⟩; have n0_ := Zh (R_elder' (by (with_reducible repeat (first | apply R_alloc | apply R_drewN | apply R_drew)); exact HO_3.out) (R_base ho0) hb); have n1_ := Zh (R_lower (R_new' ho0 (R_lt (by (with_reducible repeat (first | apply R_alloc | apply R_drewN | apply R_drew)); exact HO_3.out))) (below_size Zs)); have n2_ := Zh (Zl Zs hb); clear HO_3; clear HB; have HO_3 := n0_; have HO651 := n1_; have HB := n2_; clear n0_ n1_ n2_; (try clear hb); (try clear hb2); (try clear hk); (try clear hi); (try clear ho0); obtain ⟨Ao13, co13, eo13⟩ := R_slice HO651.out; subst eo13; obtain ⟨Ao14, co14, eo14⟩ := R_slice HO_3.out; subst eo14) | ((with_reducible refine gate_callee (f := 85) rfl ?_); refine goesL_ (some 26) rfl rfl Tryd.func85 (by kernel_rfl) rfl #[.slice Ao14 x3_1.length co14, .slice Ao13 t649.length co13] rfl (by (try simp only [List.map_toArray, List.map_cons, List.map_nil]); first | done | rfl | (simp only [List.length_drop, List.length_take]; rfl)) ?_; (with_reducible refine (spec_l01Join.calls k1 _ _ x3_1 _ _ t649 t652 _ ?side1 ?side2 ?side3 ?side4 A11.out).mono ?_); (case side1 => repeat (first | exact (R_reads' HO_3.out).2.2 | (with_reducible refine C_alloc ?_ _) | (with_reducible refine C_drewN ?_ _) | (with_reducible refine C_drew ?_))); (case side2 => exact (R_reads' HO_3.out).2.1); (case side3 => repeat (first | exact (R_reads' HO651.out).2.2 | (with_reducible refine C_alloc ?_ _) | (with_reducible refine C_drewN ?_ _) | (with_reducible refine C_drew ?_))); (case side4 => exact (R_reads' HO651.out).2.1); rintro e w15 ⟨v653, rfl, ho0, hb⟩; refine ⟨_, rfl, ?_⟩; have n0_ := Zh (R_elder' (by (with_reducible repeat (first | apply R_alloc | apply R_drewN | apply R_drew)); exact HO_3.out) (R_base ho0) hb); have n1_ := Zh (R_elder' (by (with_reducible repeat (first | apply R_alloc | apply R_drewN | apply R_drew)); exact HO651.out) (R_base ho0) hb); have n2_ := Zh (R_lower (R_new' (R_new' ho0 (R_lt (by (with_reducible repeat (first | apply R_alloc | apply R_drewN | apply R_drew)); exact HO_3.out))) (R_lt (by (with_reducible repeat (first | apply R_alloc | apply R_drewN | apply R_drew)); exact HO651.out))) (below_size Zs)); have n3_ := Zh (Zl Zs hb); clear HO_3; clear HO651; clear HB; have HO_3 := n0_; have HO651 := n1_; have HO654 := n2_; have HB := n3_; clear n0_ n1_ n2_ n3_; (try clear hb); (try clear hb2); (try clear hk); (try clear hi); (try clear ho0)))
     go_roundg k1
     case measure => have := HK1.out; omega
     case rel => exact ⟨(t652), (wrap64 (x4_1 + 1)), (by first | rfl | (simp; done) | (simp [*]; done)), H', ⟨by have := HK1.out; omega⟩, ⟨by (with_reducible repeat (first | apply R_alloc | apply R_drewN | apply R_drew)); exact R_mono HO654.out (fun _ hk => trivial)⟩, ⟨by repeat (first | (with_reducible first | exact HB.out | apply Zf | apply Zd | apply Ze) | exact HB.out)⟩⟩
    rw [if_neg c6] at H
    exact absurd H (by simp)
   rw [if_neg c5] at H
   have c5b0 : decide (x4_1 < (l0.length : Int)) = false := decide_eq_false c5
   clear c5
   obtain rfl := Option.some.inj H
   go_wp2
   go_ret
   exact ⟨_, by first | rfl | (simp [errW_none, errW_some] <;> rfl) | (simp [*, errW_none, errW_some] <;> rfl), by (with_reducible repeat (first | apply R_alloc | apply R_drewN | apply R_drew)); exact HO_3.out, by repeat (first | (with_reducible first | exact HB.out | apply Zf | apply Zd | apply Ze) | exact HB.out)⟩
def spec_SyncFile.f (k : Nat) (l0_0 : List (S55)) (a1 : ByteArray) : Option ((List (S55)) × Bool) := (spec_Content.f k l0_0 a1).bind fun bt135 => (if bt135.2 = true then ((spec_l03Put.f k l0_0 a1 bt135.1 ([] : List Int)).bind fun t139 => (some (t139, true))) else ((spec_l03Copy.f k l0_0).bind fun t142 => (some (t142, false))))
set_option maxHeartbeats 8000000 in
set_option maxRecDepth 100000 in
theorem spec_SyncFile.calls (k : Nat) (A0_0 : Option Addr) (c0_0 : Nat) (l0_0 : List (S55)) (a1 : ByteArray) (r1 : List (S55)) (r2 : Bool) (w : World) (hr0_0 : Kd.C k55 w A0_0 l0_0.length l0_0) (hc0_0 : l0_0.length ≤ c0_0) (h : spec_SyncFile.f k l0_0 a1 = some (r1, r2)) :
  Calls Tryd.prog 43 #[.agg #[.slice A0_0 l0_0.length c0_0], .string a1] w fun e w' => ∃ v0_ : Value, e = .returned (.tuple #[.agg #[v0_], .bool r2]) ∧ Kd.S k55 55 w' w.heap.size (fun _ => True) v0_ r1 ∧ Below w.heap.size w w' := by
 have hu28 := Tryd.underlying28
 have hu55 := Tryd.underlying55
 have HR0_0 := Zh hr0_0
 have HC0_0 := Zh hc0_0
 clear hr0_0 hc0_0
 have HB := Zh (Below.refl w.heap.size w)
 have H : ((spec_Content.f k l0_0 a1).bind fun bt135 => (if bt135.2 = true then ((spec_l03Put.f k l0_0 a1 bt135.1 ([] : List Int)).bind fun t139 => (some (t139, true))) else ((spec_l03Copy.f k l0_0).bind fun t142 => (some (t142, false))))) = some (r1, r2) := h
 clear h
 replace H := Option.bind_eq_some_iff.mp H
 obtain ⟨⟨t135, t138⟩, A30, H⟩ := H
 replace H : (if t138 = true then ((spec_l03Put.f k l0_0 a1 t135 ([] : List Int)).bind fun t139 => (some (t139, true))) else ((spec_l03Copy.f k l0_0).bind fun t142 => (some (t142, false)))) = some (r1, r2) := H
 have A3 := Zh A30
 clear A30
 by_cases c4 : t138 = true
 ·
  subst c4
  have H1 : ((spec_l03Put.f k l0_0 a1 t135 ([] : List Int)).bind fun t139 => (some (t139, true))) = some (r1, r2) := by rw [if_pos rfl] at H; exact H
  clear H
  have H := H1
  clear H1
  replace H := Option.bind_eq_some_iff.mp H
  obtain ⟨t139, A50, H⟩ := H
  replace H : (some (t139, true)) = some (r1, r2) := H
  have A5 := Zh A50
  clear A50
  simp only [Option.some.injEq, Prod.mk.injEq] at H
  obtain ⟨rfl, rfl⟩ := H
  go_enter Tryd.func43, Tryd.ntmps43
  go_wp2_with (first | ((with_reducible refine gate_dst (N := 2) rfl ?_); refine box_event ?hg (N := 2) ?hd (cs := #[.slice A0_0 l0_0.length c0_0]) (t := 28) ?hr ?_; (case hd => rfl); (case hg => rfl); (case hr => first | (go_simp; done) | (go_simp; rfl)); intro gb133 hg w6 hbox hb; have n0_ := Zh (Zl Zs hb); have n1_ := Zh (hbox); have n2_ := Zh ((by rw [hg]; exact (below_size Zs) : w.heap.size ≤ gb133)); have n3_ := Zh ((by rw [hg]; exact (below_size Zs) : w.heap.size ≤ gb133)); clear HB; have HB := n0_; have BK133 := n1_; have GW133 := n2_; have GE133 := n3_; clear n0_ n1_ n2_ n3_; clear hb hbox hg) | ((with_reducible refine gate_dst (N := 4) rfl ?_); refine box_event ?hg (N := 4) ?hd (cs := #[.slice none 0 0]) (t := 28) ?hr ?_; (case hd => rfl); (case hg => rfl); (case hr => first | (go_simp; done) | (go_simp; rfl)); intro gb134 hg w7 hbox hb; have n0_ := Zh (Zm (g := gb133) (o := .cells #[.slice A0_0 l0_0.length c0_0] 28 (0, 0)) Zk hb); have n1_ := Zh (Zl Zs hb); have n2_ := Zh (hbox); have n3_ := Zh ((by rw [hg]; exact (below_size Zs) : w.heap.size ≤ gb134)); have n4_ := Zh ((by rw [hg]; exact (below_size Zs) : w.heap.size ≤ gb134)); have n5_ := Zh ((by rw [hg]; exact Nat.ne_of_lt (blk_lt (g := gb133) (o := .cells #[.slice A0_0 l0_0.length c0_0] 28 (0, 0)) Zk) : gb133 ≠ gb134)); have n6_ := Zh ((by rw [hg]; exact Nat.ne_of_gt (blk_lt (g := gb133) (o := .cells #[.slice A0_0 l0_0.length c0_0] 28 (0, 0)) Zk) : gb134 ≠ gb133)); clear BK133; clear HB; have BK133 := n0_; have HB := n1_; have BK134 := n2_; have GW134 := n3_; have GE134 := n4_; have NB133_134 := n5_; have NB134_133 := n6_; clear n0_ n1_ n2_ n3_ n4_ n5_ n6_; clear hb hbox hg; have hnb8 := NB133_134.out; have hnc8 := NB134_133.out; have hcz9_0 : w7.cell? ⟨gb133, 0, none⟩ = some (.slice A0_0 l0_0.length c0_0) := (blk_cell BK133.out 0).trans rfl; have hfz9_0 := Zn BK133.out 0) | ((with_reducible refine gate_callee (f := 50) rfl ?_); refine goesL_ (some 11) rfl rfl Tryd.func50 (by kernel_rfl) rfl #[.agg #[.slice A0_0 l0_0.length c0_0], .string a1] rfl (by (try simp only [List.map_toArray, List.map_cons, List.map_nil]); first | done | rfl | (simp only [List.length_drop, List.length_take]; rfl)) ?_; (with_reducible refine (spec_Content.calls k _ _ l0_0 a1 t135 true _ ?side1 ?side2 A3.out).mono ?_); (case side1 => repeat (first | exact (C_below HR0_0.out HB.out) | (with_reducible refine C_alloc ?_ _) | (with_reducible refine C_drewN ?_ _) | (with_reducible refine C_drew ?_))); (case side2 => exact HC0_0.out); rintro e w10 ⟨v136, rfl, ho0, hb⟩; refine ⟨_, rfl, ?_⟩; have n0_ := Zh (R_lower ho0 (below_size Zs)); have n1_ := Zh (Zm (g := gb133) (o := .cells #[.slice A0_0 l0_0.length c0_0] 28 (0, 0)) Zk hb); have n2_ := Zh (Zm (g := gb134) (o := .cells #[.slice none 0 0] 28 (0, 0)) Zk hb); have n3_ := Zh (Zl Zs hb); clear BK133; clear BK134; clear HB; have HO137 := n0_; have BK133 := n1_; have BK134 := n2_; have HB := n3_; clear n0_ n1_ n2_ n3_; (try clear hb); (try clear hb2); (try clear hk); (try clear hi); (try clear ho0); have hcz11_0 : w10.cell? ⟨gb133, 0, none⟩ = some (.slice A0_0 l0_0.length c0_0) := (blk_cell BK133.out 0).trans rfl; have hfz11_0 := Zn BK133.out 0; obtain ⟨Ao12, co12, eo12⟩ := R_slice HO137.out; subst eo12) | ((with_reducible refine gate_callee (f := 77) rfl ?_); refine goesL_ (some 22) rfl rfl Tryd.func77 (by kernel_rfl) rfl #[.agg #[.slice A0_0 l0_0.length c0_0], .agg #[.string a1, .slice Ao12 t135.length co12, .slice none 0 0]] rfl (by (try simp only [List.map_toArray, List.map_cons, List.map_nil]); first | done | rfl | (simp only [List.length_drop, List.length_take]; rfl)) ?_; (refine (spec_l03Put.calls k _ _ l0_0 a1 _ _ t135 _ _ ([] : List Int) t139 _ ?side1 ?side2 ?side3 ?side4 ?side5 ?side6 A5.out).mono ?_); (case side1 => repeat (first | exact (C_below HR0_0.out HB.out) | (with_reducible refine C_alloc ?_ _) | (with_reducible refine C_drewN ?_ _) | (with_reducible refine C_drew ?_))); (case side2 => exact HC0_0.out); (case side3 => repeat (first | exact (R_reads' HO137.out).2.2 | (with_reducible refine C_alloc ?_ _) | (with_reducible refine C_drewN ?_ _) | (with_reducible refine C_drew ?_))); (case side4 => exact (R_reads' HO137.out).2.1); (case side5 => exact C_nil _ _); (case side6 => exact Nat.le_refl _); rintro e w13 ⟨v140, rfl, ho0, hb⟩; refine ⟨_, rfl, ?_⟩; have n0_ := Zh (R_below (by (with_reducible repeat (first | apply R_alloc | apply R_drewN | apply R_drew)); exact HO137.out) hb); have n1_ := Zh (S_lower (S_new' ho0 (R_lt (by (with_reducible repeat (first | apply R_alloc | apply R_drewN | apply R_drew)); exact HO137.out))) (below_size Zs)); have n2_ := Zh (Zm (g := gb133) (o := .cells #[.slice A0_0 l0_0.length c0_0] 28 (0, 0)) Zk hb); have n3_ := Zh (Zm (g := gb134) (o := .cells #[.slice none 0 0] 28 (0, 0)) Zk hb); have n4_ := Zh (Zl Zs hb); clear HO137; clear BK133; clear BK134; clear HB; have HO137 := n0_; have HO141 := n1_; have BK133 := n2_; have BK134 := n3_; have HB := n4_; clear n0_ n1_ n2_ n3_ n4_; (try clear hb); (try clear hb2); (try clear hk); (try clear hi); (try clear ho0); obtain ⟨Ao14, co14, eo14⟩ := S_slice HO141.out; subst eo14; have hcz15_0 : w13.cell? ⟨gb134, 0, none⟩ = some (.slice none 0 0) := (blk_cell BK134.out 0).trans rfl; have hfz15_0 := Zn BK134.out 0))
  refine Zq (results_ct rfl _ _ gb134 28 #[.slice Ao14 t139.length co14] (0, 0) _ rfl (by (with_reducible repeat (first | refine Za ?_ _ | refine Zb ?_ | refine blk_alloc ?_ _)); refine blk_put (cs := #[.slice none 0 0]) ?_ 0 _ rfl; (with_reducible repeat (first | refine Za ?_ _ | refine Zb ?_ | refine blk_alloc ?_ _)); exact BK134.out) Tryd.underlying28 rfl (by kernel_rfl)) rfl ?_
  exact ⟨_, by first | rfl | (simp [errW_none, errW_some] <;> rfl) | (simp [*, errW_none, errW_some] <;> rfl), by (with_reducible repeat (first | apply S_alloc | apply S_drewN | apply S_drew)); exact S_mono (S_far (p := ⟨gb134, 0, none⟩) (S_types HO141.out BK134.out (by decide)) (fun _ hk => hk.2) (.slice Ao14 t139.length co14)) (fun _ hk => trivial), by repeat (first | (with_reducible first | exact HB.out | apply Zf | apply Zd | apply Ze | refine Zg ?_ GE133.out | refine Zg ?_ GE134.out) | exact HB.out)⟩
 replace c4 := Bool.eq_false_iff.mpr c4
 subst c4
 have H1 : ((spec_l03Copy.f k l0_0).bind fun t142 => (some (t142, false))) = some (r1, r2) := by rw [if_neg (show ¬ (false = true) by decide)] at H; exact H
 clear H
 have H := H1
 clear H1
 replace H := Option.bind_eq_some_iff.mp H
 obtain ⟨t142, A160, H⟩ := H
 replace H : (some (t142, false)) = some (r1, r2) := H
 have A16 := Zh A160
 clear A160
 simp only [Option.some.injEq, Prod.mk.injEq] at H
 obtain ⟨rfl, rfl⟩ := H
 go_enter Tryd.func43, Tryd.ntmps43
 go_wp2_with (first | ((with_reducible refine gate_dst (N := 2) rfl ?_); refine box_event ?hg (N := 2) ?hd (cs := #[.slice A0_0 l0_0.length c0_0]) (t := 28) ?hr ?_; (case hd => rfl); (case hg => rfl); (case hr => first | (go_simp; done) | (go_simp; rfl)); intro gb133 hg w17 hbox hb; have n0_ := Zh (Zl Zs hb); have n1_ := Zh (hbox); have n2_ := Zh ((by rw [hg]; exact (below_size Zs) : w.heap.size ≤ gb133)); have n3_ := Zh ((by rw [hg]; exact (below_size Zs) : w.heap.size ≤ gb133)); clear HB; have HB := n0_; have BK133 := n1_; have GW133 := n2_; have GE133 := n3_; clear n0_ n1_ n2_ n3_; clear hb hbox hg) | ((with_reducible refine gate_dst (N := 4) rfl ?_); refine box_event ?hg (N := 4) ?hd (cs := #[.slice none 0 0]) (t := 28) ?hr ?_; (case hd => rfl); (case hg => rfl); (case hr => first | (go_simp; done) | (go_simp; rfl)); intro gb134 hg w18 hbox hb; have n0_ := Zh (Zm (g := gb133) (o := .cells #[.slice A0_0 l0_0.length c0_0] 28 (0, 0)) Zk hb); have n1_ := Zh (Zl Zs hb); have n2_ := Zh (hbox); have n3_ := Zh ((by rw [hg]; exact (below_size Zs) : w.heap.size ≤ gb134)); have n4_ := Zh ((by rw [hg]; exact (below_size Zs) : w.heap.size ≤ gb134)); have n5_ := Zh ((by rw [hg]; exact Nat.ne_of_lt (blk_lt (g := gb133) (o := .cells #[.slice A0_0 l0_0.length c0_0] 28 (0, 0)) Zk) : gb133 ≠ gb134)); have n6_ := Zh ((by rw [hg]; exact Nat.ne_of_gt (blk_lt (g := gb133) (o := .cells #[.slice A0_0 l0_0.length c0_0] 28 (0, 0)) Zk) : gb134 ≠ gb133)); clear BK133; clear HB; have BK133 := n0_; have HB := n1_; have BK134 := n2_; have GW134 := n3_; have GE134 := n4_; have NB133_134 := n5_; have NB134_133 := n6_; clear n0_ n1_ n2_ n3_ n4_ n5_ n6_; clear hb hbox hg; have hnb19 := NB133_134.out; have hnc19 := NB134_133.out; have hcz20_0 : w18.cell? ⟨gb133, 0, none⟩ = some (.slice A0_0 l0_0.length c0_0) := (blk_cell BK133.out 0).trans rfl; have hfz20_0 := Zn BK133.out 0) | ((with_reducible refine gate_callee (f := 50) rfl ?_); refine goesL_ (some 11) rfl rfl Tryd.func50 (by kernel_rfl) rfl #[.agg #[.slice A0_0 l0_0.length c0_0], .string a1] rfl (by (try simp only [List.map_toArray, List.map_cons, List.map_nil]); first | done | rfl | (simp only [List.length_drop, List.length_take]; rfl)) ?_; (with_reducible refine (spec_Content.calls k _ _ l0_0 a1 t135 false _ ?side1 ?side2 A3.out).mono ?_); (case side1 => repeat (first | exact (C_below HR0_0.out HB.out) | (with_reducible refine C_alloc ?_ _) | (with_reducible refine C_drewN ?_ _) | (with_reducible refine C_drew ?_))); (case side2 => exact HC0_0.out); rintro e w21 ⟨v136, rfl, ho0, hb⟩; refine ⟨_, rfl, ?_⟩; have n0_ := Zh (R_lower ho0 (below_size Zs)); have n1_ := Zh (Zm (g := gb133) (o := .cells #[.slice A0_0 l0_0.length c0_0] 28 (0, 0)) Zk hb); have n2_ := Zh (Zm (g := gb134) (o := .cells #[.slice none 0 0] 28 (0, 0)) Zk hb); have n3_ := Zh (Zl Zs hb); clear BK133; clear BK134; clear HB; have HO137 := n0_; have BK133 := n1_; have BK134 := n2_; have HB := n3_; clear n0_ n1_ n2_ n3_; (try clear hb); (try clear hb2); (try clear hk); (try clear hi); (try clear ho0); have hcz22_0 : w21.cell? ⟨gb133, 0, none⟩ = some (.slice A0_0 l0_0.length c0_0) := (blk_cell BK133.out 0).trans rfl; have hfz22_0 := Zn BK133.out 0) | ((with_reducible refine gate_callee (f := 54) rfl ?_); refine goesL_ (some 17) rfl rfl Tryd.func54 (by kernel_rfl) rfl #[.agg #[.slice A0_0 l0_0.length c0_0]] rfl (by (try simp only [List.map_toArray, List.map_cons, List.map_nil]); first | done | rfl | (simp only [List.length_drop, List.length_take]; rfl)) ?_; (with_reducible refine (spec_l03Copy.calls k _ _ l0_0 t142 _ ?side1 ?side2 A16.out).mono ?_); (case side1 => repeat (first | exact (C_below HR0_0.out HB.out) | (with_reducible refine C_alloc ?_ _) | (with_reducible refine C_drewN ?_ _) | (with_reducible refine C_drew ?_))); (case side2 => exact HC0_0.out); rintro e w23 ⟨v143, rfl, ho0, hb⟩; refine ⟨_, rfl, ?_⟩; have n0_ := Zh (R_below (by (with_reducible repeat (first | apply R_alloc | apply R_drewN | apply R_drew)); exact HO137.out) hb); have n1_ := Zh (S_lower (S_new' ho0 (R_lt (by (with_reducible repeat (first | apply R_alloc | apply R_drewN | apply R_drew)); exact HO137.out))) (below_size Zs)); have n2_ := Zh (Zm (g := gb133) (o := .cells #[.slice A0_0 l0_0.length c0_0] 28 (0, 0)) Zk hb); have n3_ := Zh (Zm (g := gb134) (o := .cells #[.slice none 0 0] 28 (0, 0)) Zk hb); have n4_ := Zh (Zl Zs hb); clear HO137; clear BK133; clear BK134; clear HB; have HO137 := n0_; have HO144 := n1_; have BK133 := n2_; have BK134 := n3_; have HB := n4_; clear n0_ n1_ n2_ n3_ n4_; (try clear hb); (try clear hb2); (try clear hk); (try clear hi); (try clear ho0); obtain ⟨Ao24, co24, eo24⟩ := S_slice HO144.out; subst eo24; have hcz25_0 : w23.cell? ⟨gb134, 0, none⟩ = some (.slice none 0 0) := (blk_cell BK134.out 0).trans rfl; have hfz25_0 := Zn BK134.out 0))
 refine Zq (results_ct rfl _ _ gb134 28 #[.slice Ao24 t142.length co24] (0, 0) _ rfl (by (with_reducible repeat (first | refine Za ?_ _ | refine Zb ?_ | refine blk_alloc ?_ _)); refine blk_put (cs := #[.slice none 0 0]) ?_ 0 _ rfl; (with_reducible repeat (first | refine Za ?_ _ | refine Zb ?_ | refine blk_alloc ?_ _)); exact BK134.out) Tryd.underlying28 rfl (by kernel_rfl)) rfl ?_
 exact ⟨_, by first | rfl | (simp [errW_none, errW_some] <;> rfl) | (simp [*, errW_none, errW_some] <;> rfl), by (with_reducible repeat (first | apply S_alloc | apply S_drewN | apply S_drew)); exact S_mono (S_far (p := ⟨gb134, 0, none⟩) (S_types HO144.out BK134.out (by decide)) (fun _ hk => hk.2) (.slice Ao24 t142.length co24)) (fun _ hk => trivial), by repeat (first | (with_reducible first | exact HB.out | apply Zf | apply Zd | apply Ze | refine Zg ?_ GE133.out | refine Zg ?_ GE134.out) | exact HB.out)⟩
def spec_RenameFile.j0 : Nat → ByteArray → ByteArray → Int → Bool → List (S55) → Option ((List (S55)) × Bool)
 | 0, _, _, _, _, _ => none
 | k + 1, x1, x2, x8, x24, x656000 => if x24 = true then ((spec_l03Copy.f k x656000).bind fun t660 => (some (t660, false))) else (if 0 ≤ x8 then (if x8 < (x656000.length : Int) then ((spec_l03Without.f k x656000 x1).bind fun t665 => ((spec_l03Put.f k t665 x2 ((rd_T55 x656000 x8).f1) ((rd_T55 x656000 x8).f2)).bind fun t668 => (some (t668, true)))) else (none)) else (none))
def spec_RenameFile.f (k : Nat) (l0_0 : List (S55)) (a1 : ByteArray) (a2 : ByteArray) : Option ((List (S55)) × Bool) := (spec_l03Find.f k l0_0 a1).bind fun t657 => ((spec_DiskOk.f k l0_0).bind fun t658 => (if t658 = true then (if t657 < 0 then (spec_RenameFile.j0 k a1 a2 t657 true l0_0) else ((spec_l01Name.f k a2).bind fun t659 => (spec_RenameFile.j0 k a1 a2 t657 (!t659) l0_0))) else (spec_RenameFile.j0 k a1 a2 t657 true l0_0)))
set_option maxHeartbeats 8000000 in
set_option maxRecDepth 100000 in
theorem spec_RenameFile.calls (k : Nat) (A0_0 : Option Addr) (c0_0 : Nat) (l0_0 : List (S55)) (a1 : ByteArray) (a2 : ByteArray) (r1 : List (S55)) (r2 : Bool) (w : World) (hr0_0 : Kd.C k55 w A0_0 l0_0.length l0_0) (hc0_0 : l0_0.length ≤ c0_0) (h : spec_RenameFile.f k l0_0 a1 a2 = some (r1, r2)) :
  Calls Tryd.prog 65 #[.agg #[.slice A0_0 l0_0.length c0_0], .string a1, .string a2] w fun e w' => ∃ v0_ : Value, e = .returned (.tuple #[.agg #[v0_], .bool r2]) ∧ Kd.S k55 55 w' w.heap.size (fun _ => True) v0_ r1 ∧ Below w.heap.size w w' := by
 have hu28 := Tryd.underlying28
 have hu55 := Tryd.underlying55
 have HR0_0 := Zh hr0_0
 have HC0_0 := Zh hc0_0
 clear hr0_0 hc0_0
 have HB := Zh (Below.refl w.heap.size w)
 have H : ((spec_l03Find.f k l0_0 a1).bind fun t657 => ((spec_DiskOk.f k l0_0).bind fun t658 => (if t658 = true then (if t657 < 0 then (spec_RenameFile.j0 k a1 a2 t657 true l0_0) else ((spec_l01Name.f k a2).bind fun t659 => (spec_RenameFile.j0 k a1 a2 t657 (!t659) l0_0))) else (spec_RenameFile.j0 k a1 a2 t657 true l0_0)))) = some (r1, r2) := h
 clear h
 replace H := Option.bind_eq_some_iff.mp H
 obtain ⟨t657, A40, H⟩ := H
 replace H : ((spec_DiskOk.f k l0_0).bind fun t658 => (if t658 = true then (if t657 < 0 then (spec_RenameFile.j0 k a1 a2 t657 true l0_0) else ((spec_l01Name.f k a2).bind fun t659 => (spec_RenameFile.j0 k a1 a2 t657 (!t659) l0_0))) else (spec_RenameFile.j0 k a1 a2 t657 true l0_0))) = some (r1, r2) := H
 have A4 := Zh A40
 clear A40
 have HC5 := Zh H
 clear H
 go_enter Tryd.func65, Tryd.ntmps65
 go_upto_region 2 with (first | ((with_reducible refine gate_dst (N := 3) rfl ?_); refine box_event ?hg (N := 3) ?hd (cs := #[.slice A0_0 l0_0.length c0_0]) (t := 28) ?hr ?_; (case hd => rfl); (case hg => rfl); (case hr => first | (go_simp; done) | (go_simp; rfl)); intro gb655 hg w6 hbox hb; have n0_ := Zh (Zl Zs hb); have n1_ := Zh (hbox); have n2_ := Zh ((by rw [hg]; exact (below_size Zs) : w.heap.size ≤ gb655)); have n3_ := Zh ((by rw [hg]; exact (below_size Zs) : w.heap.size ≤ gb655)); clear HB; have HB := n0_; have BK655 := n1_; have GW655 := n2_; have GE655 := n3_; clear n0_ n1_ n2_ n3_; clear hb hbox hg) | ((with_reducible refine gate_dst (N := 6) rfl ?_); refine box_event ?hg (N := 6) ?hd (cs := #[.slice none 0 0]) (t := 28) ?hr ?_; (case hd => rfl); (case hg => rfl); (case hr => first | (go_simp; done) | (go_simp; rfl)); intro gb656 hg w7 hbox hb; have n0_ := Zh (Zm (g := gb655) (o := .cells #[.slice A0_0 l0_0.length c0_0] 28 (0, 0)) Zk hb); have n1_ := Zh (Zl Zs hb); have n2_ := Zh (hbox); have n3_ := Zh ((by rw [hg]; exact (below_size Zs) : w.heap.size ≤ gb656)); have n4_ := Zh ((by rw [hg]; exact (below_size Zs) : w.heap.size ≤ gb656)); have n5_ := Zh ((by rw [hg]; exact Nat.ne_of_lt (blk_lt (g := gb655) (o := .cells #[.slice A0_0 l0_0.length c0_0] 28 (0, 0)) Zk) : gb655 ≠ gb656)); have n6_ := Zh ((by rw [hg]; exact Nat.ne_of_gt (blk_lt (g := gb655) (o := .cells #[.slice A0_0 l0_0.length c0_0] 28 (0, 0)) Zk) : gb656 ≠ gb655)); clear BK655; clear HB; have BK655 := n0_; have HB := n1_; have BK656 := n2_; have GW656 := n3_; have GE656 := n4_; have NB655_656 := n5_; have NB656_655 := n6_; clear n0_ n1_ n2_ n3_ n4_ n5_ n6_; clear hb hbox hg; have hnb8 := NB655_656.out; have hnc8 := NB656_655.out; have hcz9_0 : w7.cell? ⟨gb655, 0, none⟩ = some (.slice A0_0 l0_0.length c0_0) := (blk_cell BK655.out 0).trans rfl; have hfz9_0 := Zn BK655.out 0) | ((with_reducible refine gate_callee (f := 83) rfl ?_); refine goesL_ (some 12) rfl rfl Tryd.func83 (by kernel_rfl) rfl #[.agg #[.slice A0_0 l0_0.length c0_0], .string a1] rfl (by (try simp only [List.map_toArray, List.map_cons, List.map_nil]); first | done | rfl | (simp only [List.length_drop, List.length_take]; rfl)) ?_; (with_reducible refine (spec_l03Find.calls k _ _ l0_0 a1 t657 _ ?side1 ?side2 A4.out).mono ?_); (case side1 => repeat (first | exact (C_below HR0_0.out HB.out) | (with_reducible refine C_alloc ?_ _) | (with_reducible refine C_drewN ?_ _) | (with_reducible refine C_drew ?_))); (case side2 => exact HC0_0.out); rintro e w10 ⟨rfl, hb⟩; refine ⟨_, rfl, ?_⟩; have n0_ := Zh (Zm (g := gb655) (o := .cells #[.slice A0_0 l0_0.length c0_0] 28 (0, 0)) Zk hb); have n1_ := Zh (Zm (g := gb656) (o := .cells #[.slice none 0 0] 28 (0, 0)) Zk hb); have n2_ := Zh (Zl Zs hb); clear BK655; clear BK656; clear HB; have BK655 := n0_; have BK656 := n1_; have HB := n2_; clear n0_ n1_ n2_; (try clear hb); (try clear hb2); (try clear hk); (try clear hi)))
 (try simp only [Act.put, List.setIfInBounds_toArray, List.set_cons_zero, List.set_cons_succ])
 go_cut [24] (fun v24 wc => ∃ (kq : Nat) (x24_4 : Bool), v24 = .bool x24_4 ∧ Aside0 (spec_RenameFile.j0 kq a1 a2 t657 x24_4 l0_0 = some (r1, r2)) ∧ Aside0 (kq ≤ k) ∧ Aside0 (wc.heap[gb655]? = some (.cells #[(.slice A0_0 l0_0.length c0_0)] 28 (0, 0))) ∧ Aside0 (wc.heap[gb656]? = some (.cells #[(.slice none 0 0)] 28 (0, 0))) ∧ Aside0 (Below w.heap.size w wc))
 case first =>
  have H := HC5.out
  clear HC5
  replace H := Option.bind_eq_some_iff.mp H
  obtain ⟨t658, A110, H⟩ := H
  replace H : (if t658 = true then (if t657 < 0 then (spec_RenameFile.j0 k a1 a2 t657 true l0_0) else ((spec_l01Name.f k a2).bind fun t659 => (spec_RenameFile.j0 k a1 a2 t657 (!t659) l0_0))) else (spec_RenameFile.j0 k a1 a2 t657 true l0_0)) = some (r1, r2) := H
  have A11 := Zh A110
  clear A110
  by_cases c12 : t658 = true
  ·
   subst c12
   have H1 : (if t657 < 0 then (spec_RenameFile.j0 k a1 a2 t657 true l0_0) else ((spec_l01Name.f k a2).bind fun t659 => (spec_RenameFile.j0 k a1 a2 t657 (!t659) l0_0))) = some (r1, r2) := by rw [if_pos rfl] at H; exact H
   clear H
   have H := H1
   clear H1
   by_cases c13 : t657 < 0
   ·
    rw [if_pos c13] at H
    have c13b0 : decide (t657 < 0) = true := decide_eq_true c13
    clear c13
    (first | rw [c13b0] | (simp only [i64_w, i32_w]; rw [c13b0]) | skip)
    have H' := Zh H
    clear H
    have hnb14 := NB655_656.out
    have hnc14 := NB656_655.out
    have hcz15_0 : w10.cell? ⟨gb655, 0, none⟩ = some (.slice A0_0 l0_0.length c0_0) := (blk_cell BK655.out 0).trans rfl
    have hfz15_0 := Zn BK655.out 0
    go_wp2_with (first | ((with_reducible refine gate_callee (f := 84) rfl ?_); refine goesL_ (some 14) rfl rfl Tryd.func84 (by kernel_rfl) rfl #[.agg #[.slice A0_0 l0_0.length c0_0]] rfl (by (try simp only [List.map_toArray, List.map_cons, List.map_nil]); first | done | rfl | (simp only [List.length_drop, List.length_take]; rfl)) ?_; (with_reducible refine (spec_DiskOk.calls k _ _ l0_0 true _ ?side1 ?side2 A11.out).mono ?_); (case side1 => repeat (first | exact (C_below HR0_0.out HB.out) | (with_reducible refine C_alloc ?_ _) | (with_reducible refine C_drewN ?_ _) | (with_reducible refine C_drew ?_))); (case side2 => exact HC0_0.out); rintro e w16 ⟨rfl, hb⟩; refine ⟨_, rfl, ?_⟩; have n0_ := Zh (Zm (g := gb655) (o := .cells #[.slice A0_0 l0_0.length c0_0] 28 (0, 0)) Zk hb); have n1_ := Zh (Zm (g := gb656) (o := .cells #[.slice none 0 0] 28 (0, 0)) Zk hb); have n2_ := Zh (Zl Zs hb); clear BK655; clear BK656; clear HB; have BK655 := n0_; have BK656 := n1_; have HB := n2_; clear n0_ n1_ n2_; (try clear hb); (try clear hb2); (try clear hk); (try clear hi)))
    go_meet
    case rel => exact ⟨_, (true), (by first | rfl | (simp; done) | (simp [*]; done)), H', ⟨by first | omega | exact Nat.le_refl _⟩, ⟨by (with_reducible repeat (first | refine Za ?_ _ | refine Zb ?_ | refine blk_alloc ?_ _)); exact BK655.out⟩, ⟨by (with_reducible repeat (first | refine Za ?_ _ | refine Zb ?_ | refine blk_alloc ?_ _)); exact BK656.out⟩, ⟨by repeat (first | (with_reducible first | exact HB.out | apply Zf | apply Zd | apply Ze | refine Zg ?_ GE655.out | refine Zg ?_ GE656.out) | exact HB.out)⟩⟩
   rw [if_neg c13] at H
   have c13b0 : decide (t657 < 0) = false := decide_eq_false c13
   clear c13
   (first | rw [c13b0] | (simp only [i64_w, i32_w]; rw [c13b0]) | skip)
   replace H := Option.bind_eq_some_iff.mp H
   obtain ⟨t659, A170, H⟩ := H
   replace H : (spec_RenameFile.j0 k a1 a2 t657 (!t659) l0_0) = some (r1, r2) := H
   have A17 := Zh A170
   clear A170
   have H' := Zh H
   clear H
   have hnb18 := NB655_656.out
   have hnc18 := NB656_655.out
   have hcz19_0 : w10.cell? ⟨gb655, 0, none⟩ = some (.slice A0_0 l0_0.length c0_0) := (blk_cell BK655.out 0).trans rfl
   have hfz19_0 := Zn BK655.out 0
   go_wp2_with (first | ((with_reducible refine gate_callee (f := 84) rfl ?_); refine goesL_ (some 14) rfl rfl Tryd.func84 (by kernel_rfl) rfl #[.agg #[.slice A0_0 l0_0.length c0_0]] rfl (by (try simp only [List.map_toArray, List.map_cons, List.map_nil]); first | done | rfl | (simp only [List.length_drop, List.length_take]; rfl)) ?_; (with_reducible refine (spec_DiskOk.calls k _ _ l0_0 true _ ?side1 ?side2 A11.out).mono ?_); (case side1 => repeat (first | exact (C_below HR0_0.out HB.out) | (with_reducible refine C_alloc ?_ _) | (with_reducible refine C_drewN ?_ _) | (with_reducible refine C_drew ?_))); (case side2 => exact HC0_0.out); rintro e w20 ⟨rfl, hb⟩; refine ⟨_, rfl, ?_⟩; have n0_ := Zh (Zm (g := gb655) (o := .cells #[.slice A0_0 l0_0.length c0_0] 28 (0, 0)) Zk hb); have n1_ := Zh (Zm (g := gb656) (o := .cells #[.slice none 0 0] 28 (0, 0)) Zk hb); have n2_ := Zh (Zl Zs hb); clear BK655; clear BK656; clear HB; have BK655 := n0_; have BK656 := n1_; have HB := n2_; clear n0_ n1_ n2_; (try clear hb); (try clear hb2); (try clear hk); (try clear hi)) | (go_at_call 90; (with_reducible refine (spec_l01Name.calls k a2 t659 _ A17.out).mono ?_); rintro e w' ⟨rfl, ⟨nd, rfl⟩⟩))
   go_meet
   case rel => exact ⟨_, (!t659), (by first | rfl | (simp; done) | (simp [*]; done)), H', ⟨by first | omega | exact Nat.le_refl _⟩, ⟨by (with_reducible repeat (first | refine Za ?_ _ | refine Zb ?_ | refine blk_alloc ?_ _)); exact BK655.out⟩, ⟨by (with_reducible repeat (first | refine Za ?_ _ | refine Zb ?_ | refine blk_alloc ?_ _)); exact BK656.out⟩, ⟨by repeat (first | (with_reducible first | exact HB.out | apply Zf | apply Zd | apply Ze | refine Zg ?_ GE655.out | refine Zg ?_ GE656.out) | exact HB.out)⟩⟩
  replace c12 := Bool.eq_false_iff.mpr c12
  subst c12
  have H1 : (spec_RenameFile.j0 k a1 a2 t657 true l0_0) = some (r1, r2) := by rw [if_neg (show ¬ (false = true) by decide)] at H; exact H
  clear H
  have H := H1
  clear H1
  have H' := Zh H
  clear H
  have hnb21 := NB655_656.out
  have hnc21 := NB656_655.out
  have hcz22_0 : w10.cell? ⟨gb655, 0, none⟩ = some (.slice A0_0 l0_0.length c0_0) := (blk_cell BK655.out 0).trans rfl
  have hfz22_0 := Zn BK655.out 0
  go_wp2_with (first | ((with_reducible refine gate_callee (f := 84) rfl ?_); refine goesL_ (some 14) rfl rfl Tryd.func84 (by kernel_rfl) rfl #[.agg #[.slice A0_0 l0_0.length c0_0]] rfl (by (try simp only [List.map_toArray, List.map_cons, List.map_nil]); first | done | rfl | (simp only [List.length_drop, List.length_take]; rfl)) ?_; (with_reducible refine (spec_DiskOk.calls k _ _ l0_0 false _ ?side1 ?side2 A11.out).mono ?_); (case side1 => repeat (first | exact (C_below HR0_0.out HB.out) | (with_reducible refine C_alloc ?_ _) | (with_reducible refine C_drewN ?_ _) | (with_reducible refine C_drew ?_))); (case side2 => exact HC0_0.out); rintro e w23 ⟨rfl, hb⟩; refine ⟨_, rfl, ?_⟩; have n0_ := Zh (Zm (g := gb655) (o := .cells #[.slice A0_0 l0_0.length c0_0] 28 (0, 0)) Zk hb); have n1_ := Zh (Zm (g := gb656) (o := .cells #[.slice none 0 0] 28 (0, 0)) Zk hb); have n2_ := Zh (Zl Zs hb); clear BK655; clear BK656; clear HB; have BK655 := n0_; have BK656 := n1_; have HB := n2_; clear n0_ n1_ n2_; (try clear hb); (try clear hb2); (try clear hk); (try clear hi)))
  go_meet
  case rel => exact ⟨_, (true), (by first | rfl | (simp; done) | (simp [*]; done)), H', ⟨by first | omega | exact Nat.le_refl _⟩, ⟨by (with_reducible repeat (first | refine Za ?_ _ | refine Zb ?_ | refine blk_alloc ?_ _)); exact BK655.out⟩, ⟨by (with_reducible repeat (first | refine Za ?_ _ | refine Zb ?_ | refine blk_alloc ?_ _)); exact BK656.out⟩, ⟨by repeat (first | (with_reducible first | exact HB.out | apply Zf | apply Zd | apply Ze | refine Zg ?_ GE655.out | refine Zg ?_ GE656.out) | exact HB.out)⟩⟩
 case rest =>
  clear HC5
  try clear c1
  try clear c2
  try clear p2
  try clear c6
  try clear c8
  try clear c12
  try clear c13
  try clear c13b0
  try clear c14
  try clear c18
  try clear c21
  try clear hcz15_0
  try clear hcz19_0
  try clear hcz22_0
  try clear hcz9_0
  try clear hfz15_0
  try clear hfz19_0
  try clear hfz22_0
  try clear hfz9_0
  obtain ⟨kq, x24_4, rfl, HA, HJ4, BK655, BK656, HB⟩ := hcut
  cases kq with
  | zero => exact absurd HA.out (by simp [spec_RenameFile.j0])
  | succ kj4 =>
   have H := HA.out
   clear HA
   simp only [spec_RenameFile.j0] at H
   by_cases c24 : x24_4 = true
   ·
    subst c24
    have H1 : ((spec_l03Copy.f kj4 l0_0).bind fun t660 => (some (t660, false))) = some (r1, r2) := by rw [if_pos rfl] at H; exact H
    clear H
    have H := H1
    clear H1
    replace H := Option.bind_eq_some_iff.mp H
    obtain ⟨t660, A250, H⟩ := H
    replace H : (some (t660, false)) = some (r1, r2) := H
    have A25 := Zh A250
    clear A250
    simp only [Option.some.injEq, Prod.mk.injEq] at H
    obtain ⟨rfl, rfl⟩ := H
    have hnb26 := NB655_656.out
    have hnc26 := NB656_655.out
    have hcz27_0 : wc.cell? ⟨gb655, 0, none⟩ = some (.slice A0_0 l0_0.length c0_0) := (blk_cell BK655.out 0).trans rfl
    have hfz27_0 := Zn BK655.out 0
    go_wp2_with (first | ((with_reducible refine gate_callee (f := 54) rfl ?_); refine goesL_ (some 26) rfl rfl Tryd.func54 (by kernel_rfl) rfl #[.agg #[.slice A0_0 l0_0.length c0_0]] rfl (by (try simp only [List.map_toArray, List.map_cons, List.map_nil]); first | done | rfl | (simp only [List.length_drop, List.length_take]; rfl)) ?_; (with_reducible refine (spec_l03Copy.calls kj4 _ _ l0_0 t660 _ ?side1 ?side2 A25.out).mono ?_); (case side1 => repeat (first | exact (C_below HR0_0.out HB.out) | (with_reducible refine C_alloc ?_ _) | (with_reducible refine C_drewN ?_ _) | (with_reducible refine C_drew ?_))); (case side2 => exact HC0_0.out); rintro e w28 ⟨v661, rfl, ho0, hb⟩; refine ⟨_, rfl, ?_⟩; have n0_ := Zh (S_lower ho0 (below_size Zs)); have n1_ := Zh (Zm (g := gb655) (o := .cells #[.slice A0_0 l0_0.length c0_0] 28 (0, 0)) Zk hb); have n2_ := Zh (Zm (g := gb656) (o := .cells #[.slice none 0 0] 28 (0, 0)) Zk hb); have n3_ := Zh (Zl Zs hb); clear BK655; clear BK656; clear HB; have HO662 := n0_; have BK655 := n1_; have BK656 := n2_; have HB := n3_; clear n0_ n1_ n2_ n3_; (try clear hb); (try clear hb2); (try clear hk); (try clear hi); (try clear ho0); obtain ⟨Ao29, co29, eo29⟩ := S_slice HO662.out; subst eo29; have hcz30_0 : w28.cell? ⟨gb656, 0, none⟩ = some (.slice none 0 0) := (blk_cell BK656.out 0).trans rfl; have hfz30_0 := Zn BK656.out 0))
    refine Zq (results_ct rfl _ _ gb656 28 #[.slice Ao29 t660.length co29] (0, 0) _ rfl (by (with_reducible repeat (first | refine Za ?_ _ | refine Zb ?_ | refine blk_alloc ?_ _)); refine blk_put (cs := #[.slice none 0 0]) ?_ 0 _ rfl; (with_reducible repeat (first | refine Za ?_ _ | refine Zb ?_ | refine blk_alloc ?_ _)); exact BK656.out) Tryd.underlying28 rfl (by kernel_rfl)) rfl ?_
    exact ⟨_, by first | rfl | (simp [errW_none, errW_some] <;> rfl) | (simp [*, errW_none, errW_some] <;> rfl), by (with_reducible repeat (first | apply S_alloc | apply S_drewN | apply S_drew)); exact S_mono (S_far (p := ⟨gb656, 0, none⟩) (S_types HO662.out BK656.out (by decide)) (fun _ hk => hk.2) (.slice Ao29 t660.length co29)) (fun _ hk => trivial), by repeat (first | (with_reducible first | exact HB.out | apply Zf | apply Zd | apply Ze | refine Zg ?_ GE655.out | refine Zg ?_ GE656.out) | exact HB.out)⟩
   replace c24 := Bool.eq_false_iff.mpr c24
   subst c24
   have H1 : (if 0 ≤ t657 then (if t657 < (l0_0.length : Int) then ((spec_l03Without.f kj4 l0_0 a1).bind fun t665 => ((spec_l03Put.f kj4 t665 a2 ((rd_T55 l0_0 t657).f1) ((rd_T55 l0_0 t657).f2)).bind fun t668 => (some (t668, true)))) else (none)) else (none)) = some (r1, r2) := by rw [if_neg (show ¬ (false = true) by decide)] at H; exact H
   clear H
   have H := H1
   clear H1
   by_cases c31 : 0 ≤ t657
   ·
    rw [if_pos c31] at H
    have c31b0 : decide (0 ≤ t657) = true := decide_eq_true c31
    clear c31
    by_cases c32 : t657 < (l0_0.length : Int)
    ·
     rw [if_pos c32] at H
     have c32b0 : decide (t657 < (l0_0.length : Int)) = true := decide_eq_true c32
     clear c32
     replace H := Option.bind_eq_some_iff.mp H
     obtain ⟨t665, A330, H⟩ := H
     replace H : ((spec_l03Put.f kj4 t665 a2 ((rd_T55 l0_0 t657).f1) ((rd_T55 l0_0 t657).f2)).bind fun t668 => (some (t668, true))) = some (r1, r2) := H
     have A33 := Zh A330
     clear A330
     replace H := Option.bind_eq_some_iff.mp H
     obtain ⟨t668, A340, H⟩ := H
     replace H : (some (t668, true)) = some (r1, r2) := H
     have A34 := Zh A340
     clear A340
     simp only [Option.some.injEq, Prod.mk.injEq] at H
     obtain ⟨rfl, rfl⟩ := H
     have hnb35 := NB655_656.out
     have hnc35 := NB656_655.out
     have hcz36_0 : wc.cell? ⟨gb655, 0, none⟩ = some (.slice A0_0 l0_0.length c0_0) := (blk_cell BK655.out 0).trans rfl
     have hfz36_0 := Zn BK655.out 0
     have p663 : 0 ≤ (t657 : Int) := Zo
     have q663 : t657 < (l0_0.length : Int) := Zo
     obtain ⟨ad663, A663_1, c663_1, A663_2, c663_2, e663, hx663_0, hx663_1, hx663_2, hl663_1, hi663_1, hl663_2, hi663_2⟩ := at_T55 HR0_0.out t657 p663 q663
     cases e663
     replace hx663_0 := Zc HB.out hx663_0
     replace hx663_1 := Zc HB.out hx663_1
     replace hx663_2 := Zc HB.out hx663_2
     have HR663_1 := Zh hi663_1
     have HC663_1 := Zh hl663_1
     clear hi663_1 hl663_1
     have HR663_2 := Zh hi663_2
     have HC663_2 := Zh hl663_2
     clear hi663_2 hl663_2
     replace p663 := eq_true p663
     replace q663 := eq_true q663
     try go_wp2_with (first | ((with_reducible refine gate_dst (N := 9) rfl ?_); refine box_event ?hg (N := 9) ?hd (cs := #[.string (⟨#[]⟩ : ByteArray), .slice none 0 0, .slice none 0 0]) (t := 55) ?hr ?_; (case hd => rfl); (case hg => rfl); (case hr => first | (go_simp; done) | (go_simp; rfl)); intro gb664 hg w37 hbox hb; have n0_ := Zh (Zm (g := gb655) (o := .cells #[.slice (some ad663) l0_0.length c0_0] 28 (0, 0)) Zk hb); have n1_ := Zh (Zm (g := gb656) (o := .cells #[.slice none 0 0] 28 (0, 0)) Zk hb); have n2_ := Zh (Zl Zs hb); have n3_ := Zh (hbox); have n4_ := Zh ((by rw [hg]; exact (below_size Zs) : w.heap.size ≤ gb664)); have n5_ := Zh ((by rw [hg]; exact (below_size Zs) : w.heap.size ≤ gb664)); have n6_ := Zh ((by rw [hg]; exact Nat.ne_of_lt (blk_lt (g := gb655) (o := .cells #[.slice (some ad663) l0_0.length c0_0] 28 (0, 0)) Zk) : gb655 ≠ gb664)); have n7_ := Zh ((by rw [hg]; exact Nat.ne_of_gt (blk_lt (g := gb655) (o := .cells #[.slice (some ad663) l0_0.length c0_0] 28 (0, 0)) Zk) : gb664 ≠ gb655)); have n8_ := Zh ((by rw [hg]; exact Nat.ne_of_lt (blk_lt (g := gb656) (o := .cells #[.slice none 0 0] 28 (0, 0)) Zk) : gb656 ≠ gb664)); have n9_ := Zh ((by rw [hg]; exact Nat.ne_of_gt (blk_lt (g := gb656) (o := .cells #[.slice none 0 0] 28 (0, 0)) Zk) : gb664 ≠ gb656)); clear BK655; clear BK656; clear HB; have BK655 := n0_; have BK656 := n1_; have HB := n2_; have BK664 := n3_; have GW664 := n4_; have GE664 := n5_; have NB655_664 := n6_; have NB664_655 := n7_; have NB656_664 := n8_; have NB664_656 := n9_; clear n0_ n1_ n2_ n3_ n4_ n5_ n6_ n7_ n8_ n9_; clear hb hbox hg; have hnb38 := NB664_655.out; have hnc38 := NB655_664.out; have hnb39 := NB664_656.out; have hnc39 := NB656_664.out; have hcz40_0 : w37.cell? ⟨gb664, 0, none⟩ = some (.string (⟨#[]⟩ : ByteArray)) := (blk_cell BK664.out 0).trans rfl; have hcz40_1 : w37.cell? ⟨gb664, 1, none⟩ = some (.slice none 0 0) := (blk_cell BK664.out 1).trans rfl; have hcz40_2 : w37.cell? ⟨gb664, 2, none⟩ = some (.slice none 0 0) := (blk_cell BK664.out 2).trans rfl; have hfz40_0 := Zn BK664.out 0; have hfz40_1 := Zn BK664.out 1; have hfz40_2 := Zn BK664.out 2))
     have n0_ : Aside0 (((((w37.setCell ⟨gb664, 0, none⟩ (.string ((rd_T55 l0_0 t657).f0))).setCell ⟨gb664, 1, none⟩ (.slice A663_1 ((rd_T55 l0_0 t657).f1).length c663_1)).setCell ⟨gb664, 2, none⟩ (.slice A663_2 ((rd_T55 l0_0 t657).f2).length c663_2)).setCell ⟨gb664, 0, none⟩ (.string a2)).heap[gb655]? = some (.cells #[.slice (some ad663) l0_0.length c0_0] 28 (0, 0))) := ⟨by (with_reducible repeat (first | refine Za ?_ _ | refine Zb ?_ | refine blk_alloc ?_ _)); refine blk_far ?_ NB655_664.out _; (with_reducible repeat (first | refine Za ?_ _ | refine Zb ?_ | refine blk_alloc ?_ _)); refine blk_far ?_ NB655_664.out _; (with_reducible repeat (first | refine Za ?_ _ | refine Zb ?_ | refine blk_alloc ?_ _)); refine blk_far ?_ NB655_664.out _; (with_reducible repeat (first | refine Za ?_ _ | refine Zb ?_ | refine blk_alloc ?_ _)); refine blk_far ?_ NB655_664.out _; (with_reducible repeat (first | refine Za ?_ _ | refine Zb ?_ | refine blk_alloc ?_ _)); exact BK655.out⟩
     have n1_ : Aside0 (((((w37.setCell ⟨gb664, 0, none⟩ (.string ((rd_T55 l0_0 t657).f0))).setCell ⟨gb664, 1, none⟩ (.slice A663_1 ((rd_T55 l0_0 t657).f1).length c663_1)).setCell ⟨gb664, 2, none⟩ (.slice A663_2 ((rd_T55 l0_0 t657).f2).length c663_2)).setCell ⟨gb664, 0, none⟩ (.string a2)).heap[gb656]? = some (.cells #[.slice none 0 0] 28 (0, 0))) := ⟨by (with_reducible repeat (first | refine Za ?_ _ | refine Zb ?_ | refine blk_alloc ?_ _)); refine blk_far ?_ NB656_664.out _; (with_reducible repeat (first | refine Za ?_ _ | refine Zb ?_ | refine blk_alloc ?_ _)); refine blk_far ?_ NB656_664.out _; (with_reducible repeat (first | refine Za ?_ _ | refine Zb ?_ | refine blk_alloc ?_ _)); refine blk_far ?_ NB656_664.out _; (with_reducible repeat (first | refine Za ?_ _ | refine Zb ?_ | refine blk_alloc ?_ _)); refine blk_far ?_ NB656_664.out _; (with_reducible repeat (first | refine Za ?_ _ | refine Zb ?_ | refine blk_alloc ?_ _)); exact BK656.out⟩
     have n2_ : Aside0 (((((w37.setCell ⟨gb664, 0, none⟩ (.string ((rd_T55 l0_0 t657).f0))).setCell ⟨gb664, 1, none⟩ (.slice A663_1 ((rd_T55 l0_0 t657).f1).length c663_1)).setCell ⟨gb664, 2, none⟩ (.slice A663_2 ((rd_T55 l0_0 t657).f2).length c663_2)).setCell ⟨gb664, 0, none⟩ (.string a2)).heap[gb664]? = some (.cells #[.string a2, .slice A663_1 ((rd_T55 l0_0 t657).f1).length c663_1, .slice A663_2 ((rd_T55 l0_0 t657).f2).length c663_2] 55 (0, 0))) := ⟨by (with_reducible repeat (first | refine Za ?_ _ | refine Zb ?_ | refine blk_alloc ?_ _)); refine blk_put (cs := #[.string ((rd_T55 l0_0 t657).f0), .slice A663_1 ((rd_T55 l0_0 t657).f1).length c663_1, .slice A663_2 ((rd_T55 l0_0 t657).f2).length c663_2]) ?_ 0 _ rfl; (with_reducible repeat (first | refine Za ?_ _ | refine Zb ?_ | refine blk_alloc ?_ _)); refine blk_put (cs := #[.string ((rd_T55 l0_0 t657).f0), .slice A663_1 ((rd_T55 l0_0 t657).f1).length c663_1, .slice none 0 0]) ?_ 2 _ rfl; (with_reducible repeat (first | refine Za ?_ _ | refine Zb ?_ | refine blk_alloc ?_ _)); refine blk_put (cs := #[.string ((rd_T55 l0_0 t657).f0), .slice none 0 0, .slice none 0 0]) ?_ 1 _ rfl; (with_reducible repeat (first | refine Za ?_ _ | refine Zb ?_ | refine blk_alloc ?_ _)); refine blk_put (cs := #[.string (⟨#[]⟩ : ByteArray), .slice none 0 0, .slice none 0 0]) ?_ 0 _ rfl; (with_reducible repeat (first | refine Za ?_ _ | refine Zb ?_ | refine blk_alloc ?_ _)); exact BK664.out⟩
     have n3_ : Aside0 (Below w.heap.size w ((((w37.setCell ⟨gb664, 0, none⟩ (.string ((rd_T55 l0_0 t657).f0))).setCell ⟨gb664, 1, none⟩ (.slice A663_1 ((rd_T55 l0_0 t657).f1).length c663_1)).setCell ⟨gb664, 2, none⟩ (.slice A663_2 ((rd_T55 l0_0 t657).f2).length c663_2)).setCell ⟨gb664, 0, none⟩ (.string a2))) := ⟨by repeat (first | (with_reducible first | exact HB.out | apply Zf | apply Zd | apply Ze | refine Zg ?_ GE655.out | refine Zg ?_ GE656.out | refine Zg ?_ GE664.out) | exact HB.out)⟩
     (try clear BK655)
     (try clear BK656)
     (try clear BK664)
     (try clear HB)
     generalize ((((w37.setCell ⟨gb664, 0, none⟩ (.string ((rd_T55 l0_0 t657).f0))).setCell ⟨gb664, 1, none⟩ (.slice A663_1 ((rd_T55 l0_0 t657).f1).length c663_1)).setCell ⟨gb664, 2, none⟩ (.slice A663_2 ((rd_T55 l0_0 t657).f2).length c663_2)).setCell ⟨gb664, 0, none⟩ (.string a2)) = w41 at n0_ n1_ n2_ n3_ ⊢
     have BK655 := n0_
     have BK656 := n1_
     have BK664 := n2_
     have HB := n3_
     clear n0_ n1_ n2_ n3_
     have n0_ := Zh (Zb BK655.out)
     have n1_ := Zh (Zb BK656.out)
     have n2_ := Zh (Zb BK664.out)
     have n3_ := Zh (Ze HB.out)
     clear BK655
     clear BK656
     clear BK664
     clear HB
     have BK655 := n0_
     have BK656 := n1_
     have BK664 := n2_
     have HB := n3_
     clear n0_ n1_ n2_ n3_
     refine start_ (n := 7) (S := fun w' => w'.cell? ⟨gb655, 0, none⟩ = some (.slice (some ad663) l0_0.length c0_0) ∧ w'.cell? ⟨gb664, 0, none⟩ = some (.string a2) ∧ w'.cell? ⟨gb664, 1, none⟩ = some (.slice A663_1 ((rd_T55 l0_0 t657).f1).length c663_1) ∧ w'.cell? ⟨gb664, 2, none⟩ = some (.slice A663_2 ((rd_T55 l0_0 t657).f2).length c663_2)) (ds := []) #[false, false, false, false, false, false, false] (by kernel_rfl) rfl rfl ⟨(blk_cell BK655.out 0).trans rfl, (blk_cell BK664.out 0).trans rfl, (blk_cell BK664.out 1).trans rfl, (blk_cell BK664.out 2).trans rfl⟩ (fun hHeld => ?_)
     generalize w41.drew = w42 at BK655 BK656 BK664 HB hHeld ⊢
     refine pure_ (i := 1) (N := some 35) (v := ?_) (a' := ?_) #[false, true, false, false, false, false, false] rfl rfl (by kernel_rfl) (fun _ _ _ h => h) (Or.inl ⟨by rfl, ?_⟩) ?_ ?_
     rotate_left
     ·
      intro w'
      go_simp
      with_reducible rfl
     rotate_left
     ·
      simp only [Act.put, List.setIfInBounds_toArray, List.set_cons_zero, List.set_cons_succ, i64_w, i32_w]
      rfl
     refine take_ (i := 0) (N := some 34) (v := ?_) (a' := ?_) #[true, true, false, false, false, false, false] rfl rfl (by kernel_rfl) (fun _ _ _ h => h) (Or.inl ⟨by rfl, ?_⟩) hHeld ?_ ?_
     rotate_left
     ·
      rintro w' ⟨s0, s1, s2, s3⟩
      go_simp
      with_reducible rfl
     rotate_left
     ·
      simp only [Act.put, List.setIfInBounds_toArray, List.set_cons_zero, List.set_cons_succ, i64_w, i32_w]
      rfl
     refine take_ (i := 3) (N := some 37) (v := ?_) (a' := ?_) #[true, true, false, true, false, false, false] rfl rfl (by kernel_rfl) (fun _ _ _ h => h) (Or.inl ⟨by rfl, ?_⟩) hHeld ?_ ?_
     rotate_left
     ·
      rintro w' ⟨s0, s1, s2, s3⟩
      go_simp
      with_reducible rfl
     rotate_left
     ·
      simp only [Act.put, List.setIfInBounds_toArray, List.set_cons_zero, List.set_cons_succ, i64_w, i32_w]
      rfl
     refine one_ (i := 2) (N := some 36) #[true, true, true, true, false, false, false] rfl rfl (by kernel_rfl) (by decide) (fun K hK => ?_)
     refine goes_ Tryd.func95 (by kernel_rfl) rfl #[.agg #[.slice (some ad663) l0_0.length c0_0], .string a1] (by rfl) rfl rfl (by (try simp only [List.map_toArray, List.map_cons, List.map_nil]); first | done | rfl | (simp only [List.length_drop, List.length_take]; rfl)) ?_
     with_reducible refine (spec_l03Without.calls kj4 _ _ l0_0 a1 t665 _ ?side1 ?side2 A33.out).mono ?_
     (case side1 => repeat (first | exact (C_below HR0_0.out HB.out) | (with_reducible refine C_alloc ?_ _) | (with_reducible refine C_drewN ?_ _) | (with_reducible refine C_drew ?_)))
     (case side2 => exact HC0_0.out)
     rintro e w43 ⟨v666, rfl, ho0, hb⟩
     refine ⟨_, rfl, ?_⟩
     have n0_ := Zh (S_lower (S_newB ho0 (g := gb664) (o := .cells #[.string a2, .slice A663_1 ((rd_T55 l0_0 t657).f1).length c663_1, .slice A663_2 ((rd_T55 l0_0 t657).f2).length c663_2] 55 (0, 0)) Zk) (below_size Zs))
     have n1_ := Zh (Zm (g := gb655) (o := .cells #[.slice (some ad663) l0_0.length c0_0] 28 (0, 0)) Zk hb)
     have n2_ := Zh (Zm (g := gb656) (o := .cells #[.slice none 0 0] 28 (0, 0)) Zk hb)
     have n3_ := Zh (Zm (g := gb664) (o := .cells #[.string a2, .slice A663_1 ((rd_T55 l0_0 t657).f1).length c663_1, .slice A663_2 ((rd_T55 l0_0 t657).f2).length c663_2] 55 (0, 0)) Zk hb)
     have n4_ := Zh (Zl Zs hb)
     clear BK655
     clear BK656
     clear BK664
     clear HB
     have HO667 := n0_
     have BK655 := n1_
     have BK656 := n2_
     have BK664 := n3_
     have HB := n4_
     clear n0_ n1_ n2_ n3_ n4_
     (try clear hb)
     (try clear hb2)
     (try clear hk)
     (try clear hi)
     (try clear ho0)
     obtain ⟨Ao44, co44, eo44⟩ := S_slice HO667.out
     (first | subst eo44 | (injection eo44 with f1_ f2_ f3_; have f4_ := f1_.symm; have f5_ := f3_.symm; clear f1_ f2_ f3_; subst f4_; subst f5_))
     refine hK.out _ _ ⟨(blk_cell BK655.out 0).trans rfl, (blk_cell BK664.out 0).trans rfl, (blk_cell BK664.out 1).trans rfl, (blk_cell BK664.out 2).trans rfl⟩ (fun hHeld => ?_)
     clear hK K
     refine norm_ (a' := ?_) ?_ ?_
     rotate_left
     ·
      show Act.put _ (some 36) _ = _
      simp only [Act.put, List.setIfInBounds_toArray, List.set_cons_zero, List.set_cons_succ, i64_w, i32_w]
      rfl
     refine one_ (i := 4) (N := some 38) #[true, true, true, true, true, false, false] rfl rfl (by kernel_rfl) (by decide) (fun K hK => ?_)
     refine goes_ Tryd.func77 (by kernel_rfl) rfl #[.agg #[.slice Ao44 t665.length co44], .agg #[.string a2, .slice A663_1 ((rd_T55 l0_0 t657).f1).length c663_1, .slice A663_2 ((rd_T55 l0_0 t657).f2).length c663_2]] (by rfl) rfl rfl (by (try simp only [List.map_toArray, List.map_cons, List.map_nil]); first | done | rfl | (simp only [List.length_drop, List.length_take]; rfl)) ?_
     with_reducible refine (spec_l03Put.calls kj4 _ _ t665 a2 _ _ ((rd_T55 l0_0 t657).f1) _ _ ((rd_T55 l0_0 t657).f2) t668 _ ?side1 ?side2 ?side3 ?side4 ?side5 ?side6 A34.out).mono ?_
     (case side1 => repeat (first | exact (S_reads' HO667.out).2.2 | (with_reducible refine C_alloc ?_ _) | (with_reducible refine C_drewN ?_ _) | (with_reducible refine C_drew ?_)))
     (case side2 => exact (S_reads' HO667.out).2.1)
     (case side3 => repeat (first | exact (C_below HR663_1.out HB.out) | (with_reducible refine C_alloc ?_ _) | (with_reducible refine C_drewN ?_ _) | (with_reducible refine C_drew ?_)))
     (case side4 => exact HC663_1.out)
     (case side5 => repeat (first | exact (C_below HR663_2.out HB.out) | (with_reducible refine C_alloc ?_ _) | (with_reducible refine C_drewN ?_ _) | (with_reducible refine C_drew ?_)))
     (case side6 => exact HC663_2.out)
     rintro e w45 ⟨v669, rfl, ho0, hb⟩
     refine ⟨_, rfl, ?_⟩
     have n0_ := Zh (S_elder' (by (with_reducible repeat (first | apply S_alloc | apply S_drewN | apply S_drew)); exact HO667.out) (S_base ho0) hb)
     have n1_ := Zh (S_lower (S_newB (S_new' ho0 (S_lt (by (with_reducible repeat (first | apply S_alloc | apply S_drewN | apply S_drew)); exact HO667.out))) (g := gb664) (o := .cells #[.string a2, .slice A663_1 ((rd_T55 l0_0 t657).f1).length c663_1, .slice A663_2 ((rd_T55 l0_0 t657).f2).length c663_2] 55 (0, 0)) Zk) (below_size Zs))
     have n2_ := Zh (Zm (g := gb655) (o := .cells #[.slice (some ad663) l0_0.length c0_0] 28 (0, 0)) Zk hb)
     have n3_ := Zh (Zm (g := gb656) (o := .cells #[.slice none 0 0] 28 (0, 0)) Zk hb)
     have n4_ := Zh (Zm (g := gb664) (o := .cells #[.string a2, .slice A663_1 ((rd_T55 l0_0 t657).f1).length c663_1, .slice A663_2 ((rd_T55 l0_0 t657).f2).length c663_2] 55 (0, 0)) Zk hb)
     have n5_ := Zh (Zl Zs hb)
     clear HO667
     clear BK655
     clear BK656
     clear BK664
     clear HB
     have HO667 := n0_
     have HO670 := n1_
     have BK655 := n2_
     have BK656 := n3_
     have BK664 := n4_
     have HB := n5_
     clear n0_ n1_ n2_ n3_ n4_ n5_
     (try clear hb)
     (try clear hb2)
     (try clear hk)
     (try clear hi)
     (try clear ho0)
     obtain ⟨Ao46, co46, eo46⟩ := S_slice HO670.out
     (first | subst eo46 | (injection eo46 with f1_ f2_ f3_; have f4_ := f1_.symm; have f5_ := f3_.symm; clear f1_ f2_ f3_; subst f4_; subst f5_))
     refine hK.out _ _ ⟨(blk_cell BK655.out 0).trans rfl, (blk_cell BK664.out 0).trans rfl, (blk_cell BK664.out 1).trans rfl, (blk_cell BK664.out 2).trans rfl⟩ (fun hHeld => ?_)
     clear hK K
     refine norm_ (a' := ?_) ?_ ?_
     rotate_left
     ·
      show Act.put _ (some 38) _ = _
      simp only [Act.put, List.setIfInBounds_toArray, List.set_cons_zero, List.set_cons_succ, i64_w, i32_w]
      rfl
     refine one_ (i := 5) (N := none) #[true, true, true, true, true, true, false] rfl rfl (by kernel_rfl) (by decide) (fun K hK => ?_)
     have hs47 : w45.cell? ⟨gb656, 0, none⟩ = some (.slice none 0 0) := (blk_cell BK656.out 0).trans rfl
     have hfs47 := Zn BK656.out 0
     have hns47_0 := NB655_656.out
     have hns47_2 := NB664_656.out
     have hms47_0 := NB656_655.out
     have hms47_2 := NB656_664.out
     refine skip_ (w1 := ?_) (by rfl) rfl ?_ ?_
     rotate_left
     ·
      go_simp
      rfl
     refine hK.out _ _ ⟨((cell_far (p := ⟨gb656, _, none⟩) NB655_656.out _).trans (hHeld.1)), ((cell_far (p := ⟨gb656, _, none⟩) NB664_656.out _).trans (hHeld.2.1)), ((cell_far (p := ⟨gb656, _, none⟩) NB664_656.out _).trans (hHeld.2.2.1)), ((cell_far (p := ⟨gb656, _, none⟩) NB664_656.out _).trans (hHeld.2.2.2))⟩ (fun hHeld => ?_)
     clear hK K
     refine pure_ (i := 6) (N := some 7) (v := ?_) (a' := ?_) #[true, true, true, true, true, true, true] rfl rfl (by kernel_rfl) (fun _ _ _ h => h) (Or.inl ⟨by rfl, ?_⟩) ?_ ?_
     rotate_left
     ·
      intro w'
      go_simp
      with_reducible rfl
     rotate_left
     ·
      simp only [Act.put, List.setIfInBounds_toArray, List.set_cons_zero, List.set_cons_succ, i64_w, i32_w]
      rfl
     refine done_ (by kernel_rfl) ?_
     try go_wp2
     refine Zq (results_ct rfl _ _ gb656 28 #[.slice Ao46 t668.length co46] (0, 0) _ rfl (by (with_reducible repeat (first | refine Za ?_ _ | refine Zb ?_ | refine blk_alloc ?_ _)); refine blk_put (cs := #[.slice none 0 0]) ?_ 0 _ rfl; (with_reducible repeat (first | refine Za ?_ _ | refine Zb ?_ | refine blk_alloc ?_ _)); exact BK656.out) Tryd.underlying28 rfl (by kernel_rfl)) rfl ?_
     exact ⟨_, by first | rfl | (simp [errW_none, errW_some] <;> rfl) | (simp [*, errW_none, errW_some] <;> rfl), by (with_reducible repeat (first | apply S_alloc | apply S_drewN | apply S_drew)); exact S_mono (S_far (p := ⟨gb656, 0, none⟩) (S_types HO670.out BK656.out (by decide)) (fun _ hk => hk.2) (.slice Ao46 t668.length co46)) (fun _ hk => trivial), by repeat (first | (with_reducible first | exact HB.out | apply Zf | apply Zd | apply Ze | refine Zg ?_ GE655.out | refine Zg ?_ GE656.out | refine Zg ?_ GE664.out) | exact HB.out)⟩
    rw [if_neg c32] at H
    exact absurd H (by simp)
   rw [if_neg c31] at H
   exact absurd H (by simp)
end Go.Proofs.YtcgojdhbphocgaaDoor.F
