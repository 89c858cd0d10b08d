/- Merged texts below the law FnExactRenameFile: Go functions as Lean functions, their contracts, and plain lemmas. -/
import Derived.Test.YtmgeffgcihfpcaaDoorQFnExactRenameFile23
namespace Go.Proofs.YtmgeffgcihfpcaaDoor.F
open Go.RowKit Go.Proofs.YtmgeffgcihfpcaaDoorW.PrintWords Go.Proofs.YtmgeffgcihfpcaaDoorW.PrintWords.Kd Go.Proofs.YtmgeffgcihfpcaaDoorW.PrintMore.Kd Go.Proofs.YtmgeffgcihfpcaaDoorW.PrintLast Go.Proofs.YtmgeffgcihfpcaaDoorW.PrintMore
attribute [local go_sem] max2_int min2_int max_two min_two max_three min_three max_four min_four   -- for this text's walks alone
set_option linter.unusedVariables false
set_option linter.unusedSimpArgs false
def spec_l01Bytes.l0 : Nat → List Int → List Int → Int → Option (List Int)
 | 0, _, _, _ => none
 | k + 1, x0, x3, x4 => if x4 < (x0.length : Int) then (if 0 ≤ x4 then (if x3.length < 140737488355328 then (spec_l01Bytes.l0 k x0 (x3 ++ [rd x0 x4]) (wrap64 (x4 + 1))) else (none)) else (none)) else (some x3)
def spec_l01Bytes.f (k : Nat) (l0 : List Int) : Option (List Int) := spec_l01Bytes.l0 k l0 (([] : List Int)) 0
set_option maxHeartbeats 8000000 in
set_option maxRecDepth 100000 in
theorem spec_l01Bytes.calls (k : Nat) (A0 : Option Addr) (c0 : Nat) (l0 : List Int) (r : List Int) (w : World) (hr0 : Kd.C (Kd.int .u8) w A0 l0.length l0) (hc0 : l0.length ≤ c0) (h : spec_l01Bytes.f k l0 = some r) :
  Calls Tryd.prog 93 #[.slice A0 l0.length c0] w fun e w' => ∃ v0_ : Value, e = .returned (v0_) ∧ Kd.R (Kd.int .u8) 5 w' w.heap.size (fun _ => True) v0_ r ∧ Below w.heap.size w w' := by
 have HR0 := Zh hr0
 have HC0 := Zh hc0
 clear hr0 hc0
 have HB := Zh (Below.refl w.heap.size w)
 have H : (spec_l01Bytes.l0 k l0 (([] : List Int)) 0) = some r := h
 clear h
 obtain ⟨y184, hy184⟩ : ∃ y_ : List Int, y_ = (([] : List Int)) := ⟨_, rfl⟩
 replace H : (spec_l01Bytes.l0 k l0 y184 0) = some r := by first | (rw [hy184]; with_reducible exact H) | (have H2_ := (Option.bind_some _ _).symm.trans H; rw [hy184]; with_reducible exact H2_) | (have H2_ := (Option.bind_some _ _).symm.trans H; with_reducible exact H2_) | with_reducible exact H | (rw [hy184]; exact H) | exact H
 have Ny184 := Zh hy184
 clear hy184
 have H' := Zh H
 clear H
 go_enter Tryd.func93, Tryd.ntmps93
 go_wp2_with (first | ((with_reducible refine gate_dst (N := 5) rfl ?_); refine R_lit (Kd.int .u8) _ 5 ?hg (N := 5) ?hd (xs := ([] : List Int)) (inner := []) (ok := fun _ => True) (okp := fun _ => True) ?hr ?hp (fun _ hk => hk) trivial (Below.refl _ _) (Nat.le_refl _) (by simp) ?_; (case hd => rfl); (case hg => rfl); (case hr => first | (go_simp; done) | (go_simp; rfl)); (case hp => exact (Reps.none _ _)); intro v185 w2 ho3 hb hg_ hnew_; clear hg_ hnew_; (first | rw [← Ny184.out] at ho3 | (simp only [Int.reduceToNat] at ho3; rw [← Ny184.out] at ho3)); have n0_ := Zh (R_lower ho3 (below_size Zs)); have n1_ := Zh (Zl Zs hb); clear HB; have HO186 := n0_; have HB := n1_; clear n0_ n1_; clear hb ho3))
 go_loopg [3, 4] k (fun kq v3 v4 w' => ∃ (x3_1 : List Int) (x4_1 : Int), v4 = .int .i64 x4_1 ∧ Aside0 (spec_l01Bytes.l0 kq l0 x3_1 x4_1 = some r) ∧ Aside0 (kq ≤ k) ∧ Aside0 (Kd.R (Kd.int .u8) 5 w' w.heap.size (fun _ => True) v3 x3_1) ∧ Aside0 (Below w.heap.size w w'))
 case atStart => exact ⟨(y184), (0), (by first | rfl | (simp; done) | (simp [*]; done)), H', ⟨Nat.le_refl _⟩, ⟨by (with_reducible repeat (first | apply R_alloc | apply R_drewN | apply R_drew)); exact HO186.out⟩, ⟨by repeat (first | (with_reducible first | exact HB.out | apply Zf | apply Zd | apply Ze) | exact HB.out)⟩⟩
 case round =>
  clear H'
  try clear p2
  obtain ⟨x3_1, x4_1, rfl, HA, HK1, HO_3, HB⟩ := hrel
  cases gk with
  | zero => exact absurd HA.out (by simp [spec_l01Bytes.l0])
  | succ k1 =>
   have H := HA.out
   clear HA
   simp only [spec_l01Bytes.l0] at H
   by_cases c4 : x4_1 < (l0.length : Int)
   ·
    rw [if_pos c4] at H
    have c4b0 : decide (x4_1 < (l0.length : Int)) = true := decide_eq_true c4
    clear c4
    by_cases c5 : 0 ≤ x4_1
    ·
     rw [if_pos c5] at H
     have c5b0 : decide (0 ≤ x4_1) = true := decide_eq_true c5
     clear c5
     by_cases c6 : x3_1.length < 140737488355328
     ·
      rw [if_pos c6] at H
      have LMc6 := Zh c6
      clear c6
      obtain ⟨y188, hy188⟩ : ∃ y_ : List Int, y_ = (x3_1 ++ [rd l0 x4_1]) := ⟨_, rfl⟩
      replace H : (spec_l01Bytes.l0 k1 l0 y188 (wrap64 (x4_1 + 1))) = some r := by first | (rw [hy188]; with_reducible exact H) | (have H2_ := (Option.bind_some _ _).symm.trans H; rw [hy188]; with_reducible exact H2_) | (have H2_ := (Option.bind_some _ _).symm.trans H; with_reducible exact H2_) | with_reducible exact H | (rw [hy188]; exact H) | exact H
      have Ny188 := Zh hy188
      clear hy188
      have H' := Zh H
      clear H
      have p187 : 0 ≤ (x4_1 : Int) := Zo
      have q187 : x4_1 < (l0.length : Int) := Zo
      obtain ⟨ad187, e187, hx187_0⟩ := Kd.at_int HR0.out x4_1 p187 q187
      cases e187
      replace hx187_0 := Zc HB.out hx187_0
      replace p187 := eq_true p187
      replace q187 := eq_true q187
      go_wp2_with (first | ((with_reducible refine gate_builtin (b := .append) (xs := #[.tmp 12, .tmp 17]) rfl ?_); at_builtin; refine R_append (Kd.int .u8) (w0 := w) w.heap.size rfl (.tmp 12) (.tmp 17) 33 5 (.int .u8 0) 1 rfl Tryd.underlying33 info5 rfl (by decide) (by omega) u3 x3_1 (rd l0 x4_1) [.int .u8 (rd l0 x4_1)] (fun _ => True) (fun _ => False) rfl rfl ?aP (fun _ hk => hk.elim) ?aF ?aO ?aB ?aS ?aL ?_; (case aP => exact rfl); (case aB => exact Zs); (case aF => exact (fun _ _ => trivial)); (case aO => exact (by (with_reducible repeat (first | apply R_alloc | apply R_drewN | apply R_drew)); exact HO_3.out)); (case aS => exact (below_size Zs)); (case aL => have := LMc6.out; omega); intro v189 w7 ho hb hg hat; rw [← Ny188.out] at ho; have n0_ := Zh (hb); have n1_ := Zh (ho); clear HB; clear HO_3; have HB := n0_; have HO190 := n1_; clear n0_ n1_; clear ho hb hg hat))
      go_roundg k1
      case measure => have := HK1.out; omega
      case rel => exact ⟨(y188), (wrap64 (x4_1 + 1)), (by first | rfl | (simp; done) | (simp [*]; done)), H', ⟨by have := HK1.out; omega⟩, ⟨by (with_reducible repeat (first | apply R_alloc | apply R_drewN | apply R_drew)); exact HO190.out⟩, ⟨by repeat (first | (with_reducible first | exact HB.out | apply Zf | apply Zd | apply Ze) | exact HB.out)⟩⟩
     rw [if_neg c6] at H
     exact absurd H (by simp)
    rw [if_neg c5] at H
    exact absurd H (by simp)
   rw [if_neg c4] at H
   have c4b0 : decide (x4_1 < (l0.length : Int)) = false := decide_eq_false c4
   clear c4
   obtain rfl := Option.some.inj H
   go_wp2
   go_ret
   exact ⟨_, by first | rfl | (simp [errW_none, errW_some] <;> rfl) | (simp [*, errW_none, errW_some] <;> rfl), by (with_reducible repeat (first | apply R_alloc | apply R_drewN | apply R_drew)); exact HO_3.out, by repeat (first | (with_reducible first | exact HB.out | apply Zf | apply Zd | apply Ze) | exact HB.out)⟩
end Go.Proofs.YtmgeffgcihfpcaaDoor.F

namespace Go.Proofs.YtmgeffgcihfpcaaDoor.F
open Go.Proofs.YtmgeffgcihfpcaaDoor
open Go.RowKit Go.Proofs.YtmgeffgcihfpcaaDoorW.PrintWords Go.Proofs.YtmgeffgcihfpcaaDoorW.PrintWords.Kd Go.Proofs.YtmgeffgcihfpcaaDoorW.PrintMore.Kd Go.Proofs.YtmgeffgcihfpcaaDoorW.PrintLast Go.Proofs.YtmgeffgcihfpcaaDoorW.PrintMore
attribute [local go_sem] max2_int min2_int max_two min_two max_three min_three max_four min_four   -- for this text's walks alone
set_option linter.unusedVariables false
set_option linter.unusedSimpArgs false
def spec_l03Copy.l0 : Nat → Int → List (S74) → List (S74) → Option ((List (S74)))
 | 0, _, _, _ => none
 | k + 1, x4, x229000, x231000 => if x4 < (x229000.length : Int) then (if 0 ≤ x4 then ((spec_l01Bytes.f k ((rd_T74 x229000 x4).f1)).bind fun t233 => ((spec_l01Bytes.f k ((rd_T74 x229000 x4).f2)).bind fun t236 => (if x231000.length < 2199023255552 then (spec_l03Copy.l0 k (wrap64 (x4 + 1)) x229000 (x231000 ++ [(⟨(rd_T74 x229000 x4).f0, t233, t236⟩ : S74)])) else (none)))) else (none)) else (some x231000)
def spec_l03Copy.f (k : Nat) (l0_0 : List (S74)) : Option ((List (S74))) := spec_l03Copy.l0 k 0 l0_0 ([] : List (S74))
def spec_l03Copy.T6 : Bool × List (List Nat × List Nat) := (true, [([], []), ([0], [0]), ([], []), ([2], [2]), ([], []), ([4], [4]), ([5], [5]), ([], []), ([7], [7]), ([8, 6], [8]), ([3, 6, 9], [3, 6, 9]), ([10], [10]), ([1, 11, 9], [1, 11]), ([0, 1, 2, 3, 4, 5, 6, 7, 8, 9, 10, 11, 12], []), ([13, 12, 12, 0, 1, 2, 3, 4, 5, 6, 7, 8, 9, 10, 11, 12], [12, 13])])
def spec_l03Copy.B6 : List Nat := [0, 1, 0, 4, 0, 16, 48, 0, 128, 496, 1020, 2044, 4095, 8191, 16383]
theorem spec_l03Copy.tab6 : rtab .any (opsOf Tryd.f66 6) = spec_l03Copy.T6 := by kernel_rfl
theorem spec_l03Copy.bits6 : waitsOk spec_l03Copy.T6.2 spec_l03Copy.B6 = true := by kernel_rfl
set_option maxHeartbeats 8000000 in
set_option maxRecDepth 100000 in
theorem spec_l03Copy.calls (k : Nat) (A0_0 : Option Addr) (c0_0 : Nat) (l0_0 : List (S74)) (r : List (S74)) (w : World) (hr0_0 : Kd.C k74 w A0_0 l0_0.length l0_0) (hc0_0 : l0_0.length ≤ c0_0) (h : spec_l03Copy.f k l0_0 = some r) :
  Calls Tryd.prog 66 #[.agg #[.slice A0_0 l0_0.length c0_0]] w fun e w' => ∃ v0_ : Value, e = .returned (.agg #[v0_]) ∧ Kd.S k74 74 w' w.heap.size (fun _ => True) v0_ r ∧ Below w.heap.size w w' := by
 have hu29 := Tryd.underlying29
 have hu74 := Tryd.underlying74
 have HR0_0 := Zh hr0_0
 have HC0_0 := Zh hc0_0
 clear hr0_0 hc0_0
 have HB := Zh (Below.refl w.heap.size w)
 have H : (spec_l03Copy.l0 k 0 l0_0 ([] : List (S74))) = some r := h
 clear h
 have H' := Zh H
 clear H
 go_enter Tryd.func66, Tryd.ntmps66
 go_wp2_with (first | ((with_reducible refine gate_dst (N := 1) rfl ?_); refine box_event ?hg (N := 1) ?hd (cs := #[.slice A0_0 l0_0.length c0_0]) (t := 29) ?hr ?_; (case hd => rfl); (case hg => rfl); (case hr => first | (go_simp; done) | (go_simp; rfl)); intro gb228 hg w2 hbox hb; have n0_ := Zh (Zl Zs hb); have n1_ := Zh (hbox); have n2_ := Zh ((by rw [hg]; exact (below_size Zs) : w.heap.size ≤ gb228)); have n3_ := Zh ((by rw [hg]; exact (below_size Zs) : w.heap.size ≤ gb228)); clear HB; have HB := n0_; have BK228 := n1_; have GW228 := n2_; have GE228 := n3_; clear n0_ n1_ n2_ n3_; clear hb hbox hg) | ((with_reducible refine gate_dst (N := 2) rfl ?_); refine box_event ?hg (N := 2) ?hd (cs := #[.slice none 0 0]) (t := 29) ?hr ?_; (case hd => rfl); (case hg => rfl); (case hr => first | (go_simp; done) | (go_simp; rfl)); intro gb229 hg w3 hbox hb; have n0_ := Zh (Zm (g := gb228) (o := .cells #[.slice A0_0 l0_0.length c0_0] 29 (0, 0)) Zk hb); have n1_ := Zh (Zl Zs hb); have n2_ := Zh (hbox); have n3_ := Zh ((by rw [hg]; exact (below_size Zs) : w.heap.size ≤ gb229)); have n4_ := Zh ((by rw [hg]; exact (below_size Zs) : w.heap.size ≤ gb229)); have n5_ := Zh ((by rw [hg]; exact Nat.ne_of_lt (blk_lt (g := gb228) (o := .cells #[.slice A0_0 l0_0.length c0_0] 29 (0, 0)) Zk) : gb228 ≠ gb229)); have n6_ := Zh ((by rw [hg]; exact Nat.ne_of_gt (blk_lt (g := gb228) (o := .cells #[.slice A0_0 l0_0.length c0_0] 29 (0, 0)) Zk) : gb229 ≠ gb228)); clear BK228; clear HB; have BK228 := n0_; have HB := n1_; have BK229 := n2_; have GW229 := n3_; have GE229 := n4_; have NB228_229 := n5_; have NB229_228 := n6_; clear n0_ n1_ n2_ n3_ n4_ n5_ n6_; clear hb hbox hg) | ((with_reducible refine gate_dst (N := 3) rfl ?_); refine box_event ?hg (N := 3) ?hd (cs := #[.slice none 0 0]) (t := 29) ?hr ?_; (case hd => rfl); (case hg => rfl); (case hr => first | (go_simp; done) | (go_simp; rfl)); intro gb230 hg w4 hbox hb; have n0_ := Zh (Zm (g := gb228) (o := .cells #[.slice A0_0 l0_0.length c0_0] 29 (0, 0)) Zk hb); have n1_ := Zh (Zm (g := gb229) (o := .cells #[.slice none 0 0] 29 (0, 0)) Zk hb); have n2_ := Zh (Zl Zs hb); have n3_ := Zh (hbox); have n4_ := Zh ((by rw [hg]; exact (below_size Zs) : w.heap.size ≤ gb230)); have n5_ := Zh ((by rw [hg]; exact (below_size Zs) : w.heap.size ≤ gb230)); have n6_ := Zh ((by rw [hg]; exact Nat.ne_of_lt (blk_lt (g := gb228) (o := .cells #[.slice A0_0 l0_0.length c0_0] 29 (0, 0)) Zk) : gb228 ≠ gb230)); have n7_ := Zh ((by rw [hg]; exact Nat.ne_of_gt (blk_lt (g := gb228) (o := .cells #[.slice A0_0 l0_0.length c0_0] 29 (0, 0)) Zk) : gb230 ≠ gb228)); have n8_ := Zh ((by rw [hg]; exact Nat.ne_of_lt (blk_lt (g := gb229) (o := .cells #[.slice none 0 0] 29 (0, 0)) Zk) : gb229 ≠ gb230)); have n9_ := Zh ((by rw [hg]; exact Nat.ne_of_gt (blk_lt (g := gb229) (o := .cells #[.slice none 0 0] 29 (0, 0)) Zk) : gb230 ≠ gb229)); clear BK228; clear BK229; clear HB; have BK228 := n0_; have BK229 := n1_; have HB := n2_; have BK230 := n3_; have GW230 := n4_; have GE230 := n5_; have NB228_230 := n6_; have NB230_228 := n7_; have NB229_230 := n8_; have NB230_229 := n9_; clear n0_ n1_ n2_ n3_ n4_ n5_ n6_ n7_ n8_ n9_; clear hb hbox hg; have hnb5 := NB230_228.out; have hnc5 := NB228_230.out; have hnb6 := NB230_229.out; have hnc6 := NB229_230.out; have hcz7_0 : w4.cell? ⟨gb230, 0, none⟩ = some (.slice none 0 0) := (blk_cell BK230.out 0).trans rfl; have hfz7_0 := Zn BK230.out 0))
 go_loopg [4] k (fun kq v4 w' => ∃ (x4_1 : Int) (x231000_1 : List (S74)) (u231000 : Value), v4 = .int .i64 x4_1 ∧ Aside0 (spec_l03Copy.l0 kq x4_1 l0_0 x231000_1 = some r) ∧ Aside0 (kq ≤ k) ∧ Aside0 (Kd.S k74 74 w' w.heap.size (fun _ => True) u231000 x231000_1) ∧ Aside0 (w'.heap[gb228]? = some (.cells #[(.slice A0_0 l0_0.length c0_0)] 29 (0, 0))) ∧ Aside0 (w'.heap[gb229]? = some (.cells #[(.slice none 0 0)] 29 (0, 0))) ∧ Aside0 (w'.heap[gb230]? = some (.cells #[u231000] 29 (0, 0))) ∧ Aside0 (Below w.heap.size w w'))
 case atStart => exact ⟨(0), (([] : List (S74))), (.slice none 0 0), (by first | rfl | (simp; done) | (simp [*]; done)), H', ⟨Nat.le_refl _⟩, ⟨by first | exact S_nil _ _ _ _ _ | exact N_nil _ _ _ _ _ | exact V_nil _ _ _ _ _ | exact Q_nil _ _ _ _ _ | exact R_nil _ _ _ _ _⟩, ⟨by (with_reducible repeat (first | refine Za ?_ _ | refine Zb ?_ | refine blk_alloc ?_ _)); refine Zp ?_ NB228_230.out _; (with_reducible repeat (first | refine Za ?_ _ | refine Zb ?_ | refine blk_alloc ?_ _)); exact BK228.out⟩, ⟨by (with_reducible repeat (first | refine Za ?_ _ | refine Zb ?_ | refine blk_alloc ?_ _)); refine Zp ?_ NB229_230.out _; (with_reducible repeat (first | refine Za ?_ _ | refine Zb ?_ | refine blk_alloc ?_ _)); exact BK229.out⟩, ⟨by (with_reducible repeat (first | refine Za ?_ _ | refine Zb ?_ | refine blk_alloc ?_ _)); refine blk_put (cs := #[.slice none 0 0]) ?_ 0 _ rfl; (with_reducible repeat (first | refine Za ?_ _ | refine Zb ?_ | refine blk_alloc ?_ _)); exact BK230.out⟩, ⟨by repeat (first | (with_reducible first | exact HB.out | apply Zf | apply Zd | apply Ze | refine Zg ?_ GE228.out | refine Zg ?_ GE229.out | refine Zg ?_ GE230.out) | exact HB.out)⟩⟩
 case round =>
  clear H'
  try clear p2
  try clear c5
  try clear c6
  try clear hcz7_0
  try clear hfz7_0
  obtain ⟨x4_1, x231000_1, u231000, rfl, HA, HK1, HO_231000, BK228, BK229, BK230, HB⟩ := hrel
  cases gk with
  | zero => exact absurd HA.out (by simp [spec_l03Copy.l0])
  | succ k1 =>
   have H := HA.out
   clear HA
   simp only [spec_l03Copy.l0] at H
   by_cases c8 : x4_1 < (l0_0.length : Int)
   ·
    rw [if_pos c8] at H
    have c8b0 : decide (x4_1 < (l0_0.length : Int)) = true := decide_eq_true c8
    clear c8
    by_cases c9 : 0 ≤ x4_1
    ·
     rw [if_pos c9] at H
     have c9b0 : decide (0 ≤ x4_1) = true := decide_eq_true c9
     clear c9
     replace H := Option.bind_eq_some_iff.mp H
     obtain ⟨t233, A100, H⟩ := H
     replace H : ((spec_l01Bytes.f k1 ((rd_T74 l0_0 x4_1).f2)).bind fun t236 => (if x231000_1.length < 2199023255552 then (spec_l03Copy.l0 k1 (wrap64 (x4_1 + 1)) l0_0 (x231000_1 ++ [(⟨(rd_T74 l0_0 x4_1).f0, t233, t236⟩ : S74)])) else (none))) = some r := H
     have A10 := Zh A100
     clear A100
     replace H := Option.bind_eq_some_iff.mp H
     obtain ⟨t236, A110, H⟩ := H
     replace H : (if x231000_1.length < 2199023255552 then (spec_l03Copy.l0 k1 (wrap64 (x4_1 + 1)) l0_0 (x231000_1 ++ [(⟨(rd_T74 l0_0 x4_1).f0, t233, t236⟩ : S74)])) else (none)) = some r := H
     have A11 := Zh A110
     clear A110
     by_cases c12 : x231000_1.length < 2199023255552
     ·
      rw [if_pos c12] at H
      have LMc12 := Zh c12
      clear c12
      obtain ⟨y239, hy239⟩ : ∃ y_ : List (S74), y_ = (x231000_1 ++ [(⟨(rd_T74 l0_0 x4_1).f0, t233, t236⟩ : S74)]) := ⟨_, rfl⟩
      replace H : (spec_l03Copy.l0 k1 (wrap64 (x4_1 + 1)) l0_0 y239) = some r := by first | (rw [hy239]; with_reducible exact H) | (have H2_ := (Option.bind_some _ _).symm.trans H; rw [hy239]; with_reducible exact H2_) | (have H2_ := (Option.bind_some _ _).symm.trans H; with_reducible exact H2_) | with_reducible exact H | (rw [hy239]; exact H) | exact H
      have Ny239 := Zh hy239
      clear hy239
      have H' := Zh H
      clear H
      have hnb13 := NB228_229.out
      have hnc13 := NB229_228.out
      have hnb14 := NB228_230.out
      have hnc14 := NB230_228.out
      have hcz15_0 : wr.cell? ⟨gb228, 0, none⟩ = some (.slice A0_0 l0_0.length c0_0) := (blk_cell BK228.out 0).trans rfl
      have hfz15_0 := Zn BK228.out 0
      have p231 : 0 ≤ (x4_1 : Int) := Zo
      have q231 : x4_1 < (l0_0.length : Int) := Zo
      obtain ⟨ad231, A231_1, c231_1, A231_2, c231_2, e231, hx231_0, hx231_1, hx231_2, hl231_1, hi231_1, hl231_2, hi231_2⟩ := at_T74 HR0_0.out x4_1 p231 q231
      cases e231
      replace hx231_0 := Zc HB.out hx231_0
      replace hx231_1 := Zc HB.out hx231_1
      replace hx231_2 := Zc HB.out hx231_2
      have HR231_1 := Zh hi231_1
      have HC231_1 := Zh hl231_1
      clear hi231_1 hl231_1
      have HR231_2 := Zh hi231_2
      have HC231_2 := Zh hl231_2
      clear hi231_2 hl231_2
      replace p231 := eq_true p231
      replace q231 := eq_true q231
      try go_wp2_with (first | ((with_reducible refine gate_dst (N := 5) rfl ?_); refine box_event ?hg (N := 5) ?hd (cs := #[.string (⟨#[]⟩ : ByteArray), .slice none 0 0, .slice none 0 0]) (t := 74) ?hr ?_; (case hd => rfl); (case hg => rfl); (case hr => first | (go_simp; done) | (go_simp; rfl)); intro gb232 hg w16 hbox hb; have n0_ := Zh (S_below (S_elderB (by (with_reducible repeat (first | apply S_alloc | apply S_drewN | apply S_drew)); exact HO_231000.out) gb232 (Nat.le_of_eq hg.symm)) hb); have n1_ := Zh (Zm (g := gb228) (o := .cells #[.slice (some ad231) l0_0.length c0_0] 29 (0, 0)) Zk hb); have n2_ := Zh (Zm (g := gb229) (o := .cells #[.slice none 0 0] 29 (0, 0)) Zk hb); have n3_ := Zh (Zm (g := gb230) (o := .cells #[u231000] 29 (0, 0)) Zk hb); have n4_ := Zh (Zl Zs hb); have n5_ := Zh (hbox); have n6_ := Zh ((by rw [hg]; exact (below_size Zs) : w.heap.size ≤ gb232)); have n7_ := Zh ((by rw [hg]; exact (below_size Zs) : w.heap.size ≤ gb232)); have n8_ := Zh ((by rw [hg]; exact Nat.ne_of_lt (blk_lt (g := gb228) (o := .cells #[.slice (some ad231) l0_0.length c0_0] 29 (0, 0)) Zk) : gb228 ≠ gb232)); have n9_ := Zh ((by rw [hg]; exact Nat.ne_of_gt (blk_lt (g := gb228) (o := .cells #[.slice (some ad231) l0_0.length c0_0] 29 (0, 0)) Zk) : gb232 ≠ gb228)); have n10_ := Zh ((by rw [hg]; exact Nat.ne_of_lt (blk_lt (g := gb229) (o := .cells #[.slice none 0 0] 29 (0, 0)) Zk) : gb229 ≠ gb232)); have n11_ := Zh ((by rw [hg]; exact Nat.ne_of_gt (blk_lt (g := gb229) (o := .cells #[.slice none 0 0] 29 (0, 0)) Zk) : gb232 ≠ gb229)); have n12_ := Zh ((by rw [hg]; exact Nat.ne_of_lt (blk_lt (g := gb230) (o := .cells #[u231000] 29 (0, 0)) Zk) : gb230 ≠ gb232)); have n13_ := Zh ((by rw [hg]; exact Nat.ne_of_gt (blk_lt (g := gb230) (o := .cells #[u231000] 29 (0, 0)) Zk) : gb232 ≠ gb230)); clear HO_231000; clear BK228; clear BK229; clear BK230; clear HB; have HO_231000 := n0_; have BK228 := n1_; have BK229 := n2_; have BK230 := n3_; have HB := n4_; have BK232 := n5_; have GW232 := n6_; have GE232 := n7_; have NB228_232 := n8_; have NB232_228 := n9_; have NB229_232 := n10_; have NB232_229 := n11_; have NB230_232 := n12_; have NB232_230 := n13_; clear n0_ n1_ n2_ n3_ n4_ n5_ n6_ n7_ n8_ n9_ n10_ n11_ n12_ n13_; clear hb hbox hg; have hnb17 := NB232_228.out; have hnc17 := NB228_232.out; have hnb18 := NB232_229.out; have hnc18 := NB229_232.out; have hnb19 := NB232_230.out; have hnc19 := NB230_232.out; have hcz20_0 : w16.cell? ⟨gb232, 0, none⟩ = some (.string (⟨#[]⟩ : ByteArray)) := (blk_cell BK232.out 0).trans rfl; have hcz20_1 : w16.cell? ⟨gb232, 1, none⟩ = some (.slice none 0 0) := (blk_cell BK232.out 1).trans rfl; have hcz20_2 : w16.cell? ⟨gb232, 2, none⟩ = some (.slice none 0 0) := (blk_cell BK232.out 2).trans rfl; have hfz20_0 := Zn BK232.out 0; have hfz20_1 := Zn BK232.out 1; have hfz20_2 := Zn BK232.out 2))
      have n0_ : Aside0 (Kd.S k74 74 (((w16.setCell ⟨gb232, 0, none⟩ (.string ((rd_T74 l0_0 x4_1).f0))).setCell ⟨gb232, 1, none⟩ (.slice A231_1 ((rd_T74 l0_0 x4_1).f1).length c231_1)).setCell ⟨gb232, 2, none⟩ (.slice A231_2 ((rd_T74 l0_0 x4_1).f2).length c231_2)) w.heap.size (fun k_ => k_ ≠ gb232) u231000 x231000_1) := ⟨by (with_reducible repeat (first | apply S_alloc | apply S_drewN | apply S_drew)); exact S_mono (S_far (p := ⟨gb232, 2, none⟩) (S_far (p := ⟨gb232, 1, none⟩) (S_far (p := ⟨gb232, 0, none⟩) (S_mono HO_231000.out (fun k_ hk => (⟨hk, hk.2⟩ : _ ∧ k_ ≠ gb232))) (fun _ hk => hk.2) (.string ((rd_T74 l0_0 x4_1).f0))) (fun _ hk => hk.2) (.slice A231_1 ((rd_T74 l0_0 x4_1).f1).length c231_1)) (fun _ hk => hk.2) (.slice A231_2 ((rd_T74 l0_0 x4_1).f2).length c231_2)) (fun _ hk => hk.1.2)⟩
      have n1_ : Aside0 ((((w16.setCell ⟨gb232, 0, none⟩ (.string ((rd_T74 l0_0 x4_1).f0))).setCell ⟨gb232, 1, none⟩ (.slice A231_1 ((rd_T74 l0_0 x4_1).f1).length c231_1)).setCell ⟨gb232, 2, none⟩ (.slice A231_2 ((rd_T74 l0_0 x4_1).f2).length c231_2)).heap[gb228]? = some (.cells #[.slice (some ad231) l0_0.length c0_0] 29 (0, 0))) := ⟨by (with_reducible repeat (first | refine Za ?_ _ | refine Zb ?_ | refine blk_alloc ?_ _)); refine Zp ?_ NB228_232.out _; (with_reducible repeat (first | refine Za ?_ _ | refine Zb ?_ | refine blk_alloc ?_ _)); refine Zp ?_ NB228_232.out _; (with_reducible repeat (first | refine Za ?_ _ | refine Zb ?_ | refine blk_alloc ?_ _)); refine Zp ?_ NB228_232.out _; (with_reducible repeat (first | refine Za ?_ _ | refine Zb ?_ | refine blk_alloc ?_ _)); exact BK228.out⟩
      have n2_ : Aside0 ((((w16.setCell ⟨gb232, 0, none⟩ (.string ((rd_T74 l0_0 x4_1).f0))).setCell ⟨gb232, 1, none⟩ (.slice A231_1 ((rd_T74 l0_0 x4_1).f1).length c231_1)).setCell ⟨gb232, 2, none⟩ (.slice A231_2 ((rd_T74 l0_0 x4_1).f2).length c231_2)).heap[gb229]? = some (.cells #[.slice none 0 0] 29 (0, 0))) := ⟨by (with_reducible repeat (first | refine Za ?_ _ | refine Zb ?_ | refine blk_alloc ?_ _)); refine Zp ?_ NB229_232.out _; (with_reducible repeat (first | refine Za ?_ _ | refine Zb ?_ | refine blk_alloc ?_ _)); refine Zp ?_ NB229_232.out _; (with_reducible repeat (first | refine Za ?_ _ | refine Zb ?_ | refine blk_alloc ?_ _)); refine Zp ?_ NB229_232.out _; (with_reducible repeat (first | refine Za ?_ _ | refine Zb ?_ | refine blk_alloc ?_ _)); exact BK229.out⟩
      have n3_ : Aside0 ((((w16.setCell ⟨gb232, 0, none⟩ (.string ((rd_T74 l0_0 x4_1).f0))).setCell ⟨gb232, 1, none⟩ (.slice A231_1 ((rd_T74 l0_0 x4_1).f1).length c231_1)).setCell ⟨gb232, 2, none⟩ (.slice A231_2 ((rd_T74 l0_0 x4_1).f2).length c231_2)).heap[gb230]? = some (.cells #[u231000] 29 (0, 0))) := ⟨by (with_reducible repeat (first | refine Za ?_ _ | refine Zb ?_ | refine blk_alloc ?_ _)); refine Zp ?_ NB230_232.out _; (with_reducible repeat (first | refine Za ?_ _ | refine Zb ?_ | refine blk_alloc ?_ _)); refine Zp ?_ NB230_232.out _; (with_reducible repeat (first | refine Za ?_ _ | refine Zb ?_ | refine blk_alloc ?_ _)); refine Zp ?_ NB230_232.out _; (with_reducible repeat (first | refine Za ?_ _ | refine Zb ?_ | refine blk_alloc ?_ _)); exact BK230.out⟩
      have n4_ : Aside0 ((((w16.setCell ⟨gb232, 0, none⟩ (.string ((rd_T74 l0_0 x4_1).f0))).setCell ⟨gb232, 1, none⟩ (.slice A231_1 ((rd_T74 l0_0 x4_1).f1).length c231_1)).setCell ⟨gb232, 2, none⟩ (.slice A231_2 ((rd_T74 l0_0 x4_1).f2).length c231_2)).heap[gb232]? = some (.cells #[.string ((rd_T74 l0_0 x4_1).f0), .slice A231_1 ((rd_T74 l0_0 x4_1).f1).length c231_1, .slice A231_2 ((rd_T74 l0_0 x4_1).f2).length c231_2] 74 (0, 0))) := ⟨by (with_reducible repeat (first | refine Za ?_ _ | refine Zb ?_ | refine blk_alloc ?_ _)); refine blk_put (cs := #[.string ((rd_T74 l0_0 x4_1).f0), .slice A231_1 ((rd_T74 l0_0 x4_1).f1).length c231_1, .slice none 0 0]) ?_ 2 _ rfl; (with_reducible repeat (first | refine Za ?_ _ | refine Zb ?_ | refine blk_alloc ?_ _)); refine blk_put (cs := #[.string ((rd_T74 l0_0 x4_1).f0), .slice none 0 0, .slice none 0 0]) ?_ 1 _ rfl; (with_reducible repeat (first | refine Za ?_ _ | refine Zb ?_ | refine blk_alloc ?_ _)); refine blk_put (cs := #[.string (⟨#[]⟩ : ByteArray), .slice none 0 0, .slice none 0 0]) ?_ 0 _ rfl; (with_reducible repeat (first | refine Za ?_ _ | refine Zb ?_ | refine blk_alloc ?_ _)); exact BK232.out⟩
      have n5_ : Aside0 (Below w.heap.size w (((w16.setCell ⟨gb232, 0, none⟩ (.string ((rd_T74 l0_0 x4_1).f0))).setCell ⟨gb232, 1, none⟩ (.slice A231_1 ((rd_T74 l0_0 x4_1).f1).length c231_1)).setCell ⟨gb232, 2, none⟩ (.slice A231_2 ((rd_T74 l0_0 x4_1).f2).length c231_2))) := ⟨by repeat (first | (with_reducible first | exact HB.out | apply Zf | apply Zd | apply Ze | refine Zg ?_ GE228.out | refine Zg ?_ GE229.out | refine Zg ?_ GE230.out | refine Zg ?_ GE232.out) | exact HB.out)⟩
      (try clear HO_231000)
      (try clear BK228)
      (try clear BK229)
      (try clear BK230)
      (try clear BK232)
      (try clear HB)
      generalize (((w16.setCell ⟨gb232, 0, none⟩ (.string ((rd_T74 l0_0 x4_1).f0))).setCell ⟨gb232, 1, none⟩ (.slice A231_1 ((rd_T74 l0_0 x4_1).f1).length c231_1)).setCell ⟨gb232, 2, none⟩ (.slice A231_2 ((rd_T74 l0_0 x4_1).f2).length c231_2)) = w21 at n0_ n1_ n2_ n3_ n4_ n5_ ⊢
      have HO_231000 := n0_
      have BK228 := n1_
      have BK229 := n2_
      have BK230 := n3_
      have BK232 := n4_
      have HB := n5_
      clear n0_ n1_ n2_ n3_ n4_ n5_
      have n0_ := Zh (S_drew HO_231000.out)
      have n1_ := Zh (Zb BK228.out)
      have n2_ := Zh (Zb BK229.out)
      have n3_ := Zh (Zb BK230.out)
      have n4_ := Zh (Zb BK232.out)
      have n5_ := Zh (Ze HB.out)
      clear HO_231000
      clear BK228
      clear BK229
      clear BK230
      clear BK232
      clear HB
      have HO_231000 := n0_
      have BK228 := n1_
      have BK229 := n2_
      have BK230 := n3_
      have BK232 := n4_
      have HB := n5_
      clear n0_ n1_ n2_ n3_ n4_ n5_
      refine start_ (n := 15) (S := fun w' => w'.cell? ⟨gb230, 0, none⟩ = some (u231000) ∧ w'.cell? ⟨gb232, 0, none⟩ = some (.string ((rd_T74 l0_0 x4_1).f0)) ∧ w'.cell? ⟨gb232, 1, none⟩ = some (.slice A231_1 ((rd_T74 l0_0 x4_1).f1).length c231_1) ∧ w'.cell? ⟨gb232, 2, none⟩ = some (.slice A231_2 ((rd_T74 l0_0 x4_1).f2).length c231_2)) (ds := [14]) #[false, false, false, false, false, false, false, false, false, false, false, false, false, false, false] (by kernel_rfl) rfl rfl ⟨(blk_cell BK230.out 0).trans rfl, (blk_cell BK232.out 0).trans rfl, (blk_cell BK232.out 1).trans rfl, (blk_cell BK232.out 2).trans rfl⟩ (fun hHeld => ?_); refine with_tabW spec_l03Copy.tab6 spec_l03Copy.bits6 (fun HT_ HW_ => ?_)
      generalize w21.drew = w22 at HO_231000 BK228 BK229 BK230 BK232 HB hHeld ⊢
      refine SQ.pu 0 19 HT_ ?_
      refine SQ.pu 2 21 HT_ ?_
      refine SQ.pu 4 23 HT_ ?_
      refine SQ.pu 7 26 HT_ ?_
      refine SQ.tk 1 20 HT_ HW_ hHeld ?_
      refine SQ.tk 3 22 HT_ HW_ hHeld ?_
      refine SQ.tk 5 24 HT_ HW_ hHeld ?_
      refine SQ.tk 8 27 HT_ HW_ hHeld ?_
      refine one_ (i := 6) (N := some 25) #[true, true, true, true, true, true, true, true, true, false, false, false, false, false, false] rfl rfl (one_of HT_.out (by kernel_rfl)) (by decide) (fun K hK => ?_)
      refine goes_ Tryd.func93 (by kernel_rfl) rfl #[.slice A231_1 ((rd_T74 l0_0 x4_1).f1).length c231_1] (by rfl) rfl rfl (by (try simp only [List.map_toArray, List.map_cons, List.map_nil]); first | done | rfl | (simp only [List.length_drop, List.length_take]; rfl)) ?_
      with_reducible refine (spec_l01Bytes.calls k1 _ _ ((rd_T74 l0_0 x4_1).f1) t233 _ ?side1 ?side2 A10.out).mono ?_
      (case side1 => repeat (first | exact (C_below HR231_1.out HB.out) | (with_reducible refine C_alloc ?_ _) | (with_reducible refine C_drewN ?_ _) | (with_reducible refine C_drew ?_)))
      (case side2 => exact HC231_1.out)
      rintro e w23 ⟨v234, rfl, ho0, hb⟩
      refine ⟨_, rfl, ?_⟩
      have n0_ := Zh (S_elder' (by (with_reducible repeat (first | apply S_alloc | apply S_drewN | apply S_drew)); exact HO_231000.out) (R_base ho0) hb)
      have n1_ := Zh (R_lower ho0 (below_size Zs))
      have n2_ := Zh (Zm (g := gb228) (o := .cells #[.slice (some ad231) l0_0.length c0_0] 29 (0, 0)) Zk hb)
      have n3_ := Zh (Zm (g := gb229) (o := .cells #[.slice none 0 0] 29 (0, 0)) Zk hb)
      have n4_ := Zh (Zm (g := gb230) (o := .cells #[u231000] 29 (0, 0)) Zk hb)
      have n5_ := Zh (Zm (g := gb232) (o := .cells #[.string ((rd_T74 l0_0 x4_1).f0), .slice A231_1 ((rd_T74 l0_0 x4_1).f1).length c231_1, .slice A231_2 ((rd_T74 l0_0 x4_1).f2).length c231_2] 74 (0, 0)) Zk hb)
      have n6_ := Zh (Zl Zs hb)
      clear HO_231000
      clear BK228
      clear BK229
      clear BK230
      clear BK232
      clear HB
      have HO_231000 := n0_
      have HO235 := n1_
      have BK228 := n2_
      have BK229 := n3_
      have BK230 := n4_
      have BK232 := n5_
      have HB := n6_
      clear n0_ n1_ n2_ n3_ n4_ n5_ n6_
      (try clear hb)
      (try clear hb2)
      (try clear hk)
      (try clear hi)
      (try clear ho0)
      refine hK.out _ _ ⟨(blk_cell BK230.out 0).trans rfl, (blk_cell BK232.out 0).trans rfl, (blk_cell BK232.out 1).trans rfl, (blk_cell BK232.out 2).trans rfl⟩ (fun hHeld => ?_)
      clear hK K
      refine norm_ (a' := ?_) ?_ ?_
      rotate_left
      ·
       show Act.put _ (some 25) _ = _
       simp only [Act.put, List.setIfInBounds_toArray, List.set_cons_zero, List.set_cons_succ, i64_w, i32_w]
       rfl
      refine one_ (i := 9) (N := some 28) #[true, true, true, true, true, true, true, true, true, true, false, false, false, false, false] rfl rfl (one_of HT_.out (by kernel_rfl)) (by decide) (fun K hK => ?_)
      refine goes_ Tryd.func93 (by kernel_rfl) rfl #[.slice A231_2 ((rd_T74 l0_0 x4_1).f2).length c231_2] (by rfl) rfl rfl (by (try simp only [List.map_toArray, List.map_cons, List.map_nil]); first | done | rfl | (simp only [List.length_drop, List.length_take]; rfl)) ?_
      with_reducible refine (spec_l01Bytes.calls k1 _ _ ((rd_T74 l0_0 x4_1).f2) t236 _ ?side1 ?side2 A11.out).mono ?_
      (case side1 => repeat (first | exact (C_below HR231_2.out HB.out) | (with_reducible refine C_alloc ?_ _) | (with_reducible refine C_drewN ?_ _) | (with_reducible refine C_drew ?_)))
      (case side2 => exact HC231_2.out)
      rintro e w24 ⟨v237, rfl, ho0, hb⟩
      refine ⟨_, rfl, ?_⟩
      have n0_ := Zh (S_elder' (by (with_reducible repeat (first | apply S_alloc | apply S_drewN | apply S_drew)); exact HO_231000.out) (R_base ho0) hb)
      have n1_ := Zh (R_elder' (by (with_reducible repeat (first | apply R_alloc | apply R_drewN | apply R_drew)); exact HO235.out) (R_base ho0) hb)
      have n2_ := Zh (R_lower (R_new' ho0 (R_lt (by (with_reducible repeat (first | apply R_alloc | apply R_drewN | apply R_drew)); exact HO235.out))) (below_size Zs))
      have n3_ := Zh (Zm (g := gb228) (o := .cells #[.slice (some ad231) l0_0.length c0_0] 29 (0, 0)) Zk hb)
      have n4_ := Zh (Zm (g := gb229) (o := .cells #[.slice none 0 0] 29 (0, 0)) Zk hb)
      have n5_ := Zh (Zm (g := gb230) (o := .cells #[u231000] 29 (0, 0)) Zk hb)
      have n6_ := Zh (Zm (g := gb232) (o := .cells #[.string ((rd_T74 l0_0 x4_1).f0), .slice A231_1 ((rd_T74 l0_0 x4_1).f1).length c231_1, .slice A231_2 ((rd_T74 l0_0 x4_1).f2).length c231_2] 74 (0, 0)) Zk hb)
      have n7_ := Zh (Zl Zs hb)
      clear HO_231000
      clear HO235
      clear BK228
      clear BK229
      clear BK230
      clear BK232
      clear HB
      have HO_231000 := n0_
      have HO235 := n1_
      have HO238 := n2_
      have BK228 := n3_
      have BK229 := n4_
      have BK230 := n5_
      have BK232 := n6_
      have HB := n7_
      clear n0_ n1_ n2_ n3_ n4_ n5_ n6_ n7_
      (try clear hb)
      (try clear hb2)
      (try clear hk)
      (try clear hi)
      (try clear ho0)
      obtain ⟨Ao25, co25, eo25⟩ := R_slice HO238.out
      (first | subst eo25 | (injection eo25 with f1_ f2_ f3_; have f4_ := f1_.symm; have f5_ := f3_.symm; clear f1_ f2_ f3_; subst f4_; subst f5_))
      obtain ⟨Ao26, co26, eo26⟩ := R_slice HO235.out
      (first | subst eo26 | (injection eo26 with f1_ f2_ f3_; have f4_ := f1_.symm; have f5_ := f3_.symm; clear f1_ f2_ f3_; subst f4_; subst f5_))
      refine hK.out _ _ ⟨(blk_cell BK230.out 0).trans rfl, (blk_cell BK232.out 0).trans rfl, (blk_cell BK232.out 1).trans rfl, (blk_cell BK232.out 2).trans rfl⟩ (fun hHeld => ?_)
      clear hK K
      refine norm_ (a' := ?_) ?_ ?_
      rotate_left
      ·
       show Act.put _ (some 28) _ = _
       simp only [Act.put, List.setIfInBounds_toArray, List.set_cons_zero, List.set_cons_succ, i64_w, i32_w]
       rfl
      refine SQ.pu 10 29 HT_ ?_
      refine one_ (i := 11) (N := some 30) #[true, true, true, true, true, true, true, true, true, true, true, true, false, false, false] rfl rfl (one_of HT_.out (by kernel_rfl)) (by decide) (fun K hK => ?_)
      refine value_ (w1 := ?_) (v := ?_) (by rfl) rfl ?_ ?_
      rotate_left 2
      ·
       go_simp
       constructor
       ·
        rfl
       rfl
      refine hK.out _ _ ⟨(blk_cell (blk_alloc BK230.out _) 0).trans rfl, (blk_cell (blk_alloc BK232.out _) 0).trans rfl, (blk_cell (blk_alloc BK232.out _) 1).trans rfl, (blk_cell (blk_alloc BK232.out _) 2).trans rfl⟩ (fun hHeld => ?_)
      clear hK K
      refine norm_ (a' := ?_) ?_ ?_
      rotate_left
      ·
       show Act.put _ (some 30) _ = _
       simp only [Act.put, List.setIfInBounds_toArray, List.set_cons_zero, List.set_cons_succ, i64_w, i32_w]
       rfl
      refine one_ (i := 12) (N := some 31) #[true, true, true, true, true, true, true, true, true, true, true, true, true, false, false] rfl rfl (one_of HT_.out (by kernel_rfl)) (by decide) (fun K hK => ?_)
      refine S_append_step k74 (w0 := w) w.heap.size (by rfl) (.tmp 20) (.tmp 30) 27 74 (.agg #[(.string ⟨#[]⟩), (.slice none 0 0), (.slice none 0 0)]) 64 rfl Tryd.underlying27 info74 rfl (by decide) (by omega) u231000 x231000_1 (⟨(rd_T74 l0_0 x4_1).f0, t233, t236⟩ : S74) [.string ((rd_T74 l0_0 x4_1).f0), .slice Ao26 t233.length co26, .slice Ao25 t236.length co25] (fun k_ => k_ ≠ gb232) (fun k_ => some k_ = (.slice Ao26 t233.length co26 : Value).ownBlock ∨ some k_ = (.slice Ao25 t236.length co25 : Value).ownBlock) rfl rfl ?aP (fun k_ hk_ => hk_.elim (fun h_ => ((R_mono (ok' := fun k_ => ((fun k_ => k_ ≠ gb232)) k_ ∧ some k_ ≠ (u231000 : Value).ownBlock) (R_types (R_apart' (HO235.out) (S_typed HO_231000.out) (by decide)) BK232.out (by decide)) (fun k_ hk => ⟨hk.2, hk.1.2⟩))).1 k_ h_.symm) (fun h_ => ((R_mono (ok' := fun k_ => ((fun k_ => k_ ≠ gb232)) k_ ∧ some k_ ≠ (u231000 : Value).ownBlock) (R_types (R_apart' (HO238.out) (S_typed HO_231000.out) (by decide)) BK232.out (by decide)) (fun k_ hk => ⟨hk.2, hk.1.2⟩))).1 k_ h_.symm)) ?aF ?aO ?aB ?aS ?aL ?_
      (case aP => exact k74_mkM _ _ _ (⟨(rd_T74 l0_0 x4_1).f0, t233, t236⟩ : S74) (R_mono (R_tight rfl (R_mono (ok' := fun k_ => ((fun k_ => k_ ≠ gb232)) k_ ∧ some k_ ≠ (u231000 : Value).ownBlock) (R_types (R_apart' (HO235.out) (S_typed HO_231000.out) (by decide)) BK232.out (by decide)) (fun k_ hk => ⟨hk.2, hk.1.2⟩))) (fun _ h_ => Or.inl h_)) (R_mono (R_tight rfl (R_mono (ok' := fun k_ => ((fun k_ => k_ ≠ gb232)) k_ ∧ some k_ ≠ (u231000 : Value).ownBlock) (R_types (R_apart' (HO238.out) (S_typed HO_231000.out) (by decide)) BK232.out (by decide)) (fun k_ hk => ⟨hk.2, hk.1.2⟩))) (fun _ h_ => Or.inr (h_))) (AP.ne_of (HO235.out) (HO238.out) (by first | exact .inl (fun k_ hk_ => by first | exact hk_ | exact hk_.1 | exact hk_.2 | exact hk_.1.1 | exact hk_.1.2 | exact hk_.2.1 | exact hk_.2.2) | exact .inr (fun k_ hk_ => by first | exact hk_ | exact hk_.1 | exact hk_.2 | exact hk_.1.1 | exact hk_.1.2 | exact hk_.2.1 | exact hk_.2.2))))
      (case aB => exact Zs)
      (case aF => exact (fun k_ hk => Kd.freshB (g := gb232) (o := .cells #[.string ((rd_T74 l0_0 x4_1).f0), .slice A231_1 ((rd_T74 l0_0 x4_1).f1).length c231_1, .slice A231_2 ((rd_T74 l0_0 x4_1).f2).length c231_2] 74 (0, 0)) Zk k_ hk))
      (case aO => exact (by (with_reducible repeat (first | apply S_alloc | apply S_drewN | apply S_drew)); exact S_mono HO_231000.out (fun k_ hk => ⟨hk.1.1, fun e_ => e_.elim (fun h_ => hk.1.2 h_) (fun h_ => hk.2 h_)⟩)))
      (case aS => exact (below_size Zs))
      (case aL => have := LMc12.out; omega)
      intro v240 w27 ho hb hg hat
      rw [← Ny239.out] at ho
      have n0_ := Zh (blk_grown (g := gb228) (o := .cells #[.slice (some ad231) l0_0.length c0_0] 29 (0, 0)) Zk hg (S_ne HO_231000.out BK228.out (by decide)))
      have n1_ := Zh (blk_grown (g := gb229) (o := .cells #[.slice none 0 0] 29 (0, 0)) Zk hg (S_ne HO_231000.out BK229.out (by decide)))
      have n2_ := Zh (blk_grown (g := gb230) (o := .cells #[u231000] 29 (0, 0)) Zk hg (S_ne HO_231000.out BK230.out (by decide)))
      have n3_ := Zh (blk_grown (g := gb232) (o := .cells #[.string ((rd_T74 l0_0 x4_1).f0), .slice A231_1 ((rd_T74 l0_0 x4_1).f1).length c231_1, .slice A231_2 ((rd_T74 l0_0 x4_1).f2).length c231_2] 74 (0, 0)) Zk hg (S_away HO_231000.out (fun _ hk => hk.1.1)))
      have n4_ := Zh (hb)
      have n5_ := Zh (ho)
      clear BK228
      clear BK229
      clear BK230
      clear BK232
      clear HB
      clear HO_231000
      clear HO235
      clear HO238
      have BK228 := n0_
      have BK229 := n1_
      have BK230 := n2_
      have BK232 := n3_
      have HB := n4_
      have HO241 := n5_
      clear n0_ n1_ n2_ n3_ n4_ n5_
      clear ho hb hg hat
      obtain ⟨Ao28, co28, eo28⟩ := S_slice HO241.out
      (first | subst eo28 | (injection eo28 with f1_ f2_ f3_; have f4_ := f1_.symm; have f5_ := f3_.symm; clear f1_ f2_ f3_; subst f4_; subst f5_))
      refine hK.out _ _ ⟨(blk_cell BK230.out 0).trans rfl, (blk_cell BK232.out 0).trans rfl, (blk_cell BK232.out 1).trans rfl, (blk_cell BK232.out 2).trans rfl⟩ (fun hHeld => ?_)
      clear hK K
      refine norm_ (a' := ?_) ?_ ?_
      rotate_left
      ·
       show Act.put _ (some 31) _ = _
       simp only [Act.put, List.setIfInBounds_toArray, List.set_cons_zero, List.set_cons_succ, i64_w, i32_w]
       rfl
      refine SQ.pu 13 32 HT_ ?_
      refine last_ (i := 14) (N := none) #[true, true, true, true, true, true, true, true, true, true, true, true, true, true, true] rfl rfl (one_of HT_.out (by kernel_rfl)) (by decide) (fun K hK => ?_)
      have hs29 : w27.cell? ⟨gb230, 0, none⟩ = some (u231000) := (blk_cell BK230.out 0).trans rfl
      have hfs29 := Zn BK230.out 0
      have hns29_0 := NB228_230.out
      have hns29_1 := NB229_230.out
      have hns29_3 := NB232_230.out
      have hms29_0 := NB230_228.out
      have hms29_1 := NB230_229.out
      have hms29_3 := NB230_232.out
      refine skip_ (w1 := ?_) (by rfl) rfl ?_ ?_
      rotate_left
      ·
       go_simp
       rfl
      refine hK.out _ _ ?_
      clear hK K
      refine done_ (done_of HT_.out (by kernel_rfl)) ?_
      try go_wp2
      go_roundg k1
      case measure => have := HK1.out; omega
      case rel => exact ⟨(wrap64 (x4_1 + 1)), (y239), (.slice Ao28 y239.length co28), (by first | rfl | (simp; done) | (simp [*]; done)), H', ⟨by have := HK1.out; omega⟩, ⟨by (with_reducible repeat (first | apply S_alloc | apply S_drewN | apply S_drew)); exact S_mono (S_far (p := ⟨gb230, 0, none⟩) (S_types HO241.out BK230.out (by decide)) (fun _ hk => hk.2) (.slice Ao28 y239.length co28)) (fun _ hk => trivial)⟩, ⟨by (with_reducible repeat (first | refine Za ?_ _ | refine Zb ?_ | refine blk_alloc ?_ _)); refine Zp ?_ NB228_230.out _; (with_reducible repeat (first | refine Za ?_ _ | refine Zb ?_ | refine blk_alloc ?_ _)); exact BK228.out⟩, ⟨by (with_reducible repeat (first | refine Za ?_ _ | refine Zb ?_ | refine blk_alloc ?_ _)); refine Zp ?_ NB229_230.out _; (with_reducible repeat (first | refine Za ?_ _ | refine Zb ?_ | refine blk_alloc ?_ _)); exact BK229.out⟩, ⟨by (with_reducible repeat (first | refine Za ?_ _ | refine Zb ?_ | refine blk_alloc ?_ _)); refine blk_put (cs := #[u231000]) ?_ 0 _ rfl; (with_reducible repeat (first | refine Za ?_ _ | refine Zb ?_ | refine blk_alloc ?_ _)); exact BK230.out⟩, ⟨by repeat (first | (with_reducible first | exact HB.out | apply Zf | apply Zd | apply Ze | refine Zg ?_ GE228.out | refine Zg ?_ GE229.out | refine Zg ?_ GE230.out | refine Zg ?_ GE232.out) | exact HB.out)⟩⟩
     rw [if_neg c12] at H
     exact absurd H (by simp)
    rw [if_neg c9] at H
    exact absurd H (by simp)
   rw [if_neg c8] at H
   have c8b0 : decide (x4_1 < (l0_0.length : Int)) = false := decide_eq_false c8
   clear c8
   obtain rfl := Option.some.inj H
   have hnb30 := NB228_229.out
   have hnc30 := NB229_228.out
   have hnb31 := NB228_230.out
   have hnc31 := NB230_228.out
   have hcz32_0 : wr.cell? ⟨gb228, 0, none⟩ = some (.slice A0_0 l0_0.length c0_0) := (blk_cell BK228.out 0).trans rfl
   have hfz32_0 := Zn BK228.out 0
   have hnb33 := NB230_229.out
   have hnc33 := NB229_230.out
   have hcz34_0 : wr.cell? ⟨gb230, 0, none⟩ = some (u231000) := (blk_cell BK230.out 0).trans rfl
   have hfz34_0 := Zn BK230.out 0
   obtain ⟨Ao35, co35, eo35⟩ := S_slice HO_231000.out
   subst eo35
   have hcz36_0 : wr.cell? ⟨gb229, 0, none⟩ = some (.slice none 0 0) := (blk_cell BK229.out 0).trans rfl
   have hfz36_0 := Zn BK229.out 0
   go_wp2
   refine bodyPost_ret (results_cell_row rfl _ _ gb229 29 #[.slice Ao35 x231000_1.length co35] (0, 0) _ rfl (by (with_reducible repeat (first | refine Za ?_ _ | refine Zb ?_ | refine blk_alloc ?_ _)); refine blk_put (cs := #[.slice none 0 0]) ?_ 0 _ rfl; (with_reducible repeat (first | refine Za ?_ _ | refine Zb ?_ | refine blk_alloc ?_ _)); exact BK229.out) Tryd.underlying29 rfl (by kernel_rfl)) rfl ?_
   exact ⟨_, by first | rfl | (simp [errW_none, errW_some] <;> rfl) | (simp [*, errW_none, errW_some] <;> rfl), by (with_reducible repeat (first | apply S_alloc | apply S_drewN | apply S_drew)); exact S_mono (S_far (p := ⟨gb229, 0, none⟩) (S_types HO_231000.out BK229.out (by decide)) (fun _ hk => hk.2) (.slice Ao35 x231000_1.length co35)) (fun _ hk => trivial), by repeat (first | (with_reducible first | exact HB.out | apply Zf | apply Zd | apply Ze | refine Zg ?_ GE228.out | refine Zg ?_ GE229.out | refine Zg ?_ GE230.out) | exact HB.out)⟩
def spec_l03Without.l0 : Nat → ByteArray → Int → List (S74) → List (S74) → Option ((List (S74)))
 | 0, _, _, _, _ => none
 | k + 1, x1, x6, x243000, x245000 => if x6 < (x243000.length : Int) then (if 0 ≤ x6 then (if ((rd_T74 x243000 x6).f0).toList = x1.toList then (spec_l03Without.l0 k x1 (wrap64 (x6 + 1)) x243000 x245000) else (if x245000.length < 2199023255552 then (spec_l03Without.l0 k x1 (wrap64 (x6 + 1)) x243000 (x245000 ++ [(⟨(rd_T74 x243000 x6).f0, (rd_T74 x243000 x6).f1, (rd_T74 x243000 x6).f2⟩ : S74)])) else (none))) else (none)) else ((spec_l03Copy.f k x245000).bind fun t250 => (some t250))
def spec_l03Without.f (k : Nat) (l0_0 : List (S74)) (a1 : ByteArray) : Option ((List (S74))) := spec_l03Without.l0 k a1 0 l0_0 ([] : List (S74))
def spec_l03Without.T6 : Bool × List (List Nat × List Nat) := (true, [([], []), ([0], [0]), ([], []), ([2], [2]), ([], []), ([3, 4], [3, 4]), ([5], [5]), ([6], [6]), ([1, 7], [1, 7]), ([0, 1, 2, 3, 4, 5, 6, 7, 8], []), ([9, 8, 8, 0, 1, 2, 3, 4, 5, 6, 7, 8], [8, 9])])
def spec_l03Without.B6 : List Nat := [0, 1, 0, 4, 0, 28, 60, 124, 255, 511, 1023]
theorem spec_l03Without.tab6 : rtab .any (opsOf Tryd.f67 6) = spec_l03Without.T6 := by kernel_rfl
theorem spec_l03Without.bits6 : waitsOk spec_l03Without.T6.2 spec_l03Without.B6 = true := by kernel_rfl
set_option maxHeartbeats 8000000 in
set_option maxRecDepth 100000 in
theorem spec_l03Without.calls (k : Nat) (P0_0_ : Nat → Prop) (A0_0 : Option Addr) (c0_0 : Nat) (l0_0 : List (S74)) (a1 : ByteArray) (r : List (S74)) (w : World) (hs0_0 : Kd.V k74 74 w w.heap.size (fun k_ => P0_0_ k_) (.slice A0_0 l0_0.length c0_0) l0_0) (h : spec_l03Without.f k l0_0 a1 = some r) :
  Calls Tryd.prog 67 #[.agg #[.slice A0_0 l0_0.length c0_0], .string a1] w fun e w' => ∃ v0_ : Value, e = .returned (.agg #[v0_]) ∧ Kd.N k74 74 w' w.heap.size (fun k_ => (P0_0_ k_ ∨ w.heap.size ≤ k_)) v0_ r ∧ Below w.heap.size w w' := by
 have hu29 := Tryd.underlying29
 have hu74 := Tryd.underlying74
 have HO0_0 := Zh (show Kd.V k74 74 w w.heap.size (fun k_ => (P0_0_ k_ ∨ w.heap.size ≤ k_)) (.slice A0_0 l0_0.length c0_0) l0_0 from V_mono hs0_0 (fun k_ hk => .inl hk))
 have HB := Zh (Below.refl w.heap.size w)
 have H : (spec_l03Without.l0 k a1 0 l0_0 ([] : List (S74))) = some r := h
 clear h
 have H' := Zh H
 clear H
 go_enter Tryd.func67, Tryd.ntmps67
 go_wp2_with (first | ((with_reducible refine gate_dst (N := 2) rfl ?_); refine box_event ?hg (N := 2) ?hd (cs := #[.slice A0_0 l0_0.length c0_0]) (t := 29) ?hr ?_; (case hd => rfl); (case hg => rfl); (case hr => first | (go_simp; done) | (go_simp; rfl)); intro gb242 hg w3 hbox hb; have n0_ := Zh (V_below (V_elderB (by (with_reducible repeat (first | apply V_alloc | apply V_drewN | apply V_drew)); exact HO0_0.out) gb242 (Nat.le_of_eq hg.symm)) hb); have n1_ := Zh (Zl Zs hb); have n2_ := Zh (hbox); have n3_ := Zh ((by rw [hg]; exact (below_size Zs) : w.heap.size ≤ gb242)); have n4_ := Zh ((by rw [hg]; exact (below_size Zs) : w.heap.size ≤ gb242)); clear HO0_0; clear HB; have HO0_0 := n0_; have HB := n1_; have BK242 := n2_; have GW242 := n3_; have GE242 := n4_; clear n0_ n1_ n2_ n3_ n4_; clear hb hbox hg) | ((with_reducible refine gate_dst (N := 4) rfl ?_); refine box_event ?hg (N := 4) ?hd (cs := #[.slice none 0 0]) (t := 29) ?hr ?_; (case hd => rfl); (case hg => rfl); (case hr => first | (go_simp; done) | (go_simp; rfl)); intro gb243 hg w4 hbox hb; have n0_ := Zh (V_below (V_elderB (by (with_reducible repeat (first | apply V_alloc | apply V_drewN | apply V_drew)); exact HO0_0.out) gb243 (Nat.le_of_eq hg.symm)) hb); have n1_ := Zh (Zm (g := gb242) (o := .cells #[.slice A0_0 l0_0.length c0_0] 29 (0, 0)) Zk hb); have n2_ := Zh (Zl Zs hb); have n3_ := Zh (hbox); have n4_ := Zh ((by rw [hg]; exact (below_size Zs) : w.heap.size ≤ gb243)); have n5_ := Zh ((by rw [hg]; exact (below_size Zs) : w.heap.size ≤ gb243)); have n6_ := Zh ((by rw [hg]; exact Nat.ne_of_lt (blk_lt (g := gb242) (o := .cells #[.slice A0_0 l0_0.length c0_0] 29 (0, 0)) Zk) : gb242 ≠ gb243)); have n7_ := Zh ((by rw [hg]; exact Nat.ne_of_gt (blk_lt (g := gb242) (o := .cells #[.slice A0_0 l0_0.length c0_0] 29 (0, 0)) Zk) : gb243 ≠ gb242)); clear HO0_0; clear BK242; clear HB; have HO0_0 := n0_; have BK242 := n1_; have HB := n2_; have BK243 := n3_; have GW243 := n4_; have GE243 := n5_; have NB242_243 := n6_; have NB243_242 := n7_; clear n0_ n1_ n2_ n3_ n4_ n5_ n6_ n7_; clear hb hbox hg) | ((with_reducible refine gate_dst (N := 5) rfl ?_); refine box_event ?hg (N := 5) ?hd (cs := #[.slice none 0 0]) (t := 29) ?hr ?_; (case hd => rfl); (case hg => rfl); (case hr => first | (go_simp; done) | (go_simp; rfl)); intro gb244 hg w5 hbox hb; have n0_ := Zh (V_below (V_elderB (by (with_reducible repeat (first | apply V_alloc | apply V_drewN | apply V_drew)); exact HO0_0.out) gb244 (Nat.le_of_eq hg.symm)) hb); have n1_ := Zh (Zm (g := gb242) (o := .cells #[.slice A0_0 l0_0.length c0_0] 29 (0, 0)) Zk hb); have n2_ := Zh (Zm (g := gb243) (o := .cells #[.slice none 0 0] 29 (0, 0)) Zk hb); have n3_ := Zh (Zl Zs hb); have n4_ := Zh (hbox); have n5_ := Zh ((by rw [hg]; exact (below_size Zs) : w.heap.size ≤ gb244)); have n6_ := Zh ((by rw [hg]; exact (below_size Zs) : w.heap.size ≤ gb244)); have n7_ := Zh ((by rw [hg]; exact Nat.ne_of_lt (blk_lt (g := gb242) (o := .cells #[.slice A0_0 l0_0.length c0_0] 29 (0, 0)) Zk) : gb242 ≠ gb244)); have n8_ := Zh ((by rw [hg]; exact Nat.ne_of_gt (blk_lt (g := gb242) (o := .cells #[.slice A0_0 l0_0.length c0_0] 29 (0, 0)) Zk) : gb244 ≠ gb242)); have n9_ := Zh ((by rw [hg]; exact Nat.ne_of_lt (blk_lt (g := gb243) (o := .cells #[.slice none 0 0] 29 (0, 0)) Zk) : gb243 ≠ gb244)); have n10_ := Zh ((by rw [hg]; exact Nat.ne_of_gt (blk_lt (g := gb243) (o := .cells #[.slice none 0 0] 29 (0, 0)) Zk) : gb244 ≠ gb243)); clear HO0_0; clear BK242; clear BK243; clear HB; have HO0_0 := n0_; have BK242 := n1_; have BK243 := n2_; have HB := n3_; have BK244 := n4_; have GW244 := n5_; have GE244 := n6_; have NB242_244 := n7_; have NB244_242 := n8_; have NB243_244 := n9_; have NB244_243 := n10_; clear n0_ n1_ n2_ n3_ n4_ n5_ n6_ n7_ n8_ n9_ n10_; clear hb hbox hg; have hnb6 := NB244_242.out; have hnc6 := NB242_244.out; have hnb7 := NB244_243.out; have hnc7 := NB243_244.out; have hcz8_0 : w5.cell? ⟨gb244, 0, none⟩ = some (.slice none 0 0) := (blk_cell BK244.out 0).trans rfl; have hfz8_0 := Zn BK244.out 0))
 go_loopg [6] k (fun kq v6 w' => ∃ (x6_1 : Int) (x245000_1 : List (S74)) (u245000 : Value), v6 = .int .i64 x6_1 ∧ Aside0 (spec_l03Without.l0 kq a1 x6_1 l0_0 x245000_1 = some r) ∧ Aside0 (kq ≤ k) ∧ Aside0 (Kd.V k74 74 w' w.heap.size (fun k_ => (P0_0_ k_ ∨ w.heap.size ≤ k_) ∧ some k_ ≠ (u245000 : Value).ownBlock ∧ k_ ≠ gb242 ∧ k_ ≠ gb243 ∧ k_ ≠ gb244) (.slice A0_0 l0_0.length c0_0) l0_0) ∧ Aside0 (Kd.N k74 74 w' w.heap.size (fun k_ => (P0_0_ k_ ∨ w.heap.size ≤ k_) ∧ k_ ≠ gb242 ∧ k_ ≠ gb243 ∧ k_ ≠ gb244) u245000 x245000_1) ∧ Aside0 (w'.heap[gb242]? = some (.cells #[(.slice A0_0 l0_0.length c0_0)] 29 (0, 0))) ∧ Aside0 (w'.heap[gb243]? = some (.cells #[(.slice none 0 0)] 29 (0, 0))) ∧ Aside0 (w'.heap[gb244]? = some (.cells #[u245000] 29 (0, 0))) ∧ Aside0 (Below w.heap.size w w'))
 case atStart => exact ⟨(0), (([] : List (S74))), (.slice none 0 0), (by first | rfl | (simp; done) | (simp [*]; done)), H', ⟨Nat.le_refl _⟩, ⟨by (with_reducible repeat (first | apply V_alloc | apply V_drewN | apply V_drew)); exact V_mono (V_far (p := ⟨gb244, 0, none⟩) (V_mono HO0_0.out (fun k_ hk => (⟨hk, hk.2⟩ : _ ∧ k_ ≠ gb244))) (fun _ hk => hk.2) (.slice none 0 0)) (fun _ hk => ⟨hk.1.1.1.1, ⟨(by simp [Value.ownBlock]), ⟨hk.1.1.1.2, ⟨hk.1.1.2, hk.1.2⟩⟩⟩⟩)⟩, ⟨by first | exact S_nil _ _ _ _ _ | exact N_nil _ _ _ _ _ | exact V_nil _ _ _ _ _ | exact Q_nil _ _ _ _ _ | exact R_nil _ _ _ _ _⟩, ⟨by (with_reducible repeat (first | refine Za ?_ _ | refine Zb ?_ | refine blk_alloc ?_ _)); refine Zp ?_ NB242_244.out _; (with_reducible repeat (first | refine Za ?_ _ | refine Zb ?_ | refine blk_alloc ?_ _)); exact BK242.out⟩, ⟨by (with_reducible repeat (first | refine Za ?_ _ | refine Zb ?_ | refine blk_alloc ?_ _)); refine Zp ?_ NB243_244.out _; (with_reducible repeat (first | refine Za ?_ _ | refine Zb ?_ | refine blk_alloc ?_ _)); exact BK243.out⟩, ⟨by (with_reducible repeat (first | refine Za ?_ _ | refine Zb ?_ | refine blk_alloc ?_ _)); refine blk_put (cs := #[.slice none 0 0]) ?_ 0 _ rfl; (with_reducible repeat (first | refine Za ?_ _ | refine Zb ?_ | refine blk_alloc ?_ _)); exact BK244.out⟩, ⟨by repeat (first | (with_reducible first | exact HB.out | apply Zf | apply Zd | apply Ze | refine Zg ?_ GE242.out | refine Zg ?_ GE243.out | refine Zg ?_ GE244.out) | exact HB.out)⟩⟩
 case round =>
  clear H'
  try clear p2
  try clear c6
  try clear c7
  try clear hcz8_0
  try clear hfz8_0
  obtain ⟨x6_1, x245000_1, u245000, rfl, HA, HK1, HO_243000, HO_245000, BK242, BK243, BK244, HB⟩ := hrel
  cases gk with
  | zero => exact absurd HA.out (by simp [spec_l03Without.l0])
  | succ k1 =>
   have H := HA.out
   clear HA
   simp only [spec_l03Without.l0] at H
   by_cases c9 : x6_1 < (l0_0.length : Int)
   ·
    rw [if_pos c9] at H
    have c9b0 : decide (x6_1 < (l0_0.length : Int)) = true := decide_eq_true c9
    clear c9
    by_cases c10 : 0 ≤ x6_1
    ·
     rw [if_pos c10] at H
     have c10b0 : decide (0 ≤ x6_1) = true := decide_eq_true c10
     clear c10
     by_cases c11 : ((rd_T74 l0_0 x6_1).f0).toList = a1.toList
     ·
      rw [if_pos c11] at H
      have c11b0 : (((rd_T74 l0_0 x6_1).f0).toList == a1.toList) = true := beq_iff_eq.mpr c11
      have c11b1 : (((rd_T74 l0_0 x6_1).f0).toList != a1.toList) = false := bne_eq_false_iff_eq.mpr c11
      clear c11
      have H' := Zh H
      clear H
      have hnb12 := NB242_243.out
      have hnc12 := NB243_242.out
      have hnb13 := NB242_244.out
      have hnc13 := NB244_242.out
      have hcz14_0 : wr.cell? ⟨gb242, 0, none⟩ = some (.slice A0_0 l0_0.length c0_0) := (blk_cell BK242.out 0).trans rfl
      have hfz14_0 := Zn BK242.out 0
      have p245 : 0 ≤ (x6_1 : Int) := Zo
      have q245 : x6_1 < (l0_0.length : Int) := Zo
      obtain ⟨ad245, A245_1, c245_1, A245_2, c245_2, e245, hx245_0, hx245_1, hx245_2, hl245_1, hi245_1, hl245_2, hi245_2⟩ := at_T74 (V_reads' HO_243000.out).2.2 x6_1 p245 q245
      cases e245
      obtain ⟨ce245, hce245, hMe245, hcc245⟩ := V_get HO_243000.out z74 x6_1 p245 (by first | exact q245 | exact Zo | (have e_ := (V_reads' HO_243000.out).1; omega))
      obtain ⟨ua245_1, uc245_1, ua245_2, uc245_2, rfl, ul245_1, ge245_1, ul245_2, ge245_2⟩ := k74_openF hMe245
      have hv245_1 := hcc245 1 _ rfl
      rw [add_field _ _ 1 (by omega)] at hv245_1
      replace hv245_1 := Option.some.inj (hv245_1.symm.trans hx245_1)
      injection hv245_1 with hva_ hvn_ hvc_
      rw [hva_] at ge245_1
      rw [hvc_] at ul245_1
      have HL245_1 := Zh (show Kd.V (Kd.int .u8) 5 _ w.heap.size _ _ ((rd_T74 l0_0 x6_1).f1) from V_mk ul245_1 ge245_1)
      clear hva_ hvn_ hvc_ ge245_1 ul245_1
      have hv245_2 := hcc245 2 _ rfl
      rw [add_field _ _ 2 (by omega)] at hv245_2
      replace hv245_2 := Option.some.inj (hv245_2.symm.trans hx245_2)
      injection hv245_2 with hva_ hvn_ hvc_
      rw [hva_] at ge245_2
      rw [hvc_] at ul245_2
      have HL245_2 := Zh (show Kd.V (Kd.int .u8) 5 _ w.heap.size _ _ ((rd_T74 l0_0 x6_1).f2) from V_mk ul245_2 ge245_2)
      clear hva_ hvn_ hvc_ ge245_2 ul245_2
      clear hcc245 hce245
      have HR245_1 := Zh hi245_1
      have HC245_1 := Zh hl245_1
      clear hi245_1 hl245_1
      have HR245_2 := Zh hi245_2
      have HC245_2 := Zh hl245_2
      clear hi245_2 hl245_2
      replace p245 := eq_true p245
      replace q245 := eq_true q245
      go_wp2
      go_roundg k1
      case measure => have := HK1.out; omega
      case rel => exact ⟨(wrap64 (x6_1 + 1)), (x245000_1), (u245000), (by first | rfl | (simp; done) | (simp [*]; done)), H', ⟨by have := HK1.out; omega⟩, ⟨by (with_reducible repeat (first | apply V_alloc | apply V_drewN | apply V_drew)); exact HO_243000.out⟩, ⟨by (with_reducible repeat (first | apply N_alloc | apply N_drewN | apply N_drew)); exact HO_245000.out⟩, ⟨by (with_reducible repeat (first | refine Za ?_ _ | refine Zb ?_ | refine blk_alloc ?_ _)); exact BK242.out⟩, ⟨by (with_reducible repeat (first | refine Za ?_ _ | refine Zb ?_ | refine blk_alloc ?_ _)); exact BK243.out⟩, ⟨by (with_reducible repeat (first | refine Za ?_ _ | refine Zb ?_ | refine blk_alloc ?_ _)); exact BK244.out⟩, ⟨by repeat (first | (with_reducible first | exact HB.out | apply Zf | apply Zd | apply Ze | refine Zg ?_ GE242.out | refine Zg ?_ GE243.out | refine Zg ?_ GE244.out) | exact HB.out)⟩⟩
     rw [if_neg c11] at H
     have c11b0 : (((rd_T74 l0_0 x6_1).f0).toList == a1.toList) = false := beq_eq_false_iff_ne.mpr c11
     have c11b1 : (((rd_T74 l0_0 x6_1).f0).toList != a1.toList) = true := bne_iff_ne.mpr c11
     by_cases c15 : x245000_1.length < 2199023255552
     ·
      rw [if_pos c15] at H
      have LMc15 := Zh c15
      clear c15
      obtain ⟨y247, hy247⟩ : ∃ y_ : List (S74), y_ = (x245000_1 ++ [(⟨(rd_T74 l0_0 x6_1).f0, (rd_T74 l0_0 x6_1).f1, (rd_T74 l0_0 x6_1).f2⟩ : S74)]) := ⟨_, rfl⟩
      replace H : (spec_l03Without.l0 k1 a1 (wrap64 (x6_1 + 1)) l0_0 y247) = some r := by first | (rw [hy247]; with_reducible exact H) | (have H2_ := (Option.bind_some _ _).symm.trans H; rw [hy247]; with_reducible exact H2_) | (have H2_ := (Option.bind_some _ _).symm.trans H; with_reducible exact H2_) | with_reducible exact H | (rw [hy247]; exact H) | exact H
      have Ny247 := Zh hy247
      clear hy247
      have H' := Zh H
      clear H
      have hnb16 := NB242_243.out
      have hnc16 := NB243_242.out
      have hnb17 := NB242_244.out
      have hnc17 := NB244_242.out
      have hcz18_0 : wr.cell? ⟨gb242, 0, none⟩ = some (.slice A0_0 l0_0.length c0_0) := (blk_cell BK242.out 0).trans rfl
      have hfz18_0 := Zn BK242.out 0
      have p245 : 0 ≤ (x6_1 : Int) := Zo
      have q245 : x6_1 < (l0_0.length : Int) := Zo
      obtain ⟨ad245, A245_1, c245_1, A245_2, c245_2, e245, hx245_0, hx245_1, hx245_2, hl245_1, hi245_1, hl245_2, hi245_2⟩ := at_T74 (V_reads' HO_243000.out).2.2 x6_1 p245 q245
      cases e245
      obtain ⟨ce245, hce245, hMe245, hcc245⟩ := V_get HO_243000.out z74 x6_1 p245 (by first | exact q245 | exact Zo | (have e_ := (V_reads' HO_243000.out).1; omega))
      obtain ⟨ua245_1, uc245_1, ua245_2, uc245_2, rfl, ul245_1, ge245_1, ul245_2, ge245_2⟩ := k74_openF hMe245
      have hv245_1 := hcc245 1 _ rfl
      rw [add_field _ _ 1 (by omega)] at hv245_1
      replace hv245_1 := Option.some.inj (hv245_1.symm.trans hx245_1)
      injection hv245_1 with hva_ hvn_ hvc_
      rw [hva_] at ge245_1
      rw [hvc_] at ul245_1
      have HL245_1 := Zh (show Kd.V (Kd.int .u8) 5 _ w.heap.size _ _ ((rd_T74 l0_0 x6_1).f1) from V_mk ul245_1 ge245_1)
      clear hva_ hvn_ hvc_ ge245_1 ul245_1
      have hv245_2 := hcc245 2 _ rfl
      rw [add_field _ _ 2 (by omega)] at hv245_2
      replace hv245_2 := Option.some.inj (hv245_2.symm.trans hx245_2)
      injection hv245_2 with hva_ hvn_ hvc_
      rw [hva_] at ge245_2
      rw [hvc_] at ul245_2
      have HL245_2 := Zh (show Kd.V (Kd.int .u8) 5 _ w.heap.size _ _ ((rd_T74 l0_0 x6_1).f2) from V_mk ul245_2 ge245_2)
      clear hva_ hvn_ hvc_ ge245_2 ul245_2
      clear hcc245 hce245
      have HR245_1 := Zh hi245_1
      have HC245_1 := Zh hl245_1
      clear hi245_1 hl245_1
      have HR245_2 := Zh hi245_2
      have HC245_2 := Zh hl245_2
      clear hi245_2 hl245_2
      replace p245 := eq_true p245
      replace q245 := eq_true q245
      try go_wp2
      have n0_ := Zh (V_drew HO_243000.out)
      have n1_ := Zh (N_drew HO_245000.out)
      have n2_ := Zh (V_drew HL245_1.out)
      have n3_ := Zh (V_drew HL245_2.out)
      have n4_ := Zh (Zb BK242.out)
      have n5_ := Zh (Zb BK243.out)
      have n6_ := Zh (Zb BK244.out)
      have n7_ := Zh (C_drew HR245_1.out)
      have n8_ := Zh (C_drew HR245_2.out)
      have n9_ := Zh (Ze HB.out)
      clear HO_243000
      clear HO_245000
      clear HL245_1
      clear HL245_2
      clear BK242
      clear BK243
      clear BK244
      clear HR245_1
      clear HR245_2
      clear HB
      have HO_243000 := n0_
      have HO_245000 := n1_
      have HL245_1 := n2_
      have HL245_2 := n3_
      have BK242 := n4_
      have BK243 := n5_
      have BK244 := n6_
      have HR245_1 := n7_
      have HR245_2 := n8_
      have HB := n9_
      clear n0_ n1_ n2_ n3_ n4_ n5_ n6_ n7_ n8_ n9_
      have p246 : 0 ≤ (x6_1 : Int) := Zo
      have q246 : x6_1 < (l0_0.length : Int) := Zo
      obtain ⟨ad246, A246_1, c246_1, A246_2, c246_2, e246, hx246_0, hx246_1, hx246_2, hl246_1, hi246_1, hl246_2, hi246_2⟩ := at_T74 (V_reads' HO_243000.out).2.2 x6_1 p246 q246
      obtain rfl : ad245 = ad246 := (by injection e246)
      obtain ⟨ce246, hce246, hMe246, hcc246⟩ := V_get HO_243000.out z74 x6_1 p246 (by first | exact q246 | exact Zo | (have e_ := (V_reads' HO_243000.out).1; omega))
      obtain ⟨ua246_1, uc246_1, ua246_2, uc246_2, rfl, ul246_1, ge246_1, ul246_2, ge246_2⟩ := k74_openF hMe246
      have hv246_1 := hcc246 1 _ rfl
      rw [add_field _ _ 1 (by omega)] at hv246_1
      replace hv246_1 := Option.some.inj (hv246_1.symm.trans hx246_1)
      injection hv246_1 with hva_ hvn_ hvc_
      rw [hva_] at ge246_1
      rw [hvc_] at ul246_1
      have HL246_1 := Zh (show Kd.V (Kd.int .u8) 5 _ w.heap.size _ _ ((rd_T74 l0_0 x6_1).f1) from V_mk ul246_1 ge246_1)
      clear hva_ hvn_ hvc_ ge246_1 ul246_1
      have hv246_2 := hcc246 2 _ rfl
      rw [add_field _ _ 2 (by omega)] at hv246_2
      replace hv246_2 := Option.some.inj (hv246_2.symm.trans hx246_2)
      injection hv246_2 with hva_ hvn_ hvc_
      rw [hva_] at ge246_2
      rw [hvc_] at ul246_2
      have HL246_2 := Zh (show Kd.V (Kd.int .u8) 5 _ w.heap.size _ _ ((rd_T74 l0_0 x6_1).f2) from V_mk ul246_2 ge246_2)
      clear hva_ hvn_ hvc_ ge246_2 ul246_2
      clear hcc246 hce246
      have HR246_1 := Zh hi246_1
      have HC246_1 := Zh hl246_1
      clear hi246_1 hl246_1
      have HR246_2 := Zh hi246_2
      have HC246_2 := Zh hl246_2
      clear hi246_2 hl246_2
      replace p246 := eq_true p246
      replace q246 := eq_true q246
      refine start_ (n := 11) (S := fun w' => w'.cell? ⟨gb244, 0, none⟩ = some (u245000) ∧ w'.cell? ⟨gb242, 0, none⟩ = some (.slice (some ad245) l0_0.length c0_0) ∧ w'.cell? (ad245.add ((x6_1).toNat * 3)) = some (.string ((rd_T74 l0_0 x6_1).f0)) ∧ w'.cell? ⟨(ad245.add ((x6_1).toNat * 3)).block, (ad245.add ((x6_1).toNat * 3)).off + 1, none⟩ = some (.slice A246_1 ((rd_T74 l0_0 x6_1).f1).length c246_1) ∧ w'.cell? ⟨(ad245.add ((x6_1).toNat * 3)).block, (ad245.add ((x6_1).toNat * 3)).off + 2, none⟩ = some (.slice A246_2 ((rd_T74 l0_0 x6_1).f2).length c246_2)) (ds := [8, 10]) #[false, false, false, false, false, false, false, false, false, false, false] (by kernel_rfl) rfl rfl ⟨(blk_cell BK244.out 0).trans rfl, (blk_cell BK242.out 0).trans rfl, hx246_0, hx246_1, hx246_2⟩ (fun hHeld => ?_); refine with_tabW spec_l03Without.tab6 spec_l03Without.bits6 (fun HT_ HW_ => ?_)
      generalize wr.drew = w19 at HO_243000 HO_245000 HL245_1 HL245_2 BK242 BK243 BK244 HR245_1 HR245_2 HB HL246_1 HL246_2 HR246_1 HR246_2 hx246_0 hx246_1 hx246_2 hHeld ⊢
      refine SQ.pu 0 23 HT_ ?_
      refine SQ.pu 2 25 HT_ ?_
      refine SQ.pu 4 27 HT_ ?_
      refine SQ.tk 1 24 HT_ HW_ hHeld ?_
      refine SQ.tk 3 26 HT_ HW_ hHeld ?_
      refine SQ.pu 5 28 HT_ ?_
      refine SQ.tk 6 29 HT_ HW_ hHeld ?_
      refine one_ (i := 7) (N := some 30) #[true, true, true, true, true, true, true, true, false, false, false] rfl rfl (one_of HT_.out (by kernel_rfl)) (by decide) (fun K hK => ?_)
      refine value_ (w1 := ?_) (v := ?_) (by rfl) rfl ?_ ?_
      rotate_left 2
      ·
       go_simp
       constructor
       ·
        rfl
       rfl
      refine hK.out _ _ ⟨(blk_cell (blk_alloc BK244.out _) 0).trans rfl, (blk_cell (blk_alloc BK242.out _) 0).trans rfl, (World.cell?_alloc_lt _ _ _ (Zi _ _ (hHeld.2.2.1))).trans (hHeld.2.2.1), (World.cell?_alloc_lt _ _ _ (Zi _ _ (hHeld.2.2.2.1))).trans (hHeld.2.2.2.1), (World.cell?_alloc_lt _ _ _ (Zi _ _ (hHeld.2.2.2.2))).trans (hHeld.2.2.2.2)⟩ (fun hHeld => ?_)
      clear hK K
      refine norm_ (a' := ?_) ?_ ?_
      rotate_left
      ·
       show Act.put _ (some 30) _ = _
       simp only [Act.put, List.setIfInBounds_toArray, List.set_cons_zero, List.set_cons_succ, i64_w, i32_w]
       rfl
      refine last_ (i := 8) (N := some 31) #[true, true, true, true, true, true, true, true, true, false, false] rfl rfl (one_of HT_.out (by kernel_rfl)) (by decide) (fun K hK => ?_)
      refine N_append_step k74 (w0 := w) w.heap.size (by rfl) (.tmp 24) (.tmp 30) 27 74 (.agg #[(.string ⟨#[]⟩), (.slice none 0 0), (.slice none 0 0)]) 64 rfl Tryd.underlying27 info74 rfl (by decide) (by omega) u245000 x245000_1 (⟨(rd_T74 l0_0 x6_1).f0, (rd_T74 l0_0 x6_1).f1, (rd_T74 l0_0 x6_1).f2⟩ : S74) [.string ((rd_T74 l0_0 x6_1).f0), .slice A246_1 ((rd_T74 l0_0 x6_1).f1).length c246_1, .slice A246_2 ((rd_T74 l0_0 x6_1).f2).length c246_2] (fun k_ => (P0_0_ k_ ∨ w.heap.size ≤ k_) ∧ k_ ≠ gb242 ∧ k_ ≠ gb243 ∧ k_ ≠ gb244) (fun k_ => ((fun k_ => (P0_0_ k_ ∨ w.heap.size ≤ k_) ∧ k_ ≠ gb242 ∧ k_ ≠ gb243 ∧ k_ ≠ gb244)) k_ ∧ some k_ ≠ (u245000 : Value).ownBlock) rfl rfl ?aP (fun _ hk => hk) ?aF ?aO ?aB ?aS ?aL ?_
      (case aP => exact (k74_mkF _ _ (⟨(rd_T74 l0_0 x6_1).f0, (rd_T74 l0_0 x6_1).f1, (rd_T74 l0_0 x6_1).f2⟩ : S74) (V_reads' (V_mono (ok' := (fun k_ => ((fun k_ => (P0_0_ k_ ∨ w.heap.size ≤ k_) ∧ k_ ≠ gb242 ∧ k_ ≠ gb243 ∧ k_ ≠ gb244)) k_ ∧ some k_ ≠ (u245000 : Value).ownBlock)) (HL246_1.out) (fun k_ hk => ⟨⟨hk.1, ⟨hk.2.2.1, ⟨hk.2.2.2.1, hk.2.2.2.2⟩⟩⟩, hk.2.1⟩))).2.1 (V_F (V_mono (ok' := (fun k_ => ((fun k_ => (P0_0_ k_ ∨ w.heap.size ≤ k_) ∧ k_ ≠ gb242 ∧ k_ ≠ gb243 ∧ k_ ≠ gb244)) k_ ∧ some k_ ≠ (u245000 : Value).ownBlock)) (HL246_1.out) (fun k_ hk => ⟨⟨hk.1, ⟨hk.2.2.1, ⟨hk.2.2.2.1, hk.2.2.2.2⟩⟩⟩, hk.2.1⟩))) (V_reads' (V_mono (ok' := (fun k_ => ((fun k_ => (P0_0_ k_ ∨ w.heap.size ≤ k_) ∧ k_ ≠ gb242 ∧ k_ ≠ gb243 ∧ k_ ≠ gb244)) k_ ∧ some k_ ≠ (u245000 : Value).ownBlock)) (HL246_2.out) (fun k_ hk => ⟨⟨hk.1, ⟨hk.2.2.1, ⟨hk.2.2.2.1, hk.2.2.2.2⟩⟩⟩, hk.2.1⟩))).2.1 (V_F (V_mono (ok' := (fun k_ => ((fun k_ => (P0_0_ k_ ∨ w.heap.size ≤ k_) ∧ k_ ≠ gb242 ∧ k_ ≠ gb243 ∧ k_ ≠ gb244)) k_ ∧ some k_ ≠ (u245000 : Value).ownBlock)) (HL246_2.out) (fun k_ hk => ⟨⟨hk.1, ⟨hk.2.2.1, ⟨hk.2.2.2.1, hk.2.2.2.2⟩⟩⟩, hk.2.1⟩)))))
      (case aB => exact Zs)
      (case aF => exact (fun k_ hk => ⟨(.inr (Nat.le_trans (below_size Zs) hk)), Kd.freshB (g := gb242) (o := .cells #[.slice (some ad245) l0_0.length c0_0] 29 (0, 0)) Zk k_ hk, Kd.freshB (g := gb243) (o := .cells #[.slice none 0 0] 29 (0, 0)) Zk k_ hk, Kd.freshB (g := gb244) (o := .cells #[u245000] 29 (0, 0)) Zk k_ hk⟩))
      (case aO => exact (by (with_reducible repeat (first | apply N_alloc | apply N_drewN | apply N_drew)); exact HO_245000.out))
      (case aS => exact (below_size Zs))
      (case aL => have := LMc15.out; omega)
      intro v248 w20 ho hb hg hat
      rw [← Ny247.out] at ho
      have n0_ := Zh (V_afterv (ok := (fun k_ => (P0_0_ k_ ∨ w.heap.size ≤ k_) ∧ k_ ≠ gb242 ∧ k_ ≠ gb243 ∧ k_ ≠ gb244)) (by (with_reducible repeat (first | apply V_alloc | apply V_drewN | apply V_drew)); exact V_mono HO_243000.out (fun _ hk => ⟨⟨hk.1, ⟨hk.2.2.1, ⟨hk.2.2.2.1, hk.2.2.2.2⟩⟩⟩, hk.2.1⟩)) hg hat)
      have n1_ := Zh (blk_grown (g := gb242) (o := .cells #[.slice (some ad245) l0_0.length c0_0] 29 (0, 0)) Zk hg (N_ne HO_245000.out BK242.out (by decide)))
      have n2_ := Zh (blk_grown (g := gb243) (o := .cells #[.slice none 0 0] 29 (0, 0)) Zk hg (N_ne HO_245000.out BK243.out (by decide)))
      have n3_ := Zh (blk_grown (g := gb244) (o := .cells #[u245000] 29 (0, 0)) Zk hg (N_ne HO_245000.out BK244.out (by decide)))
      have n4_ := Zh (V_afterv (ok := (fun k_ => (P0_0_ k_ ∨ w.heap.size ≤ k_) ∧ k_ ≠ gb242 ∧ k_ ≠ gb243 ∧ k_ ≠ gb244)) (by (with_reducible repeat (first | apply V_alloc | apply V_drewN | apply V_drew)); exact V_mono HL245_1.out (fun _ hk => ⟨⟨hk.1, ⟨hk.2.2.1, ⟨hk.2.2.2.1, hk.2.2.2.2⟩⟩⟩, hk.2.1⟩)) hg hat)
      have n5_ := Zh (V_afterv (ok := (fun k_ => (P0_0_ k_ ∨ w.heap.size ≤ k_) ∧ k_ ≠ gb242 ∧ k_ ≠ gb243 ∧ k_ ≠ gb244)) (by (with_reducible repeat (first | apply V_alloc | apply V_drewN | apply V_drew)); exact V_mono HL245_2.out (fun _ hk => ⟨⟨hk.1, ⟨hk.2.2.1, ⟨hk.2.2.2.1, hk.2.2.2.2⟩⟩⟩, hk.2.1⟩)) hg hat)
      have n6_ := Zh (V_afterv (ok := (fun k_ => (P0_0_ k_ ∨ w.heap.size ≤ k_) ∧ k_ ≠ gb242 ∧ k_ ≠ gb243 ∧ k_ ≠ gb244)) (by (with_reducible repeat (first | apply V_alloc | apply V_drewN | apply V_drew)); exact V_mono HL246_1.out (fun _ hk => ⟨⟨hk.1, ⟨hk.2.2.1, ⟨hk.2.2.2.1, hk.2.2.2.2⟩⟩⟩, hk.2.1⟩)) hg hat)
      have n7_ := Zh (V_afterv (ok := (fun k_ => (P0_0_ k_ ∨ w.heap.size ≤ k_) ∧ k_ ≠ gb242 ∧ k_ ≠ gb243 ∧ k_ ≠ gb244)) (by (with_reducible repeat (first | apply V_alloc | apply V_drewN | apply V_drew)); exact V_mono HL246_2.out (fun _ hk => ⟨⟨hk.1, ⟨hk.2.2.1, ⟨hk.2.2.2.1, hk.2.2.2.2⟩⟩⟩, hk.2.1⟩)) hg hat)
      have n8_ := Zh (hb)
      have n9_ := Zh (ho)
      clear HO_243000
      clear BK242
      clear BK243
      clear BK244
      clear HL245_1
      clear HL245_2
      clear HL246_1
      clear HL246_2
      clear HB
      clear HO_245000
      have HO_243000 := n0_
      have BK242 := n1_
      have BK243 := n2_
      have BK244 := n3_
      have HL245_1 := n4_
      have HL245_2 := n5_
      have HL246_1 := n6_
      have HL246_2 := n7_
      have HB := n8_
      have HO249 := n9_
      clear n0_ n1_ n2_ n3_ n4_ n5_ n6_ n7_ n8_ n9_
      clear ho hb hg hat
      obtain ⟨Ao21, co21, eo21⟩ := N_slice HO249.out
      (first | subst eo21 | (injection eo21 with f1_ f2_ f3_; have f4_ := f1_.symm; have f5_ := f3_.symm; clear f1_ f2_ f3_; subst f4_; subst f5_))
      refine hK.out _ _ ?_
      clear hK K
      refine norm_ (a' := ?_) ?_ ?_
      rotate_left
      ·
       show Act.put _ (some 31) _ = _
       simp only [Act.put, List.setIfInBounds_toArray, List.set_cons_zero, List.set_cons_succ, i64_w, i32_w]
       rfl
      refine SQ.pu 9 32 HT_ ?_
      refine last_ (i := 10) (N := none) #[true, true, true, true, true, true, true, true, true, true, true] rfl rfl (one_of HT_.out (by kernel_rfl)) (by decide) (fun K hK => ?_)
      have hs22 : w20.cell? ⟨gb244, 0, none⟩ = some (u245000) := (blk_cell BK244.out 0).trans rfl
      have hfs22 := Zn BK244.out 0
      have hns22_0 := NB242_244.out
      have hns22_1 := NB243_244.out
      have hms22_0 := NB244_242.out
      have hms22_1 := NB244_243.out
      refine skip_ (w1 := ?_) (by rfl) rfl ?_ ?_
      rotate_left
      ·
       go_simp
       rfl
      refine hK.out _ _ ?_
      clear hK K
      refine done_ (done_of HT_.out (by kernel_rfl)) ?_
      try go_wp2
      go_roundg k1
      case measure => have := HK1.out; omega
      case rel => exact ⟨(wrap64 (x6_1 + 1)), (y247), (.slice Ao21 y247.length co21), (by first | rfl | (simp; done) | (simp [*]; done)), H', ⟨by have := HK1.out; omega⟩, ⟨by (with_reducible repeat (first | apply V_alloc | apply V_drewN | apply V_drew)); exact V_mono (V_far (p := ⟨gb244, 0, none⟩) (V_mono HO_243000.out (fun k_ hk => (⟨hk, hk.1.2.2.2⟩ : _ ∧ k_ ≠ gb244))) (fun _ hk => hk.2) (.slice Ao21 y247.length co21)) (fun _ hk => ⟨hk.1.1.1, ⟨hk.1.2, ⟨hk.1.1.2.1, ⟨hk.1.1.2.2.1, hk.1.1.2.2.2⟩⟩⟩⟩)⟩, ⟨by (with_reducible repeat (first | apply N_alloc | apply N_drewN | apply N_drew)); exact N_mono (N_far (p := ⟨gb244, 0, none⟩) (N_mono HO249.out (fun k_ hk => (⟨hk, hk.2.2.2⟩ : _ ∧ k_ ≠ gb244))) (fun _ hk => hk.2) (.slice Ao21 y247.length co21)) (fun _ hk => ⟨hk.1.1, ⟨hk.1.2.1, ⟨hk.1.2.2.1, hk.1.2.2.2⟩⟩⟩)⟩, ⟨by (with_reducible repeat (first | refine Za ?_ _ | refine Zb ?_ | refine blk_alloc ?_ _)); refine Zp ?_ NB242_244.out _; (with_reducible repeat (first | refine Za ?_ _ | refine Zb ?_ | refine blk_alloc ?_ _)); exact BK242.out⟩, ⟨by (with_reducible repeat (first | refine Za ?_ _ | refine Zb ?_ | refine blk_alloc ?_ _)); refine Zp ?_ NB243_244.out _; (with_reducible repeat (first | refine Za ?_ _ | refine Zb ?_ | refine blk_alloc ?_ _)); exact BK243.out⟩, ⟨by (with_reducible repeat (first | refine Za ?_ _ | refine Zb ?_ | refine blk_alloc ?_ _)); refine blk_put (cs := #[u245000]) ?_ 0 _ rfl; (with_reducible repeat (first | refine Za ?_ _ | refine Zb ?_ | refine blk_alloc ?_ _)); exact BK244.out⟩, ⟨by repeat (first | (with_reducible first | exact HB.out | apply Zf | apply Zd | apply Ze | refine Zg ?_ GE242.out | refine Zg ?_ GE243.out | refine Zg ?_ GE244.out) | exact HB.out)⟩⟩
     rw [if_neg c15] at H
     exact absurd H (by simp)
    rw [if_neg c10] at H
    exact absurd H (by simp)
   rw [if_neg c9] at H
   have c9b0 : decide (x6_1 < (l0_0.length : Int)) = false := decide_eq_false c9
   clear c9
   replace H := Option.bind_eq_some_iff.mp H
   obtain ⟨t250, A230, H⟩ := H
   replace H : (some t250) = some r := H
   have A23 := Zh A230
   clear A230
   obtain rfl := Option.some.inj H
   have hnb24 := NB242_243.out
   have hnc24 := NB243_242.out
   have hnb25 := NB242_244.out
   have hnc25 := NB244_242.out
   have hcz26_0 : wr.cell? ⟨gb242, 0, none⟩ = some (.slice A0_0 l0_0.length c0_0) := (blk_cell BK242.out 0).trans rfl
   have hfz26_0 := Zn BK242.out 0
   have hnb27 := NB244_243.out
   have hnc27 := NB243_244.out
   have hcz28_0 : wr.cell? ⟨gb244, 0, none⟩ = some (u245000) := (blk_cell BK244.out 0).trans rfl
   have hfz28_0 := Zn BK244.out 0
   obtain ⟨Ao29, co29, eo29⟩ := N_slice HO_245000.out
   subst eo29
   go_wp2_with (first | ((with_reducible refine gate_callee (f := 66) rfl ?_); refine goesL_ (some 34) rfl rfl Tryd.func66 (by kernel_rfl) rfl #[.agg #[.slice Ao29 x245000_1.length co29]] rfl (by (try simp only [List.map_toArray, List.map_cons, List.map_nil]); first | done | rfl | (simp only [List.length_drop, List.length_take]; rfl)) ?_; (with_reducible refine (spec_l03Copy.calls k1 _ _ x245000_1 t250 _ ?side1 ?side2 A23.out).mono ?_); (case side1 => repeat (first | exact (N_reads' HO_245000.out).2.2 | (with_reducible refine C_alloc ?_ _) | (with_reducible refine C_drewN ?_ _) | (with_reducible refine C_drew ?_))); (case side2 => exact (N_reads' HO_245000.out).2.1); rintro e w30 ⟨v251, rfl, ho0, hb⟩; refine ⟨_, rfl, ?_⟩; have n0_ := Zh (V_elder' (by (with_reducible repeat (first | apply V_alloc | apply V_drewN | apply V_drew)); exact HO_243000.out) (S_base ho0) hb); have n1_ := Zh (N_elder' (by (with_reducible repeat (first | apply N_alloc | apply N_drewN | apply N_drew)); exact HO_245000.out) (S_base ho0) hb); have n2_ := Zh (N_lower (N_mono (ok' := fun k_ => (P0_0_ k_ ∨ w.heap.size ≤ k_) ∧ some k_ ≠ (.slice Ao29 x245000_1.length co29 : Value).ownBlock ∧ k_ ≠ gb242 ∧ k_ ≠ gb243 ∧ k_ ≠ gb244) (S_N (S_bound ho0)) (fun k_ hk_ => ⟨(.inr (Nat.le_trans (below_size Zs) hk_.2.1)), (Kd.fresh' (N_lt (by (with_reducible repeat (first | apply N_alloc | apply N_drewN | apply N_drew)); exact HO_245000.out)) k_ hk_.2.1), (Kd.freshB (g := gb242) (o := .cells #[.slice A0_0 l0_0.length c0_0] 29 (0, 0)) Zk k_ hk_.2.1), (Kd.freshB (g := gb243) (o := .cells #[.slice none 0 0] 29 (0, 0)) Zk k_ hk_.2.1), (Kd.freshB (g := gb244) (o := .cells #[.slice Ao29 x245000_1.length co29] 29 (0, 0)) Zk k_ hk_.2.1)⟩)) (below_size Zs)); have n3_ := Zh (Zm (g := gb242) (o := .cells #[.slice A0_0 l0_0.length c0_0] 29 (0, 0)) Zk hb); have n4_ := Zh (Zm (g := gb243) (o := .cells #[.slice none 0 0] 29 (0, 0)) Zk hb); have n5_ := Zh (Zm (g := gb244) (o := .cells #[.slice Ao29 x245000_1.length co29] 29 (0, 0)) Zk hb); have n6_ := Zh (Zl Zs hb); clear HO_243000; clear HO_245000; clear BK242; clear BK243; clear BK244; clear HB; have HO_243000 := n0_; have HO_245000 := n1_; have HO252 := n2_; have BK242 := n3_; have BK243 := n4_; have BK244 := n5_; have HB := n6_; clear n0_ n1_ n2_ n3_ n4_ n5_ n6_; (try clear hb); (try clear hb2); (try clear hk); (try clear hi); (try clear ho0); obtain ⟨Ao31, co31, eo31⟩ := N_slice HO252.out; subst eo31; have hcz32_0 : w30.cell? ⟨gb243, 0, none⟩ = some (.slice none 0 0) := (blk_cell BK243.out 0).trans rfl; have hfz32_0 := Zn BK243.out 0))
   refine bodyPost_ret (results_cell_row rfl _ _ gb243 29 #[.slice Ao31 t250.length co31] (0, 0) _ rfl (by (with_reducible repeat (first | refine Za ?_ _ | refine Zb ?_ | refine blk_alloc ?_ _)); refine blk_put (cs := #[.slice none 0 0]) ?_ 0 _ rfl; (with_reducible repeat (first | refine Za ?_ _ | refine Zb ?_ | refine blk_alloc ?_ _)); exact BK243.out) Tryd.underlying29 rfl (by kernel_rfl)) rfl ?_
   exact ⟨_, by first | rfl | (simp [errW_none, errW_some] <;> rfl) | (simp [*, errW_none, errW_some] <;> rfl), by (with_reducible repeat (first | apply N_alloc | apply N_drewN | apply N_drew)); exact N_mono (N_far (p := ⟨gb243, 0, none⟩) (N_mono HO252.out (fun k_ hk => (⟨hk, hk.2.2.2.1⟩ : _ ∧ k_ ≠ gb243))) (fun _ hk => hk.2) (.slice Ao31 t250.length co31)) (fun _ hk => hk.1.1), by repeat (first | (with_reducible first | exact HB.out | apply Zf | apply Zd | apply Ze | refine Zg ?_ GE242.out | refine Zg ?_ GE243.out | refine Zg ?_ GE244.out) | exact HB.out)⟩
end Go.Proofs.YtmgeffgcihfpcaaDoor.F
