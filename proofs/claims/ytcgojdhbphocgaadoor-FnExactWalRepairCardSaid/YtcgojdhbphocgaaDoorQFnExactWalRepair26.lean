/- Merged texts below the law FnExactWalRepair: Go functions as Lean functions, their contracts, and plain lemmas. -/
import Derived.Test.YtcgojdhbphocgaaDoorQFnExactWalRepair23
import Derived.Test.YtcgojdhbphocgaaDoorQFnExactWalRepair25
namespace Go.Proofs.YtcgojdhbphocgaaDoor.F
open Go.Proofs.YtcgojdhbphocgaaDoor
open Go.RowKit Go.Proofs.YtcgojdhbphocgaaDoorW.PrintWords Go.Proofs.YtcgojdhbphocgaaDoorW.PrintWords.Kd Go.Proofs.YtcgojdhbphocgaaDoorW.PrintMore.Kd Go.Proofs.YtcgojdhbphocgaaDoorW.PrintLast Go.Proofs.YtcgojdhbphocgaaDoorW.PrintMore
attribute [local go_sem] max2_int min2_int max_two min_two max_three min_three max_four min_four   -- for this text's walks alone
set_option linter.unusedVariables false
set_option linter.unusedSimpArgs false
def spec_l03Copy.l0 : Nat → Int → List (S55) → List (S55) → Option ((List (S55)))
 | 0, _, _, _ => none
 | k + 1, x4, x139000, x141000 => if x4 < (x139000.length : Int) then (if 0 ≤ x4 then ((spec_l01Bytes.f k ((rd_T55 x139000 x4).f1)).bind fun t143 => ((spec_l01Bytes.f k ((rd_T55 x139000 x4).f2)).bind fun t146 => (if x141000.length < 2199023255552 then (spec_l03Copy.l0 k (wrap64 (x4 + 1)) x139000 (x141000 ++ [(⟨(rd_T55 x139000 x4).f0, t143, t146⟩ : S55)])) else (none)))) else (none)) else (some x141000)
def spec_l03Copy.f (k : Nat) (l0_0 : List (S55)) : Option ((List (S55))) := spec_l03Copy.l0 k 0 l0_0 ([] : List (S55))
def spec_l03Copy.T6 : Bool × List (List Nat × List Nat) := (true, [([], []), ([0], [0]), ([], []), ([2], [2]), ([], []), ([4], [4]), ([5], [5]), ([], []), ([7], [7]), ([8, 6], [8]), ([3, 6, 9], [3, 6, 9]), ([10], [10]), ([1, 11, 9], [1, 11]), ([0, 1, 2, 3, 4, 5, 6, 7, 8, 9, 10, 11, 12], []), ([13, 12, 12, 0, 1, 2, 3, 4, 5, 6, 7, 8, 9, 10, 11, 12], [12, 13])])
def spec_l03Copy.B6 : List Nat := [0, 1, 0, 4, 0, 16, 48, 0, 128, 496, 1020, 2044, 4095, 8191, 16383]
theorem spec_l03Copy.tab6 : rtab .any (opsOf Tryd.f54 6) = spec_l03Copy.T6 := by kernel_rfl
theorem spec_l03Copy.bits6 : waitsOk spec_l03Copy.T6.2 spec_l03Copy.B6 = true := by kernel_rfl
set_option maxHeartbeats 8000000 in
set_option maxRecDepth 100000 in
theorem spec_l03Copy.calls (k : Nat) (A0_0 : Option Addr) (c0_0 : Nat) (l0_0 : List (S55)) (r : List (S55)) (w : World) (hr0_0 : Kd.C k55 w A0_0 l0_0.length l0_0) (hc0_0 : l0_0.length ≤ c0_0) (h : spec_l03Copy.f k l0_0 = some r) :
  Calls Tryd.prog 54 #[.agg #[.slice A0_0 l0_0.length c0_0]] w fun e w' => ∃ v0_ : Value, e = .returned (.agg #[v0_]) ∧ Kd.S k55 55 w' w.heap.size (fun _ => True) v0_ r ∧ Below w.heap.size w w' := by
 have hu28 := Tryd.underlying28
 have hu55 := Tryd.underlying55
 have HR0_0 := Zh hr0_0
 have HC0_0 := Zh hc0_0
 clear hr0_0 hc0_0
 have HB := Zh (Below.refl w.heap.size w)
 have H : (spec_l03Copy.l0 k 0 l0_0 ([] : List (S55))) = some r := h
 clear h
 have H' := Zh H
 clear H
 go_enter Tryd.func54, Tryd.ntmps54
 go_wp2_with (first | ((with_reducible refine gate_dst (N := 1) rfl ?_); refine box_event ?hg (N := 1) ?hd (cs := #[.slice A0_0 l0_0.length c0_0]) (t := 28) ?hr ?_; (case hd => rfl); (case hg => rfl); (case hr => first | (go_simp; done) | (go_simp; rfl)); intro gb138 hg w2 hbox hb; have n0_ := Zh (Zl Zs hb); have n1_ := Zh (hbox); have n2_ := Zh ((by rw [hg]; exact (below_size Zs) : w.heap.size ≤ gb138)); have n3_ := Zh ((by rw [hg]; exact (below_size Zs) : w.heap.size ≤ gb138)); clear HB; have HB := n0_; have BK138 := n1_; have GW138 := n2_; have GE138 := n3_; clear n0_ n1_ n2_ n3_; clear hb hbox hg) | ((with_reducible refine gate_dst (N := 2) rfl ?_); refine box_event ?hg (N := 2) ?hd (cs := #[.slice none 0 0]) (t := 28) ?hr ?_; (case hd => rfl); (case hg => rfl); (case hr => first | (go_simp; done) | (go_simp; rfl)); intro gb139 hg w3 hbox hb; have n0_ := Zh (Zm (g := gb138) (o := .cells #[.slice A0_0 l0_0.length c0_0] 28 (0, 0)) Zk hb); have n1_ := Zh (Zl Zs hb); have n2_ := Zh (hbox); have n3_ := Zh ((by rw [hg]; exact (below_size Zs) : w.heap.size ≤ gb139)); have n4_ := Zh ((by rw [hg]; exact (below_size Zs) : w.heap.size ≤ gb139)); have n5_ := Zh ((by rw [hg]; exact Nat.ne_of_lt (blk_lt (g := gb138) (o := .cells #[.slice A0_0 l0_0.length c0_0] 28 (0, 0)) Zk) : gb138 ≠ gb139)); have n6_ := Zh ((by rw [hg]; exact Nat.ne_of_gt (blk_lt (g := gb138) (o := .cells #[.slice A0_0 l0_0.length c0_0] 28 (0, 0)) Zk) : gb139 ≠ gb138)); clear BK138; clear HB; have BK138 := n0_; have HB := n1_; have BK139 := n2_; have GW139 := n3_; have GE139 := n4_; have NB138_139 := n5_; have NB139_138 := n6_; clear n0_ n1_ n2_ n3_ n4_ n5_ n6_; clear hb hbox hg) | ((with_reducible refine gate_dst (N := 3) rfl ?_); refine box_event ?hg (N := 3) ?hd (cs := #[.slice none 0 0]) (t := 28) ?hr ?_; (case hd => rfl); (case hg => rfl); (case hr => first | (go_simp; done) | (go_simp; rfl)); intro gb140 hg w4 hbox hb; have n0_ := Zh (Zm (g := gb138) (o := .cells #[.slice A0_0 l0_0.length c0_0] 28 (0, 0)) Zk hb); have n1_ := Zh (Zm (g := gb139) (o := .cells #[.slice none 0 0] 28 (0, 0)) Zk hb); have n2_ := Zh (Zl Zs hb); have n3_ := Zh (hbox); have n4_ := Zh ((by rw [hg]; exact (below_size Zs) : w.heap.size ≤ gb140)); have n5_ := Zh ((by rw [hg]; exact (below_size Zs) : w.heap.size ≤ gb140)); have n6_ := Zh ((by rw [hg]; exact Nat.ne_of_lt (blk_lt (g := gb138) (o := .cells #[.slice A0_0 l0_0.length c0_0] 28 (0, 0)) Zk) : gb138 ≠ gb140)); have n7_ := Zh ((by rw [hg]; exact Nat.ne_of_gt (blk_lt (g := gb138) (o := .cells #[.slice A0_0 l0_0.length c0_0] 28 (0, 0)) Zk) : gb140 ≠ gb138)); have n8_ := Zh ((by rw [hg]; exact Nat.ne_of_lt (blk_lt (g := gb139) (o := .cells #[.slice none 0 0] 28 (0, 0)) Zk) : gb139 ≠ gb140)); have n9_ := Zh ((by rw [hg]; exact Nat.ne_of_gt (blk_lt (g := gb139) (o := .cells #[.slice none 0 0] 28 (0, 0)) Zk) : gb140 ≠ gb139)); clear BK138; clear BK139; clear HB; have BK138 := n0_; have BK139 := n1_; have HB := n2_; have BK140 := n3_; have GW140 := n4_; have GE140 := n5_; have NB138_140 := n6_; have NB140_138 := n7_; have NB139_140 := n8_; have NB140_139 := n9_; clear n0_ n1_ n2_ n3_ n4_ n5_ n6_ n7_ n8_ n9_; clear hb hbox hg; have hnb5 := NB140_138.out; have hnc5 := NB138_140.out; have hnb6 := NB140_139.out; have hnc6 := NB139_140.out; have hcz7_0 : w4.cell? ⟨gb140, 0, none⟩ = some (.slice none 0 0) := (blk_cell BK140.out 0).trans rfl; have hfz7_0 := Zn BK140.out 0))
 go_loopg [4] k (fun kq v4 w' => ∃ (x4_1 : Int) (x141000_1 : List (S55)) (u141000 : Value), v4 = .int .i64 x4_1 ∧ Aside0 (spec_l03Copy.l0 kq x4_1 l0_0 x141000_1 = some r) ∧ Aside0 (kq ≤ k) ∧ Aside0 (Kd.S k55 55 w' w.heap.size (fun _ => True) u141000 x141000_1) ∧ Aside0 (w'.heap[gb138]? = some (.cells #[(.slice A0_0 l0_0.length c0_0)] 28 (0, 0))) ∧ Aside0 (w'.heap[gb139]? = some (.cells #[(.slice none 0 0)] 28 (0, 0))) ∧ Aside0 (w'.heap[gb140]? = some (.cells #[u141000] 28 (0, 0))) ∧ Aside0 (Below w.heap.size w w'))
 case atStart => exact ⟨(0), (([] : List (S55))), (.slice none 0 0), (by first | rfl | (simp; done) | (simp [*]; done)), H', ⟨Nat.le_refl _⟩, ⟨by first | exact S_nil _ _ _ _ _ | exact N_nil _ _ _ _ _ | exact V_nil _ _ _ _ _ | exact Q_nil _ _ _ _ _ | exact R_nil _ _ _ _ _⟩, ⟨by (with_reducible repeat (first | refine Za ?_ _ | refine Zb ?_ | refine blk_alloc ?_ _)); refine Zp ?_ NB138_140.out _; (with_reducible repeat (first | refine Za ?_ _ | refine Zb ?_ | refine blk_alloc ?_ _)); exact BK138.out⟩, ⟨by (with_reducible repeat (first | refine Za ?_ _ | refine Zb ?_ | refine blk_alloc ?_ _)); refine Zp ?_ NB139_140.out _; (with_reducible repeat (first | refine Za ?_ _ | refine Zb ?_ | refine blk_alloc ?_ _)); exact BK139.out⟩, ⟨by (with_reducible repeat (first | refine Za ?_ _ | refine Zb ?_ | refine blk_alloc ?_ _)); refine blk_put (cs := #[.slice none 0 0]) ?_ 0 _ rfl; (with_reducible repeat (first | refine Za ?_ _ | refine Zb ?_ | refine blk_alloc ?_ _)); exact BK140.out⟩, ⟨by repeat (first | (with_reducible first | exact HB.out | apply Zf | apply Zd | apply Ze | refine Zg ?_ GE138.out | refine Zg ?_ GE139.out | refine Zg ?_ GE140.out) | exact HB.out)⟩⟩
 case round =>
  clear H'
  try clear p2
  try clear c5
  try clear c6
  try clear hcz7_0
  try clear hfz7_0
  obtain ⟨x4_1, x141000_1, u141000, rfl, HA, HK1, HO_141000, BK138, BK139, BK140, HB⟩ := hrel
  cases gk with
  | zero => exact absurd HA.out (by simp [spec_l03Copy.l0])
  | succ k1 =>
   have H := HA.out
   clear HA
   simp only [spec_l03Copy.l0] at H
   by_cases c8 : x4_1 < (l0_0.length : Int)
   ·
    rw [if_pos c8] at H
    have c8b0 : decide (x4_1 < (l0_0.length : Int)) = true := decide_eq_true c8
    clear c8
    by_cases c9 : 0 ≤ x4_1
    ·
     rw [if_pos c9] at H
     have c9b0 : decide (0 ≤ x4_1) = true := decide_eq_true c9
     clear c9
     replace H := Option.bind_eq_some_iff.mp H
     obtain ⟨t143, A100, H⟩ := H
     replace H : ((spec_l01Bytes.f k1 ((rd_T55 l0_0 x4_1).f2)).bind fun t146 => (if x141000_1.length < 2199023255552 then (spec_l03Copy.l0 k1 (wrap64 (x4_1 + 1)) l0_0 (x141000_1 ++ [(⟨(rd_T55 l0_0 x4_1).f0, t143, t146⟩ : S55)])) else (none))) = some r := H
     have A10 := Zh A100
     clear A100
     replace H := Option.bind_eq_some_iff.mp H
     obtain ⟨t146, A110, H⟩ := H
     replace H : (if x141000_1.length < 2199023255552 then (spec_l03Copy.l0 k1 (wrap64 (x4_1 + 1)) l0_0 (x141000_1 ++ [(⟨(rd_T55 l0_0 x4_1).f0, t143, t146⟩ : S55)])) else (none)) = some r := H
     have A11 := Zh A110
     clear A110
     by_cases c12 : x141000_1.length < 2199023255552
     ·
      rw [if_pos c12] at H
      have LMc12 := Zh c12
      clear c12
      obtain ⟨y149, hy149⟩ : ∃ y_ : List (S55), y_ = (x141000_1 ++ [(⟨(rd_T55 l0_0 x4_1).f0, t143, t146⟩ : S55)]) := ⟨_, rfl⟩
      replace H : (spec_l03Copy.l0 k1 (wrap64 (x4_1 + 1)) l0_0 y149) = some r := by first | (rw [hy149]; with_reducible exact H) | (have H2_ := (Option.bind_some _ _).symm.trans H; rw [hy149]; with_reducible exact H2_) | (have H2_ := (Option.bind_some _ _).symm.trans H; with_reducible exact H2_) | with_reducible exact H | (rw [hy149]; exact H) | exact H
      have Ny149 := Zh hy149
      clear hy149
      have H' := Zh H
      clear H
      have hnb13 := NB138_139.out
      have hnc13 := NB139_138.out
      have hnb14 := NB138_140.out
      have hnc14 := NB140_138.out
      have hcz15_0 : wr.cell? ⟨gb138, 0, none⟩ = some (.slice A0_0 l0_0.length c0_0) := (blk_cell BK138.out 0).trans rfl
      have hfz15_0 := Zn BK138.out 0
      have p141 : 0 ≤ (x4_1 : Int) := Zo
      have q141 : x4_1 < (l0_0.length : Int) := Zo
      obtain ⟨ad141, A141_1, c141_1, A141_2, c141_2, e141, hx141_0, hx141_1, hx141_2, hl141_1, hi141_1, hl141_2, hi141_2⟩ := at_T55 HR0_0.out x4_1 p141 q141
      cases e141
      replace hx141_0 := Zc HB.out hx141_0
      replace hx141_1 := Zc HB.out hx141_1
      replace hx141_2 := Zc HB.out hx141_2
      have HR141_1 := Zh hi141_1
      have HC141_1 := Zh hl141_1
      clear hi141_1 hl141_1
      have HR141_2 := Zh hi141_2
      have HC141_2 := Zh hl141_2
      clear hi141_2 hl141_2
      replace p141 := eq_true p141
      replace q141 := eq_true q141
      try go_wp2_with (first | ((with_reducible refine gate_dst (N := 5) rfl ?_); refine box_event ?hg (N := 5) ?hd (cs := #[.string (⟨#[]⟩ : ByteArray), .slice none 0 0, .slice none 0 0]) (t := 55) ?hr ?_; (case hd => rfl); (case hg => rfl); (case hr => first | (go_simp; done) | (go_simp; rfl)); intro gb142 hg w16 hbox hb; have n0_ := Zh (S_below (S_elderB (by (with_reducible repeat (first | apply S_alloc | apply S_drewN | apply S_drew)); exact HO_141000.out) gb142 (Nat.le_of_eq hg.symm)) hb); have n1_ := Zh (Zm (g := gb138) (o := .cells #[.slice (some ad141) l0_0.length c0_0] 28 (0, 0)) Zk hb); have n2_ := Zh (Zm (g := gb139) (o := .cells #[.slice none 0 0] 28 (0, 0)) Zk hb); have n3_ := Zh (Zm (g := gb140) (o := .cells #[u141000] 28 (0, 0)) Zk hb); have n4_ := Zh (Zl Zs hb); have n5_ := Zh (hbox); have n6_ := Zh ((by rw [hg]; exact (below_size Zs) : w.heap.size ≤ gb142)); have n7_ := Zh ((by rw [hg]; exact (below_size Zs) : w.heap.size ≤ gb142)); have n8_ := Zh ((by rw [hg]; exact Nat.ne_of_lt (blk_lt (g := gb138) (o := .cells #[.slice (some ad141) l0_0.length c0_0] 28 (0, 0)) Zk) : gb138 ≠ gb142)); have n9_ := Zh ((by rw [hg]; exact Nat.ne_of_gt (blk_lt (g := gb138) (o := .cells #[.slice (some ad141) l0_0.length c0_0] 28 (0, 0)) Zk) : gb142 ≠ gb138)); have n10_ := Zh ((by rw [hg]; exact Nat.ne_of_lt (blk_lt (g := gb139) (o := .cells #[.slice none 0 0] 28 (0, 0)) Zk) : gb139 ≠ gb142)); have n11_ := Zh ((by rw [hg]; exact Nat.ne_of_gt (blk_lt (g := gb139) (o := .cells #[.slice none 0 0] 28 (0, 0)) Zk) : gb142 ≠ gb139)); have n12_ := Zh ((by rw [hg]; exact Nat.ne_of_lt (blk_lt (g := gb140) (o := .cells #[u141000] 28 (0, 0)) Zk) : gb140 ≠ gb142)); have n13_ := Zh ((by rw [hg]; exact Nat.ne_of_gt (blk_lt (g := gb140) (o := .cells #[u141000] 28 (0, 0)) Zk) : gb142 ≠ gb140)); clear HO_141000; clear BK138; clear BK139; clear BK140; clear HB; have HO_141000 := n0_; have BK138 := n1_; have BK139 := n2_; have BK140 := n3_; have HB := n4_; have BK142 := n5_; have GW142 := n6_; have GE142 := n7_; have NB138_142 := n8_; have NB142_138 := n9_; have NB139_142 := n10_; have NB142_139 := n11_; have NB140_142 := n12_; have NB142_140 := n13_; clear n0_ n1_ n2_ n3_ n4_ n5_ n6_ n7_ n8_ n9_ n10_ n11_ n12_ n13_; clear hb hbox hg; have hnb17 := NB142_138.out; have hnc17 := NB138_142.out; have hnb18 := NB142_139.out; have hnc18 := NB139_142.out; have hnb19 := NB142_140.out; have hnc19 := NB140_142.out; have hcz20_0 : w16.cell? ⟨gb142, 0, none⟩ = some (.string (⟨#[]⟩ : ByteArray)) := (blk_cell BK142.out 0).trans rfl; have hcz20_1 : w16.cell? ⟨gb142, 1, none⟩ = some (.slice none 0 0) := (blk_cell BK142.out 1).trans rfl; have hcz20_2 : w16.cell? ⟨gb142, 2, none⟩ = some (.slice none 0 0) := (blk_cell BK142.out 2).trans rfl; have hfz20_0 := Zn BK142.out 0; have hfz20_1 := Zn BK142.out 1; have hfz20_2 := Zn BK142.out 2))
      have n0_ : Aside0 (Kd.S k55 55 (((w16.setCell ⟨gb142, 0, none⟩ (.string ((rd_T55 l0_0 x4_1).f0))).setCell ⟨gb142, 1, none⟩ (.slice A141_1 ((rd_T55 l0_0 x4_1).f1).length c141_1)).setCell ⟨gb142, 2, none⟩ (.slice A141_2 ((rd_T55 l0_0 x4_1).f2).length c141_2)) w.heap.size (fun k_ => k_ ≠ gb142) u141000 x141000_1) := ⟨by (with_reducible repeat (first | apply S_alloc | apply S_drewN | apply S_drew)); exact S_mono (S_far (p := ⟨gb142, 2, none⟩) (S_far (p := ⟨gb142, 1, none⟩) (S_far (p := ⟨gb142, 0, none⟩) (S_mono HO_141000.out (fun k_ hk => (⟨hk, hk.2⟩ : _ ∧ k_ ≠ gb142))) (fun _ hk => hk.2) (.string ((rd_T55 l0_0 x4_1).f0))) (fun _ hk => hk.2) (.slice A141_1 ((rd_T55 l0_0 x4_1).f1).length c141_1)) (fun _ hk => hk.2) (.slice A141_2 ((rd_T55 l0_0 x4_1).f2).length c141_2)) (fun _ hk => hk.1.2)⟩
      have n1_ : Aside0 ((((w16.setCell ⟨gb142, 0, none⟩ (.string ((rd_T55 l0_0 x4_1).f0))).setCell ⟨gb142, 1, none⟩ (.slice A141_1 ((rd_T55 l0_0 x4_1).f1).length c141_1)).setCell ⟨gb142, 2, none⟩ (.slice A141_2 ((rd_T55 l0_0 x4_1).f2).length c141_2)).heap[gb138]? = some (.cells #[.slice (some ad141) l0_0.length c0_0] 28 (0, 0))) := ⟨by (with_reducible repeat (first | refine Za ?_ _ | refine Zb ?_ | refine blk_alloc ?_ _)); refine Zp ?_ NB138_142.out _; (with_reducible repeat (first | refine Za ?_ _ | refine Zb ?_ | refine blk_alloc ?_ _)); refine Zp ?_ NB138_142.out _; (with_reducible repeat (first | refine Za ?_ _ | refine Zb ?_ | refine blk_alloc ?_ _)); refine Zp ?_ NB138_142.out _; (with_reducible repeat (first | refine Za ?_ _ | refine Zb ?_ | refine blk_alloc ?_ _)); exact BK138.out⟩
      have n2_ : Aside0 ((((w16.setCell ⟨gb142, 0, none⟩ (.string ((rd_T55 l0_0 x4_1).f0))).setCell ⟨gb142, 1, none⟩ (.slice A141_1 ((rd_T55 l0_0 x4_1).f1).length c141_1)).setCell ⟨gb142, 2, none⟩ (.slice A141_2 ((rd_T55 l0_0 x4_1).f2).length c141_2)).heap[gb139]? = some (.cells #[.slice none 0 0] 28 (0, 0))) := ⟨by (with_reducible repeat (first | refine Za ?_ _ | refine Zb ?_ | refine blk_alloc ?_ _)); refine Zp ?_ NB139_142.out _; (with_reducible repeat (first | refine Za ?_ _ | refine Zb ?_ | refine blk_alloc ?_ _)); refine Zp ?_ NB139_142.out _; (with_reducible repeat (first | refine Za ?_ _ | refine Zb ?_ | refine blk_alloc ?_ _)); refine Zp ?_ NB139_142.out _; (with_reducible repeat (first | refine Za ?_ _ | refine Zb ?_ | refine blk_alloc ?_ _)); exact BK139.out⟩
      have n3_ : Aside0 ((((w16.setCell ⟨gb142, 0, none⟩ (.string ((rd_T55 l0_0 x4_1).f0))).setCell ⟨gb142, 1, none⟩ (.slice A141_1 ((rd_T55 l0_0 x4_1).f1).length c141_1)).setCell ⟨gb142, 2, none⟩ (.slice A141_2 ((rd_T55 l0_0 x4_1).f2).length c141_2)).heap[gb140]? = some (.cells #[u141000] 28 (0, 0))) := ⟨by (with_reducible repeat (first | refine Za ?_ _ | refine Zb ?_ | refine blk_alloc ?_ _)); refine Zp ?_ NB140_142.out _; (with_reducible repeat (first | refine Za ?_ _ | refine Zb ?_ | refine blk_alloc ?_ _)); refine Zp ?_ NB140_142.out _; (with_reducible repeat (first | refine Za ?_ _ | refine Zb ?_ | refine blk_alloc ?_ _)); refine Zp ?_ NB140_142.out _; (with_reducible repeat (first | refine Za ?_ _ | refine Zb ?_ | refine blk_alloc ?_ _)); exact BK140.out⟩
      have n4_ : Aside0 ((((w16.setCell ⟨gb142, 0, none⟩ (.string ((rd_T55 l0_0 x4_1).f0))).setCell ⟨gb142, 1, none⟩ (.slice A141_1 ((rd_T55 l0_0 x4_1).f1).length c141_1)).setCell ⟨gb142, 2, none⟩ (.slice A141_2 ((rd_T55 l0_0 x4_1).f2).length c141_2)).heap[gb142]? = some (.cells #[.string ((rd_T55 l0_0 x4_1).f0), .slice A141_1 ((rd_T55 l0_0 x4_1).f1).length c141_1, .slice A141_2 ((rd_T55 l0_0 x4_1).f2).length c141_2] 55 (0, 0))) := ⟨by (with_reducible repeat (first | refine Za ?_ _ | refine Zb ?_ | refine blk_alloc ?_ _)); refine blk_put (cs := #[.string ((rd_T55 l0_0 x4_1).f0), .slice A141_1 ((rd_T55 l0_0 x4_1).f1).length c141_1, .slice none 0 0]) ?_ 2 _ rfl; (with_reducible repeat (first | refine Za ?_ _ | refine Zb ?_ | refine blk_alloc ?_ _)); refine blk_put (cs := #[.string ((rd_T55 l0_0 x4_1).f0), .slice none 0 0, .slice none 0 0]) ?_ 1 _ rfl; (with_reducible repeat (first | refine Za ?_ _ | refine Zb ?_ | refine blk_alloc ?_ _)); refine blk_put (cs := #[.string (⟨#[]⟩ : ByteArray), .slice none 0 0, .slice none 0 0]) ?_ 0 _ rfl; (with_reducible repeat (first | refine Za ?_ _ | refine Zb ?_ | refine blk_alloc ?_ _)); exact BK142.out⟩
      have n5_ : Aside0 (Below w.heap.size w (((w16.setCell ⟨gb142, 0, none⟩ (.string ((rd_T55 l0_0 x4_1).f0))).setCell ⟨gb142, 1, none⟩ (.slice A141_1 ((rd_T55 l0_0 x4_1).f1).length c141_1)).setCell ⟨gb142, 2, none⟩ (.slice A141_2 ((rd_T55 l0_0 x4_1).f2).length c141_2))) := ⟨by repeat (first | (with_reducible first | exact HB.out | apply Zf | apply Zd | apply Ze | refine Zg ?_ GE138.out | refine Zg ?_ GE139.out | refine Zg ?_ GE140.out | refine Zg ?_ GE142.out) | exact HB.out)⟩
      (try clear HO_141000)
      (try clear BK138)
      (try clear BK139)
      (try clear BK140)
      (try clear BK142)
      (try clear HB)
      generalize (((w16.setCell ⟨gb142, 0, none⟩ (.string ((rd_T55 l0_0 x4_1).f0))).setCell ⟨gb142, 1, none⟩ (.slice A141_1 ((rd_T55 l0_0 x4_1).f1).length c141_1)).setCell ⟨gb142, 2, none⟩ (.slice A141_2 ((rd_T55 l0_0 x4_1).f2).length c141_2)) = w21 at n0_ n1_ n2_ n3_ n4_ n5_ ⊢
      have HO_141000 := n0_
      have BK138 := n1_
      have BK139 := n2_
      have BK140 := n3_
      have BK142 := n4_
      have HB := n5_
      clear n0_ n1_ n2_ n3_ n4_ n5_
      have n0_ := Zh (S_drew HO_141000.out)
      have n1_ := Zh (Zb BK138.out)
      have n2_ := Zh (Zb BK139.out)
      have n3_ := Zh (Zb BK140.out)
      have n4_ := Zh (Zb BK142.out)
      have n5_ := Zh (Ze HB.out)
      clear HO_141000
      clear BK138
      clear BK139
      clear BK140
      clear BK142
      clear HB
      have HO_141000 := n0_
      have BK138 := n1_
      have BK139 := n2_
      have BK140 := n3_
      have BK142 := n4_
      have HB := n5_
      clear n0_ n1_ n2_ n3_ n4_ n5_
      refine start_ (n := 15) (S := fun w' => w'.cell? ⟨gb140, 0, none⟩ = some (u141000) ∧ w'.cell? ⟨gb142, 0, none⟩ = some (.string ((rd_T55 l0_0 x4_1).f0)) ∧ w'.cell? ⟨gb142, 1, none⟩ = some (.slice A141_1 ((rd_T55 l0_0 x4_1).f1).length c141_1) ∧ w'.cell? ⟨gb142, 2, none⟩ = some (.slice A141_2 ((rd_T55 l0_0 x4_1).f2).length c141_2)) (ds := [14]) #[false, false, false, false, false, false, false, false, false, false, false, false, false, false, false] (by kernel_rfl) rfl rfl ⟨(blk_cell BK140.out 0).trans rfl, (blk_cell BK142.out 0).trans rfl, (blk_cell BK142.out 1).trans rfl, (blk_cell BK142.out 2).trans rfl⟩ (fun hHeld => ?_); refine with_tabW spec_l03Copy.tab6 spec_l03Copy.bits6 (fun HT_ HW_ => ?_)
      generalize w21.drew = w22 at HO_141000 BK138 BK139 BK140 BK142 HB hHeld ⊢
      refine SQ.pu 0 19 HT_ ?_
      refine SQ.pu 2 21 HT_ ?_
      refine SQ.pu 4 23 HT_ ?_
      refine SQ.pu 7 26 HT_ ?_
      refine SQ.tk 1 20 HT_ HW_ hHeld ?_
      refine SQ.tk 3 22 HT_ HW_ hHeld ?_
      refine SQ.tk 5 24 HT_ HW_ hHeld ?_
      refine SQ.tk 8 27 HT_ HW_ hHeld ?_
      refine one_ (i := 6) (N := some 25) #[true, true, true, true, true, true, true, true, true, false, false, false, false, false, false] rfl rfl (one_of HT_.out (by kernel_rfl)) (by decide) (fun K hK => ?_)
      refine goes_ Tryd.func87 (by kernel_rfl) rfl #[.slice A141_1 ((rd_T55 l0_0 x4_1).f1).length c141_1] (by rfl) rfl rfl (by (try simp only [List.map_toArray, List.map_cons, List.map_nil]); first | done | rfl | (simp only [List.length_drop, List.length_take]; rfl)) ?_
      with_reducible refine (spec_l01Bytes.calls k1 _ _ ((rd_T55 l0_0 x4_1).f1) t143 _ ?side1 ?side2 A10.out).mono ?_
      (case side1 => repeat (first | exact (C_below HR141_1.out HB.out) | (with_reducible refine C_alloc ?_ _) | (with_reducible refine C_drewN ?_ _) | (with_reducible refine C_drew ?_)))
      (case side2 => exact HC141_1.out)
      rintro e w23 ⟨v144, rfl, ho0, hb⟩
      refine ⟨_, rfl, ?_⟩
      have n0_ := Zh (S_elder' (by (with_reducible repeat (first | apply S_alloc | apply S_drewN | apply S_drew)); exact HO_141000.out) (R_base ho0) hb)
      have n1_ := Zh (R_lower ho0 (below_size Zs))
      have n2_ := Zh (Zm (g := gb138) (o := .cells #[.slice (some ad141) l0_0.length c0_0] 28 (0, 0)) Zk hb)
      have n3_ := Zh (Zm (g := gb139) (o := .cells #[.slice none 0 0] 28 (0, 0)) Zk hb)
      have n4_ := Zh (Zm (g := gb140) (o := .cells #[u141000] 28 (0, 0)) Zk hb)
      have n5_ := Zh (Zm (g := gb142) (o := .cells #[.string ((rd_T55 l0_0 x4_1).f0), .slice A141_1 ((rd_T55 l0_0 x4_1).f1).length c141_1, .slice A141_2 ((rd_T55 l0_0 x4_1).f2).length c141_2] 55 (0, 0)) Zk hb)
      have n6_ := Zh (Zl Zs hb)
      clear HO_141000
      clear BK138
      clear BK139
      clear BK140
      clear BK142
      clear HB
      have HO_141000 := n0_
      have HO145 := n1_
      have BK138 := n2_
      have BK139 := n3_
      have BK140 := n4_
      have BK142 := n5_
      have HB := n6_
      clear n0_ n1_ n2_ n3_ n4_ n5_ n6_
      (try clear hb)
      (try clear hb2)
      (try clear hk)
      (try clear hi)
      (try clear ho0)
      refine hK.out _ _ ⟨(blk_cell BK140.out 0).trans rfl, (blk_cell BK142.out 0).trans rfl, (blk_cell BK142.out 1).trans rfl, (blk_cell BK142.out 2).trans rfl⟩ (fun hHeld => ?_)
      clear hK K
      refine norm_ (a' := ?_) ?_ ?_
      rotate_left
      ·
       show Act.put _ (some 25) _ = _
       simp only [Act.put, List.setIfInBounds_toArray, List.set_cons_zero, List.set_cons_succ, i64_w, i32_w]
       rfl
      refine one_ (i := 9) (N := some 28) #[true, true, true, true, true, true, true, true, true, true, false, false, false, false, false] rfl rfl (one_of HT_.out (by kernel_rfl)) (by decide) (fun K hK => ?_)
      refine goes_ Tryd.func87 (by kernel_rfl) rfl #[.slice A141_2 ((rd_T55 l0_0 x4_1).f2).length c141_2] (by rfl) rfl rfl (by (try simp only [List.map_toArray, List.map_cons, List.map_nil]); first | done | rfl | (simp only [List.length_drop, List.length_take]; rfl)) ?_
      with_reducible refine (spec_l01Bytes.calls k1 _ _ ((rd_T55 l0_0 x4_1).f2) t146 _ ?side1 ?side2 A11.out).mono ?_
      (case side1 => repeat (first | exact (C_below HR141_2.out HB.out) | (with_reducible refine C_alloc ?_ _) | (with_reducible refine C_drewN ?_ _) | (with_reducible refine C_drew ?_)))
      (case side2 => exact HC141_2.out)
      rintro e w24 ⟨v147, rfl, ho0, hb⟩
      refine ⟨_, rfl, ?_⟩
      have n0_ := Zh (S_elder' (by (with_reducible repeat (first | apply S_alloc | apply S_drewN | apply S_drew)); exact HO_141000.out) (R_base ho0) hb)
      have n1_ := Zh (R_elder' (by (with_reducible repeat (first | apply R_alloc | apply R_drewN | apply R_drew)); exact HO145.out) (R_base ho0) hb)
      have n2_ := Zh (R_lower (R_new' ho0 (R_lt (by (with_reducible repeat (first | apply R_alloc | apply R_drewN | apply R_drew)); exact HO145.out))) (below_size Zs))
      have n3_ := Zh (Zm (g := gb138) (o := .cells #[.slice (some ad141) l0_0.length c0_0] 28 (0, 0)) Zk hb)
      have n4_ := Zh (Zm (g := gb139) (o := .cells #[.slice none 0 0] 28 (0, 0)) Zk hb)
      have n5_ := Zh (Zm (g := gb140) (o := .cells #[u141000] 28 (0, 0)) Zk hb)
      have n6_ := Zh (Zm (g := gb142) (o := .cells #[.string ((rd_T55 l0_0 x4_1).f0), .slice A141_1 ((rd_T55 l0_0 x4_1).f1).length c141_1, .slice A141_2 ((rd_T55 l0_0 x4_1).f2).length c141_2] 55 (0, 0)) Zk hb)
      have n7_ := Zh (Zl Zs hb)
      clear HO_141000
      clear HO145
      clear BK138
      clear BK139
      clear BK140
      clear BK142
      clear HB
      have HO_141000 := n0_
      have HO145 := n1_
      have HO148 := n2_
      have BK138 := n3_
      have BK139 := n4_
      have BK140 := n5_
      have BK142 := n6_
      have HB := n7_
      clear n0_ n1_ n2_ n3_ n4_ n5_ n6_ n7_
      (try clear hb)
      (try clear hb2)
      (try clear hk)
      (try clear hi)
      (try clear ho0)
      obtain ⟨Ao25, co25, eo25⟩ := R_slice HO148.out
      (first | subst eo25 | (injection eo25 with f1_ f2_ f3_; have f4_ := f1_.symm; have f5_ := f3_.symm; clear f1_ f2_ f3_; subst f4_; subst f5_))
      obtain ⟨Ao26, co26, eo26⟩ := R_slice HO145.out
      (first | subst eo26 | (injection eo26 with f1_ f2_ f3_; have f4_ := f1_.symm; have f5_ := f3_.symm; clear f1_ f2_ f3_; subst f4_; subst f5_))
      refine hK.out _ _ ⟨(blk_cell BK140.out 0).trans rfl, (blk_cell BK142.out 0).trans rfl, (blk_cell BK142.out 1).trans rfl, (blk_cell BK142.out 2).trans rfl⟩ (fun hHeld => ?_)
      clear hK K
      refine norm_ (a' := ?_) ?_ ?_
      rotate_left
      ·
       show Act.put _ (some 28) _ = _
       simp only [Act.put, List.setIfInBounds_toArray, List.set_cons_zero, List.set_cons_succ, i64_w, i32_w]
       rfl
      refine SQ.pu 10 29 HT_ ?_
      refine one_ (i := 11) (N := some 30) #[true, true, true, true, true, true, true, true, true, true, true, true, false, false, false] rfl rfl (one_of HT_.out (by kernel_rfl)) (by decide) (fun K hK => ?_)
      refine value_ (w1 := ?_) (v := ?_) (by rfl) rfl ?_ ?_
      rotate_left 2
      ·
       go_simp
       constructor
       ·
        rfl
       rfl
      refine hK.out _ _ ⟨(blk_cell (blk_alloc BK140.out _) 0).trans rfl, (blk_cell (blk_alloc BK142.out _) 0).trans rfl, (blk_cell (blk_alloc BK142.out _) 1).trans rfl, (blk_cell (blk_alloc BK142.out _) 2).trans rfl⟩ (fun hHeld => ?_)
      clear hK K
      refine norm_ (a' := ?_) ?_ ?_
      rotate_left
      ·
       show Act.put _ (some 30) _ = _
       simp only [Act.put, List.setIfInBounds_toArray, List.set_cons_zero, List.set_cons_succ, i64_w, i32_w]
       rfl
      refine one_ (i := 12) (N := some 31) #[true, true, true, true, true, true, true, true, true, true, true, true, true, false, false] rfl rfl (one_of HT_.out (by kernel_rfl)) (by decide) (fun K hK => ?_)
      refine S_append_step k55 (w0 := w) w.heap.size (by rfl) (.tmp 20) (.tmp 30) 26 55 (.agg #[(.string ⟨#[]⟩), (.slice none 0 0), (.slice none 0 0)]) 64 rfl Tryd.underlying26 info55 rfl (by decide) (by omega) u141000 x141000_1 (⟨(rd_T55 l0_0 x4_1).f0, t143, t146⟩ : S55) [.string ((rd_T55 l0_0 x4_1).f0), .slice Ao26 t143.length co26, .slice Ao25 t146.length co25] (fun k_ => k_ ≠ gb142) (fun k_ => some k_ = (.slice Ao26 t143.length co26 : Value).ownBlock ∨ some k_ = (.slice Ao25 t146.length co25 : Value).ownBlock) rfl rfl ?aP (fun k_ hk_ => hk_.elim (fun h_ => ((R_mono (ok' := fun k_ => ((fun k_ => k_ ≠ gb142)) k_ ∧ some k_ ≠ (u141000 : Value).ownBlock) (R_types (R_apart' (HO145.out) (S_typed HO_141000.out) (by decide)) BK142.out (by decide)) (fun k_ hk => ⟨hk.2, hk.1.2⟩))).1 k_ h_.symm) (fun h_ => ((R_mono (ok' := fun k_ => ((fun k_ => k_ ≠ gb142)) k_ ∧ some k_ ≠ (u141000 : Value).ownBlock) (R_types (R_apart' (HO148.out) (S_typed HO_141000.out) (by decide)) BK142.out (by decide)) (fun k_ hk => ⟨hk.2, hk.1.2⟩))).1 k_ h_.symm)) ?aF ?aO ?aB ?aS ?aL ?_
      (case aP => exact k55_mkM _ _ _ (⟨(rd_T55 l0_0 x4_1).f0, t143, t146⟩ : S55) (R_mono (R_tight rfl (R_mono (ok' := fun k_ => ((fun k_ => k_ ≠ gb142)) k_ ∧ some k_ ≠ (u141000 : Value).ownBlock) (R_types (R_apart' (HO145.out) (S_typed HO_141000.out) (by decide)) BK142.out (by decide)) (fun k_ hk => ⟨hk.2, hk.1.2⟩))) (fun _ h_ => Or.inl h_)) (R_mono (R_tight rfl (R_mono (ok' := fun k_ => ((fun k_ => k_ ≠ gb142)) k_ ∧ some k_ ≠ (u141000 : Value).ownBlock) (R_types (R_apart' (HO148.out) (S_typed HO_141000.out) (by decide)) BK142.out (by decide)) (fun k_ hk => ⟨hk.2, hk.1.2⟩))) (fun _ h_ => Or.inr (h_))) (AP.ne_of (HO145.out) (HO148.out) (by first | exact .inl (fun k_ hk_ => by first | exact hk_ | exact hk_.1 | exact hk_.2 | exact hk_.1.1 | exact hk_.1.2 | exact hk_.2.1 | exact hk_.2.2) | exact .inr (fun k_ hk_ => by first | exact hk_ | exact hk_.1 | exact hk_.2 | exact hk_.1.1 | exact hk_.1.2 | exact hk_.2.1 | exact hk_.2.2))))
      (case aB => exact Zs)
      (case aF => exact (fun k_ hk => Kd.freshB (g := gb142) (o := .cells #[.string ((rd_T55 l0_0 x4_1).f0), .slice A141_1 ((rd_T55 l0_0 x4_1).f1).length c141_1, .slice A141_2 ((rd_T55 l0_0 x4_1).f2).length c141_2] 55 (0, 0)) Zk k_ hk))
      (case aO => exact (by (with_reducible repeat (first | apply S_alloc | apply S_drewN | apply S_drew)); exact S_mono HO_141000.out (fun k_ hk => ⟨hk.1.1, fun e_ => e_.elim (fun h_ => hk.1.2 h_) (fun h_ => hk.2 h_)⟩)))
      (case aS => exact (below_size Zs))
      (case aL => have := LMc12.out; omega)
      intro v150 w27 ho hb hg hat
      rw [← Ny149.out] at ho
      have n0_ := Zh (blk_grown (g := gb138) (o := .cells #[.slice (some ad141) l0_0.length c0_0] 28 (0, 0)) Zk hg (S_ne HO_141000.out BK138.out (by decide)))
      have n1_ := Zh (blk_grown (g := gb139) (o := .cells #[.slice none 0 0] 28 (0, 0)) Zk hg (S_ne HO_141000.out BK139.out (by decide)))
      have n2_ := Zh (blk_grown (g := gb140) (o := .cells #[u141000] 28 (0, 0)) Zk hg (S_ne HO_141000.out BK140.out (by decide)))
      have n3_ := Zh (blk_grown (g := gb142) (o := .cells #[.string ((rd_T55 l0_0 x4_1).f0), .slice A141_1 ((rd_T55 l0_0 x4_1).f1).length c141_1, .slice A141_2 ((rd_T55 l0_0 x4_1).f2).length c141_2] 55 (0, 0)) Zk hg (S_away HO_141000.out (fun _ hk => hk.1.1)))
      have n4_ := Zh (hb)
      have n5_ := Zh (ho)
      clear BK138
      clear BK139
      clear BK140
      clear BK142
      clear HB
      clear HO_141000
      clear HO145
      clear HO148
      have BK138 := n0_
      have BK139 := n1_
      have BK140 := n2_
      have BK142 := n3_
      have HB := n4_
      have HO151 := n5_
      clear n0_ n1_ n2_ n3_ n4_ n5_
      clear ho hb hg hat
      obtain ⟨Ao28, co28, eo28⟩ := S_slice HO151.out
      (first | subst eo28 | (injection eo28 with f1_ f2_ f3_; have f4_ := f1_.symm; have f5_ := f3_.symm; clear f1_ f2_ f3_; subst f4_; subst f5_))
      refine hK.out _ _ ⟨(blk_cell BK140.out 0).trans rfl, (blk_cell BK142.out 0).trans rfl, (blk_cell BK142.out 1).trans rfl, (blk_cell BK142.out 2).trans rfl⟩ (fun hHeld => ?_)
      clear hK K
      refine norm_ (a' := ?_) ?_ ?_
      rotate_left
      ·
       show Act.put _ (some 31) _ = _
       simp only [Act.put, List.setIfInBounds_toArray, List.set_cons_zero, List.set_cons_succ, i64_w, i32_w]
       rfl
      refine SQ.pu 13 32 HT_ ?_
      refine last_ (i := 14) (N := none) #[true, true, true, true, true, true, true, true, true, true, true, true, true, true, true] rfl rfl (one_of HT_.out (by kernel_rfl)) (by decide) (fun K hK => ?_)
      have hs29 : w27.cell? ⟨gb140, 0, none⟩ = some (u141000) := (blk_cell BK140.out 0).trans rfl
      have hfs29 := Zn BK140.out 0
      have hns29_0 := NB138_140.out
      have hns29_1 := NB139_140.out
      have hns29_3 := NB142_140.out
      have hms29_0 := NB140_138.out
      have hms29_1 := NB140_139.out
      have hms29_3 := NB140_142.out
      refine skip_ (w1 := ?_) (by rfl) rfl ?_ ?_
      rotate_left
      ·
       go_simp
       rfl
      refine hK.out _ _ ?_
      clear hK K
      refine done_ (done_of HT_.out (by kernel_rfl)) ?_
      try go_wp2
      go_roundg k1
      case measure => have := HK1.out; omega
      case rel => exact ⟨(wrap64 (x4_1 + 1)), (y149), (.slice Ao28 y149.length co28), (by first | rfl | (simp; done) | (simp [*]; done)), H', ⟨by have := HK1.out; omega⟩, ⟨by (with_reducible repeat (first | apply S_alloc | apply S_drewN | apply S_drew)); exact S_mono (S_far (p := ⟨gb140, 0, none⟩) (S_types HO151.out BK140.out (by decide)) (fun _ hk => hk.2) (.slice Ao28 y149.length co28)) (fun _ hk => trivial)⟩, ⟨by (with_reducible repeat (first | refine Za ?_ _ | refine Zb ?_ | refine blk_alloc ?_ _)); refine Zp ?_ NB138_140.out _; (with_reducible repeat (first | refine Za ?_ _ | refine Zb ?_ | refine blk_alloc ?_ _)); exact BK138.out⟩, ⟨by (with_reducible repeat (first | refine Za ?_ _ | refine Zb ?_ | refine blk_alloc ?_ _)); refine Zp ?_ NB139_140.out _; (with_reducible repeat (first | refine Za ?_ _ | refine Zb ?_ | refine blk_alloc ?_ _)); exact BK139.out⟩, ⟨by (with_reducible repeat (first | refine Za ?_ _ | refine Zb ?_ | refine blk_alloc ?_ _)); refine blk_put (cs := #[u141000]) ?_ 0 _ rfl; (with_reducible repeat (first | refine Za ?_ _ | refine Zb ?_ | refine blk_alloc ?_ _)); exact BK140.out⟩, ⟨by repeat (first | (with_reducible first | exact HB.out | apply Zf | apply Zd | apply Ze | refine Zg ?_ GE138.out | refine Zg ?_ GE139.out | refine Zg ?_ GE140.out | refine Zg ?_ GE142.out) | exact HB.out)⟩⟩
     rw [if_neg c12] at H
     exact absurd H (by simp)
    rw [if_neg c9] at H
    exact absurd H (by simp)
   rw [if_neg c8] at H
   have c8b0 : decide (x4_1 < (l0_0.length : Int)) = false := decide_eq_false c8
   clear c8
   obtain rfl := Option.some.inj H
   have hnb30 := NB138_139.out
   have hnc30 := NB139_138.out
   have hnb31 := NB138_140.out
   have hnc31 := NB140_138.out
   have hcz32_0 : wr.cell? ⟨gb138, 0, none⟩ = some (.slice A0_0 l0_0.length c0_0) := (blk_cell BK138.out 0).trans rfl
   have hfz32_0 := Zn BK138.out 0
   have hnb33 := NB140_139.out
   have hnc33 := NB139_140.out
   have hcz34_0 : wr.cell? ⟨gb140, 0, none⟩ = some (u141000) := (blk_cell BK140.out 0).trans rfl
   have hfz34_0 := Zn BK140.out 0
   obtain ⟨Ao35, co35, eo35⟩ := S_slice HO_141000.out
   subst eo35
   have hcz36_0 : wr.cell? ⟨gb139, 0, none⟩ = some (.slice none 0 0) := (blk_cell BK139.out 0).trans rfl
   have hfz36_0 := Zn BK139.out 0
   go_wp2
   refine bodyPost_ret (results_cell_row rfl _ _ gb139 28 #[.slice Ao35 x141000_1.length co35] (0, 0) _ rfl (by (with_reducible repeat (first | refine Za ?_ _ | refine Zb ?_ | refine blk_alloc ?_ _)); refine blk_put (cs := #[.slice none 0 0]) ?_ 0 _ rfl; (with_reducible repeat (first | refine Za ?_ _ | refine Zb ?_ | refine blk_alloc ?_ _)); exact BK139.out) Tryd.underlying28 rfl (by kernel_rfl)) rfl ?_
   exact ⟨_, by first | rfl | (simp [errW_none, errW_some] <;> rfl) | (simp [*, errW_none, errW_some] <;> rfl), by (with_reducible repeat (first | apply S_alloc | apply S_drewN | apply S_drew)); exact S_mono (S_far (p := ⟨gb139, 0, none⟩) (S_types HO_141000.out BK139.out (by decide)) (fun _ hk => hk.2) (.slice Ao35 x141000_1.length co35)) (fun _ hk => trivial), by repeat (first | (with_reducible first | exact HB.out | apply Zf | apply Zd | apply Ze | refine Zg ?_ GE138.out | refine Zg ?_ GE139.out | refine Zg ?_ GE140.out) | exact HB.out)⟩
end Go.Proofs.YtcgojdhbphocgaaDoor.F
