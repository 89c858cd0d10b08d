/- Merged texts below the law FnExactRenameFile: Go functions as Lean functions, their contracts, and plain lemmas. -/
import Derived.Test.YtmgeffgcihfpcaaDoorQFnExactRenameFile23
import Derived.Shelf.Strings.SlTrimAscii
import Derived.Shelf.Abstract
import Derived.Test.YtmgeffgcihfpcaaDoorQFnExactRenameFile26
import Derived.Test.YtmgeffgcihfpcaaDoorVFnExactRenameFileF
import Derived.Test.YtmgeffgcihfpcaaDoorVFnExactRenameFileMore
import Derived.Test.YtmgeffgcihfpcaaDoorQFnExactRenameFile24
import Derived.Test.YtmgeffgcihfpcaaDoorQFnExactRenameFile25
import Derived.Deep.Slices
import Derived.ChangeSame
import Derived.WideShapes
namespace Go.Proofs.YtmgeffgcihfpcaaDoor.F
open Go.Proofs.YtmgeffgcihfpcaaDoor
open Go.RowKit Go.Proofs.YtmgeffgcihfpcaaDoorW.PrintWords Go.Proofs.YtmgeffgcihfpcaaDoorW.PrintWords.Kd Go.Proofs.YtmgeffgcihfpcaaDoorW.PrintMore.Kd Go.Proofs.YtmgeffgcihfpcaaDoorW.PrintLast Go.Proofs.YtmgeffgcihfpcaaDoorW.PrintMore
attribute [local go_sem] max2_int min2_int max_two min_two max_three min_three max_four min_four   -- for this text's walks alone
set_option linter.unusedVariables false
set_option linter.unusedSimpArgs false
def impl_copyDisk.l0 : Nat → List (S74) → Int → Int → List (S74) → Option ((List (S74)))
 | 0, _, _, _, _ => none
 | k + 1, x8, x9, x10, x266000 => if x10 < x9 then (if 0 ≤ x10 then (if x10 < (x8.length : Int) then ((some (([] : List Int) : List Int)).bind fun y268 => (if y268.length + ((rd_T74 x8 x10).f1).length < 140737488355328 then ((some (([] : List Int) : List Int)).bind fun y274 => (if y274.length + ((rd_T74 x8 x10).f2).length < 140737488355328 then (if x266000.length < 2199023255552 then (impl_copyDisk.l0 k x8 x9 (wrap64 (x10 + 1)) (x266000 ++ [(⟨(rd_T74 x8 x10).f0, (y268 ++ ((rd_T74 x8 x10).f1)), (y274 ++ ((rd_T74 x8 x10).f2))⟩ : S74)])) else (none)) else (none))) else (none))) else (none)) else (none)) else (some x266000)
def impl_copyDisk.f (k : Nat) (l0_0 : List (S74)) : Option ((List (S74))) := impl_copyDisk.l0 k l0_0 (l0_0.length : Int) 0 ([] : List (S74))
def impl_copyDisk.T5 : Bool × List (List Nat × List Nat) := (true, [([], []), ([0], [0]), ([], []), ([2], [2]), ([], []), ([], []), ([5], [5]), ([4, 6], [4, 6]), ([], []), ([], []), ([9], [9]), ([8, 10, 7], [8, 10]), ([3, 7, 11], [3, 7, 11]), ([12], [12]), ([1, 13, 11], [1, 13]), ([0, 1, 2, 3, 4, 5, 6, 7, 8, 9, 10, 11, 12, 13, 14], []), ([15, 14, 14, 0, 1, 2, 3, 4, 5, 6, 7, 8, 9, 10, 11, 12, 13, 14], [14, 15])])
def impl_copyDisk.B5 : List Nat := [0, 1, 0, 4, 0, 0, 32, 112, 0, 0, 512, 2032, 4092, 8188, 16383, 32767, 65535]
theorem impl_copyDisk.tab5 : rtab .any (opsOf Tryd.f76 5) = impl_copyDisk.T5 := by kernel_rfl
theorem impl_copyDisk.bits5 : waitsOk impl_copyDisk.T5.2 impl_copyDisk.B5 = true := by kernel_rfl
set_option maxHeartbeats 8000000 in
set_option maxRecDepth 100000 in
theorem impl_copyDisk.calls (k : Nat) (A0_0 : Option Addr) (c0_0 : Nat) (l0_0 : List (S74)) (r : List (S74)) (w : World) (hr0_0 : Kd.C k74 w A0_0 l0_0.length l0_0) (hc0_0 : l0_0.length ≤ c0_0) (h : impl_copyDisk.f k l0_0 = some r) :
  Calls Tryd.prog 76 #[.agg #[.slice A0_0 l0_0.length c0_0]] w fun e w' => ∃ v0_ : Value, e = .returned (.agg #[v0_]) ∧ Kd.S k74 74 w' w.heap.size (fun _ => True) v0_ r ∧ Below w.heap.size w w' := by
 have hu29 := Tryd.underlying29
 have hu74 := Tryd.underlying74
 have HR0_0 := Zh hr0_0
 have HC0_0 := Zh hc0_0
 clear hr0_0 hc0_0
 have HB := Zh (Below.refl w.heap.size w)
 have H : (impl_copyDisk.l0 k l0_0 (l0_0.length : Int) 0 ([] : List (S74))) = some r := h
 clear h
 have H' := Zh H
 clear H
 go_enter Tryd.func76, Tryd.ntmps76
 go_wp2_with (first | ((with_reducible refine gate_dst (N := 1) rfl ?_); refine box_event ?hg (N := 1) ?hd (cs := #[.slice A0_0 l0_0.length c0_0]) (t := 29) ?hr ?_; (case hd => rfl); (case hg => rfl); (case hr => first | (go_simp; done) | (go_simp; rfl)); intro gb263 hg w2 hbox hb; have n0_ := Zh (Zl Zs hb); have n1_ := Zh (hbox); have n2_ := Zh ((by rw [hg]; exact (below_size Zs) : w.heap.size ≤ gb263)); have n3_ := Zh ((by rw [hg]; exact (below_size Zs) : w.heap.size ≤ gb263)); clear HB; have HB := n0_; have BK263 := n1_; have GW263 := n2_; have GE263 := n3_; clear n0_ n1_ n2_ n3_; clear hb hbox hg) | ((with_reducible refine gate_dst (N := 2) rfl ?_); refine box_event ?hg (N := 2) ?hd (cs := #[.slice none 0 0]) (t := 29) ?hr ?_; (case hd => rfl); (case hg => rfl); (case hr => first | (go_simp; done) | (go_simp; rfl)); intro gb264 hg w3 hbox hb; have n0_ := Zh (Zm (g := gb263) (o := .cells #[.slice A0_0 l0_0.length c0_0] 29 (0, 0)) Zk hb); have n1_ := Zh (Zl Zs hb); have n2_ := Zh (hbox); have n3_ := Zh ((by rw [hg]; exact (below_size Zs) : w.heap.size ≤ gb264)); have n4_ := Zh ((by rw [hg]; exact (below_size Zs) : w.heap.size ≤ gb264)); have n5_ := Zh ((by rw [hg]; exact Nat.ne_of_lt (blk_lt (g := gb263) (o := .cells #[.slice A0_0 l0_0.length c0_0] 29 (0, 0)) Zk) : gb263 ≠ gb264)); have n6_ := Zh ((by rw [hg]; exact Nat.ne_of_gt (blk_lt (g := gb263) (o := .cells #[.slice A0_0 l0_0.length c0_0] 29 (0, 0)) Zk) : gb264 ≠ gb263)); clear BK263; clear HB; have BK263 := n0_; have HB := n1_; have BK264 := n2_; have GW264 := n3_; have GE264 := n4_; have NB263_264 := n5_; have NB264_263 := n6_; clear n0_ n1_ n2_ n3_ n4_ n5_ n6_; clear hb hbox hg) | ((with_reducible refine gate_dst (N := 3) rfl ?_); refine box_event ?hg (N := 3) ?hd (cs := #[.slice none 0 0]) (t := 29) ?hr ?_; (case hd => rfl); (case hg => rfl); (case hr => first | (go_simp; done) | (go_simp; rfl)); intro gb265 hg w4 hbox hb; have n0_ := Zh (Zm (g := gb263) (o := .cells #[.slice A0_0 l0_0.length c0_0] 29 (0, 0)) Zk hb); have n1_ := Zh (Zm (g := gb264) (o := .cells #[.slice none 0 0] 29 (0, 0)) Zk hb); have n2_ := Zh (Zl Zs hb); have n3_ := Zh (hbox); have n4_ := Zh ((by rw [hg]; exact (below_size Zs) : w.heap.size ≤ gb265)); have n5_ := Zh ((by rw [hg]; exact (below_size Zs) : w.heap.size ≤ gb265)); have n6_ := Zh ((by rw [hg]; exact Nat.ne_of_lt (blk_lt (g := gb263) (o := .cells #[.slice A0_0 l0_0.length c0_0] 29 (0, 0)) Zk) : gb263 ≠ gb265)); have n7_ := Zh ((by rw [hg]; exact Nat.ne_of_gt (blk_lt (g := gb263) (o := .cells #[.slice A0_0 l0_0.length c0_0] 29 (0, 0)) Zk) : gb265 ≠ gb263)); have n8_ := Zh ((by rw [hg]; exact Nat.ne_of_lt (blk_lt (g := gb264) (o := .cells #[.slice none 0 0] 29 (0, 0)) Zk) : gb264 ≠ gb265)); have n9_ := Zh ((by rw [hg]; exact Nat.ne_of_gt (blk_lt (g := gb264) (o := .cells #[.slice none 0 0] 29 (0, 0)) Zk) : gb265 ≠ gb264)); clear BK263; clear BK264; clear HB; have BK263 := n0_; have BK264 := n1_; have HB := n2_; have BK265 := n3_; have GW265 := n4_; have GE265 := n5_; have NB263_265 := n6_; have NB265_263 := n7_; have NB264_265 := n8_; have NB265_264 := n9_; clear n0_ n1_ n2_ n3_ n4_ n5_ n6_ n7_ n8_ n9_; clear hb hbox hg; have hnb5 := NB265_263.out; have hnc5 := NB263_265.out; have hnb6 := NB265_264.out; have hnc6 := NB264_265.out; have hcz7_0 : w4.cell? ⟨gb265, 0, none⟩ = some (.slice none 0 0) := (blk_cell BK265.out 0).trans rfl; have hfz7_0 := Zn BK265.out 0; have hnb8 := NB263_264.out; have hnc8 := NB264_263.out; have hcz9_0 : w4.cell? ⟨gb263, 0, none⟩ = some (.slice A0_0 l0_0.length c0_0) := (blk_cell BK263.out 0).trans rfl; have hfz9_0 := Zn BK263.out 0))
 go_loopg [10] k (fun kq v10 w' => ∃ (x10_1 : Int) (x266000_1 : List (S74)) (u266000 : Value), v10 = .int .i64 x10_1 ∧ Aside0 (impl_copyDisk.l0 kq l0_0 (l0_0.length : Int) x10_1 x266000_1 = some r) ∧ Aside0 (kq ≤ k) ∧ Aside0 (Kd.S k74 74 w' w.heap.size (fun _ => True) u266000 x266000_1) ∧ Aside0 (w'.heap[gb263]? = some (.cells #[(.slice A0_0 l0_0.length c0_0)] 29 (0, 0))) ∧ Aside0 (w'.heap[gb264]? = some (.cells #[(.slice none 0 0)] 29 (0, 0))) ∧ Aside0 (w'.heap[gb265]? = some (.cells #[u266000] 29 (0, 0))) ∧ Aside0 (Below w.heap.size w w'))
 case atStart => exact ⟨(0), (([] : List (S74))), (.slice none 0 0), (by first | rfl | (simp; done) | (simp [*]; done)), H', ⟨Nat.le_refl _⟩, ⟨by first | exact S_nil _ _ _ _ _ | exact N_nil _ _ _ _ _ | exact V_nil _ _ _ _ _ | exact Q_nil _ _ _ _ _ | exact R_nil _ _ _ _ _⟩, ⟨by (with_reducible repeat (first | refine Za ?_ _ | refine Zb ?_ | refine blk_alloc ?_ _)); refine Zp ?_ NB263_265.out _; (with_reducible repeat (first | refine Za ?_ _ | refine Zb ?_ | refine blk_alloc ?_ _)); exact BK263.out⟩, ⟨by (with_reducible repeat (first | refine Za ?_ _ | refine Zb ?_ | refine blk_alloc ?_ _)); refine Zp ?_ NB264_265.out _; (with_reducible repeat (first | refine Za ?_ _ | refine Zb ?_ | refine blk_alloc ?_ _)); exact BK264.out⟩, ⟨by (with_reducible repeat (first | refine Za ?_ _ | refine Zb ?_ | refine blk_alloc ?_ _)); refine blk_put (cs := #[.slice none 0 0]) ?_ 0 _ rfl; (with_reducible repeat (first | refine Za ?_ _ | refine Zb ?_ | refine blk_alloc ?_ _)); exact BK265.out⟩, ⟨by repeat (first | (with_reducible first | exact HB.out | apply Zf | apply Zd | apply Ze | refine Zg ?_ GE263.out | refine Zg ?_ GE264.out | refine Zg ?_ GE265.out) | exact HB.out)⟩⟩
 case round =>
  clear H'
  try clear p2
  try clear c5
  try clear c6
  try clear c7
  try clear c8
  try clear hcz7_0
  try clear hcz9_0
  try clear hfz7_0
  try clear hfz9_0
  obtain ⟨x10_1, x266000_1, u266000, rfl, HA, HK1, HO_266000, BK263, BK264, BK265, HB⟩ := hrel
  cases gk with
  | zero => exact absurd HA.out (by simp [impl_copyDisk.l0])
  | succ k1 =>
   have H := HA.out
   clear HA
   simp only [impl_copyDisk.l0] at H
   by_cases c10 : x10_1 < (l0_0.length : Int)
   ·
    rw [if_pos c10] at H
    have c10b0 : decide (x10_1 < (l0_0.length : Int)) = true := decide_eq_true c10
    clear c10
    by_cases c11 : 0 ≤ x10_1
    ·
     rw [if_pos c11] at H
     have c11b0 : decide (0 ≤ x10_1) = true := decide_eq_true c11
     clear c11
     by_cases c12 : x10_1 < (l0_0.length : Int)
     ·
      rw [if_pos c12] at H
      have c12b0 : decide (x10_1 < (l0_0.length : Int)) = true := decide_eq_true c12
      clear c12
      obtain ⟨y268, hy268⟩ : ∃ y_ : List Int, y_ = (([] : List Int)) := ⟨_, rfl⟩
      replace H : (if y268.length + ((rd_T74 l0_0 x10_1).f1).length < 140737488355328 then ((some (([] : List Int) : List Int)).bind fun y274 => (if y274.length + ((rd_T74 l0_0 x10_1).f2).length < 140737488355328 then (if x266000_1.length < 2199023255552 then (impl_copyDisk.l0 k1 l0_0 (l0_0.length : Int) (wrap64 (x10_1 + 1)) (x266000_1 ++ [(⟨(rd_T74 l0_0 x10_1).f0, (y268 ++ ((rd_T74 l0_0 x10_1).f1)), (y274 ++ ((rd_T74 l0_0 x10_1).f2))⟩ : S74)])) else (none)) else (none))) else (none)) = some r := by first | (rw [hy268]; with_reducible exact H) | (have H2_ := (Option.bind_some _ _).symm.trans H; rw [hy268]; with_reducible exact H2_) | (have H2_ := (Option.bind_some _ _).symm.trans H; with_reducible exact H2_) | with_reducible exact H | (rw [hy268]; exact H) | exact H
      have Ny268 := Zh hy268
      clear hy268
      by_cases c13 : y268.length + ((rd_T74 l0_0 x10_1).f1).length < 140737488355328
      ·
       rw [if_pos c13] at H
       have LMc13 := Zh c13
       clear c13
       obtain ⟨y271, hy271⟩ : ∃ y_ : List Int, y_ = (y268 ++ ((rd_T74 l0_0 x10_1).f1)) := ⟨_, rfl⟩
       replace H : ((some (([] : List Int) : List Int)).bind fun y274 => (if y274.length + ((rd_T74 l0_0 x10_1).f2).length < 140737488355328 then (if x266000_1.length < 2199023255552 then (impl_copyDisk.l0 k1 l0_0 (l0_0.length : Int) (wrap64 (x10_1 + 1)) (x266000_1 ++ [(⟨(rd_T74 l0_0 x10_1).f0, y271, (y274 ++ ((rd_T74 l0_0 x10_1).f2))⟩ : S74)])) else (none)) else (none))) = some r := by first | (rw [hy271]; with_reducible exact H) | (have H2_ := (Option.bind_some _ _).symm.trans H; rw [hy271]; with_reducible exact H2_) | (have H2_ := (Option.bind_some _ _).symm.trans H; with_reducible exact H2_) | with_reducible exact H | (rw [hy271]; exact H) | exact H
       have Ny271 := Zh hy271
       clear hy271
       obtain ⟨y274, hy274⟩ : ∃ y_ : List Int, y_ = (([] : List Int)) := ⟨_, rfl⟩
       replace H : (if y274.length + ((rd_T74 l0_0 x10_1).f2).length < 140737488355328 then (if x266000_1.length < 2199023255552 then (impl_copyDisk.l0 k1 l0_0 (l0_0.length : Int) (wrap64 (x10_1 + 1)) (x266000_1 ++ [(⟨(rd_T74 l0_0 x10_1).f0, y271, (y274 ++ ((rd_T74 l0_0 x10_1).f2))⟩ : S74)])) else (none)) else (none)) = some r := by first | (rw [hy274]; with_reducible exact H) | (have H2_ := (Option.bind_some _ _).symm.trans H; rw [hy274]; with_reducible exact H2_) | (have H2_ := (Option.bind_some _ _).symm.trans H; with_reducible exact H2_) | with_reducible exact H | (rw [hy274]; exact H) | exact H
       have Ny274 := Zh hy274
       clear hy274
       by_cases c14 : y274.length + ((rd_T74 l0_0 x10_1).f2).length < 140737488355328
       ·
        rw [if_pos c14] at H
        have LMc14 := Zh c14
        clear c14
        obtain ⟨y277, hy277⟩ : ∃ y_ : List Int, y_ = (y274 ++ ((rd_T74 l0_0 x10_1).f2)) := ⟨_, rfl⟩
        replace H : (if x266000_1.length < 2199023255552 then (impl_copyDisk.l0 k1 l0_0 (l0_0.length : Int) (wrap64 (x10_1 + 1)) (x266000_1 ++ [(⟨(rd_T74 l0_0 x10_1).f0, y271, y277⟩ : S74)])) else (none)) = some r := by first | (rw [hy277]; with_reducible exact H) | (have H2_ := (Option.bind_some _ _).symm.trans H; rw [hy277]; with_reducible exact H2_) | (have H2_ := (Option.bind_some _ _).symm.trans H; with_reducible exact H2_) | with_reducible exact H | (rw [hy277]; exact H) | exact H
        have Ny277 := Zh hy277
        clear hy277
        by_cases c15 : x266000_1.length < 2199023255552
        ·
         rw [if_pos c15] at H
         have LMc15 := Zh c15
         clear c15
         obtain ⟨y280, hy280⟩ : ∃ y_ : List (S74), y_ = (x266000_1 ++ [(⟨(rd_T74 l0_0 x10_1).f0, y271, y277⟩ : S74)]) := ⟨_, rfl⟩
         replace H : (impl_copyDisk.l0 k1 l0_0 (l0_0.length : Int) (wrap64 (x10_1 + 1)) y280) = some r := by first | (rw [hy280]; with_reducible exact H) | (have H2_ := (Option.bind_some _ _).symm.trans H; rw [hy280]; with_reducible exact H2_) | (have H2_ := (Option.bind_some _ _).symm.trans H; with_reducible exact H2_) | with_reducible exact H | (rw [hy280]; exact H) | exact H
         have Ny280 := Zh hy280
         clear hy280
         have H' := Zh H
         clear H
         have p266 : 0 ≤ (x10_1 : Int) := Zo
         have q266 : x10_1 < (l0_0.length : Int) := Zo
         obtain ⟨ad266, A266_1, c266_1, A266_2, c266_2, e266, hx266_0, hx266_1, hx266_2, hl266_1, hi266_1, hl266_2, hi266_2⟩ := at_T74 HR0_0.out x10_1 p266 q266
         cases e266
         replace hx266_0 := Zc HB.out hx266_0
         replace hx266_1 := Zc HB.out hx266_1
         replace hx266_2 := Zc HB.out hx266_2
         have HR266_1 := Zh hi266_1
         have HC266_1 := Zh hl266_1
         clear hi266_1 hl266_1
         have HR266_2 := Zh hi266_2
         have HC266_2 := Zh hl266_2
         clear hi266_2 hl266_2
         replace p266 := eq_true p266
         replace q266 := eq_true q266
         try go_wp2_with (first | ((with_reducible refine gate_dst (N := 5) rfl ?_); refine box_event ?hg (N := 5) ?hd (cs := #[.string (⟨#[]⟩ : ByteArray), .slice none 0 0, .slice none 0 0]) (t := 74) ?hr ?_; (case hd => rfl); (case hg => rfl); (case hr => first | (go_simp; done) | (go_simp; rfl)); intro gb267 hg w16 hbox hb; have n0_ := Zh (S_below (S_elderB (by (with_reducible repeat (first | apply S_alloc | apply S_drewN | apply S_drew)); exact HO_266000.out) gb267 (Nat.le_of_eq hg.symm)) hb); have n1_ := Zh (Zm (g := gb263) (o := .cells #[.slice (some ad266) l0_0.length c0_0] 29 (0, 0)) Zk hb); have n2_ := Zh (Zm (g := gb264) (o := .cells #[.slice none 0 0] 29 (0, 0)) Zk hb); have n3_ := Zh (Zm (g := gb265) (o := .cells #[u266000] 29 (0, 0)) Zk hb); have n4_ := Zh (Zl Zs hb); have n5_ := Zh (hbox); have n6_ := Zh ((by rw [hg]; exact (below_size Zs) : w.heap.size ≤ gb267)); have n7_ := Zh ((by rw [hg]; exact (below_size Zs) : w.heap.size ≤ gb267)); have n8_ := Zh ((by rw [hg]; exact Nat.ne_of_lt (blk_lt (g := gb263) (o := .cells #[.slice (some ad266) l0_0.length c0_0] 29 (0, 0)) Zk) : gb263 ≠ gb267)); have n9_ := Zh ((by rw [hg]; exact Nat.ne_of_gt (blk_lt (g := gb263) (o := .cells #[.slice (some ad266) l0_0.length c0_0] 29 (0, 0)) Zk) : gb267 ≠ gb263)); have n10_ := Zh ((by rw [hg]; exact Nat.ne_of_lt (blk_lt (g := gb264) (o := .cells #[.slice none 0 0] 29 (0, 0)) Zk) : gb264 ≠ gb267)); have n11_ := Zh ((by rw [hg]; exact Nat.ne_of_gt (blk_lt (g := gb264) (o := .cells #[.slice none 0 0] 29 (0, 0)) Zk) : gb267 ≠ gb264)); have n12_ := Zh ((by rw [hg]; exact Nat.ne_of_lt (blk_lt (g := gb265) (o := .cells #[u266000] 29 (0, 0)) Zk) : gb265 ≠ gb267)); have n13_ := Zh ((by rw [hg]; exact Nat.ne_of_gt (blk_lt (g := gb265) (o := .cells #[u266000] 29 (0, 0)) Zk) : gb267 ≠ gb265)); clear HO_266000; clear BK263; clear BK264; clear BK265; clear HB; have HO_266000 := n0_; have BK263 := n1_; have BK264 := n2_; have BK265 := n3_; have HB := n4_; have BK267 := n5_; have GW267 := n6_; have GE267 := n7_; have NB263_267 := n8_; have NB267_263 := n9_; have NB264_267 := n10_; have NB267_264 := n11_; have NB265_267 := n12_; have NB267_265 := n13_; clear n0_ n1_ n2_ n3_ n4_ n5_ n6_ n7_ n8_ n9_ n10_ n11_ n12_ n13_; clear hb hbox hg; have hnb17 := NB267_263.out; have hnc17 := NB263_267.out; have hnb18 := NB267_264.out; have hnc18 := NB264_267.out; have hnb19 := NB267_265.out; have hnc19 := NB265_267.out; have hcz20_0 : w16.cell? ⟨gb267, 0, none⟩ = some (.string (⟨#[]⟩ : ByteArray)) := (blk_cell BK267.out 0).trans rfl; have hcz20_1 : w16.cell? ⟨gb267, 1, none⟩ = some (.slice none 0 0) := (blk_cell BK267.out 1).trans rfl; have hcz20_2 : w16.cell? ⟨gb267, 2, none⟩ = some (.slice none 0 0) := (blk_cell BK267.out 2).trans rfl; have hfz20_0 := Zn BK267.out 0; have hfz20_1 := Zn BK267.out 1; have hfz20_2 := Zn BK267.out 2; obtain ⟨Ao21, co21, eo21⟩ := S_slice HO_266000.out; subst eo21))
         have n0_ : Aside0 (Kd.S k74 74 (((w16.setCell ⟨gb267, 0, none⟩ (.string ((rd_T74 l0_0 x10_1).f0))).setCell ⟨gb267, 1, none⟩ (.slice A266_1 ((rd_T74 l0_0 x10_1).f1).length c266_1)).setCell ⟨gb267, 2, none⟩ (.slice A266_2 ((rd_T74 l0_0 x10_1).f2).length c266_2)) w.heap.size (fun k_ => k_ ≠ gb267) (.slice Ao21 x266000_1.length co21) x266000_1) := ⟨by (with_reducible repeat (first | apply S_alloc | apply S_drewN | apply S_drew)); exact S_mono (S_far (p := ⟨gb267, 2, none⟩) (S_far (p := ⟨gb267, 1, none⟩) (S_far (p := ⟨gb267, 0, none⟩) (S_mono HO_266000.out (fun k_ hk => (⟨hk, hk.2⟩ : _ ∧ k_ ≠ gb267))) (fun _ hk => hk.2) (.string ((rd_T74 l0_0 x10_1).f0))) (fun _ hk => hk.2) (.slice A266_1 ((rd_T74 l0_0 x10_1).f1).length c266_1)) (fun _ hk => hk.2) (.slice A266_2 ((rd_T74 l0_0 x10_1).f2).length c266_2)) (fun _ hk => hk.1.2)⟩
         have n1_ : Aside0 ((((w16.setCell ⟨gb267, 0, none⟩ (.string ((rd_T74 l0_0 x10_1).f0))).setCell ⟨gb267, 1, none⟩ (.slice A266_1 ((rd_T74 l0_0 x10_1).f1).length c266_1)).setCell ⟨gb267, 2, none⟩ (.slice A266_2 ((rd_T74 l0_0 x10_1).f2).length c266_2)).heap[gb263]? = some (.cells #[.slice (some ad266) l0_0.length c0_0] 29 (0, 0))) := ⟨by (with_reducible repeat (first | refine Za ?_ _ | refine Zb ?_ | refine blk_alloc ?_ _)); refine Zp ?_ NB263_267.out _; (with_reducible repeat (first | refine Za ?_ _ | refine Zb ?_ | refine blk_alloc ?_ _)); refine Zp ?_ NB263_267.out _; (with_reducible repeat (first | refine Za ?_ _ | refine Zb ?_ | refine blk_alloc ?_ _)); refine Zp ?_ NB263_267.out _; (with_reducible repeat (first | refine Za ?_ _ | refine Zb ?_ | refine blk_alloc ?_ _)); exact BK263.out⟩
         have n2_ : Aside0 ((((w16.setCell ⟨gb267, 0, none⟩ (.string ((rd_T74 l0_0 x10_1).f0))).setCell ⟨gb267, 1, none⟩ (.slice A266_1 ((rd_T74 l0_0 x10_1).f1).length c266_1)).setCell ⟨gb267, 2, none⟩ (.slice A266_2 ((rd_T74 l0_0 x10_1).f2).length c266_2)).heap[gb264]? = some (.cells #[.slice none 0 0] 29 (0, 0))) := ⟨by (with_reducible repeat (first | refine Za ?_ _ | refine Zb ?_ | refine blk_alloc ?_ _)); refine Zp ?_ NB264_267.out _; (with_reducible repeat (first | refine Za ?_ _ | refine Zb ?_ | refine blk_alloc ?_ _)); refine Zp ?_ NB264_267.out _; (with_reducible repeat (first | refine Za ?_ _ | refine Zb ?_ | refine blk_alloc ?_ _)); refine Zp ?_ NB264_267.out _; (with_reducible repeat (first | refine Za ?_ _ | refine Zb ?_ | refine blk_alloc ?_ _)); exact BK264.out⟩
         have n3_ : Aside0 ((((w16.setCell ⟨gb267, 0, none⟩ (.string ((rd_T74 l0_0 x10_1).f0))).setCell ⟨gb267, 1, none⟩ (.slice A266_1 ((rd_T74 l0_0 x10_1).f1).length c266_1)).setCell ⟨gb267, 2, none⟩ (.slice A266_2 ((rd_T74 l0_0 x10_1).f2).length c266_2)).heap[gb265]? = some (.cells #[.slice Ao21 x266000_1.length co21] 29 (0, 0))) := ⟨by (with_reducible repeat (first | refine Za ?_ _ | refine Zb ?_ | refine blk_alloc ?_ _)); refine Zp ?_ NB265_267.out _; (with_reducible repeat (first | refine Za ?_ _ | refine Zb ?_ | refine blk_alloc ?_ _)); refine Zp ?_ NB265_267.out _; (with_reducible repeat (first | refine Za ?_ _ | refine Zb ?_ | refine blk_alloc ?_ _)); refine Zp ?_ NB265_267.out _; (with_reducible repeat (first | refine Za ?_ _ | refine Zb ?_ | refine blk_alloc ?_ _)); exact BK265.out⟩
         have n4_ : Aside0 ((((w16.setCell ⟨gb267, 0, none⟩ (.string ((rd_T74 l0_0 x10_1).f0))).setCell ⟨gb267, 1, none⟩ (.slice A266_1 ((rd_T74 l0_0 x10_1).f1).length c266_1)).setCell ⟨gb267, 2, none⟩ (.slice A266_2 ((rd_T74 l0_0 x10_1).f2).length c266_2)).heap[gb267]? = some (.cells #[.string ((rd_T74 l0_0 x10_1).f0), .slice A266_1 ((rd_T74 l0_0 x10_1).f1).length c266_1, .slice A266_2 ((rd_T74 l0_0 x10_1).f2).length c266_2] 74 (0, 0))) := ⟨by (with_reducible repeat (first | refine Za ?_ _ | refine Zb ?_ | refine blk_alloc ?_ _)); refine blk_put (cs := #[.string ((rd_T74 l0_0 x10_1).f0), .slice A266_1 ((rd_T74 l0_0 x10_1).f1).length c266_1, .slice none 0 0]) ?_ 2 _ rfl; (with_reducible repeat (first | refine Za ?_ _ | refine Zb ?_ | refine blk_alloc ?_ _)); refine blk_put (cs := #[.string ((rd_T74 l0_0 x10_1).f0), .slice none 0 0, .slice none 0 0]) ?_ 1 _ rfl; (with_reducible repeat (first | refine Za ?_ _ | refine Zb ?_ | refine blk_alloc ?_ _)); refine blk_put (cs := #[.string (⟨#[]⟩ : ByteArray), .slice none 0 0, .slice none 0 0]) ?_ 0 _ rfl; (with_reducible repeat (first | refine Za ?_ _ | refine Zb ?_ | refine blk_alloc ?_ _)); exact BK267.out⟩
         have n5_ : Aside0 (Below w.heap.size w (((w16.setCell ⟨gb267, 0, none⟩ (.string ((rd_T74 l0_0 x10_1).f0))).setCell ⟨gb267, 1, none⟩ (.slice A266_1 ((rd_T74 l0_0 x10_1).f1).length c266_1)).setCell ⟨gb267, 2, none⟩ (.slice A266_2 ((rd_T74 l0_0 x10_1).f2).length c266_2))) := ⟨by repeat (first | (with_reducible first | exact HB.out | apply Zf | apply Zd | apply Ze | refine Zg ?_ GE263.out | refine Zg ?_ GE264.out | refine Zg ?_ GE265.out | refine Zg ?_ GE267.out) | exact HB.out)⟩
         (try clear HO_266000)
         (try clear BK263)
         (try clear BK264)
         (try clear BK265)
         (try clear BK267)
         (try clear HB)
         generalize (((w16.setCell ⟨gb267, 0, none⟩ (.string ((rd_T74 l0_0 x10_1).f0))).setCell ⟨gb267, 1, none⟩ (.slice A266_1 ((rd_T74 l0_0 x10_1).f1).length c266_1)).setCell ⟨gb267, 2, none⟩ (.slice A266_2 ((rd_T74 l0_0 x10_1).f2).length c266_2)) = w22 at n0_ n1_ n2_ n3_ n4_ n5_ ⊢
         have HO_266000 := n0_
         have BK263 := n1_
         have BK264 := n2_
         have BK265 := n3_
         have BK267 := n4_
         have HB := n5_
         clear n0_ n1_ n2_ n3_ n4_ n5_
         have n0_ := Zh (S_drew HO_266000.out)
         have n1_ := Zh (Zb BK263.out)
         have n2_ := Zh (Zb BK264.out)
         have n3_ := Zh (Zb BK265.out)
         have n4_ := Zh (Zb BK267.out)
         have n5_ := Zh (Ze HB.out)
         clear HO_266000
         clear BK263
         clear BK264
         clear BK265
         clear BK267
         clear HB
         have HO_266000 := n0_
         have BK263 := n1_
         have BK264 := n2_
         have BK265 := n3_
         have BK267 := n4_
         have HB := n5_
         clear n0_ n1_ n2_ n3_ n4_ n5_
         refine start_ (n := 17) (S := fun w' => w'.cell? ⟨gb265, 0, none⟩ = some (.slice Ao21 x266000_1.length co21) ∧ w'.cell? ⟨gb267, 0, none⟩ = some (.string ((rd_T74 l0_0 x10_1).f0)) ∧ w'.cell? ⟨gb267, 1, none⟩ = some (.slice A266_1 ((rd_T74 l0_0 x10_1).f1).length c266_1) ∧ w'.cell? ⟨gb267, 2, none⟩ = some (.slice A266_2 ((rd_T74 l0_0 x10_1).f2).length c266_2)) (ds := [16]) #[false, false, false, false, false, false, false, false, false, false, false, false, false, false, false, false, false] (by kernel_rfl) rfl rfl ⟨(blk_cell BK265.out 0).trans rfl, (blk_cell BK267.out 0).trans rfl, (blk_cell BK267.out 1).trans rfl, (blk_cell BK267.out 2).trans rfl⟩ (fun hHeld => ?_); refine with_tabW impl_copyDisk.tab5 impl_copyDisk.bits5 (fun HT_ HW_ => ?_)
         generalize w22.drew = w23 at HO_266000 BK263 BK264 BK265 BK267 HB hHeld ⊢
         refine SQ.pu 0 14 HT_ ?_
         refine SQ.pu 2 16 HT_ ?_
         refine SQ.pu 5 19 HT_ ?_
         refine SQ.pu 9 23 HT_ ?_
         refine SQ.tk 1 15 HT_ HW_ hHeld ?_
         refine SQ.tk 3 17 HT_ HW_ hHeld ?_
         refine SQ.tk 6 20 HT_ HW_ hHeld ?_
         refine SQ.tk 10 24 HT_ HW_ hHeld ?_
         refine join_ (σ := Value × Value × Value) 6 #[true, true, true, true, true, true, true, true, true, true, true, false, false, false, false, false, false] (fun s_ => [(18, s_.1), (21, s_.2.1), (22, s_.2.2)]) (fun s_ w' => (w'.cell? ⟨gb265, 0, none⟩ = some (.slice Ao21 x266000_1.length co21) ∧ w'.cell? ⟨gb267, 0, none⟩ = some (.string ((rd_T74 l0_0 x10_1).f0)) ∧ w'.cell? ⟨gb267, 1, none⟩ = some (.slice A266_1 ((rd_T74 l0_0 x10_1).f1).length c266_1) ∧ w'.cell? ⟨gb267, 2, none⟩ = some (.slice A266_2 ((rd_T74 l0_0 x10_1).f2).length c266_2)) ∧ (Kd.R (Kd.int .u8) 5 w' w.heap.size (fun k_ => some k_ ≠ (s_.2.2 : Value).ownBlock) s_.2.1 y271) ∧ (Kd.R (Kd.int .u8) 5 w' w.heap.size (fun k_ => some k_ ≠ (s_.2.1 : Value).ownBlock) s_.2.2 y274) ∧ (Kd.S k74 74 w' w.heap.size (fun k_ => some k_ ≠ (s_.2.1 : Value).ownBlock ∧ some k_ ≠ (s_.2.2 : Value).ownBlock ∧ k_ ≠ gb267) (.slice Ao21 x266000_1.length co21) x266000_1) ∧ (w'.heap[gb263]? = some (.cells #[.slice (some ad266) l0_0.length c0_0] 29 (0, 0))) ∧ (w'.heap[gb264]? = some (.cells #[.slice none 0 0] 29 (0, 0))) ∧ (w'.heap[gb265]? = some (.cells #[.slice Ao21 x266000_1.length co21] 29 (0, 0))) ∧ (w'.heap[gb267]? = some (.cells #[.string ((rd_T74 l0_0 x10_1).f0), .slice A266_1 ((rd_T74 l0_0 x10_1).f1).length c266_1, .slice A266_2 ((rd_T74 l0_0 x10_1).f2).length c266_2] 74 (0, 0))) ∧ (Below w.heap.size w w')) ?_ ?_
         rotate_left
         ·
          intro hCont
          refine two_ (i := 4) (j := 8) (Ni := some 18) (Nj := some 22) #[true, true, true, true, true, true, true, false, false, true, true, false, false, false, false, false, false] #[true, true, true, true, false, true, true, false, true, true, true, false, false, false, false, false, false] rfl rfl rfl rfl (two_of HT_.out (by kernel_rfl)) (by decide) (by decide) (fun K hK => ?_) (fun K hK => ?_)
          ·
           skip
           refine R_lit_step (Kd.int .u8) _ 5 ?hg (N := 18) ?hd (xs := ([] : List Int)) (inner := []) (ok := fun _ => True) (okp := fun _ => True) ?hr ?hp (fun _ hk => hk) trivial (Below.refl _ _) (Nat.le_refl _) (by simp) ?_; (case hd => rfl); (case hg => rfl); (case hr => first | (go_simp; done) | (go_simp; rfl)); (case hp => exact (Reps.none _ _))
           intro v269 w24 ho25 hb hg_ hnew_
           clear hg_ hnew_
           (first | rw [← Ny268.out] at ho25 | (simp only [Int.reduceToNat] at ho25; rw [← Ny268.out] at ho25))
           have n0_ := Zh (S_elder' (by (with_reducible repeat (first | apply S_alloc | apply S_drewN | apply S_drew)); exact HO_266000.out) (R_base ho25) hb)
           have n1_ := Zh (R_lower ho25 (below_size Zs))
           have n2_ := Zh (Zm (g := gb263) (o := .cells #[.slice (some ad266) l0_0.length c0_0] 29 (0, 0)) Zk hb)
           have n3_ := Zh (Zm (g := gb264) (o := .cells #[.slice none 0 0] 29 (0, 0)) Zk hb)
           have n4_ := Zh (Zm (g := gb265) (o := .cells #[.slice Ao21 x266000_1.length co21] 29 (0, 0)) Zk hb)
           have n5_ := Zh (Zm (g := gb267) (o := .cells #[.string ((rd_T74 l0_0 x10_1).f0), .slice A266_1 ((rd_T74 l0_0 x10_1).f1).length c266_1, .slice A266_2 ((rd_T74 l0_0 x10_1).f2).length c266_2] 74 (0, 0)) Zk hb)
           have n6_ := Zh (Zl Zs hb)
           clear HO_266000
           clear BK263
           clear BK264
           clear BK265
           clear BK267
           clear HB
           have HO_266000 := n0_
           have HO270 := n1_
           have BK263 := n2_
           have BK264 := n3_
           have BK265 := n4_
           have BK267 := n5_
           have HB := n6_
           clear n0_ n1_ n2_ n3_ n4_ n5_ n6_
           clear hb ho25
           refine hK.out _ _ ⟨(blk_cell BK265.out 0).trans rfl, (blk_cell BK267.out 0).trans rfl, (blk_cell BK267.out 1).trans rfl, (blk_cell BK267.out 2).trans rfl⟩ (fun hHeld => ?_)
           clear hK K
           refine norm_ (a' := ?_) ?_ ?_
           rotate_left
           ·
            show Act.put _ (some 18) _ = _
            simp only [Act.put, List.setIfInBounds_toArray, List.set_cons_zero, List.set_cons_succ, i64_w, i32_w]
            rfl
           refine two_ (i := 7) (j := 8) (Ni := some 21) (Nj := some 22) #[true, true, true, true, true, true, true, true, false, true, true, false, false, false, false, false, false] #[true, true, true, true, true, true, true, false, true, true, true, false, false, false, false, false, false] rfl rfl rfl rfl (two_of HT_.out (by kernel_rfl)) (by decide) (by decide) (fun K hK => ?_) (fun K hK => ?_)
           ·
            skip
            refine R_append_rows_step (Kd.int .u8) (w0 := w) w.heap.size (by rfl) (.tmp 18) (.tmp 20) 33 5 (.int .u8 0) 1 rfl Tryd.underlying33 info5 rfl (by decide) (by omega) v269 y268 ((rd_T74 l0_0 x10_1).f1) _ _ _ (fun _ => True) (fun _ => False) rfl rfl ?aO ?aR (fun _ _ h => h) (fun _ h => h.elim) ?aF ?aB ?aS ?aL ?_
            (case aR => repeat (first | exact (C_below HR266_1.out HB.out) | (with_reducible refine C_alloc ?_ _) | (with_reducible refine C_drewN ?_ _) | (with_reducible refine C_drew ?_)))
            (case aB => exact Zs)
            (case aF => exact (fun _ _ => trivial))
            (case aO => exact (by (with_reducible repeat (first | apply R_alloc | apply R_drewN | apply R_drew)); exact HO270.out))
            (case aS => exact (below_size Zs))
            (case aL => have := LMc13.out; omega)
            intro v272 w26 ho hb hg hat
            rw [← Ny271.out] at ho
            have n0_ := Zh (S_after (ok := (fun k_ => k_ ≠ gb267)) (by (with_reducible repeat (first | apply S_alloc | apply S_drewN | apply S_drew)); exact HO_266000.out) hg hat)
            have n1_ := Zh (blk_grown (g := gb263) (o := .cells #[.slice (some ad266) l0_0.length c0_0] 29 (0, 0)) Zk hg (R_ne HO270.out BK263.out (by decide)))
            have n2_ := Zh (blk_grown (g := gb264) (o := .cells #[.slice none 0 0] 29 (0, 0)) Zk hg (R_ne HO270.out BK264.out (by decide)))
            have n3_ := Zh (blk_grown (g := gb265) (o := .cells #[.slice Ao21 x266000_1.length co21] 29 (0, 0)) Zk hg (R_ne HO270.out BK265.out (by decide)))
            have n4_ := Zh (blk_grown (g := gb267) (o := .cells #[.string ((rd_T74 l0_0 x10_1).f0), .slice A266_1 ((rd_T74 l0_0 x10_1).f1).length c266_1, .slice A266_2 ((rd_T74 l0_0 x10_1).f2).length c266_2] 74 (0, 0)) Zk hg (R_ne HO270.out BK267.out (by decide)))
            have n5_ := Zh (hb)
            have n6_ := Zh (ho)
            clear HO_266000
            clear BK263
            clear BK264
            clear BK265
            clear BK267
            clear HB
            clear HO270
            have HO_266000 := n0_
            have BK263 := n1_
            have BK264 := n2_
            have BK265 := n3_
            have BK267 := n4_
            have HB := n5_
            have HO273 := n6_
            clear n0_ n1_ n2_ n3_ n4_ n5_ n6_
            clear ho hb hg hat
            refine hK.out _ _ ⟨(blk_cell BK265.out 0).trans rfl, (blk_cell BK267.out 0).trans rfl, (blk_cell BK267.out 1).trans rfl, (blk_cell BK267.out 2).trans rfl⟩ (fun hHeld => ?_)
            clear hK K
            refine norm_ (a' := ?_) ?_ ?_
            rotate_left
            ·
             show Act.put _ (some 21) _ = _
             simp only [Act.put, List.setIfInBounds_toArray, List.set_cons_zero, List.set_cons_succ, i64_w, i32_w]
             rfl
            refine one_ (i := 8) (N := some 22) #[true, true, true, true, true, true, true, true, true, true, true, false, false, false, false, false, false] rfl rfl (one_of HT_.out (by kernel_rfl)) (by decide) (fun K hK => ?_)
            refine R_lit_step (Kd.int .u8) _ 5 ?hg (N := 22) ?hd (xs := ([] : List Int)) (inner := []) (ok := fun _ => True) (okp := fun _ => True) ?hr ?hp (fun _ hk => hk) trivial (Below.refl _ _) (Nat.le_refl _) (by simp) ?_; (case hd => rfl); (case hg => rfl); (case hr => first | (go_simp; done) | (go_simp; rfl)); (case hp => exact (Reps.none _ _))
            intro v275 w27 ho28 hb hg_ hnew_
            clear hg_ hnew_
            (first | rw [← Ny274.out] at ho28 | (simp only [Int.reduceToNat] at ho28; rw [← Ny274.out] at ho28))
            have n0_ := Zh (S_elder' (by (with_reducible repeat (first | apply S_alloc | apply S_drewN | apply S_drew)); exact HO_266000.out) (R_base ho28) hb)
            have n1_ := Zh (R_elder' (by (with_reducible repeat (first | apply R_alloc | apply R_drewN | apply R_drew)); exact HO273.out) (R_base ho28) hb)
            have n2_ := Zh (R_lower (R_new' ho28 (R_lt (by (with_reducible repeat (first | apply R_alloc | apply R_drewN | apply R_drew)); exact HO273.out))) (below_size Zs))
            have n3_ := Zh (Zm (g := gb263) (o := .cells #[.slice (some ad266) l0_0.length c0_0] 29 (0, 0)) Zk hb)
            have n4_ := Zh (Zm (g := gb264) (o := .cells #[.slice none 0 0] 29 (0, 0)) Zk hb)
            have n5_ := Zh (Zm (g := gb265) (o := .cells #[.slice Ao21 x266000_1.length co21] 29 (0, 0)) Zk hb)
            have n6_ := Zh (Zm (g := gb267) (o := .cells #[.string ((rd_T74 l0_0 x10_1).f0), .slice A266_1 ((rd_T74 l0_0 x10_1).f1).length c266_1, .slice A266_2 ((rd_T74 l0_0 x10_1).f2).length c266_2] 74 (0, 0)) Zk hb)
            have n7_ := Zh (Zl Zs hb)
            clear HO_266000
            clear HO273
            clear BK263
            clear BK264
            clear BK265
            clear BK267
            clear HB
            have HO_266000 := n0_
            have HO273 := n1_
            have HO276 := n2_
            have BK263 := n3_
            have BK264 := n4_
            have BK265 := n5_
            have BK267 := n6_
            have HB := n7_
            clear n0_ n1_ n2_ n3_ n4_ n5_ n6_ n7_
            clear hb ho28
            refine hK.out _ _ ⟨(blk_cell BK265.out 0).trans rfl, (blk_cell BK267.out 0).trans rfl, (blk_cell BK267.out 1).trans rfl, (blk_cell BK267.out 2).trans rfl⟩ (fun hHeld => ?_)
            clear hK K
            refine norm_ (a' := ?_) ?_ ?_
            rotate_left
            ·
             show Act.put _ (some 22) _ = _
             simp only [Act.put, List.setIfInBounds_toArray, List.set_cons_zero, List.set_cons_succ, i64_w, i32_w]
             rfl
            exact norm_ (by simp only [putAll, Act.put, List.setIfInBounds_toArray, List.set_cons_zero, List.set_cons_succ]) (hCont (v269, v272, v275) _ ⟨hHeld, (by (with_reducible repeat (first | apply R_alloc | apply R_drewN | apply R_drew)); exact R_mono HO273.out (fun _ hk => hk.2)), (by (with_reducible repeat (first | apply R_alloc | apply R_drewN | apply R_drew)); exact R_mono HO276.out (fun _ hk => hk.2)), (by (with_reducible repeat (first | apply S_alloc | apply S_drewN | apply S_drew)); exact S_mono HO_266000.out (fun _ hk => ⟨hk.1.2, ⟨hk.2, hk.1.1⟩⟩)), Zk, Zk, Zk, Zk, Zs⟩)
           skip
           refine R_lit_step (Kd.int .u8) _ 5 ?hg (N := 22) ?hd (xs := ([] : List Int)) (inner := []) (ok := fun _ => True) (okp := fun _ => True) ?hr ?hp (fun _ hk => hk) trivial (Below.refl _ _) (Nat.le_refl _) (by simp) ?_; (case hd => rfl); (case hg => rfl); (case hr => first | (go_simp; done) | (go_simp; rfl)); (case hp => exact (Reps.none _ _))
           intro v275 w26 ho27 hb hg_ hnew_
           clear hg_ hnew_
           (first | rw [← Ny274.out] at ho27 | (simp only [Int.reduceToNat] at ho27; rw [← Ny274.out] at ho27))
           have n0_ := Zh (S_elder' (by (with_reducible repeat (first | apply S_alloc | apply S_drewN | apply S_drew)); exact HO_266000.out) (R_base ho27) hb)
           have n1_ := Zh (R_elder' (by (with_reducible repeat (first | apply R_alloc | apply R_drewN | apply R_drew)); exact HO270.out) (R_base ho27) hb)
           have n2_ := Zh (R_lower (R_new' ho27 (R_lt (by (with_reducible repeat (first | apply R_alloc | apply R_drewN | apply R_drew)); exact HO270.out))) (below_size Zs))
           have n3_ := Zh (Zm (g := gb263) (o := .cells #[.slice (some ad266) l0_0.length c0_0] 29 (0, 0)) Zk hb)
           have n4_ := Zh (Zm (g := gb264) (o := .cells #[.slice none 0 0] 29 (0, 0)) Zk hb)
           have n5_ := Zh (Zm (g := gb265) (o := .cells #[.slice Ao21 x266000_1.length co21] 29 (0, 0)) Zk hb)
           have n6_ := Zh (Zm (g := gb267) (o := .cells #[.string ((rd_T74 l0_0 x10_1).f0), .slice A266_1 ((rd_T74 l0_0 x10_1).f1).length c266_1, .slice A266_2 ((rd_T74 l0_0 x10_1).f2).length c266_2] 74 (0, 0)) Zk hb)
           have n7_ := Zh (Zl Zs hb)
           clear HO_266000
           clear HO270
           clear BK263
           clear BK264
           clear BK265
           clear BK267
           clear HB
           have HO_266000 := n0_
           have HO270 := n1_
           have HO276 := n2_
           have BK263 := n3_
           have BK264 := n4_
           have BK265 := n5_
           have BK267 := n6_
           have HB := n7_
           clear n0_ n1_ n2_ n3_ n4_ n5_ n6_ n7_
           clear hb ho27
           refine hK.out _ _ ⟨(blk_cell BK265.out 0).trans rfl, (blk_cell BK267.out 0).trans rfl, (blk_cell BK267.out 1).trans rfl, (blk_cell BK267.out 2).trans rfl⟩ (fun hHeld => ?_)
           clear hK K
           refine norm_ (a' := ?_) ?_ ?_
           rotate_left
           ·
            show Act.put _ (some 22) _ = _
            simp only [Act.put, List.setIfInBounds_toArray, List.set_cons_zero, List.set_cons_succ, i64_w, i32_w]
            rfl
           refine one_ (i := 7) (N := some 21) #[true, true, true, true, true, true, true, true, true, true, true, false, false, false, false, false, false] rfl rfl (one_of HT_.out (by kernel_rfl)) (by decide) (fun K hK => ?_)
           refine R_append_rows_step (Kd.int .u8) (w0 := w) w.heap.size (by rfl) (.tmp 18) (.tmp 20) 33 5 (.int .u8 0) 1 rfl Tryd.underlying33 info5 rfl (by decide) (by omega) v269 y268 ((rd_T74 l0_0 x10_1).f1) _ _ _ (fun k_ => some k_ ≠ (v275 : Value).ownBlock) (fun _ => False) rfl rfl ?aO ?aR (fun _ _ h => h) (fun _ h => h.elim) ?aF ?aB ?aS ?aL ?_
           (case aR => repeat (first | exact (C_below HR266_1.out HB.out) | (with_reducible refine C_alloc ?_ _) | (with_reducible refine C_drewN ?_ _) | (with_reducible refine C_drew ?_)))
           (case aB => exact Zs)
           (case aF => exact (fun k_ hk => Kd.fresh' (R_lt (by (with_reducible repeat (first | apply R_alloc | apply R_drewN | apply R_drew)); exact HO276.out)) k_ hk))
           (case aO => exact (by (with_reducible repeat (first | apply R_alloc | apply R_drewN | apply R_drew)); exact R_mono HO270.out (fun _ hk => hk.2)))
           (case aS => exact (below_size Zs))
           (case aL => have := LMc13.out; omega)
           intro v272 w28 ho hb hg hat
           rw [← Ny271.out] at ho
           have n0_ := Zh (S_after (ok := (fun k_ => some k_ ≠ (v275 : Value).ownBlock ∧ k_ ≠ gb267)) (by (with_reducible repeat (first | apply S_alloc | apply S_drewN | apply S_drew)); exact S_mono HO_266000.out (fun _ hk => ⟨⟨hk.2, hk.1.1⟩, hk.1.2⟩)) hg hat)
           have n1_ := Zh (blk_grown (g := gb263) (o := .cells #[.slice (some ad266) l0_0.length c0_0] 29 (0, 0)) Zk hg (R_ne HO270.out BK263.out (by decide)))
           have n2_ := Zh (blk_grown (g := gb264) (o := .cells #[.slice none 0 0] 29 (0, 0)) Zk hg (R_ne HO270.out BK264.out (by decide)))
           have n3_ := Zh (blk_grown (g := gb265) (o := .cells #[.slice Ao21 x266000_1.length co21] 29 (0, 0)) Zk hg (R_ne HO270.out BK265.out (by decide)))
           have n4_ := Zh (blk_grown (g := gb267) (o := .cells #[.string ((rd_T74 l0_0 x10_1).f0), .slice A266_1 ((rd_T74 l0_0 x10_1).f1).length c266_1, .slice A266_2 ((rd_T74 l0_0 x10_1).f2).length c266_2] 74 (0, 0)) Zk hg (R_ne HO270.out BK267.out (by decide)))
           have n5_ := Zh (R_after (ok := (fun _ => True)) (by (with_reducible repeat (first | apply R_alloc | apply R_drewN | apply R_drew)); exact HO276.out) hg hat)
           have n6_ := Zh (hb)
           have n7_ := Zh (ho)
           clear HO_266000
           clear BK263
           clear BK264
           clear BK265
           clear BK267
           clear HO276
           clear HB
           clear HO270
           have HO_266000 := n0_
           have BK263 := n1_
           have BK264 := n2_
           have BK265 := n3_
           have BK267 := n4_
           have HO276 := n5_
           have HB := n6_
           have HO273 := n7_
           clear n0_ n1_ n2_ n3_ n4_ n5_ n6_ n7_
           clear ho hb hg hat
           refine hK.out _ _ ⟨(blk_cell BK265.out 0).trans rfl, (blk_cell BK267.out 0).trans rfl, (blk_cell BK267.out 1).trans rfl, (blk_cell BK267.out 2).trans rfl⟩ (fun hHeld => ?_)
           clear hK K
           refine norm_ (a' := ?_) ?_ ?_
           rotate_left
           ·
            show Act.put _ (some 21) _ = _
            simp only [Act.put, List.setIfInBounds_toArray, List.set_cons_zero, List.set_cons_succ, i64_w, i32_w]
            rfl
           exact norm_ (by simp only [putAll, Act.put, List.setIfInBounds_toArray, List.set_cons_zero, List.set_cons_succ]) (hCont (v269, v272, v275) _ ⟨hHeld, (by (with_reducible repeat (first | apply R_alloc | apply R_drewN | apply R_drew)); exact HO273.out), (by (with_reducible repeat (first | apply R_alloc | apply R_drewN | apply R_drew)); exact R_mono HO276.out (fun _ hk => hk.2)), (by (with_reducible repeat (first | apply S_alloc | apply S_drewN | apply S_drew)); exact S_mono HO_266000.out (fun _ hk => ⟨hk.2, ⟨hk.1.1, hk.1.2⟩⟩)), Zk, Zk, Zk, Zk, Zs⟩)
          skip
          refine R_lit_step (Kd.int .u8) _ 5 ?hg (N := 22) ?hd (xs := ([] : List Int)) (inner := []) (ok := fun _ => True) (okp := fun _ => True) ?hr ?hp (fun _ hk => hk) trivial (Below.refl _ _) (Nat.le_refl _) (by simp) ?_; (case hd => rfl); (case hg => rfl); (case hr => first | (go_simp; done) | (go_simp; rfl)); (case hp => exact (Reps.none _ _))
          intro v275 w24 ho25 hb hg_ hnew_
          clear hg_ hnew_
          (first | rw [← Ny274.out] at ho25 | (simp only [Int.reduceToNat] at ho25; rw [← Ny274.out] at ho25))
          have n0_ := Zh (S_elder' (by (with_reducible repeat (first | apply S_alloc | apply S_drewN | apply S_drew)); exact HO_266000.out) (R_base ho25) hb)
          have n1_ := Zh (R_lower ho25 (below_size Zs))
          have n2_ := Zh (Zm (g := gb263) (o := .cells #[.slice (some ad266) l0_0.length c0_0] 29 (0, 0)) Zk hb)
          have n3_ := Zh (Zm (g := gb264) (o := .cells #[.slice none 0 0] 29 (0, 0)) Zk hb)
          have n4_ := Zh (Zm (g := gb265) (o := .cells #[.slice Ao21 x266000_1.length co21] 29 (0, 0)) Zk hb)
          have n5_ := Zh (Zm (g := gb267) (o := .cells #[.string ((rd_T74 l0_0 x10_1).f0), .slice A266_1 ((rd_T74 l0_0 x10_1).f1).length c266_1, .slice A266_2 ((rd_T74 l0_0 x10_1).f2).length c266_2] 74 (0, 0)) Zk hb)
          have n6_ := Zh (Zl Zs hb)
          clear HO_266000
          clear BK263
          clear BK264
          clear BK265
          clear BK267
          clear HB
          have HO_266000 := n0_
          have HO276 := n1_
          have BK263 := n2_
          have BK264 := n3_
          have BK265 := n4_
          have BK267 := n5_
          have HB := n6_
          clear n0_ n1_ n2_ n3_ n4_ n5_ n6_
          clear hb ho25
          refine hK.out _ _ ⟨(blk_cell BK265.out 0).trans rfl, (blk_cell BK267.out 0).trans rfl, (blk_cell BK267.out 1).trans rfl, (blk_cell BK267.out 2).trans rfl⟩ (fun hHeld => ?_)
          clear hK K
          refine norm_ (a' := ?_) ?_ ?_
          rotate_left
          ·
           show Act.put _ (some 22) _ = _
           simp only [Act.put, List.setIfInBounds_toArray, List.set_cons_zero, List.set_cons_succ, i64_w, i32_w]
           rfl
          refine one_ (i := 4) (N := some 18) #[true, true, true, true, true, true, true, false, true, true, true, false, false, false, false, false, false] rfl rfl (one_of HT_.out (by kernel_rfl)) (by decide) (fun K hK => ?_)
          refine R_lit_step (Kd.int .u8) _ 5 ?hg (N := 18) ?hd (xs := ([] : List Int)) (inner := []) (ok := fun _ => True) (okp := fun _ => True) ?hr ?hp (fun _ hk => hk) trivial (Below.refl _ _) (Nat.le_refl _) (by simp) ?_; (case hd => rfl); (case hg => rfl); (case hr => first | (go_simp; done) | (go_simp; rfl)); (case hp => exact (Reps.none _ _))
          intro v269 w26 ho27 hb hg_ hnew_
          clear hg_ hnew_
          (first | rw [← Ny268.out] at ho27 | (simp only [Int.reduceToNat] at ho27; rw [← Ny268.out] at ho27))
          have n0_ := Zh (S_elder' (by (with_reducible repeat (first | apply S_alloc | apply S_drewN | apply S_drew)); exact HO_266000.out) (R_base ho27) hb)
          have n1_ := Zh (R_elder' (by (with_reducible repeat (first | apply R_alloc | apply R_drewN | apply R_drew)); exact HO276.out) (R_base ho27) hb)
          have n2_ := Zh (R_lower (R_new' ho27 (R_lt (by (with_reducible repeat (first | apply R_alloc | apply R_drewN | apply R_drew)); exact HO276.out))) (below_size Zs))
          have n3_ := Zh (Zm (g := gb263) (o := .cells #[.slice (some ad266) l0_0.length c0_0] 29 (0, 0)) Zk hb)
          have n4_ := Zh (Zm (g := gb264) (o := .cells #[.slice none 0 0] 29 (0, 0)) Zk hb)
          have n5_ := Zh (Zm (g := gb265) (o := .cells #[.slice Ao21 x266000_1.length co21] 29 (0, 0)) Zk hb)
          have n6_ := Zh (Zm (g := gb267) (o := .cells #[.string ((rd_T74 l0_0 x10_1).f0), .slice A266_1 ((rd_T74 l0_0 x10_1).f1).length c266_1, .slice A266_2 ((rd_T74 l0_0 x10_1).f2).length c266_2] 74 (0, 0)) Zk hb)
          have n7_ := Zh (Zl Zs hb)
          clear HO_266000
          clear HO276
          clear BK263
          clear BK264
          clear BK265
          clear BK267
          clear HB
          have HO_266000 := n0_
          have HO276 := n1_
          have HO270 := n2_
          have BK263 := n3_
          have BK264 := n4_
          have BK265 := n5_
          have BK267 := n6_
          have HB := n7_
          clear n0_ n1_ n2_ n3_ n4_ n5_ n6_ n7_
          clear hb ho27
          refine hK.out _ _ ⟨(blk_cell BK265.out 0).trans rfl, (blk_cell BK267.out 0).trans rfl, (blk_cell BK267.out 1).trans rfl, (blk_cell BK267.out 2).trans rfl⟩ (fun hHeld => ?_)
          clear hK K
          refine norm_ (a' := ?_) ?_ ?_
          rotate_left
          ·
           show Act.put _ (some 18) _ = _
           simp only [Act.put, List.setIfInBounds_toArray, List.set_cons_zero, List.set_cons_succ, i64_w, i32_w]
           rfl
          refine one_ (i := 7) (N := some 21) #[true, true, true, true, true, true, true, true, true, true, true, false, false, false, false, false, false] rfl rfl (one_of HT_.out (by kernel_rfl)) (by decide) (fun K hK => ?_)
          refine R_append_rows_step (Kd.int .u8) (w0 := w) w.heap.size (by rfl) (.tmp 18) (.tmp 20) 33 5 (.int .u8 0) 1 rfl Tryd.underlying33 info5 rfl (by decide) (by omega) v269 y268 ((rd_T74 l0_0 x10_1).f1) _ _ _ (fun k_ => some k_ ≠ (v275 : Value).ownBlock) (fun _ => False) rfl rfl ?aO ?aR (fun _ _ h => h) (fun _ h => h.elim) ?aF ?aB ?aS ?aL ?_
          (case aR => repeat (first | exact (C_below HR266_1.out HB.out) | (with_reducible refine C_alloc ?_ _) | (with_reducible refine C_drewN ?_ _) | (with_reducible refine C_drew ?_)))
          (case aB => exact Zs)
          (case aF => exact (fun k_ hk => Kd.fresh' (R_lt (by (with_reducible repeat (first | apply R_alloc | apply R_drewN | apply R_drew)); exact HO276.out)) k_ hk))
          (case aO => exact (by (with_reducible repeat (first | apply R_alloc | apply R_drewN | apply R_drew)); exact R_mono HO270.out (fun _ hk => hk.2)))
          (case aS => exact (below_size Zs))
          (case aL => have := LMc13.out; omega)
          intro v272 w28 ho hb hg hat
          rw [← Ny271.out] at ho
          have n0_ := Zh (S_after (ok := (fun k_ => some k_ ≠ (v275 : Value).ownBlock ∧ k_ ≠ gb267)) (by (with_reducible repeat (first | apply S_alloc | apply S_drewN | apply S_drew)); exact S_mono HO_266000.out (fun _ hk => ⟨⟨hk.1.2, hk.1.1⟩, hk.2⟩)) hg hat)
          have n1_ := Zh (blk_grown (g := gb263) (o := .cells #[.slice (some ad266) l0_0.length c0_0] 29 (0, 0)) Zk hg (R_ne HO270.out BK263.out (by decide)))
          have n2_ := Zh (blk_grown (g := gb264) (o := .cells #[.slice none 0 0] 29 (0, 0)) Zk hg (R_ne HO270.out BK264.out (by decide)))
          have n3_ := Zh (blk_grown (g := gb265) (o := .cells #[.slice Ao21 x266000_1.length co21] 29 (0, 0)) Zk hg (R_ne HO270.out BK265.out (by decide)))
          have n4_ := Zh (blk_grown (g := gb267) (o := .cells #[.string ((rd_T74 l0_0 x10_1).f0), .slice A266_1 ((rd_T74 l0_0 x10_1).f1).length c266_1, .slice A266_2 ((rd_T74 l0_0 x10_1).f2).length c266_2] 74 (0, 0)) Zk hg (R_ne HO270.out BK267.out (by decide)))
          have n5_ := Zh (R_after (ok := (fun _ => True)) (by (with_reducible repeat (first | apply R_alloc | apply R_drewN | apply R_drew)); exact HO276.out) hg hat)
          have n6_ := Zh (hb)
          have n7_ := Zh (ho)
          clear HO_266000
          clear BK263
          clear BK264
          clear BK265
          clear BK267
          clear HO276
          clear HB
          clear HO270
          have HO_266000 := n0_
          have BK263 := n1_
          have BK264 := n2_
          have BK265 := n3_
          have BK267 := n4_
          have HO276 := n5_
          have HB := n6_
          have HO273 := n7_
          clear n0_ n1_ n2_ n3_ n4_ n5_ n6_ n7_
          clear ho hb hg hat
          refine hK.out _ _ ⟨(blk_cell BK265.out 0).trans rfl, (blk_cell BK267.out 0).trans rfl, (blk_cell BK267.out 1).trans rfl, (blk_cell BK267.out 2).trans rfl⟩ (fun hHeld => ?_)
          clear hK K
          refine norm_ (a' := ?_) ?_ ?_
          rotate_left
          ·
           show Act.put _ (some 21) _ = _
           simp only [Act.put, List.setIfInBounds_toArray, List.set_cons_zero, List.set_cons_succ, i64_w, i32_w]
           rfl
          exact norm_ (by simp only [putAll, Act.put, List.setIfInBounds_toArray, List.set_cons_zero, List.set_cons_succ]) (hCont (v269, v272, v275) _ ⟨hHeld, (by (with_reducible repeat (first | apply R_alloc | apply R_drewN | apply R_drew)); exact HO273.out), (by (with_reducible repeat (first | apply R_alloc | apply R_drewN | apply R_drew)); exact R_mono HO276.out (fun _ hk => hk.2)), (by (with_reducible repeat (first | apply S_alloc | apply S_drewN | apply S_drew)); exact S_mono HO_266000.out (fun _ hk => ⟨hk.2, ⟨hk.1.1, hk.1.2⟩⟩)), Zk, Zk, Zk, Zk, Zs⟩)
         rintro ⟨v269, v272, v275⟩ w29 ⟨hS_, h0_, h1_, h2_, h3_, h4_, h5_, h6_, h7_⟩
         have n0_ : Aside0 (Kd.R (Kd.int .u8) 5 w29 w.heap.size (fun k_ => some k_ ≠ (v275 : Value).ownBlock) v272 y271) := ⟨h0_⟩
         have n1_ : Aside0 (Kd.R (Kd.int .u8) 5 w29 w.heap.size (fun k_ => some k_ ≠ (v272 : Value).ownBlock) v275 y274) := ⟨h1_⟩
         have n2_ : Aside0 (Kd.S k74 74 w29 w.heap.size (fun k_ => some k_ ≠ (v272 : Value).ownBlock ∧ some k_ ≠ (v275 : Value).ownBlock ∧ k_ ≠ gb267) (.slice Ao21 x266000_1.length co21) x266000_1) := ⟨h2_⟩
         have n3_ : Aside0 (w29.heap[gb263]? = some (.cells #[.slice (some ad266) l0_0.length c0_0] 29 (0, 0))) := ⟨h3_⟩
         have n4_ : Aside0 (w29.heap[gb264]? = some (.cells #[.slice none 0 0] 29 (0, 0))) := ⟨h4_⟩
         have n5_ : Aside0 (w29.heap[gb265]? = some (.cells #[.slice Ao21 x266000_1.length co21] 29 (0, 0))) := ⟨h5_⟩
         have n6_ : Aside0 (w29.heap[gb267]? = some (.cells #[.string ((rd_T74 l0_0 x10_1).f0), .slice A266_1 ((rd_T74 l0_0 x10_1).f1).length c266_1, .slice A266_2 ((rd_T74 l0_0 x10_1).f2).length c266_2] 74 (0, 0))) := ⟨h6_⟩
         have n7_ : Aside0 (Below w.heap.size w w29) := ⟨h7_⟩
         clear HO_266000
         clear BK263
         clear BK264
         clear BK265
         clear BK267
         clear HB
         clear h0_ h1_ h2_ h3_ h4_ h5_ h6_ h7_
         have HO273 := n0_
         have HO276 := n1_
         have HO_266000 := n2_
         have BK263 := n3_
         have BK264 := n4_
         have BK265 := n5_
         have BK267 := n6_
         have HB := n7_
         clear n0_ n1_ n2_ n3_ n4_ n5_ n6_ n7_
         have hHeld : w29.cell? ⟨gb265, 0, none⟩ = some (.slice Ao21 x266000_1.length co21) ∧ w29.cell? ⟨gb267, 0, none⟩ = some (.string ((rd_T74 l0_0 x10_1).f0)) ∧ w29.cell? ⟨gb267, 1, none⟩ = some (.slice A266_1 ((rd_T74 l0_0 x10_1).f1).length c266_1) ∧ w29.cell? ⟨gb267, 2, none⟩ = some (.slice A266_2 ((rd_T74 l0_0 x10_1).f2).length c266_2) := hS_
         refine norm_ (a' := ?_) ?_ ?_
         rotate_left
         ·
          simp only [putAll, Act.put, List.setIfInBounds_toArray, List.set_cons_zero, List.set_cons_succ]
          rfl
         refine one_ (i := 11) (N := some 25) #[true, true, true, true, true, true, true, true, true, true, true, true, false, false, false, false, false] rfl rfl (one_of HT_.out (by kernel_rfl)) (by decide) (fun K hK => ?_)
         refine R_append_rows_step (Kd.int .u8) (w0 := w) w.heap.size (by rfl) (.tmp 22) (.tmp 24) 33 5 (.int .u8 0) 1 rfl Tryd.underlying33 info5 rfl (by decide) (by omega) v275 y274 ((rd_T74 l0_0 x10_1).f2) _ _ _ (fun k_ => some k_ ≠ (v272 : Value).ownBlock) (fun _ => False) rfl rfl ?aO ?aR (fun _ _ h => h) (fun _ h => h.elim) ?aF ?aB ?aS ?aL ?_
         (case aR => repeat (first | exact (C_below HR266_2.out HB.out) | (with_reducible refine C_alloc ?_ _) | (with_reducible refine C_drewN ?_ _) | (with_reducible refine C_drew ?_)))
         (case aB => exact Zs)
         (case aF => exact (fun k_ hk => Kd.fresh' (R_lt (by (with_reducible repeat (first | apply R_alloc | apply R_drewN | apply R_drew)); exact HO273.out)) k_ hk))
         (case aO => exact (by (with_reducible repeat (first | apply R_alloc | apply R_drewN | apply R_drew)); exact HO276.out))
         (case aS => exact (below_size Zs))
         (case aL => have := LMc14.out; omega)
         intro v278 w30 ho hb hg hat
         rw [← Ny277.out] at ho
         have n0_ := Zh (S_after (ok := (fun k_ => some k_ ≠ (v272 : Value).ownBlock ∧ k_ ≠ gb267)) (by (with_reducible repeat (first | apply S_alloc | apply S_drewN | apply S_drew)); exact S_mono HO_266000.out (fun _ hk => ⟨⟨hk.1, hk.2.2⟩, hk.2.1⟩)) hg hat)
         have n1_ := Zh (blk_grown (g := gb263) (o := .cells #[.slice (some ad266) l0_0.length c0_0] 29 (0, 0)) Zk hg (R_ne HO276.out BK263.out (by decide)))
         have n2_ := Zh (blk_grown (g := gb264) (o := .cells #[.slice none 0 0] 29 (0, 0)) Zk hg (R_ne HO276.out BK264.out (by decide)))
         have n3_ := Zh (blk_grown (g := gb265) (o := .cells #[.slice Ao21 x266000_1.length co21] 29 (0, 0)) Zk hg (R_ne HO276.out BK265.out (by decide)))
         have n4_ := Zh (blk_grown (g := gb267) (o := .cells #[.string ((rd_T74 l0_0 x10_1).f0), .slice A266_1 ((rd_T74 l0_0 x10_1).f1).length c266_1, .slice A266_2 ((rd_T74 l0_0 x10_1).f2).length c266_2] 74 (0, 0)) Zk hg (R_ne HO276.out BK267.out (by decide)))
         have n5_ := Zh (R_after (ok := (fun _ => True)) (by (with_reducible repeat (first | apply R_alloc | apply R_drewN | apply R_drew)); exact R_mono HO273.out (fun _ hk => ⟨trivial, hk⟩)) hg hat)
         have n6_ := Zh (hb)
         have n7_ := Zh (ho)
         clear HO_266000
         clear BK263
         clear BK264
         clear BK265
         clear BK267
         clear HO273
         clear HB
         clear HO276
         have HO_266000 := n0_
         have BK263 := n1_
         have BK264 := n2_
         have BK265 := n3_
         have BK267 := n4_
         have HO273 := n5_
         have HB := n6_
         have HO279 := n7_
         clear n0_ n1_ n2_ n3_ n4_ n5_ n6_ n7_
         clear ho hb hg hat
         obtain ⟨Ao31, co31, eo31⟩ := R_slice HO279.out
         (first | subst eo31 | (injection eo31 with f1_ f2_ f3_; have f4_ := f1_.symm; have f5_ := f3_.symm; clear f1_ f2_ f3_; subst f4_; subst f5_))
         obtain ⟨Ao32, co32, eo32⟩ := R_slice HO273.out
         (first | subst eo32 | (injection eo32 with f1_ f2_ f3_; have f4_ := f1_.symm; have f5_ := f3_.symm; clear f1_ f2_ f3_; subst f4_; subst f5_))
         refine hK.out _ _ ⟨(blk_cell BK265.out 0).trans rfl, (blk_cell BK267.out 0).trans rfl, (blk_cell BK267.out 1).trans rfl, (blk_cell BK267.out 2).trans rfl⟩ (fun hHeld => ?_)
         clear hK K
         refine norm_ (a' := ?_) ?_ ?_
         rotate_left
         ·
          show Act.put _ (some 25) _ = _
          simp only [Act.put, List.setIfInBounds_toArray, List.set_cons_zero, List.set_cons_succ, i64_w, i32_w]
          rfl
         refine SQ.pu 12 26 HT_ ?_
         refine one_ (i := 13) (N := some 27) #[true, true, true, true, true, true, true, true, true, true, true, true, true, true, false, false, false] rfl rfl (one_of HT_.out (by kernel_rfl)) (by decide) (fun K hK => ?_)
         refine value_ (w1 := ?_) (v := ?_) (by rfl) rfl ?_ ?_
         rotate_left 2
         ·
          go_simp
          constructor
          ·
           rfl
          rfl
         refine hK.out _ _ ⟨(blk_cell (blk_alloc BK265.out _) 0).trans rfl, (blk_cell (blk_alloc BK267.out _) 0).trans rfl, (blk_cell (blk_alloc BK267.out _) 1).trans rfl, (blk_cell (blk_alloc BK267.out _) 2).trans rfl⟩ (fun hHeld => ?_)
         clear hK K
         refine norm_ (a' := ?_) ?_ ?_
         rotate_left
         ·
          show Act.put _ (some 27) _ = _
          simp only [Act.put, List.setIfInBounds_toArray, List.set_cons_zero, List.set_cons_succ, i64_w, i32_w]
          rfl
         refine one_ (i := 14) (N := some 28) #[true, true, true, true, true, true, true, true, true, true, true, true, true, true, true, false, false] rfl rfl (one_of HT_.out (by kernel_rfl)) (by decide) (fun K hK => ?_)
         refine S_append_step k74 (w0 := w) w.heap.size (by rfl) (.tmp 15) (.tmp 27) 27 74 (.agg #[(.string ⟨#[]⟩), (.slice none 0 0), (.slice none 0 0)]) 64 rfl Tryd.underlying27 info74 rfl (by decide) (by omega) (.slice Ao21 x266000_1.length co21) x266000_1 (⟨(rd_T74 l0_0 x10_1).f0, y271, y277⟩ : S74) [.string ((rd_T74 l0_0 x10_1).f0), .slice Ao32 y271.length co32, .slice Ao31 y277.length co31] (fun k_ => k_ ≠ gb267) (fun k_ => some k_ = (.slice Ao32 y271.length co32 : Value).ownBlock ∨ some k_ = (.slice Ao31 y277.length co31 : Value).ownBlock) rfl rfl ?aP (fun k_ hk_ => hk_.elim (fun h_ => ((R_mono (ok' := fun k_ => ((fun k_ => k_ ≠ gb267)) k_ ∧ some k_ ≠ (.slice Ao21 x266000_1.length co21 : Value).ownBlock) (R_types (R_apart' (HO273.out) (S_typed HO_266000.out) (by decide)) BK267.out (by decide)) (fun k_ hk => ⟨hk.2, hk.1.2⟩))).1 k_ h_.symm) (fun h_ => ((R_mono (ok' := fun k_ => ((fun k_ => k_ ≠ gb267)) k_ ∧ some k_ ≠ (.slice Ao21 x266000_1.length co21 : Value).ownBlock) (R_types (R_apart' (HO279.out) (S_typed HO_266000.out) (by decide)) BK267.out (by decide)) (fun k_ hk => ⟨hk.2, hk.1.2⟩))).1 k_ h_.symm)) ?aF ?aO ?aB ?aS ?aL ?_
         (case aP => exact k74_mkM _ _ _ (⟨(rd_T74 l0_0 x10_1).f0, y271, y277⟩ : S74) (R_mono (R_tight rfl (R_mono (ok' := fun k_ => ((fun k_ => k_ ≠ gb267)) k_ ∧ some k_ ≠ (.slice Ao21 x266000_1.length co21 : Value).ownBlock) (R_types (R_apart' (HO273.out) (S_typed HO_266000.out) (by decide)) BK267.out (by decide)) (fun k_ hk => ⟨hk.2, hk.1.2⟩))) (fun _ h_ => Or.inl h_)) (R_mono (R_tight rfl (R_mono (ok' := fun k_ => ((fun k_ => k_ ≠ gb267)) k_ ∧ some k_ ≠ (.slice Ao21 x266000_1.length co21 : Value).ownBlock) (R_types (R_apart' (HO279.out) (S_typed HO_266000.out) (by decide)) BK267.out (by decide)) (fun k_ hk => ⟨hk.2, hk.1.2⟩))) (fun _ h_ => Or.inr (h_))) (AP.ne_of (HO273.out) (HO279.out) (by first | exact .inl (fun k_ hk_ => by first | exact hk_ | exact hk_.1 | exact hk_.2 | exact hk_.1.1 | exact hk_.1.2 | exact hk_.2.1 | exact hk_.2.2) | exact .inr (fun k_ hk_ => by first | exact hk_ | exact hk_.1 | exact hk_.2 | exact hk_.1.1 | exact hk_.1.2 | exact hk_.2.1 | exact hk_.2.2))))
         (case aB => exact Zs)
         (case aF => exact (fun k_ hk => Kd.freshB (g := gb267) (o := .cells #[.string ((rd_T74 l0_0 x10_1).f0), .slice A266_1 ((rd_T74 l0_0 x10_1).f1).length c266_1, .slice A266_2 ((rd_T74 l0_0 x10_1).f2).length c266_2] 74 (0, 0)) Zk k_ hk))
         (case aO => exact (by (with_reducible repeat (first | apply S_alloc | apply S_drewN | apply S_drew)); exact S_mono HO_266000.out (fun k_ hk => ⟨hk.1.2, fun e_ => e_.elim (fun h_ => hk.1.1 h_) (fun h_ => hk.2 h_)⟩)))
         (case aS => exact (below_size Zs))
         (case aL => have := LMc15.out; omega)
         intro v281 w33 ho hb hg hat
         rw [← Ny280.out] at ho
         have n0_ := Zh (blk_grown (g := gb263) (o := .cells #[.slice (some ad266) l0_0.length c0_0] 29 (0, 0)) Zk hg (S_ne HO_266000.out BK263.out (by decide)))
         have n1_ := Zh (blk_grown (g := gb264) (o := .cells #[.slice none 0 0] 29 (0, 0)) Zk hg (S_ne HO_266000.out BK264.out (by decide)))
         have n2_ := Zh (blk_grown (g := gb265) (o := .cells #[.slice Ao21 x266000_1.length co21] 29 (0, 0)) Zk hg (S_ne HO_266000.out BK265.out (by decide)))
         have n3_ := Zh (blk_grown (g := gb267) (o := .cells #[.string ((rd_T74 l0_0 x10_1).f0), .slice A266_1 ((rd_T74 l0_0 x10_1).f1).length c266_1, .slice A266_2 ((rd_T74 l0_0 x10_1).f2).length c266_2] 74 (0, 0)) Zk hg (S_away HO_266000.out (fun _ hk => hk.1.2)))
         have n4_ := Zh (hb)
         have n5_ := Zh (ho)
         clear BK263
         clear BK264
         clear BK265
         clear BK267
         clear HB
         clear HO_266000
         clear HO273
         clear HO279
         have BK263 := n0_
         have BK264 := n1_
         have BK265 := n2_
         have BK267 := n3_
         have HB := n4_
         have HO282 := n5_
         clear n0_ n1_ n2_ n3_ n4_ n5_
         clear ho hb hg hat
         obtain ⟨Ao34, co34, eo34⟩ := S_slice HO282.out
         (first | subst eo34 | (injection eo34 with f1_ f2_ f3_; have f4_ := f1_.symm; have f5_ := f3_.symm; clear f1_ f2_ f3_; subst f4_; subst f5_))
         refine hK.out _ _ ⟨(blk_cell BK265.out 0).trans rfl, (blk_cell BK267.out 0).trans rfl, (blk_cell BK267.out 1).trans rfl, (blk_cell BK267.out 2).trans rfl⟩ (fun hHeld => ?_)
         clear hK K
         refine norm_ (a' := ?_) ?_ ?_
         rotate_left
         ·
          show Act.put _ (some 28) _ = _
          simp only [Act.put, List.setIfInBounds_toArray, List.set_cons_zero, List.set_cons_succ, i64_w, i32_w]
          rfl
         refine SQ.pu 15 29 HT_ ?_
         refine last_ (i := 16) (N := none) #[true, true, true, true, true, true, true, true, true, true, true, true, true, true, true, true, true] rfl rfl (one_of HT_.out (by kernel_rfl)) (by decide) (fun K hK => ?_)
         have hs35 : w33.cell? ⟨gb265, 0, none⟩ = some (.slice Ao21 x266000_1.length co21) := (blk_cell BK265.out 0).trans rfl
         have hfs35 := Zn BK265.out 0
         have hns35_0 := NB263_265.out
         have hns35_1 := NB264_265.out
         have hns35_3 := NB267_265.out
         have hms35_0 := NB265_263.out
         have hms35_1 := NB265_264.out
         have hms35_3 := NB265_267.out
         refine skip_ (w1 := ?_) (by rfl) rfl ?_ ?_
         rotate_left
         ·
          go_simp
          rfl
         refine hK.out _ _ ?_
         clear hK K
         refine done_ (done_of HT_.out (by kernel_rfl)) ?_
         try go_wp2
         go_roundg k1
         case measure => have := HK1.out; omega
         case rel => exact ⟨(wrap64 (x10_1 + 1)), (y280), (.slice Ao34 y280.length co34), (by first | rfl | (simp; done) | (simp [*]; done)), H', ⟨by have := HK1.out; omega⟩, ⟨by (with_reducible repeat (first | apply S_alloc | apply S_drewN | apply S_drew)); exact S_mono (S_far (p := ⟨gb265, 0, none⟩) (S_types HO282.out BK265.out (by decide)) (fun _ hk => hk.2) (.slice Ao34 y280.length co34)) (fun _ hk => trivial)⟩, ⟨by (with_reducible repeat (first | refine Za ?_ _ | refine Zb ?_ | refine blk_alloc ?_ _)); refine Zp ?_ NB263_265.out _; (with_reducible repeat (first | refine Za ?_ _ | refine Zb ?_ | refine blk_alloc ?_ _)); exact BK263.out⟩, ⟨by (with_reducible repeat (first | refine Za ?_ _ | refine Zb ?_ | refine blk_alloc ?_ _)); refine Zp ?_ NB264_265.out _; (with_reducible repeat (first | refine Za ?_ _ | refine Zb ?_ | refine blk_alloc ?_ _)); exact BK264.out⟩, ⟨by (with_reducible repeat (first | refine Za ?_ _ | refine Zb ?_ | refine blk_alloc ?_ _)); refine blk_put (cs := #[.slice Ao21 x266000_1.length co21]) ?_ 0 _ rfl; (with_reducible repeat (first | refine Za ?_ _ | refine Zb ?_ | refine blk_alloc ?_ _)); exact BK265.out⟩, ⟨by repeat (first | (with_reducible first | exact HB.out | apply Zf | apply Zd | apply Ze | refine Zg ?_ GE263.out | refine Zg ?_ GE264.out | refine Zg ?_ GE265.out | refine Zg ?_ GE267.out) | exact HB.out)⟩⟩
        rw [if_neg c15] at H
        exact absurd H (by simp)
       rw [if_neg c14] at H
       exact absurd H (by simp)
      rw [if_neg c13] at H
      exact absurd H (by simp)
     rw [if_neg c12] at H
     exact absurd H (by simp)
    rw [if_neg c11] at H
    exact absurd H (by simp)
   rw [if_neg c10] at H
   have c10b0 : decide (x10_1 < (l0_0.length : Int)) = false := decide_eq_false c10
   clear c10
   obtain rfl := Option.some.inj H
   have hnb36 := NB265_263.out
   have hnc36 := NB263_265.out
   have hnb37 := NB265_264.out
   have hnc37 := NB264_265.out
   have hcz38_0 : wr.cell? ⟨gb265, 0, none⟩ = some (u266000) := (blk_cell BK265.out 0).trans rfl
   have hfz38_0 := Zn BK265.out 0
   obtain ⟨Ao39, co39, eo39⟩ := S_slice HO_266000.out
   subst eo39
   have hnb40 := NB264_263.out
   have hnc40 := NB263_264.out
   have hcz41_0 : wr.cell? ⟨gb264, 0, none⟩ = some (.slice none 0 0) := (blk_cell BK264.out 0).trans rfl
   have hfz41_0 := Zn BK264.out 0
   go_wp2
   refine bodyPost_ret (results_cell_row rfl _ _ gb264 29 #[.slice Ao39 x266000_1.length co39] (0, 0) _ rfl (by (with_reducible repeat (first | refine Za ?_ _ | refine Zb ?_ | refine blk_alloc ?_ _)); refine blk_put (cs := #[.slice none 0 0]) ?_ 0 _ rfl; (with_reducible repeat (first | refine Za ?_ _ | refine Zb ?_ | refine blk_alloc ?_ _)); exact BK264.out) Tryd.underlying29 rfl (by kernel_rfl)) rfl ?_
   exact ⟨_, by first | rfl | (simp [errW_none, errW_some] <;> rfl) | (simp [*, errW_none, errW_some] <;> rfl), by (with_reducible repeat (first | apply S_alloc | apply S_drewN | apply S_drew)); exact S_mono (S_far (p := ⟨gb264, 0, none⟩) (S_types HO_266000.out BK264.out (by decide)) (fun _ hk => hk.2) (.slice Ao39 x266000_1.length co39)) (fun _ hk => trivial), by repeat (first | (with_reducible first | exact HB.out | apply Zf | apply Zd | apply Ze | refine Zg ?_ GE263.out | refine Zg ?_ GE264.out | refine Zg ?_ GE265.out) | exact HB.out)⟩
end Go.Proofs.YtmgeffgcihfpcaaDoor.F

namespace Go.Proofs.YtmgeffgcihfpcaaDoor.F
open Go.RowKit Go.Proofs.YtmgeffgcihfpcaaDoorW.PrintWords Go.Proofs.YtmgeffgcihfpcaaDoorW.PrintLast Go.Proofs.YtmgeffgcihfpcaaDoorW.PrintMore
set_option linter.unusedVariables false
def lays160_ren : Go.Shelf.Ren := ⟨fun | 160 => 104 | 232 => 110 | 231 => 109 | 227 => 111 | 234 => 113 | 233 => 112 | 236 => 115 | 235 => 114 | 228 => 118 | 271 => 121 | 151 => 120 | 197 => 119 | 120 => 125 | 152 => 124 | 260 => 123 | 137 => 127 | 119 => 128 | 224 => 129 | 225 => 130 | 217 => 131 | 266 => 132 | n => n, fun | 9 => 9 | 4 => 4 | 3 => 3 | 5 => 5 | 117 => 122 | 116 => 121 | 0 => 0 | 124 => 125 | 21 => 21 | 105 => 129 | 46 => 127 | 119 => 134 | 139 => 137 | 138 => 136 | n => n, fun | 3 => 0 | 4 => 1 | n => n⟩
theorem lays160 : Go.Proofs.Lays.n160 Tryd.prog lays160_ren where
  mixed := by kernel_rfl
  f119 := Tryd.func128.trans (congrArg some (by kernel_rfl))
  f120 := Tryd.func125.trans (congrArg some (by kernel_rfl))
  f137 := Tryd.func127.trans (congrArg some (by kernel_rfl))
  f151 := Tryd.func120.trans (congrArg some (by kernel_rfl))
  f152 := Tryd.func124.trans (congrArg some (by kernel_rfl))
  f160 := Tryd.func104.trans (congrArg some (by kernel_rfl))
  f197 := Tryd.func119.trans (congrArg some (by kernel_rfl))
  f217 := Tryd.func131.trans (congrArg some (by kernel_rfl))
  f224 := Tryd.func129.trans (congrArg some (by kernel_rfl))
  f225 := Tryd.func130.trans (congrArg some (by kernel_rfl))
  f227 := Tryd.func111.trans (congrArg some (by kernel_rfl))
  f228 := Tryd.func118.trans (congrArg some (by kernel_rfl))
  f231 := Tryd.func109.trans (congrArg some (by kernel_rfl))
  f232 := Tryd.func110.trans (congrArg some (by kernel_rfl))
  f233 := Tryd.func112.trans (congrArg some (by kernel_rfl))
  f234 := Tryd.func113.trans (congrArg some (by kernel_rfl))
  f235 := Tryd.func114.trans (congrArg some (by kernel_rfl))
  f236 := Tryd.func115.trans (congrArg some (by kernel_rfl))
  f260 := Tryd.func123.trans (congrArg some (by kernel_rfl))
  f266 := Tryd.func132.trans (congrArg some (by kernel_rfl))
  f271 := Tryd.func121.trans (congrArg some (by kernel_rfl))
  t0 := Tryd.underlying0
  a0 := Tryd.isAgg0
  z0 := Tryd.sizeOf0
  v0 := Tryd.zeroValue0
  t3 := Tryd.underlying3
  a3 := Tryd.isAgg3
  z3 := Tryd.sizeOf3
  v3 := Tryd.zeroValue3
  t4 := Tryd.underlying4
  a4 := Tryd.isAgg4
  z4 := Tryd.sizeOf4
  v4 := Tryd.zeroValue4
  t5 := Tryd.underlying5
  a5 := Tryd.isAgg5
  z5 := Tryd.sizeOf5
  v5 := Tryd.zeroValue5
  t9 := Tryd.underlying9
  a9 := Tryd.isAgg9
  z9 := Tryd.sizeOf9
  v9 := Tryd.zeroValue9
  t21 := Tryd.underlying21
  a21 := Tryd.isAgg21
  z21 := Tryd.sizeOf21
  v21 := Tryd.zeroValue21
  t46 := Tryd.underlying127
  a46 := Tryd.isAgg127
  z46 := Tryd.sizeOf127
  v46 := Tryd.zeroValue127
  t105 := Tryd.underlying129
  a105 := Tryd.isAgg129
  z105 := Tryd.sizeOf129
  v105 := Tryd.zeroValue129
  t116 := Tryd.underlying121
  a116 := Tryd.isAgg121
  z116 := Tryd.sizeOf121
  t117 := Tryd.underlying122
  a117 := Tryd.isAgg122
  z117 := Tryd.sizeOf122
  v117 := Tryd.zeroValue122
  t119 := Tryd.underlying134
  a119 := Tryd.isAgg134
  z119 := Tryd.sizeOf134
  t124 := Tryd.underlying125
  a124 := Tryd.isAgg125
  z124 := Tryd.sizeOf125
  v124 := Tryd.zeroValue125
  t138 := Tryd.underlying136
  a138 := Tryd.isAgg136
  z138 := Tryd.sizeOf136
  v138 := Tryd.zeroValue136
  t139 := Tryd.underlying137
  a139 := Tryd.isAgg137
  z139 := Tryd.sizeOf137
  v139 := Tryd.zeroValue137
  g3 := by kernel_rfl
  g4 := by kernel_rfl
def trimF.f (s c : ByteArray) : Option ByteArray := if s.size ≤ 9223372036854775807 ∧ c.size < 4294967281 ∧ c.data.toList.all (fun b => decide (b.toNat < 128)) = true then some ⟨(Go.Lib.trimS s.data.toList c.data.toList).toArray⟩ else none
theorem trimF.calls (a0 a1 : ByteArray) (r : ByteArray) (w : World) (h : trimF.f a0 a1 = some r) :
    Calls Tryd.prog 104 #[.string a0, .string a1] w fun e w' => e = .returned (.string r) ∧ Below w.heap.size w w' := by
  unfold trimF.f at h
  split at h
  · rename_i hc
    have h := Option.some.inj h
    subst h
    exact Any.strings_Trim_laid lays160 (by kernel_rfl) a0 a1 w hc.1 hc.2.1 (ascii_of_all hc.2.2)
  cases h
end Go.Proofs.YtmgeffgcihfpcaaDoor.F

namespace Go.Proofs.YtmgeffgcihfpcaaDoor.F
open Go.RowKit Go.Proofs.YtmgeffgcihfpcaaDoorW.PrintWords Go.Proofs.YtmgeffgcihfpcaaDoorW.PrintWords.Kd Go.Proofs.YtmgeffgcihfpcaaDoorW.PrintMore.Kd Go.Proofs.YtmgeffgcihfpcaaDoorW.PrintLast Go.Proofs.YtmgeffgcihfpcaaDoorW.PrintMore
attribute [local go_sem] max2_int min2_int max_two min_two max_three min_three max_four min_four   -- for this text's walks alone
set_option linter.unusedVariables false
set_option linter.unusedSimpArgs false
def impl_isFileName.f (a0 : ByteArray) : Option (Bool) := if (a0.size : Int) ≥ 1 then (if (a0.size : Int) ≤ 12 then ((trimF.f a0 (⟨#[97, 98, 99, 100, 101, 102, 103, 104, 105, 106, 107, 108, 109, 110, 111, 112, 113, 114, 115, 116, 117, 118, 119, 120, 121, 122, 48, 49, 50, 51, 52, 53, 54, 55, 56, 57]⟩ : ByteArray)).bind fun t147 => (some (t147.toList == ([] : List UInt8)))) else (some false)) else (some false)
set_option maxHeartbeats 8000000 in
set_option maxRecDepth 100000 in
theorem impl_isFileName.calls (a0 : ByteArray) (r : Bool) (w : World) (h : impl_isFileName.f a0 = some r) :
  Calls Tryd.prog 91 #[.string a0] w fun e w' => e = .returned (.bool r) ∧ Below w.heap.size w w' := by
 have HB := Zh (Below.refl w.heap.size w)
 have H : (if (a0.size : Int) ≥ 1 then (if (a0.size : Int) ≤ 12 then ((trimF.f a0 (⟨#[97, 98, 99, 100, 101, 102, 103, 104, 105, 106, 107, 108, 109, 110, 111, 112, 113, 114, 115, 116, 117, 118, 119, 120, 121, 122, 48, 49, 50, 51, 52, 53, 54, 55, 56, 57]⟩ : ByteArray)).bind fun t147 => (some (t147.toList == ([] : List UInt8)))) else (some false)) else (some false)) = some r := h
 clear h
 by_cases c2 : (a0.size : Int) ≥ 1
 ·
  rw [if_pos c2] at H
  have c2b0 : decide (1 ≤ (a0.size : Int)) = true := decide_eq_true c2
  have c2b1 : decide (1 ≤ a0.size) = true := decide_eq_true (by omega)
  clear c2
  by_cases c3 : (a0.size : Int) ≤ 12
  ·
   rw [if_pos c3] at H
   have c3b0 : decide ((a0.size : Int) ≤ 12) = true := decide_eq_true c3
   have c3b1 : decide (a0.size ≤ 12) = true := decide_eq_true (by omega)
   clear c3
   replace H := Option.bind_eq_some_iff.mp H
   obtain ⟨t147, A40, H⟩ := H
   replace H : (some (t147.toList == ([] : List UInt8))) = some r := H
   have A4 := Zh A40
   clear A40
   obtain rfl := Option.some.inj H
   go_enter Tryd.func91, Tryd.ntmps91
   go_wp2_with (first | (go_at_call 104; (with_reducible refine (trimF.calls a0 (⟨#[97, 98, 99, 100, 101, 102, 103, 104, 105, 106, 107, 108, 109, 110, 111, 112, 113, 114, 115, 116, 117, 118, 119, 120, 121, 122, 48, 49, 50, 51, 52, 53, 54, 55, 56, 57]⟩ : ByteArray) t147 _ A4.out).mono ?_); rintro e w5 ⟨rfl, hb⟩; have n0_ := Zh (Zl Zs hb); clear HB; have HB := n0_; clear n0_; (try clear hb); (try clear hb2); (try clear hk); (try clear hi)))
   go_ret
   exact ⟨by first | rfl | (simp [errW_none, errW_some] <;> rfl) | (simp [*, errW_none, errW_some] <;> rfl), by repeat (first | (with_reducible first | exact HB.out | apply Zf | apply Zd | apply Ze) | exact HB.out)⟩
  rw [if_neg c3] at H
  have c3b0 : decide ((a0.size : Int) ≤ 12) = false := decide_eq_false c3
  have c3b1 : decide (a0.size ≤ 12) = false := decide_eq_false (by omega)
  clear c3
  obtain rfl := Option.some.inj H
  go_enter Tryd.func91, Tryd.ntmps91
  go_wp2
  go_ret
  exact ⟨by first | rfl | (simp [errW_none, errW_some] <;> rfl) | (simp [*, errW_none, errW_some] <;> rfl), by repeat (first | (with_reducible first | exact HB.out | apply Zf | apply Zd | apply Ze) | exact HB.out)⟩
 rw [if_neg c2] at H
 have c2b0 : decide (1 ≤ (a0.size : Int)) = false := decide_eq_false c2
 have c2b1 : decide (1 ≤ a0.size) = false := decide_eq_false (by omega)
 clear c2
 obtain rfl := Option.some.inj H
 go_enter Tryd.func91, Tryd.ntmps91
 go_wp2
 go_ret
 exact ⟨by first | rfl | (simp [errW_none, errW_some] <;> rfl) | (simp [*, errW_none, errW_some] <;> rfl), by repeat (first | (with_reducible first | exact HB.out | apply Zf | apply Zd | apply Ze) | exact HB.out)⟩
end Go.Proofs.YtmgeffgcihfpcaaDoor.F

namespace Go.Proofs.YtmgeffgcihfpcaaDoor.F
open Go.Proofs.YtmgeffgcihfpcaaDoor
open Go.RowKit Go.Proofs.YtmgeffgcihfpcaaDoorW.PrintWords Go.Proofs.YtmgeffgcihfpcaaDoorW.PrintWords.Kd Go.Proofs.YtmgeffgcihfpcaaDoorW.PrintMore.Kd Go.Proofs.YtmgeffgcihfpcaaDoorW.PrintLast Go.Proofs.YtmgeffgcihfpcaaDoorW.PrintMore
attribute [local go_sem] max2_int min2_int max_two min_two max_three min_three max_four min_four   -- for this text's walks alone
set_option linter.unusedVariables false
set_option linter.unusedSimpArgs false
def impl_isDisk.l0 : Nat → List (S74) → Int → Int → List (S74) → Option (Bool)
 | 0, _, _, _, _ => none
 | k + 1, x6, x7, x8, x149000 => if x8 < x7 then (if 0 ≤ x8 then (if x8 < (x6.length : Int) then ((impl_isFileName.f ((rd_T74 x6 x8).f0)).bind fun t151 => (if t151 = true then (if (wrap64 ((((rd_T74 x6 x8).f1).length : Int) + (((rd_T74 x6 x8).f2).length : Int))) > 20000 then (some false) else (if x8 > 0 then (if 0 ≤ (wrap64 (x8 - 1)) then (if (wrap64 (x8 - 1)) < (x149000.length : Int) then (if ((Op.bytesLess (((rd_T74 x149000 (wrap64 (x8 - 1))).f0).toList) (((rd_T74 x6 x8).f0).toList)) = true) then (impl_isDisk.l0 k x6 x7 (wrap64 (x8 + 1)) x149000) else (some false)) else (none)) else (none)) else (impl_isDisk.l0 k x6 x7 (wrap64 (x8 + 1)) x149000))) else (some false))) else (none)) else (none)) else (some (decide ((x149000.length : Int) ≤ 8)))
def impl_isDisk.f (k : Nat) (l0_0 : List (S74)) : Option (Bool) := impl_isDisk.l0 k l0_0 (l0_0.length : Int) 0 l0_0
def impl_isDisk.T4 : Bool × List (List Nat × List Nat) := (true, [([], []), ([0], [0]), ([1], [1]), ([2], [2]), ([3, 2], [3]), ([4], [4]), ([5, 4], [4, 5]), ([6, 4], [4, 6]), ([4], [4]), ([8, 4], [4, 8]), ([9, 4], [4, 9]), ([7, 10, 4], [4, 7, 10]), ([11, 4], [4, 11]), ([4, 12], [4, 12]), ([13, 4], [13]), ([14], [14]), ([15, 14], [14, 15]), ([16, 14, 14], [14, 16]), ([17], [17]), ([18, 17], [17, 18]), ([17], [17]), ([20, 17], [17, 20]), ([19, 21, 17], [17, 19, 21]), ([22, 17], [17, 22]), ([23, 17], [17, 23]), ([17], [17]), ([25, 17], [17, 25]), ([24, 26, 17], [17, 24, 26]), ([17, 27, 14], [14, 17, 27]), ([14, 28], [14, 28])])
def impl_isDisk.B4 : List Nat := [0, 1, 3, 7, 15, 31, 63, 127, 31, 287, 799, 2047, 4095, 8191, 16383, 32767, 65535, 131071, 262143, 524287, 262143, 1310719, 4194303, 8388607, 16777215, 262143, 33816575, 134217727, 268435455, 536870911]
theorem impl_isDisk.tab4 : rtab .any (opsOf Tryd.f59 4) = impl_isDisk.T4 := by kernel_rfl
theorem impl_isDisk.bits4 : waitsOk impl_isDisk.T4.2 impl_isDisk.B4 = true := by kernel_rfl
set_option maxHeartbeats 8000000 in
set_option maxRecDepth 100000 in
theorem impl_isDisk.calls (k : Nat) (A0_0 : Option Addr) (c0_0 : Nat) (l0_0 : List (S74)) (r : Bool) (w : World) (hr0_0 : Kd.C k74 w A0_0 l0_0.length l0_0) (hc0_0 : l0_0.length ≤ c0_0) (h : impl_isDisk.f k l0_0 = some r) :
  Calls Tryd.prog 59 #[.agg #[.slice A0_0 l0_0.length c0_0]] w fun e w' => e = .returned (.bool r) ∧ Below w.heap.size w w' := by
 have hu29 := Tryd.underlying29
 have hu74 := Tryd.underlying74
 have HR0_0 := Zh hr0_0
 have HC0_0 := Zh hc0_0
 clear hr0_0 hc0_0
 have HB := Zh (Below.refl w.heap.size w)
 have H : (impl_isDisk.l0 k l0_0 (l0_0.length : Int) 0 l0_0) = some r := h
 clear h
 have H' := Zh H
 clear H
 go_enter Tryd.func59, Tryd.ntmps59
 go_wp2_with (first | ((with_reducible refine gate_dst (N := 1) rfl ?_); (try (refine gate_guard (by rfl) ?_; dsimp only)); refine box_event ?hg (N := 1) ?hd (cs := #[.slice A0_0 l0_0.length c0_0]) (t := 29) ?hr ?_; (case hd => rfl); (case hg => rfl); (case hr => first | (go_simp; done) | (go_simp; rfl)); intro gb148 hg w2 hbox hb; have n0_ := Zh (Zl Zs hb); have n1_ := Zh (hbox); have n2_ := Zh ((by rw [hg]; exact (below_size Zs) : w.heap.size ≤ gb148)); have n3_ := Zh ((by rw [hg]; exact (below_size Zs) : w.heap.size ≤ gb148)); clear HB; have HB := n0_; have BK148 := n1_; have GW148 := n2_; have GE148 := n3_; clear n0_ n1_ n2_ n3_; clear hb hbox hg; have hcz3_0 : w2.cell? ⟨gb148, 0, none⟩ = some (.slice A0_0 l0_0.length c0_0) := (blk_cell BK148.out 0).trans rfl; have hfz3_0 := Zn BK148.out 0))
 go_loopg [8] k (fun kq v8 w' => ∃ (x8_1 : Int), v8 = .int .i64 x8_1 ∧ Aside0 (impl_isDisk.l0 kq l0_0 (l0_0.length : Int) x8_1 l0_0 = some r) ∧ Aside0 (kq ≤ k) ∧ Aside0 (w'.heap[gb148]? = some (.cells #[(.slice A0_0 l0_0.length c0_0)] 29 (0, 0))) ∧ Aside0 (Below w.heap.size w w'))
 case atStart => exact ⟨(0), (by first | rfl | (simp; done) | (simp [*]; done)), H', ⟨Nat.le_refl _⟩, ⟨by (with_reducible repeat (first | refine Za ?_ _ | refine Zb ?_ | refine blk_alloc ?_ _)); exact BK148.out⟩, ⟨by repeat (first | (with_reducible first | exact HB.out | apply Zf | apply Zd | apply Ze | refine Zg ?_ GE148.out) | exact HB.out)⟩⟩
 case round =>
  clear H'
  try clear p2
  try clear hcz3_0
  try clear hfz3_0
  obtain ⟨x8_1, rfl, HA, HK1, BK148, HB⟩ := hrel
  cases gk with
  | zero => exact absurd HA.out (by simp [impl_isDisk.l0])
  | succ k1 =>
   have H := HA.out
   clear HA
   simp only [impl_isDisk.l0] at H
   by_cases c4 : x8_1 < (l0_0.length : Int)
   ·
    rw [if_pos c4] at H
    have c4b0 : decide (x8_1 < (l0_0.length : Int)) = true := decide_eq_true c4
    clear c4
    by_cases c5 : 0 ≤ x8_1
    ·
     rw [if_pos c5] at H
     have c5b0 : decide (0 ≤ x8_1) = true := decide_eq_true c5
     clear c5
     by_cases c6 : x8_1 < (l0_0.length : Int)
     ·
      rw [if_pos c6] at H
      have c6b0 : decide (x8_1 < (l0_0.length : Int)) = true := decide_eq_true c6
      clear c6
      replace H := Option.bind_eq_some_iff.mp H
      obtain ⟨t151, A70, H⟩ := H
      replace H : (if t151 = true then (if (wrap64 ((((rd_T74 l0_0 x8_1).f1).length : Int) + (((rd_T74 l0_0 x8_1).f2).length : Int))) > 20000 then (some false) else (if x8_1 > 0 then (if 0 ≤ (wrap64 (x8_1 - 1)) then (if (wrap64 (x8_1 - 1)) < (l0_0.length : Int) then (if ((Op.bytesLess (((rd_T74 l0_0 (wrap64 (x8_1 - 1))).f0).toList) (((rd_T74 l0_0 x8_1).f0).toList)) = true) then (impl_isDisk.l0 k1 l0_0 (l0_0.length : Int) (wrap64 (x8_1 + 1)) l0_0) else (some false)) else (none)) else (none)) else (impl_isDisk.l0 k1 l0_0 (l0_0.length : Int) (wrap64 (x8_1 + 1)) l0_0))) else (some false)) = some r := H
      have A7 := Zh A70
      clear A70
      by_cases c8 : t151 = true
      ·
       subst c8
       have H1 : (if (wrap64 ((((rd_T74 l0_0 x8_1).f1).length : Int) + (((rd_T74 l0_0 x8_1).f2).length : Int))) > 20000 then (some false) else (if x8_1 > 0 then (if 0 ≤ (wrap64 (x8_1 - 1)) then (if (wrap64 (x8_1 - 1)) < (l0_0.length : Int) then (if ((Op.bytesLess (((rd_T74 l0_0 (wrap64 (x8_1 - 1))).f0).toList) (((rd_T74 l0_0 x8_1).f0).toList)) = true) then (impl_isDisk.l0 k1 l0_0 (l0_0.length : Int) (wrap64 (x8_1 + 1)) l0_0) else (some false)) else (none)) else (none)) else (impl_isDisk.l0 k1 l0_0 (l0_0.length : Int) (wrap64 (x8_1 + 1)) l0_0))) = some r := by rw [if_pos rfl] at H; exact H
       clear H
       have H := H1
       clear H1
       by_cases c9 : (wrap64 ((((rd_T74 l0_0 x8_1).f1).length : Int) + (((rd_T74 l0_0 x8_1).f2).length : Int))) > 20000
       ·
        rw [if_pos c9] at H
        have c9b0 : decide (20000 < (wrap64 ((((rd_T74 l0_0 x8_1).f1).length : Int) + (((rd_T74 l0_0 x8_1).f2).length : Int)))) = true := decide_eq_true c9
        clear c9
        obtain rfl := Option.some.inj H
        have p149 : 0 ≤ (x8_1 : Int) := Zo
        have q149 : x8_1 < (l0_0.length : Int) := Zo
        obtain ⟨ad149, A149_1, c149_1, A149_2, c149_2, e149, hx149_0, hx149_1, hx149_2, hl149_1, hi149_1, hl149_2, hi149_2⟩ := at_T74 HR0_0.out x8_1 p149 q149
        cases e149
        replace hx149_0 := Zc HB.out hx149_0
        replace hx149_1 := Zc HB.out hx149_1
        replace hx149_2 := Zc HB.out hx149_2
        have HR149_1 := Zh hi149_1
        have HC149_1 := Zh hl149_1
        clear hi149_1 hl149_1
        have HR149_2 := Zh hi149_2
        have HC149_2 := Zh hl149_2
        clear hi149_2 hl149_2
        replace p149 := eq_true p149
        replace q149 := eq_true q149
        try go_wp2_with (first | ((with_reducible refine gate_dst (N := 4) rfl ?_); (try (refine gate_guard (by rfl) ?_; dsimp only)); refine box_event ?hg (N := 4) ?hd (cs := #[.string (⟨#[]⟩ : ByteArray), .slice none 0 0, .slice none 0 0]) (t := 74) ?hr ?_; (case hd => rfl); (case hg => rfl); (case hr => first | (go_simp; done) | (go_simp; rfl)); intro gb150 hg w10 hbox hb; have n0_ := Zh (Zm (g := gb148) (o := .cells #[.slice (some ad149) l0_0.length c0_0] 29 (0, 0)) Zk hb); have n1_ := Zh (Zl Zs hb); have n2_ := Zh (hbox); have n3_ := Zh ((by rw [hg]; exact (below_size Zs) : w.heap.size ≤ gb150)); have n4_ := Zh ((by rw [hg]; exact (below_size Zs) : w.heap.size ≤ gb150)); have n5_ := Zh ((by rw [hg]; exact Nat.ne_of_lt (blk_lt (g := gb148) (o := .cells #[.slice (some ad149) l0_0.length c0_0] 29 (0, 0)) Zk) : gb148 ≠ gb150)); have n6_ := Zh ((by rw [hg]; exact Nat.ne_of_gt (blk_lt (g := gb148) (o := .cells #[.slice (some ad149) l0_0.length c0_0] 29 (0, 0)) Zk) : gb150 ≠ gb148)); clear BK148; clear HB; have BK148 := n0_; have HB := n1_; have BK150 := n2_; have GW150 := n3_; have GE150 := n4_; have NB148_150 := n5_; have NB150_148 := n6_; clear n0_ n1_ n2_ n3_ n4_ n5_ n6_; clear hb hbox hg; have hnb11 := NB150_148.out; have hnc11 := NB148_150.out; have hcz12_0 : w10.cell? ⟨gb150, 0, none⟩ = some (.string (⟨#[]⟩ : ByteArray)) := (blk_cell BK150.out 0).trans rfl; have hcz12_1 : w10.cell? ⟨gb150, 1, none⟩ = some (.slice none 0 0) := (blk_cell BK150.out 1).trans rfl; have hcz12_2 : w10.cell? ⟨gb150, 2, none⟩ = some (.slice none 0 0) := (blk_cell BK150.out 2).trans rfl; have hfz12_0 := Zn BK150.out 0; have hfz12_1 := Zn BK150.out 1; have hfz12_2 := Zn BK150.out 2))
        have n0_ : Aside0 ((((w10.setCell ⟨gb150, 0, none⟩ (.string ((rd_T74 l0_0 x8_1).f0))).setCell ⟨gb150, 1, none⟩ (.slice A149_1 ((rd_T74 l0_0 x8_1).f1).length c149_1)).setCell ⟨gb150, 2, none⟩ (.slice A149_2 ((rd_T74 l0_0 x8_1).f2).length c149_2)).heap[gb148]? = some (.cells #[.slice (some ad149) l0_0.length c0_0] 29 (0, 0))) := ⟨by (with_reducible repeat (first | refine Za ?_ _ | refine Zb ?_ | refine blk_alloc ?_ _)); refine Zp ?_ NB148_150.out _; (with_reducible repeat (first | refine Za ?_ _ | refine Zb ?_ | refine blk_alloc ?_ _)); refine Zp ?_ NB148_150.out _; (with_reducible repeat (first | refine Za ?_ _ | refine Zb ?_ | refine blk_alloc ?_ _)); refine Zp ?_ NB148_150.out _; (with_reducible repeat (first | refine Za ?_ _ | refine Zb ?_ | refine blk_alloc ?_ _)); exact BK148.out⟩
        have n1_ : Aside0 ((((w10.setCell ⟨gb150, 0, none⟩ (.string ((rd_T74 l0_0 x8_1).f0))).setCell ⟨gb150, 1, none⟩ (.slice A149_1 ((rd_T74 l0_0 x8_1).f1).length c149_1)).setCell ⟨gb150, 2, none⟩ (.slice A149_2 ((rd_T74 l0_0 x8_1).f2).length c149_2)).heap[gb150]? = some (.cells #[.string ((rd_T74 l0_0 x8_1).f0), .slice A149_1 ((rd_T74 l0_0 x8_1).f1).length c149_1, .slice A149_2 ((rd_T74 l0_0 x8_1).f2).length c149_2] 74 (0, 0))) := ⟨by (with_reducible repeat (first | refine Za ?_ _ | refine Zb ?_ | refine blk_alloc ?_ _)); refine blk_put (cs := #[.string ((rd_T74 l0_0 x8_1).f0), .slice A149_1 ((rd_T74 l0_0 x8_1).f1).length c149_1, .slice none 0 0]) ?_ 2 _ rfl; (with_reducible repeat (first | refine Za ?_ _ | refine Zb ?_ | refine blk_alloc ?_ _)); refine blk_put (cs := #[.string ((rd_T74 l0_0 x8_1).f0), .slice none 0 0, .slice none 0 0]) ?_ 1 _ rfl; (with_reducible repeat (first | refine Za ?_ _ | refine Zb ?_ | refine blk_alloc ?_ _)); refine blk_put (cs := #[.string (⟨#[]⟩ : ByteArray), .slice none 0 0, .slice none 0 0]) ?_ 0 _ rfl; (with_reducible repeat (first | refine Za ?_ _ | refine Zb ?_ | refine blk_alloc ?_ _)); exact BK150.out⟩
        have n2_ : Aside0 (Below w.heap.size w (((w10.setCell ⟨gb150, 0, none⟩ (.string ((rd_T74 l0_0 x8_1).f0))).setCell ⟨gb150, 1, none⟩ (.slice A149_1 ((rd_T74 l0_0 x8_1).f1).length c149_1)).setCell ⟨gb150, 2, none⟩ (.slice A149_2 ((rd_T74 l0_0 x8_1).f2).length c149_2))) := ⟨by repeat (first | (with_reducible first | exact HB.out | apply Zf | apply Zd | apply Ze | refine Zg ?_ GE148.out | refine Zg ?_ GE150.out) | exact HB.out)⟩
        (try clear BK148)
        (try clear BK150)
        (try clear HB)
        generalize (((w10.setCell ⟨gb150, 0, none⟩ (.string ((rd_T74 l0_0 x8_1).f0))).setCell ⟨gb150, 1, none⟩ (.slice A149_1 ((rd_T74 l0_0 x8_1).f1).length c149_1)).setCell ⟨gb150, 2, none⟩ (.slice A149_2 ((rd_T74 l0_0 x8_1).f2).length c149_2)) = w13 at n0_ n1_ n2_ ⊢
        have BK148 := n0_
        have BK150 := n1_
        have HB := n2_
        clear n0_ n1_ n2_
        have n0_ := Zh (Zb BK148.out)
        have n1_ := Zh (Zb BK150.out)
        have n2_ := Zh (Ze HB.out)
        clear BK148
        clear BK150
        clear HB
        have BK148 := n0_
        have BK150 := n1_
        have HB := n2_
        clear n0_ n1_ n2_
        refine start_ (n := 30) (S := fun w' => w'.cell? ⟨gb150, 0, none⟩ = some (.string ((rd_T74 l0_0 x8_1).f0)) ∧ w'.cell? ⟨gb150, 1, none⟩ = some (.slice A149_1 ((rd_T74 l0_0 x8_1).f1).length c149_1) ∧ w'.cell? ⟨gb150, 2, none⟩ = some (.slice A149_2 ((rd_T74 l0_0 x8_1).f2).length c149_2)) (ds := []) #[false, false, false, false, false, false, false, false, false, false, false, false, false, false, false, false, false, false, false, false, false, false, false, false, false, false, false, false, false, false] (by kernel_rfl) rfl rfl ⟨(blk_cell BK150.out 0).trans rfl, (blk_cell BK150.out 1).trans rfl, (blk_cell BK150.out 2).trans rfl⟩ (fun hHeld => ?_); refine with_tabW impl_isDisk.tab4 impl_isDisk.bits4 (fun HT_ HW_ => ?_)
        generalize w13.drew = w14 at BK148 BK150 HB hHeld ⊢
        refine SQ.pu 0 13 HT_ ?_
        refine SQ.tk 1 14 HT_ HW_ hHeld ?_
        refine one_ (i := 2) (N := some 15) #[true, true, true, false, false, false, false, false, false, false, false, false, false, false, false, false, false, false, false, false, false, false, false, false, false, false, false, false, false, false] rfl rfl (one_of HT_.out (by kernel_rfl)) (by decide) (fun K hK => ?_)
        refine goes_ Tryd.func91 (by kernel_rfl) rfl #[.string ((rd_T74 l0_0 x8_1).f0)] (by rfl) rfl rfl (by (try simp only [List.map_toArray, List.map_cons, List.map_nil]); first | done | rfl | (simp only [List.length_drop, List.length_take]; rfl)) ?_
        with_reducible refine (impl_isFileName.calls ((rd_T74 l0_0 x8_1).f0) true _ A7.out).mono ?_
        rintro e w15 ⟨rfl, hb⟩
        refine ⟨_, rfl, ?_⟩
        have n0_ := Zh (Zm (g := gb148) (o := .cells #[.slice (some ad149) l0_0.length c0_0] 29 (0, 0)) Zk hb)
        have n1_ := Zh (Zm (g := gb150) (o := .cells #[.string ((rd_T74 l0_0 x8_1).f0), .slice A149_1 ((rd_T74 l0_0 x8_1).f1).length c149_1, .slice A149_2 ((rd_T74 l0_0 x8_1).f2).length c149_2] 74 (0, 0)) Zk hb)
        have n2_ := Zh (Zl Zs hb)
        clear BK148
        clear BK150
        clear HB
        have BK148 := n0_
        have BK150 := n1_
        have HB := n2_
        clear n0_ n1_ n2_
        (try clear hb)
        (try clear hb2)
        (try clear hk)
        (try clear hi)
        refine hK.out _ _ ⟨(blk_cell BK150.out 0).trans rfl, (blk_cell BK150.out 1).trans rfl, (blk_cell BK150.out 2).trans rfl⟩ (fun hHeld => ?_)
        clear hK K
        refine norm_ (a' := ?_) ?_ ?_
        rotate_left
        ·
         show Act.put _ (some 15) _ = _
         simp only [Act.put, List.setIfInBounds_toArray, List.set_cons_zero, List.set_cons_succ, i64_w, i32_w]
         rfl
        refine SQ.pu 3 16 HT_ ?_
        refine SQ.pu 4 17 HT_ ?_
        refine SQ.pu 5 18 HT_ ?_
        refine SQ.pu 8 21 HT_ ?_
        refine SQ.tk 6 19 HT_ HW_ hHeld ?_
        refine SQ.pu 7 20 HT_ ?_
        refine SQ.tk 9 22 HT_ HW_ hHeld ?_
        refine SQ.pu 10 23 HT_ ?_
        refine SQ.pu 11 24 HT_ ?_
        refine SQ.pu 12 25 HT_ ?_
        refine SQ.pu 13 26 HT_ ?_
        refine SQ.pu 14 27 HT_ ?_
        refine SQ.of 15 28 HT_ ?_
        refine SQ.of 16 29 HT_ ?_
        refine SQ.of 17 30 HT_ ?_
        refine SQ.of 18 31 HT_ ?_
        refine SQ.of 19 32 HT_ ?_
        refine SQ.of 20 33 HT_ ?_
        refine SQ.of 21 34 HT_ ?_
        refine SQ.of 22 35 HT_ ?_
        refine SQ.of 23 36 HT_ ?_
        refine SQ.of 24 37 HT_ ?_
        refine SQ.of 25 38 HT_ ?_
        refine SQ.of 26 39 HT_ ?_
        refine SQ.of 27 40 HT_ ?_
        refine SQ.of 28 41 HT_ ?_
        refine SQ.pu 29 42 HT_ ?_
        refine done_ (done_of HT_.out (by kernel_rfl)) ?_
        try go_wp2
        go_ret
        exact ⟨by first | rfl | (simp [errW_none, errW_some] <;> rfl) | (simp [*, errW_none, errW_some] <;> rfl), by repeat (first | (with_reducible first | exact HB.out | apply Zf | apply Zd | apply Ze | refine Zg ?_ GE148.out | refine Zg ?_ GE150.out) | exact HB.out)⟩
       rw [if_neg c9] at H
       have c9b0 : decide (20000 < (wrap64 ((((rd_T74 l0_0 x8_1).f1).length : Int) + (((rd_T74 l0_0 x8_1).f2).length : Int)))) = false := decide_eq_false c9
       clear c9
       by_cases c16 : x8_1 > 0
       ·
        rw [if_pos c16] at H
        have c16b0 : decide (0 < x8_1) = true := decide_eq_true c16
        clear c16
        obtain ⟨ji17, hji17⟩ : ∃ j_ : Int, (wrap64 (x8_1 - 1)) = j_ := ⟨_, rfl⟩
        replace H : (if 0 ≤ (ji17) then (if (ji17) < (l0_0.length : Int) then (if ((Op.bytesLess (((rd_T74 l0_0 (ji17)).f0).toList) (((rd_T74 l0_0 x8_1).f0).toList)) = true) then (impl_isDisk.l0 k1 l0_0 (l0_0.length : Int) (wrap64 (x8_1 + 1)) l0_0) else (some false)) else (none)) else (none)) = some r := by first | (rw [hji17] at H; exact H) | (simp only [hji17] at H ⊢; exact H)
        (try rw [hji17] at A7)
        have hji17w : (IntKind.i64.wrap (x8_1 - 1)) = ji17 := (i64_w _).trans hji17
        by_cases c18 : 0 ≤ (ji17)
        ·
         rw [if_pos c18] at H
         have c18b0 : decide (0 ≤ (ji17)) = true := decide_eq_true c18
         clear c18
         by_cases c19 : (ji17) < (l0_0.length : Int)
         ·
          rw [if_pos c19] at H
          have c19b0 : decide ((ji17) < (l0_0.length : Int)) = true := decide_eq_true c19
          clear c19
          by_cases c20 : ((Op.bytesLess (((rd_T74 l0_0 (ji17)).f0).toList) (((rd_T74 l0_0 x8_1).f0).toList)) = true)
          ·
           rw [if_pos c20] at H
           have c20b0 : (Op.bytesLess (((rd_T74 l0_0 (ji17)).f0).toList) (((rd_T74 l0_0 x8_1).f0).toList)) = true := c20
           clear c20
           have H' := Zh H
           clear H
           have p149 : 0 ≤ (x8_1 : Int) := Zo
           have q149 : x8_1 < (l0_0.length : Int) := Zo
           obtain ⟨ad149, A149_1, c149_1, A149_2, c149_2, e149, hx149_0, hx149_1, hx149_2, hl149_1, hi149_1, hl149_2, hi149_2⟩ := at_T74 HR0_0.out x8_1 p149 q149
           cases e149
           replace hx149_0 := Zc HB.out hx149_0
           replace hx149_1 := Zc HB.out hx149_1
           replace hx149_2 := Zc HB.out hx149_2
           have HR149_1 := Zh hi149_1
           have HC149_1 := Zh hl149_1
           clear hi149_1 hl149_1
           have HR149_2 := Zh hi149_2
           have HC149_2 := Zh hl149_2
           clear hi149_2 hl149_2
           replace p149 := eq_true p149
           replace q149 := eq_true q149
           try go_wp2_with (first | ((with_reducible refine gate_dst (N := 4) rfl ?_); (try (refine gate_guard (by rfl) ?_; dsimp only)); refine box_event ?hg (N := 4) ?hd (cs := #[.string (⟨#[]⟩ : ByteArray), .slice none 0 0, .slice none 0 0]) (t := 74) ?hr ?_; (case hd => rfl); (case hg => rfl); (case hr => first | (go_simp; done) | (go_simp; rfl)); intro gb150 hg w21 hbox hb; have n0_ := Zh (Zm (g := gb148) (o := .cells #[.slice (some ad149) l0_0.length c0_0] 29 (0, 0)) Zk hb); have n1_ := Zh (Zl Zs hb); have n2_ := Zh (hbox); have n3_ := Zh ((by rw [hg]; exact (below_size Zs) : w.heap.size ≤ gb150)); have n4_ := Zh ((by rw [hg]; exact (below_size Zs) : w.heap.size ≤ gb150)); have n5_ := Zh ((by rw [hg]; exact Nat.ne_of_lt (blk_lt (g := gb148) (o := .cells #[.slice (some ad149) l0_0.length c0_0] 29 (0, 0)) Zk) : gb148 ≠ gb150)); have n6_ := Zh ((by rw [hg]; exact Nat.ne_of_gt (blk_lt (g := gb148) (o := .cells #[.slice (some ad149) l0_0.length c0_0] 29 (0, 0)) Zk) : gb150 ≠ gb148)); clear BK148; clear HB; have BK148 := n0_; have HB := n1_; have BK150 := n2_; have GW150 := n3_; have GE150 := n4_; have NB148_150 := n5_; have NB150_148 := n6_; clear n0_ n1_ n2_ n3_ n4_ n5_ n6_; clear hb hbox hg; have hnb22 := NB150_148.out; have hnc22 := NB148_150.out; have hcz23_0 : w21.cell? ⟨gb150, 0, none⟩ = some (.string (⟨#[]⟩ : ByteArray)) := (blk_cell BK150.out 0).trans rfl; have hcz23_1 : w21.cell? ⟨gb150, 1, none⟩ = some (.slice none 0 0) := (blk_cell BK150.out 1).trans rfl; have hcz23_2 : w21.cell? ⟨gb150, 2, none⟩ = some (.slice none 0 0) := (blk_cell BK150.out 2).trans rfl; have hfz23_0 := Zn BK150.out 0; have hfz23_1 := Zn BK150.out 1; have hfz23_2 := Zn BK150.out 2))
           have n0_ : Aside0 ((((w21.setCell ⟨gb150, 0, none⟩ (.string ((rd_T74 l0_0 x8_1).f0))).setCell ⟨gb150, 1, none⟩ (.slice A149_1 ((rd_T74 l0_0 x8_1).f1).length c149_1)).setCell ⟨gb150, 2, none⟩ (.slice A149_2 ((rd_T74 l0_0 x8_1).f2).length c149_2)).heap[gb148]? = some (.cells #[.slice (some ad149) l0_0.length c0_0] 29 (0, 0))) := ⟨by (with_reducible repeat (first | refine Za ?_ _ | refine Zb ?_ | refine blk_alloc ?_ _)); refine Zp ?_ NB148_150.out _; (with_reducible repeat (first | refine Za ?_ _ | refine Zb ?_ | refine blk_alloc ?_ _)); refine Zp ?_ NB148_150.out _; (with_reducible repeat (first | refine Za ?_ _ | refine Zb ?_ | refine blk_alloc ?_ _)); refine Zp ?_ NB148_150.out _; (with_reducible repeat (first | refine Za ?_ _ | refine Zb ?_ | refine blk_alloc ?_ _)); exact BK148.out⟩
           have n1_ : Aside0 ((((w21.setCell ⟨gb150, 0, none⟩ (.string ((rd_T74 l0_0 x8_1).f0))).setCell ⟨gb150, 1, none⟩ (.slice A149_1 ((rd_T74 l0_0 x8_1).f1).length c149_1)).setCell ⟨gb150, 2, none⟩ (.slice A149_2 ((rd_T74 l0_0 x8_1).f2).length c149_2)).heap[gb150]? = some (.cells #[.string ((rd_T74 l0_0 x8_1).f0), .slice A149_1 ((rd_T74 l0_0 x8_1).f1).length c149_1, .slice A149_2 ((rd_T74 l0_0 x8_1).f2).length c149_2] 74 (0, 0))) := ⟨by (with_reducible repeat (first | refine Za ?_ _ | refine Zb ?_ | refine blk_alloc ?_ _)); refine blk_put (cs := #[.string ((rd_T74 l0_0 x8_1).f0), .slice A149_1 ((rd_T74 l0_0 x8_1).f1).length c149_1, .slice none 0 0]) ?_ 2 _ rfl; (with_reducible repeat (first | refine Za ?_ _ | refine Zb ?_ | refine blk_alloc ?_ _)); refine blk_put (cs := #[.string ((rd_T74 l0_0 x8_1).f0), .slice none 0 0, .slice none 0 0]) ?_ 1 _ rfl; (with_reducible repeat (first | refine Za ?_ _ | refine Zb ?_ | refine blk_alloc ?_ _)); refine blk_put (cs := #[.string (⟨#[]⟩ : ByteArray), .slice none 0 0, .slice none 0 0]) ?_ 0 _ rfl; (with_reducible repeat (first | refine Za ?_ _ | refine Zb ?_ | refine blk_alloc ?_ _)); exact BK150.out⟩
           have n2_ : Aside0 (Below w.heap.size w (((w21.setCell ⟨gb150, 0, none⟩ (.string ((rd_T74 l0_0 x8_1).f0))).setCell ⟨gb150, 1, none⟩ (.slice A149_1 ((rd_T74 l0_0 x8_1).f1).length c149_1)).setCell ⟨gb150, 2, none⟩ (.slice A149_2 ((rd_T74 l0_0 x8_1).f2).length c149_2))) := ⟨by repeat (first | (with_reducible first | exact HB.out | apply Zf | apply Zd | apply Ze | refine Zg ?_ GE148.out | refine Zg ?_ GE150.out) | exact HB.out)⟩
           (try clear BK148)
           (try clear BK150)
           (try clear HB)
           generalize (((w21.setCell ⟨gb150, 0, none⟩ (.string ((rd_T74 l0_0 x8_1).f0))).setCell ⟨gb150, 1, none⟩ (.slice A149_1 ((rd_T74 l0_0 x8_1).f1).length c149_1)).setCell ⟨gb150, 2, none⟩ (.slice A149_2 ((rd_T74 l0_0 x8_1).f2).length c149_2)) = w24 at n0_ n1_ n2_ ⊢
           have BK148 := n0_
           have BK150 := n1_
           have HB := n2_
           clear n0_ n1_ n2_
           have n0_ := Zh (Zb BK148.out)
           have n1_ := Zh (Zb BK150.out)
           have n2_ := Zh (Ze HB.out)
           clear BK148
           clear BK150
           clear HB
           have BK148 := n0_
           have BK150 := n1_
           have HB := n2_
           clear n0_ n1_ n2_
           have p152 : 0 ≤ ((ji17) : Int) := Zo
           have q152 : (ji17) < (l0_0.length : Int) := Zo
           obtain ⟨ad152, A152_1, c152_1, A152_2, c152_2, e152, hx152_0, hx152_1, hx152_2, hl152_1, hi152_1, hl152_2, hi152_2⟩ := at_T74 HR0_0.out (ji17) p152 q152
           have hw152_2 := hx152_2
           have hw152_1 := hx152_1
           have hw152_0 := hx152_0
           obtain rfl : ad149 = ad152 := (by injection e152)
           replace hx152_0 := Zc HB.out hx152_0
           replace hx152_1 := Zc HB.out hx152_1
           replace hx152_2 := Zc HB.out hx152_2
           have HR152_1 := Zh hi152_1
           have HC152_1 := Zh hl152_1
           clear hi152_1 hl152_1
           have HR152_2 := Zh hi152_2
           have HC152_2 := Zh hl152_2
           clear hi152_2 hl152_2
           replace p152 := eq_true p152
           replace q152 := eq_true q152
           refine start_ (n := 30) (S := fun w' => w'.cell? ⟨gb150, 0, none⟩ = some (.string ((rd_T74 l0_0 x8_1).f0)) ∧ w'.cell? ⟨gb150, 1, none⟩ = some (.slice A149_1 ((rd_T74 l0_0 x8_1).f1).length c149_1) ∧ w'.cell? ⟨gb150, 2, none⟩ = some (.slice A149_2 ((rd_T74 l0_0 x8_1).f2).length c149_2) ∧ w'.cell? ⟨gb148, 0, none⟩ = some (.slice (some ad149) l0_0.length c0_0) ∧ w'.cell? (ad149.add (((ji17)).toNat * 3)) = some (.string ((rd_T74 l0_0 (ji17)).f0)) ∧ w'.cell? ⟨(ad149.add (((ji17)).toNat * 3)).block, (ad149.add (((ji17)).toNat * 3)).off + 1, none⟩ = some (.slice A152_1 ((rd_T74 l0_0 (ji17)).f1).length c152_1) ∧ w'.cell? ⟨(ad149.add (((ji17)).toNat * 3)).block, (ad149.add (((ji17)).toNat * 3)).off + 2, none⟩ = some (.slice A152_2 ((rd_T74 l0_0 (ji17)).f2).length c152_2)) (ds := []) #[false, false, false, false, false, false, false, false, false, false, false, false, false, false, false, false, false, false, false, false, false, false, false, false, false, false, false, false, false, false] (by kernel_rfl) rfl rfl ⟨(blk_cell BK150.out 0).trans rfl, (blk_cell BK150.out 1).trans rfl, (blk_cell BK150.out 2).trans rfl, (blk_cell BK148.out 0).trans rfl, ((HB.out.cell (Zi w _ hw152_0)).trans hw152_0), ((HB.out.cell (Zi w _ hw152_1)).trans hw152_1), ((HB.out.cell (Zi w _ hw152_2)).trans hw152_2)⟩ (fun hHeld => ?_); refine with_tabW impl_isDisk.tab4 impl_isDisk.bits4 (fun HT_ HW_ => ?_)
           generalize w24.drew = w25 at BK148 BK150 HB HR152_1 HR152_2 hx152_0 hx152_1 hx152_2 hHeld ⊢
           refine SQ.pu 0 13 HT_ ?_
           refine SQ.tk 1 14 HT_ HW_ hHeld ?_
           refine one_ (i := 2) (N := some 15) #[true, true, true, false, false, false, false, false, false, false, false, false, false, false, false, false, false, false, false, false, false, false, false, false, false, false, false, false, false, false] rfl rfl (one_of HT_.out (by kernel_rfl)) (by decide) (fun K hK => ?_)
           refine goes_ Tryd.func91 (by kernel_rfl) rfl #[.string ((rd_T74 l0_0 x8_1).f0)] (by rfl) rfl rfl (by (try simp only [List.map_toArray, List.map_cons, List.map_nil]); first | done | rfl | (simp only [List.length_drop, List.length_take]; rfl)) ?_
           with_reducible refine (impl_isFileName.calls ((rd_T74 l0_0 x8_1).f0) true _ A7.out).mono ?_
           rintro e w26 ⟨rfl, hb⟩
           refine ⟨_, rfl, ?_⟩
           have n0_ := Zh (Zm (g := gb148) (o := .cells #[.slice (some ad149) l0_0.length c0_0] 29 (0, 0)) Zk hb)
           have n1_ := Zh (Zm (g := gb150) (o := .cells #[.string ((rd_T74 l0_0 x8_1).f0), .slice A149_1 ((rd_T74 l0_0 x8_1).f1).length c149_1, .slice A149_2 ((rd_T74 l0_0 x8_1).f2).length c149_2] 74 (0, 0)) Zk hb)
           have n2_ := Zh (Zl Zs hb)
           clear BK148
           clear BK150
           clear HB
           have BK148 := n0_
           have BK150 := n1_
           have HB := n2_
           clear n0_ n1_ n2_
           (try clear hb)
           (try clear hb2)
           (try clear hk)
           (try clear hi)
           refine hK.out _ _ ⟨(blk_cell BK150.out 0).trans rfl, (blk_cell BK150.out 1).trans rfl, (blk_cell BK150.out 2).trans rfl, (blk_cell BK148.out 0).trans rfl, ((HB.out.cell (Zi w _ hw152_0)).trans hw152_0), ((HB.out.cell (Zi w _ hw152_1)).trans hw152_1), ((HB.out.cell (Zi w _ hw152_2)).trans hw152_2)⟩ (fun hHeld => ?_)
           clear hK K
           refine norm_ (a' := ?_) ?_ ?_
           rotate_left
           ·
            show Act.put _ (some 15) _ = _
            simp only [Act.put, List.setIfInBounds_toArray, List.set_cons_zero, List.set_cons_succ, i64_w, i32_w]
            rfl
           refine SQ.pu 3 16 HT_ ?_
           refine SQ.pu 4 17 HT_ ?_
           refine SQ.pu 5 18 HT_ ?_
           refine SQ.pu 8 21 HT_ ?_
           refine SQ.tk 6 19 HT_ HW_ hHeld ?_
           refine SQ.pu 7 20 HT_ ?_
           refine SQ.tk 9 22 HT_ HW_ hHeld ?_
           refine SQ.pu 10 23 HT_ ?_
           refine SQ.pu 11 24 HT_ ?_
           refine SQ.pu 12 25 HT_ ?_
           refine SQ.pu 13 26 HT_ ?_
           refine SQ.pu 14 27 HT_ ?_
           refine SQ.pu 15 28 HT_ ?_
           refine SQ.pu 16 29 HT_ ?_
           refine SQ.pu 17 30 HT_ ?_
           refine SQ.pu 18 31 HT_ ?_
           refine SQ.pu 20 33 HT_ ?_
           refine SQ.pu 21 34 HT_ ?_
           refine SQ.pu 25 38 HT_ ?_
           refine SQ.tk 19 32 HT_ HW_ hHeld ?_
           refine SQ.pu 22 35 HT_ ?_
           refine SQ.pu 23 36 HT_ ?_
           refine SQ.tk 24 37 HT_ HW_ hHeld ?_
           refine SQ.tk 26 39 HT_ HW_ hHeld ?_
           refine SQ.pu 27 40 HT_ ?_
           refine SQ.pu 28 41 HT_ ?_
           refine SQ.pu 29 42 HT_ ?_
           refine done_ (done_of HT_.out (by kernel_rfl)) ?_
           try go_wp2
           go_roundg k1
           case measure => have := HK1.out; omega
           case rel => exact ⟨(wrap64 (x8_1 + 1)), (by first | rfl | (simp; done) | (simp [*]; done)), H', ⟨by have := HK1.out; omega⟩, ⟨by (with_reducible repeat (first | refine Za ?_ _ | refine Zb ?_ | refine blk_alloc ?_ _)); exact BK148.out⟩, ⟨by repeat (first | (with_reducible first | exact HB.out | apply Zf | apply Zd | apply Ze | refine Zg ?_ GE148.out | refine Zg ?_ GE150.out) | exact HB.out)⟩⟩
          rw [if_neg c20] at H
          have c20b0 : (Op.bytesLess (((rd_T74 l0_0 (ji17)).f0).toList) (((rd_T74 l0_0 x8_1).f0).toList)) = false := by simpa using c20
          clear c20
          obtain rfl := Option.some.inj H
          have p149 : 0 ≤ (x8_1 : Int) := Zo
          have q149 : x8_1 < (l0_0.length : Int) := Zo
          obtain ⟨ad149, A149_1, c149_1, A149_2, c149_2, e149, hx149_0, hx149_1, hx149_2, hl149_1, hi149_1, hl149_2, hi149_2⟩ := at_T74 HR0_0.out x8_1 p149 q149
          cases e149
          replace hx149_0 := Zc HB.out hx149_0
          replace hx149_1 := Zc HB.out hx149_1
          replace hx149_2 := Zc HB.out hx149_2
          have HR149_1 := Zh hi149_1
          have HC149_1 := Zh hl149_1
          clear hi149_1 hl149_1
          have HR149_2 := Zh hi149_2
          have HC149_2 := Zh hl149_2
          clear hi149_2 hl149_2
          replace p149 := eq_true p149
          replace q149 := eq_true q149
          try go_wp2_with (first | ((with_reducible refine gate_dst (N := 4) rfl ?_); (try (refine gate_guard (by rfl) ?_; dsimp only)); refine box_event ?hg (N := 4) ?hd (cs := #[.string (⟨#[]⟩ : ByteArray), .slice none 0 0, .slice none 0 0]) (t := 74) ?hr ?_; (case hd => rfl); (case hg => rfl); (case hr => first | (go_simp; done) | (go_simp; rfl)); intro gb150 hg w27 hbox hb; have n0_ := Zh (Zm (g := gb148) (o := .cells #[.slice (some ad149) l0_0.length c0_0] 29 (0, 0)) Zk hb); have n1_ := Zh (Zl Zs hb); have n2_ := Zh (hbox); have n3_ := Zh ((by rw [hg]; exact (below_size Zs) : w.heap.size ≤ gb150)); have n4_ := Zh ((by rw [hg]; exact (below_size Zs) : w.heap.size ≤ gb150)); have n5_ := Zh ((by rw [hg]; exact Nat.ne_of_lt (blk_lt (g := gb148) (o := .cells #[.slice (some ad149) l0_0.length c0_0] 29 (0, 0)) Zk) : gb148 ≠ gb150)); have n6_ := Zh ((by rw [hg]; exact Nat.ne_of_gt (blk_lt (g := gb148) (o := .cells #[.slice (some ad149) l0_0.length c0_0] 29 (0, 0)) Zk) : gb150 ≠ gb148)); clear BK148; clear HB; have BK148 := n0_; have HB := n1_; have BK150 := n2_; have GW150 := n3_; have GE150 := n4_; have NB148_150 := n5_; have NB150_148 := n6_; clear n0_ n1_ n2_ n3_ n4_ n5_ n6_; clear hb hbox hg; have hnb28 := NB150_148.out; have hnc28 := NB148_150.out; have hcz29_0 : w27.cell? ⟨gb150, 0, none⟩ = some (.string (⟨#[]⟩ : ByteArray)) := (blk_cell BK150.out 0).trans rfl; have hcz29_1 : w27.cell? ⟨gb150, 1, none⟩ = some (.slice none 0 0) := (blk_cell BK150.out 1).trans rfl; have hcz29_2 : w27.cell? ⟨gb150, 2, none⟩ = some (.slice none 0 0) := (blk_cell BK150.out 2).trans rfl; have hfz29_0 := Zn BK150.out 0; have hfz29_1 := Zn BK150.out 1; have hfz29_2 := Zn BK150.out 2))
          have n0_ : Aside0 ((((w27.setCell ⟨gb150, 0, none⟩ (.string ((rd_T74 l0_0 x8_1).f0))).setCell ⟨gb150, 1, none⟩ (.slice A149_1 ((rd_T74 l0_0 x8_1).f1).length c149_1)).setCell ⟨gb150, 2, none⟩ (.slice A149_2 ((rd_T74 l0_0 x8_1).f2).length c149_2)).heap[gb148]? = some (.cells #[.slice (some ad149) l0_0.length c0_0] 29 (0, 0))) := ⟨by (with_reducible repeat (first | refine Za ?_ _ | refine Zb ?_ | refine blk_alloc ?_ _)); refine Zp ?_ NB148_150.out _; (with_reducible repeat (first | refine Za ?_ _ | refine Zb ?_ | refine blk_alloc ?_ _)); refine Zp ?_ NB148_150.out _; (with_reducible repeat (first | refine Za ?_ _ | refine Zb ?_ | refine blk_alloc ?_ _)); refine Zp ?_ NB148_150.out _; (with_reducible repeat (first | refine Za ?_ _ | refine Zb ?_ | refine blk_alloc ?_ _)); exact BK148.out⟩
          have n1_ : Aside0 ((((w27.setCell ⟨gb150, 0, none⟩ (.string ((rd_T74 l0_0 x8_1).f0))).setCell ⟨gb150, 1, none⟩ (.slice A149_1 ((rd_T74 l0_0 x8_1).f1).length c149_1)).setCell ⟨gb150, 2, none⟩ (.slice A149_2 ((rd_T74 l0_0 x8_1).f2).length c149_2)).heap[gb150]? = some (.cells #[.string ((rd_T74 l0_0 x8_1).f0), .slice A149_1 ((rd_T74 l0_0 x8_1).f1).length c149_1, .slice A149_2 ((rd_T74 l0_0 x8_1).f2).length c149_2] 74 (0, 0))) := ⟨by (with_reducible repeat (first | refine Za ?_ _ | refine Zb ?_ | refine blk_alloc ?_ _)); refine blk_put (cs := #[.string ((rd_T74 l0_0 x8_1).f0), .slice A149_1 ((rd_T74 l0_0 x8_1).f1).length c149_1, .slice none 0 0]) ?_ 2 _ rfl; (with_reducible repeat (first | refine Za ?_ _ | refine Zb ?_ | refine blk_alloc ?_ _)); refine blk_put (cs := #[.string ((rd_T74 l0_0 x8_1).f0), .slice none 0 0, .slice none 0 0]) ?_ 1 _ rfl; (with_reducible repeat (first | refine Za ?_ _ | refine Zb ?_ | refine blk_alloc ?_ _)); refine blk_put (cs := #[.string (⟨#[]⟩ : ByteArray), .slice none 0 0, .slice none 0 0]) ?_ 0 _ rfl; (with_reducible repeat (first | refine Za ?_ _ | refine Zb ?_ | refine blk_alloc ?_ _)); exact BK150.out⟩
          have n2_ : Aside0 (Below w.heap.size w (((w27.setCell ⟨gb150, 0, none⟩ (.string ((rd_T74 l0_0 x8_1).f0))).setCell ⟨gb150, 1, none⟩ (.slice A149_1 ((rd_T74 l0_0 x8_1).f1).length c149_1)).setCell ⟨gb150, 2, none⟩ (.slice A149_2 ((rd_T74 l0_0 x8_1).f2).length c149_2))) := ⟨by repeat (first | (with_reducible first | exact HB.out | apply Zf | apply Zd | apply Ze | refine Zg ?_ GE148.out | refine Zg ?_ GE150.out) | exact HB.out)⟩
          (try clear BK148)
          (try clear BK150)
          (try clear HB)
          generalize (((w27.setCell ⟨gb150, 0, none⟩ (.string ((rd_T74 l0_0 x8_1).f0))).setCell ⟨gb150, 1, none⟩ (.slice A149_1 ((rd_T74 l0_0 x8_1).f1).length c149_1)).setCell ⟨gb150, 2, none⟩ (.slice A149_2 ((rd_T74 l0_0 x8_1).f2).length c149_2)) = w30 at n0_ n1_ n2_ ⊢
          have BK148 := n0_
          have BK150 := n1_
          have HB := n2_
          clear n0_ n1_ n2_
          have n0_ := Zh (Zb BK148.out)
          have n1_ := Zh (Zb BK150.out)
          have n2_ := Zh (Ze HB.out)
          clear BK148
          clear BK150
          clear HB
          have BK148 := n0_
          have BK150 := n1_
          have HB := n2_
          clear n0_ n1_ n2_
          have p152 : 0 ≤ ((ji17) : Int) := Zo
          have q152 : (ji17) < (l0_0.length : Int) := Zo
          obtain ⟨ad152, A152_1, c152_1, A152_2, c152_2, e152, hx152_0, hx152_1, hx152_2, hl152_1, hi152_1, hl152_2, hi152_2⟩ := at_T74 HR0_0.out (ji17) p152 q152
          have hw152_2 := hx152_2
          have hw152_1 := hx152_1
          have hw152_0 := hx152_0
          obtain rfl : ad149 = ad152 := (by injection e152)
          replace hx152_0 := Zc HB.out hx152_0
          replace hx152_1 := Zc HB.out hx152_1
          replace hx152_2 := Zc HB.out hx152_2
          have HR152_1 := Zh hi152_1
          have HC152_1 := Zh hl152_1
          clear hi152_1 hl152_1
          have HR152_2 := Zh hi152_2
          have HC152_2 := Zh hl152_2
          clear hi152_2 hl152_2
          replace p152 := eq_true p152
          replace q152 := eq_true q152
          refine start_ (n := 30) (S := fun w' => w'.cell? ⟨gb150, 0, none⟩ = some (.string ((rd_T74 l0_0 x8_1).f0)) ∧ w'.cell? ⟨gb150, 1, none⟩ = some (.slice A149_1 ((rd_T74 l0_0 x8_1).f1).length c149_1) ∧ w'.cell? ⟨gb150, 2, none⟩ = some (.slice A149_2 ((rd_T74 l0_0 x8_1).f2).length c149_2) ∧ w'.cell? ⟨gb148, 0, none⟩ = some (.slice (some ad149) l0_0.length c0_0) ∧ w'.cell? (ad149.add (((ji17)).toNat * 3)) = some (.string ((rd_T74 l0_0 (ji17)).f0)) ∧ w'.cell? ⟨(ad149.add (((ji17)).toNat * 3)).block, (ad149.add (((ji17)).toNat * 3)).off + 1, none⟩ = some (.slice A152_1 ((rd_T74 l0_0 (ji17)).f1).length c152_1) ∧ w'.cell? ⟨(ad149.add (((ji17)).toNat * 3)).block, (ad149.add (((ji17)).toNat * 3)).off + 2, none⟩ = some (.slice A152_2 ((rd_T74 l0_0 (ji17)).f2).length c152_2)) (ds := []) #[false, false, false, false, false, false, false, false, false, false, false, false, false, false, false, false, false, false, false, false, false, false, false, false, false, false, false, false, false, false] (by kernel_rfl) rfl rfl ⟨(blk_cell BK150.out 0).trans rfl, (blk_cell BK150.out 1).trans rfl, (blk_cell BK150.out 2).trans rfl, (blk_cell BK148.out 0).trans rfl, ((HB.out.cell (Zi w _ hw152_0)).trans hw152_0), ((HB.out.cell (Zi w _ hw152_1)).trans hw152_1), ((HB.out.cell (Zi w _ hw152_2)).trans hw152_2)⟩ (fun hHeld => ?_); refine with_tabW impl_isDisk.tab4 impl_isDisk.bits4 (fun HT_ HW_ => ?_)
          generalize w30.drew = w31 at BK148 BK150 HB HR152_1 HR152_2 hx152_0 hx152_1 hx152_2 hHeld ⊢
          refine SQ.pu 0 13 HT_ ?_
          refine SQ.tk 1 14 HT_ HW_ hHeld ?_
          refine one_ (i := 2) (N := some 15) #[true, true, true, false, false, false, false, false, false, false, false, false, false, false, false, false, false, false, false, false, false, false, false, false, false, false, false, false, false, false] rfl rfl (one_of HT_.out (by kernel_rfl)) (by decide) (fun K hK => ?_)
          refine goes_ Tryd.func91 (by kernel_rfl) rfl #[.string ((rd_T74 l0_0 x8_1).f0)] (by rfl) rfl rfl (by (try simp only [List.map_toArray, List.map_cons, List.map_nil]); first | done | rfl | (simp only [List.length_drop, List.length_take]; rfl)) ?_
          with_reducible refine (impl_isFileName.calls ((rd_T74 l0_0 x8_1).f0) true _ A7.out).mono ?_
          rintro e w32 ⟨rfl, hb⟩
          refine ⟨_, rfl, ?_⟩
          have n0_ := Zh (Zm (g := gb148) (o := .cells #[.slice (some ad149) l0_0.length c0_0] 29 (0, 0)) Zk hb)
          have n1_ := Zh (Zm (g := gb150) (o := .cells #[.string ((rd_T74 l0_0 x8_1).f0), .slice A149_1 ((rd_T74 l0_0 x8_1).f1).length c149_1, .slice A149_2 ((rd_T74 l0_0 x8_1).f2).length c149_2] 74 (0, 0)) Zk hb)
          have n2_ := Zh (Zl Zs hb)
          clear BK148
          clear BK150
          clear HB
          have BK148 := n0_
          have BK150 := n1_
          have HB := n2_
          clear n0_ n1_ n2_
          (try clear hb)
          (try clear hb2)
          (try clear hk)
          (try clear hi)
          refine hK.out _ _ ⟨(blk_cell BK150.out 0).trans rfl, (blk_cell BK150.out 1).trans rfl, (blk_cell BK150.out 2).trans rfl, (blk_cell BK148.out 0).trans rfl, ((HB.out.cell (Zi w _ hw152_0)).trans hw152_0), ((HB.out.cell (Zi w _ hw152_1)).trans hw152_1), ((HB.out.cell (Zi w _ hw152_2)).trans hw152_2)⟩ (fun hHeld => ?_)
          clear hK K
          refine norm_ (a' := ?_) ?_ ?_
          rotate_left
          ·
           show Act.put _ (some 15) _ = _
           simp only [Act.put, List.setIfInBounds_toArray, List.set_cons_zero, List.set_cons_succ, i64_w, i32_w]
           rfl
          refine SQ.pu 3 16 HT_ ?_
          refine SQ.pu 4 17 HT_ ?_
          refine SQ.pu 5 18 HT_ ?_
          refine SQ.pu 8 21 HT_ ?_
          refine SQ.tk 6 19 HT_ HW_ hHeld ?_
          refine SQ.pu 7 20 HT_ ?_
          refine SQ.tk 9 22 HT_ HW_ hHeld ?_
          refine SQ.pu 10 23 HT_ ?_
          refine SQ.pu 11 24 HT_ ?_
          refine SQ.pu 12 25 HT_ ?_
          refine SQ.pu 13 26 HT_ ?_
          refine SQ.pu 14 27 HT_ ?_
          refine SQ.pu 15 28 HT_ ?_
          refine SQ.pu 16 29 HT_ ?_
          refine SQ.pu 17 30 HT_ ?_
          refine SQ.pu 18 31 HT_ ?_
          refine SQ.pu 20 33 HT_ ?_
          refine SQ.pu 21 34 HT_ ?_
          refine SQ.pu 25 38 HT_ ?_
          refine SQ.tk 19 32 HT_ HW_ hHeld ?_
          refine SQ.pu 22 35 HT_ ?_
          refine SQ.pu 23 36 HT_ ?_
          refine SQ.tk 24 37 HT_ HW_ hHeld ?_
          refine SQ.tk 26 39 HT_ HW_ hHeld ?_
          refine SQ.pu 27 40 HT_ ?_
          refine SQ.pu 28 41 HT_ ?_
          refine SQ.pu 29 42 HT_ ?_
          refine done_ (done_of HT_.out (by kernel_rfl)) ?_
          try go_wp2
          go_ret
          exact ⟨by first | rfl | (simp [errW_none, errW_some] <;> rfl) | (simp only [← hji17]; first | rfl | (simp [errW_none, errW_some] <;> rfl)) | (simp [*, errW_none, errW_some] <;> rfl), by repeat (first | (with_reducible first | exact HB.out | apply Zf | apply Zd | apply Ze | refine Zg ?_ GE148.out | refine Zg ?_ GE150.out) | exact HB.out)⟩
         rw [if_neg c19] at H
         exact absurd H (by simp)
        rw [if_neg c18] at H
        exact absurd H (by simp)
       rw [if_neg c16] at H
       have c16b0 : decide (0 < x8_1) = false := decide_eq_false c16
       clear c16
       have H' := Zh H
       clear H
       have p149 : 0 ≤ (x8_1 : Int) := Zo
       have q149 : x8_1 < (l0_0.length : Int) := Zo
       obtain ⟨ad149, A149_1, c149_1, A149_2, c149_2, e149, hx149_0, hx149_1, hx149_2, hl149_1, hi149_1, hl149_2, hi149_2⟩ := at_T74 HR0_0.out x8_1 p149 q149
       cases e149
       replace hx149_0 := Zc HB.out hx149_0
       replace hx149_1 := Zc HB.out hx149_1
       replace hx149_2 := Zc HB.out hx149_2
       have HR149_1 := Zh hi149_1
       have HC149_1 := Zh hl149_1
       clear hi149_1 hl149_1
       have HR149_2 := Zh hi149_2
       have HC149_2 := Zh hl149_2
       clear hi149_2 hl149_2
       replace p149 := eq_true p149
       replace q149 := eq_true q149
       try go_wp2_with (first | ((with_reducible refine gate_dst (N := 4) rfl ?_); (try (refine gate_guard (by rfl) ?_; dsimp only)); refine box_event ?hg (N := 4) ?hd (cs := #[.string (⟨#[]⟩ : ByteArray), .slice none 0 0, .slice none 0 0]) (t := 74) ?hr ?_; (case hd => rfl); (case hg => rfl); (case hr => first | (go_simp; done) | (go_simp; rfl)); intro gb150 hg w33 hbox hb; have n0_ := Zh (Zm (g := gb148) (o := .cells #[.slice (some ad149) l0_0.length c0_0] 29 (0, 0)) Zk hb); have n1_ := Zh (Zl Zs hb); have n2_ := Zh (hbox); have n3_ := Zh ((by rw [hg]; exact (below_size Zs) : w.heap.size ≤ gb150)); have n4_ := Zh ((by rw [hg]; exact (below_size Zs) : w.heap.size ≤ gb150)); have n5_ := Zh ((by rw [hg]; exact Nat.ne_of_lt (blk_lt (g := gb148) (o := .cells #[.slice (some ad149) l0_0.length c0_0] 29 (0, 0)) Zk) : gb148 ≠ gb150)); have n6_ := Zh ((by rw [hg]; exact Nat.ne_of_gt (blk_lt (g := gb148) (o := .cells #[.slice (some ad149) l0_0.length c0_0] 29 (0, 0)) Zk) : gb150 ≠ gb148)); clear BK148; clear HB; have BK148 := n0_; have HB := n1_; have BK150 := n2_; have GW150 := n3_; have GE150 := n4_; have NB148_150 := n5_; have NB150_148 := n6_; clear n0_ n1_ n2_ n3_ n4_ n5_ n6_; clear hb hbox hg; have hnb34 := NB150_148.out; have hnc34 := NB148_150.out; have hcz35_0 : w33.cell? ⟨gb150, 0, none⟩ = some (.string (⟨#[]⟩ : ByteArray)) := (blk_cell BK150.out 0).trans rfl; have hcz35_1 : w33.cell? ⟨gb150, 1, none⟩ = some (.slice none 0 0) := (blk_cell BK150.out 1).trans rfl; have hcz35_2 : w33.cell? ⟨gb150, 2, none⟩ = some (.slice none 0 0) := (blk_cell BK150.out 2).trans rfl; have hfz35_0 := Zn BK150.out 0; have hfz35_1 := Zn BK150.out 1; have hfz35_2 := Zn BK150.out 2))
       have n0_ : Aside0 ((((w33.setCell ⟨gb150, 0, none⟩ (.string ((rd_T74 l0_0 x8_1).f0))).setCell ⟨gb150, 1, none⟩ (.slice A149_1 ((rd_T74 l0_0 x8_1).f1).length c149_1)).setCell ⟨gb150, 2, none⟩ (.slice A149_2 ((rd_T74 l0_0 x8_1).f2).length c149_2)).heap[gb148]? = some (.cells #[.slice (some ad149) l0_0.length c0_0] 29 (0, 0))) := ⟨by (with_reducible repeat (first | refine Za ?_ _ | refine Zb ?_ | refine blk_alloc ?_ _)); refine Zp ?_ NB148_150.out _; (with_reducible repeat (first | refine Za ?_ _ | refine Zb ?_ | refine blk_alloc ?_ _)); refine Zp ?_ NB148_150.out _; (with_reducible repeat (first | refine Za ?_ _ | refine Zb ?_ | refine blk_alloc ?_ _)); refine Zp ?_ NB148_150.out _; (with_reducible repeat (first | refine Za ?_ _ | refine Zb ?_ | refine blk_alloc ?_ _)); exact BK148.out⟩
       have n1_ : Aside0 ((((w33.setCell ⟨gb150, 0, none⟩ (.string ((rd_T74 l0_0 x8_1).f0))).setCell ⟨gb150, 1, none⟩ (.slice A149_1 ((rd_T74 l0_0 x8_1).f1).length c149_1)).setCell ⟨gb150, 2, none⟩ (.slice A149_2 ((rd_T74 l0_0 x8_1).f2).length c149_2)).heap[gb150]? = some (.cells #[.string ((rd_T74 l0_0 x8_1).f0), .slice A149_1 ((rd_T74 l0_0 x8_1).f1).length c149_1, .slice A149_2 ((rd_T74 l0_0 x8_1).f2).length c149_2] 74 (0, 0))) := ⟨by (with_reducible repeat (first | refine Za ?_ _ | refine Zb ?_ | refine blk_alloc ?_ _)); refine blk_put (cs := #[.string ((rd_T74 l0_0 x8_1).f0), .slice A149_1 ((rd_T74 l0_0 x8_1).f1).length c149_1, .slice none 0 0]) ?_ 2 _ rfl; (with_reducible repeat (first | refine Za ?_ _ | refine Zb ?_ | refine blk_alloc ?_ _)); refine blk_put (cs := #[.string ((rd_T74 l0_0 x8_1).f0), .slice none 0 0, .slice none 0 0]) ?_ 1 _ rfl; (with_reducible repeat (first | refine Za ?_ _ | refine Zb ?_ | refine blk_alloc ?_ _)); refine blk_put (cs := #[.string (⟨#[]⟩ : ByteArray), .slice none 0 0, .slice none 0 0]) ?_ 0 _ rfl; (with_reducible repeat (first | refine Za ?_ _ | refine Zb ?_ | refine blk_alloc ?_ _)); exact BK150.out⟩
       have n2_ : Aside0 (Below w.heap.size w (((w33.setCell ⟨gb150, 0, none⟩ (.string ((rd_T74 l0_0 x8_1).f0))).setCell ⟨gb150, 1, none⟩ (.slice A149_1 ((rd_T74 l0_0 x8_1).f1).length c149_1)).setCell ⟨gb150, 2, none⟩ (.slice A149_2 ((rd_T74 l0_0 x8_1).f2).length c149_2))) := ⟨by repeat (first | (with_reducible first | exact HB.out | apply Zf | apply Zd | apply Ze | refine Zg ?_ GE148.out | refine Zg ?_ GE150.out) | exact HB.out)⟩
       (try clear BK148)
       (try clear BK150)
       (try clear HB)
       generalize (((w33.setCell ⟨gb150, 0, none⟩ (.string ((rd_T74 l0_0 x8_1).f0))).setCell ⟨gb150, 1, none⟩ (.slice A149_1 ((rd_T74 l0_0 x8_1).f1).length c149_1)).setCell ⟨gb150, 2, none⟩ (.slice A149_2 ((rd_T74 l0_0 x8_1).f2).length c149_2)) = w36 at n0_ n1_ n2_ ⊢
       have BK148 := n0_
       have BK150 := n1_
       have HB := n2_
       clear n0_ n1_ n2_
       have n0_ := Zh (Zb BK148.out)
       have n1_ := Zh (Zb BK150.out)
       have n2_ := Zh (Ze HB.out)
       clear BK148
       clear BK150
       clear HB
       have BK148 := n0_
       have BK150 := n1_
       have HB := n2_
       clear n0_ n1_ n2_
       refine start_ (n := 30) (S := fun w' => w'.cell? ⟨gb150, 0, none⟩ = some (.string ((rd_T74 l0_0 x8_1).f0)) ∧ w'.cell? ⟨gb150, 1, none⟩ = some (.slice A149_1 ((rd_T74 l0_0 x8_1).f1).length c149_1) ∧ w'.cell? ⟨gb150, 2, none⟩ = some (.slice A149_2 ((rd_T74 l0_0 x8_1).f2).length c149_2)) (ds := []) #[false, false, false, false, false, false, false, false, false, false, false, false, false, false, false, false, false, false, false, false, false, false, false, false, false, false, false, false, false, false] (by kernel_rfl) rfl rfl ⟨(blk_cell BK150.out 0).trans rfl, (blk_cell BK150.out 1).trans rfl, (blk_cell BK150.out 2).trans rfl⟩ (fun hHeld => ?_); refine with_tabW impl_isDisk.tab4 impl_isDisk.bits4 (fun HT_ HW_ => ?_)
       generalize w36.drew = w37 at BK148 BK150 HB hHeld ⊢
       refine SQ.pu 0 13 HT_ ?_
       refine SQ.tk 1 14 HT_ HW_ hHeld ?_
       refine one_ (i := 2) (N := some 15) #[true, true, true, false, false, false, false, false, false, false, false, false, false, false, false, false, false, false, false, false, false, false, false, false, false, false, false, false, false, false] rfl rfl (one_of HT_.out (by kernel_rfl)) (by decide) (fun K hK => ?_)
       refine goes_ Tryd.func91 (by kernel_rfl) rfl #[.string ((rd_T74 l0_0 x8_1).f0)] (by rfl) rfl rfl (by (try simp only [List.map_toArray, List.map_cons, List.map_nil]); first | done | rfl | (simp only [List.length_drop, List.length_take]; rfl)) ?_
       with_reducible refine (impl_isFileName.calls ((rd_T74 l0_0 x8_1).f0) true _ A7.out).mono ?_
       rintro e w38 ⟨rfl, hb⟩
       refine ⟨_, rfl, ?_⟩
       have n0_ := Zh (Zm (g := gb148) (o := .cells #[.slice (some ad149) l0_0.length c0_0] 29 (0, 0)) Zk hb)
       have n1_ := Zh (Zm (g := gb150) (o := .cells #[.string ((rd_T74 l0_0 x8_1).f0), .slice A149_1 ((rd_T74 l0_0 x8_1).f1).length c149_1, .slice A149_2 ((rd_T74 l0_0 x8_1).f2).length c149_2] 74 (0, 0)) Zk hb)
       have n2_ := Zh (Zl Zs hb)
       clear BK148
       clear BK150
       clear HB
       have BK148 := n0_
       have BK150 := n1_
       have HB := n2_
       clear n0_ n1_ n2_
       (try clear hb)
       (try clear hb2)
       (try clear hk)
       (try clear hi)
       refine hK.out _ _ ⟨(blk_cell BK150.out 0).trans rfl, (blk_cell BK150.out 1).trans rfl, (blk_cell BK150.out 2).trans rfl⟩ (fun hHeld => ?_)
       clear hK K
       refine norm_ (a' := ?_) ?_ ?_
       rotate_left
       ·
        show Act.put _ (some 15) _ = _
        simp only [Act.put, List.setIfInBounds_toArray, List.set_cons_zero, List.set_cons_succ, i64_w, i32_w]
        rfl
       refine SQ.pu 3 16 HT_ ?_
       refine SQ.pu 4 17 HT_ ?_
       refine SQ.pu 5 18 HT_ ?_
       refine SQ.pu 8 21 HT_ ?_
       refine SQ.tk 6 19 HT_ HW_ hHeld ?_
       refine SQ.pu 7 20 HT_ ?_
       refine SQ.tk 9 22 HT_ HW_ hHeld ?_
       refine SQ.pu 10 23 HT_ ?_
       refine SQ.pu 11 24 HT_ ?_
       refine SQ.pu 12 25 HT_ ?_
       refine SQ.pu 13 26 HT_ ?_
       refine SQ.pu 14 27 HT_ ?_
       refine SQ.pu 15 28 HT_ ?_
       refine SQ.pu 16 29 HT_ ?_
       refine SQ.pu 17 30 HT_ ?_
       refine SQ.of 18 31 HT_ ?_
       refine SQ.of 19 32 HT_ ?_
       refine SQ.of 20 33 HT_ ?_
       refine SQ.of 21 34 HT_ ?_
       refine SQ.of 22 35 HT_ ?_
       refine SQ.of 23 36 HT_ ?_
       refine SQ.of 24 37 HT_ ?_
       refine SQ.of 25 38 HT_ ?_
       refine SQ.of 26 39 HT_ ?_
       refine SQ.of 27 40 HT_ ?_
       refine SQ.pu 28 41 HT_ ?_
       refine SQ.pu 29 42 HT_ ?_
       refine done_ (done_of HT_.out (by kernel_rfl)) ?_
       try go_wp2
       go_roundg k1
       case measure => have := HK1.out; omega
       case rel => exact ⟨(wrap64 (x8_1 + 1)), (by first | rfl | (simp; done) | (simp [*]; done)), H', ⟨by have := HK1.out; omega⟩, ⟨by (with_reducible repeat (first | refine Za ?_ _ | refine Zb ?_ | refine blk_alloc ?_ _)); exact BK148.out⟩, ⟨by repeat (first | (with_reducible first | exact HB.out | apply Zf | apply Zd | apply Ze | refine Zg ?_ GE148.out | refine Zg ?_ GE150.out) | exact HB.out)⟩⟩
      replace c8 := Bool.eq_false_iff.mpr c8
      subst c8
      have H1 : (some false) = some r := by rw [if_neg (show ¬ (false = true) by decide)] at H; exact H
      clear H
      have H := H1
      clear H1
      obtain rfl := Option.some.inj H
      have p149 : 0 ≤ (x8_1 : Int) := Zo
      have q149 : x8_1 < (l0_0.length : Int) := Zo
      obtain ⟨ad149, A149_1, c149_1, A149_2, c149_2, e149, hx149_0, hx149_1, hx149_2, hl149_1, hi149_1, hl149_2, hi149_2⟩ := at_T74 HR0_0.out x8_1 p149 q149
      cases e149
      replace hx149_0 := Zc HB.out hx149_0
      replace hx149_1 := Zc HB.out hx149_1
      replace hx149_2 := Zc HB.out hx149_2
      have HR149_1 := Zh hi149_1
      have HC149_1 := Zh hl149_1
      clear hi149_1 hl149_1
      have HR149_2 := Zh hi149_2
      have HC149_2 := Zh hl149_2
      clear hi149_2 hl149_2
      replace p149 := eq_true p149
      replace q149 := eq_true q149
      try go_wp2_with (first | ((with_reducible refine gate_dst (N := 4) rfl ?_); (try (refine gate_guard (by rfl) ?_; dsimp only)); refine box_event ?hg (N := 4) ?hd (cs := #[.string (⟨#[]⟩ : ByteArray), .slice none 0 0, .slice none 0 0]) (t := 74) ?hr ?_; (case hd => rfl); (case hg => rfl); (case hr => first | (go_simp; done) | (go_simp; rfl)); intro gb150 hg w39 hbox hb; have n0_ := Zh (Zm (g := gb148) (o := .cells #[.slice (some ad149) l0_0.length c0_0] 29 (0, 0)) Zk hb); have n1_ := Zh (Zl Zs hb); have n2_ := Zh (hbox); have n3_ := Zh ((by rw [hg]; exact (below_size Zs) : w.heap.size ≤ gb150)); have n4_ := Zh ((by rw [hg]; exact (below_size Zs) : w.heap.size ≤ gb150)); have n5_ := Zh ((by rw [hg]; exact Nat.ne_of_lt (blk_lt (g := gb148) (o := .cells #[.slice (some ad149) l0_0.length c0_0] 29 (0, 0)) Zk) : gb148 ≠ gb150)); have n6_ := Zh ((by rw [hg]; exact Nat.ne_of_gt (blk_lt (g := gb148) (o := .cells #[.slice (some ad149) l0_0.length c0_0] 29 (0, 0)) Zk) : gb150 ≠ gb148)); clear BK148; clear HB; have BK148 := n0_; have HB := n1_; have BK150 := n2_; have GW150 := n3_; have GE150 := n4_; have NB148_150 := n5_; have NB150_148 := n6_; clear n0_ n1_ n2_ n3_ n4_ n5_ n6_; clear hb hbox hg; have hnb40 := NB150_148.out; have hnc40 := NB148_150.out; have hcz41_0 : w39.cell? ⟨gb150, 0, none⟩ = some (.string (⟨#[]⟩ : ByteArray)) := (blk_cell BK150.out 0).trans rfl; have hcz41_1 : w39.cell? ⟨gb150, 1, none⟩ = some (.slice none 0 0) := (blk_cell BK150.out 1).trans rfl; have hcz41_2 : w39.cell? ⟨gb150, 2, none⟩ = some (.slice none 0 0) := (blk_cell BK150.out 2).trans rfl; have hfz41_0 := Zn BK150.out 0; have hfz41_1 := Zn BK150.out 1; have hfz41_2 := Zn BK150.out 2))
      have n0_ : Aside0 ((((w39.setCell ⟨gb150, 0, none⟩ (.string ((rd_T74 l0_0 x8_1).f0))).setCell ⟨gb150, 1, none⟩ (.slice A149_1 ((rd_T74 l0_0 x8_1).f1).length c149_1)).setCell ⟨gb150, 2, none⟩ (.slice A149_2 ((rd_T74 l0_0 x8_1).f2).length c149_2)).heap[gb148]? = some (.cells #[.slice (some ad149) l0_0.length c0_0] 29 (0, 0))) := ⟨by (with_reducible repeat (first | refine Za ?_ _ | refine Zb ?_ | refine blk_alloc ?_ _)); refine Zp ?_ NB148_150.out _; (with_reducible repeat (first | refine Za ?_ _ | refine Zb ?_ | refine blk_alloc ?_ _)); refine Zp ?_ NB148_150.out _; (with_reducible repeat (first | refine Za ?_ _ | refine Zb ?_ | refine blk_alloc ?_ _)); refine Zp ?_ NB148_150.out _; (with_reducible repeat (first | refine Za ?_ _ | refine Zb ?_ | refine blk_alloc ?_ _)); exact BK148.out⟩
      have n1_ : Aside0 ((((w39.setCell ⟨gb150, 0, none⟩ (.string ((rd_T74 l0_0 x8_1).f0))).setCell ⟨gb150, 1, none⟩ (.slice A149_1 ((rd_T74 l0_0 x8_1).f1).length c149_1)).setCell ⟨gb150, 2, none⟩ (.slice A149_2 ((rd_T74 l0_0 x8_1).f2).length c149_2)).heap[gb150]? = some (.cells #[.string ((rd_T74 l0_0 x8_1).f0), .slice A149_1 ((rd_T74 l0_0 x8_1).f1).length c149_1, .slice A149_2 ((rd_T74 l0_0 x8_1).f2).length c149_2] 74 (0, 0))) := ⟨by (with_reducible repeat (first | refine Za ?_ _ | refine Zb ?_ | refine blk_alloc ?_ _)); refine blk_put (cs := #[.string ((rd_T74 l0_0 x8_1).f0), .slice A149_1 ((rd_T74 l0_0 x8_1).f1).length c149_1, .slice none 0 0]) ?_ 2 _ rfl; (with_reducible repeat (first | refine Za ?_ _ | refine Zb ?_ | refine blk_alloc ?_ _)); refine blk_put (cs := #[.string ((rd_T74 l0_0 x8_1).f0), .slice none 0 0, .slice none 0 0]) ?_ 1 _ rfl; (with_reducible repeat (first | refine Za ?_ _ | refine Zb ?_ | refine blk_alloc ?_ _)); refine blk_put (cs := #[.string (⟨#[]⟩ : ByteArray), .slice none 0 0, .slice none 0 0]) ?_ 0 _ rfl; (with_reducible repeat (first | refine Za ?_ _ | refine Zb ?_ | refine blk_alloc ?_ _)); exact BK150.out⟩
      have n2_ : Aside0 (Below w.heap.size w (((w39.setCell ⟨gb150, 0, none⟩ (.string ((rd_T74 l0_0 x8_1).f0))).setCell ⟨gb150, 1, none⟩ (.slice A149_1 ((rd_T74 l0_0 x8_1).f1).length c149_1)).setCell ⟨gb150, 2, none⟩ (.slice A149_2 ((rd_T74 l0_0 x8_1).f2).length c149_2))) := ⟨by repeat (first | (with_reducible first | exact HB.out | apply Zf | apply Zd | apply Ze | refine Zg ?_ GE148.out | refine Zg ?_ GE150.out) | exact HB.out)⟩
      (try clear BK148)
      (try clear BK150)
      (try clear HB)
      generalize (((w39.setCell ⟨gb150, 0, none⟩ (.string ((rd_T74 l0_0 x8_1).f0))).setCell ⟨gb150, 1, none⟩ (.slice A149_1 ((rd_T74 l0_0 x8_1).f1).length c149_1)).setCell ⟨gb150, 2, none⟩ (.slice A149_2 ((rd_T74 l0_0 x8_1).f2).length c149_2)) = w42 at n0_ n1_ n2_ ⊢
      have BK148 := n0_
      have BK150 := n1_
      have HB := n2_
      clear n0_ n1_ n2_
      have n0_ := Zh (Zb BK148.out)
      have n1_ := Zh (Zb BK150.out)
      have n2_ := Zh (Ze HB.out)
      clear BK148
      clear BK150
      clear HB
      have BK148 := n0_
      have BK150 := n1_
      have HB := n2_
      clear n0_ n1_ n2_
      refine start_ (n := 30) (S := fun w' => w'.cell? ⟨gb150, 0, none⟩ = some (.string ((rd_T74 l0_0 x8_1).f0)) ∧ w'.cell? ⟨gb150, 1, none⟩ = some (.slice A149_1 ((rd_T74 l0_0 x8_1).f1).length c149_1) ∧ w'.cell? ⟨gb150, 2, none⟩ = some (.slice A149_2 ((rd_T74 l0_0 x8_1).f2).length c149_2)) (ds := []) #[false, false, false, false, false, false, false, false, false, false, false, false, false, false, false, false, false, false, false, false, false, false, false, false, false, false, false, false, false, false] (by kernel_rfl) rfl rfl ⟨(blk_cell BK150.out 0).trans rfl, (blk_cell BK150.out 1).trans rfl, (blk_cell BK150.out 2).trans rfl⟩ (fun hHeld => ?_); refine with_tabW impl_isDisk.tab4 impl_isDisk.bits4 (fun HT_ HW_ => ?_)
      generalize w42.drew = w43 at BK148 BK150 HB hHeld ⊢
      refine SQ.pu 0 13 HT_ ?_
      refine SQ.tk 1 14 HT_ HW_ hHeld ?_
      refine one_ (i := 2) (N := some 15) #[true, true, true, false, false, false, false, false, false, false, false, false, false, false, false, false, false, false, false, false, false, false, false, false, false, false, false, false, false, false] rfl rfl (one_of HT_.out (by kernel_rfl)) (by decide) (fun K hK => ?_)
      refine goes_ Tryd.func91 (by kernel_rfl) rfl #[.string ((rd_T74 l0_0 x8_1).f0)] (by rfl) rfl rfl (by (try simp only [List.map_toArray, List.map_cons, List.map_nil]); first | done | rfl | (simp only [List.length_drop, List.length_take]; rfl)) ?_
      with_reducible refine (impl_isFileName.calls ((rd_T74 l0_0 x8_1).f0) false _ A7.out).mono ?_
      rintro e w44 ⟨rfl, hb⟩
      refine ⟨_, rfl, ?_⟩
      have n0_ := Zh (Zm (g := gb148) (o := .cells #[.slice (some ad149) l0_0.length c0_0] 29 (0, 0)) Zk hb)
      have n1_ := Zh (Zm (g := gb150) (o := .cells #[.string ((rd_T74 l0_0 x8_1).f0), .slice A149_1 ((rd_T74 l0_0 x8_1).f1).length c149_1, .slice A149_2 ((rd_T74 l0_0 x8_1).f2).length c149_2] 74 (0, 0)) Zk hb)
      have n2_ := Zh (Zl Zs hb)
      clear BK148
      clear BK150
      clear HB
      have BK148 := n0_
      have BK150 := n1_
      have HB := n2_
      clear n0_ n1_ n2_
      (try clear hb)
      (try clear hb2)
      (try clear hk)
      (try clear hi)
      refine hK.out _ _ ⟨(blk_cell BK150.out 0).trans rfl, (blk_cell BK150.out 1).trans rfl, (blk_cell BK150.out 2).trans rfl⟩ (fun hHeld => ?_)
      clear hK K
      refine norm_ (a' := ?_) ?_ ?_
      rotate_left
      ·
       show Act.put _ (some 15) _ = _
       simp only [Act.put, List.setIfInBounds_toArray, List.set_cons_zero, List.set_cons_succ, i64_w, i32_w]
       rfl
      refine SQ.pu 3 16 HT_ ?_
      refine SQ.pu 4 17 HT_ ?_
      refine SQ.of 5 18 HT_ ?_
      refine SQ.of 6 19 HT_ ?_
      refine SQ.of 7 20 HT_ ?_
      refine SQ.of 8 21 HT_ ?_
      refine SQ.of 9 22 HT_ ?_
      refine SQ.of 10 23 HT_ ?_
      refine SQ.of 11 24 HT_ ?_
      refine SQ.of 12 25 HT_ ?_
      refine SQ.pu 13 26 HT_ ?_
      refine SQ.pu 14 27 HT_ ?_
      refine SQ.of 15 28 HT_ ?_
      refine SQ.of 16 29 HT_ ?_
      refine SQ.of 17 30 HT_ ?_
      refine SQ.of 18 31 HT_ ?_
      refine SQ.of 19 32 HT_ ?_
      refine SQ.of 20 33 HT_ ?_
      refine SQ.of 21 34 HT_ ?_
      refine SQ.of 22 35 HT_ ?_
      refine SQ.of 23 36 HT_ ?_
      refine SQ.of 24 37 HT_ ?_
      refine SQ.of 25 38 HT_ ?_
      refine SQ.of 26 39 HT_ ?_
      refine SQ.of 27 40 HT_ ?_
      refine SQ.of 28 41 HT_ ?_
      refine SQ.pu 29 42 HT_ ?_
      refine done_ (done_of HT_.out (by kernel_rfl)) ?_
      try go_wp2
      go_ret
      exact ⟨by first | rfl | (simp [errW_none, errW_some] <;> rfl) | (simp [*, errW_none, errW_some] <;> rfl), by repeat (first | (with_reducible first | exact HB.out | apply Zf | apply Zd | apply Ze | refine Zg ?_ GE148.out | refine Zg ?_ GE150.out) | exact HB.out)⟩
     rw [if_neg c6] at H
     exact absurd H (by simp)
    rw [if_neg c5] at H
    exact absurd H (by simp)
   rw [if_neg c4] at H
   have c4b0 : decide (x8_1 < (l0_0.length : Int)) = false := decide_eq_false c4
   clear c4
   obtain rfl := Option.some.inj H
   have hcz45_0 : wr.cell? ⟨gb148, 0, none⟩ = some (.slice A0_0 l0_0.length c0_0) := (blk_cell BK148.out 0).trans rfl
   have hfz45_0 := Zn BK148.out 0
   go_wp2
   go_ret
   exact ⟨by first | rfl | (simp [errW_none, errW_some] <;> rfl) | (simp [*, errW_none, errW_some] <;> rfl), by repeat (first | (with_reducible first | exact HB.out | apply Zf | apply Zd | apply Ze | refine Zg ?_ GE148.out) | exact HB.out)⟩
end Go.Proofs.YtmgeffgcihfpcaaDoor.F

namespace Go.Proofs.YtmgeffgcihfpcaaDoor.F
open Go.RowKit Go.Proofs.YtmgeffgcihfpcaaDoorW.PrintWords Go.Proofs.YtmgeffgcihfpcaaDoorW.PrintLast Go.Proofs.YtmgeffgcihfpcaaDoorW.PrintMore
set_option linter.unusedVariables false
set_option linter.unusedSimpArgs false
def PredF (g : Nat) (lb : Array Value) (p : ByteArray → Bool) (w : World) : Prop := ∀ w1 : World, Below w.heap.size w w1 → ∀ (s : ByteArray) (v1 v2 : Value), Calls Tryd.prog g (#[.agg #[.string s, v1, v2]] ++ lb) w1 fun e w' => e = .returned (.bool (p s)) ∧ Below w1.heap.size w1 w'
def idxF (p : ByteArray → Bool) : List S74 → Int → Int
  | [], _ => -1
  | x :: t, i => if p x.f0 = true then i else idxF p t (i + 1)
set_option maxHeartbeats 4000000 in
theorem indexFile.calls (g : Nat) (lb : Array Value) (p : ByteArray → Bool) (eg : ∀ args w, (callFunc g args).run Tryd.prog w = .ok (.enter g args) w) (A : Option Addr) (c : Nat) (l : List S74) (w : World) (hr : Kd.C k74 w A l.length l) (hl : l.length ≤ 9223372036854775807) (hp : PredF g lb p w) :
    Calls Tryd.prog 94 #[.slice A l.length c, .func (.func g) #[] lb] w fun e w' => e = .returned (.int .i64 (idxF p l 0)) ∧ Below w.heap.size w w' := by
  have HR0 := Zh hr
  clear hr
  have HP := Zh hp
  clear hp
  have hu74 := Tryd.underlying74
  go_enter Tryd.func94, Tryd.ntmps94
  go_wp2
  go_loopg [5, 8] l.length (fun gg _ v8 w' => ∃ kk : Nat, kk ≤ l.length ∧ l.length - kk ≤ gg ∧ v8 = .int .i64 kk ∧ Aside0 (Below w.heap.size w w') ∧ Aside0 (idxF p (l.drop kk) kk = idxF p l 0))
  case atStart => exact ⟨0, Nat.zero_le _, by omega, rfl, ⟨Below.refl _ _⟩, ⟨rfl⟩⟩
  case round =>
    obtain ⟨kk, hkk, hg, rfl, HB, HA⟩ := hrel
    by_cases hlt : kk < l.length
    · have hltz : (kk : Int) < (l.length : Int) := by omega
      obtain ⟨ad, A1, c1, A2, c2, e, hx0, hx1, hx2, _, _, _, _⟩ := at_T74 HR0.out (kk : Int) (by omega) (by omega)
      cases e
      replace hx0 := (HB.out.cell (Zi w _ hx0)).trans hx0
      replace hx1 := (HB.out.cell (Zi w _ hx1)).trans hx1
      replace hx2 := (HB.out.cell (Zi w _ hx2)).trans hx2
      rw [Int.toNat_natCast] at hx0 hx1 hx2
      have hrd : rd_T74 l (kk : Int) = l[kk] := by simp [rd_T74, List.getD_eq_getElem?_getD, List.getElem?_eq_getElem hlt]
      have hA := HA.out
      rw [List.drop_eq_getElem_cons hlt] at hA
      rw [hrd] at hx0 hx1 hx2
      clear HA hrd
      generalize l[kk] = y at hx0 hx1 hx2 hA
      have hcall := HP.out wr HB.out y.f0 (.slice A1 y.f1.length c1) (.slice A2 y.f2.length c2)
      cases hq : p y.f0 with
      | true =>
        simp only [idxF, hq, if_true] at hA
        rw [hq] at hcall
        have HA := Zh hA
        clear hA
        go_wp2_with (go_at_fn g; refine hcall.mono ?_; rintro e w' ⟨rfl, hb⟩; replace HB := Zh (Zl HB.out hb); clear hb)
        go_ret
        exact ⟨by rw [← HA.out]; rfl, HB.out⟩
      | false =>
        simp only [idxF, hq, Bool.false_eq_true, if_false] at hA
        rw [hq] at hcall
        have HA := Zh hA
        clear hA
        go_wp2_with (go_at_fn g; refine hcall.mono ?_; rintro e w' ⟨rfl, hb⟩; replace HB := Zh (Zl HB.out hb); clear hb)
        go_roundg (l.length - (kk + 1))
        case measure => omega
        case rel => exact ⟨kk + 1, by omega, by omega, by go_num, HB, ⟨by have := HA.out; simpa using this⟩⟩
    have hltz : ¬ (kk : Int) < (l.length : Int) := by omega
    have : kk = l.length := by omega
    subst this
    go_wp2
    go_ret
    refine ⟨?_, HB.out⟩
    rw [← HA.out, List.drop_length]
    rfl
set_option maxHeartbeats 4000000 in
theorem fileOf1.pred (B : Nat) (name : ByteArray) (w : World) (hb : w.cell? ⟨B, 0, none⟩ = some (.string name)) : PredF 95 #[.pointer (some ⟨B, 0, none⟩)] (fun s => s.toList == name.toList) w := by
  intro w1 hB s v1 v2
  have hlt := Nat.lt_of_lt_of_le (Zi w _ hb) hB.size
  have hx := (hB.cell (Zi w _ hb)).trans hb
  clear hb hB
  have hu74 := Tryd.underlying74
  have hlt2 : B < w1.heap.size := hlt
  clear hlt
  go_enter Tryd.func95, Tryd.ntmps95
  go_wp2
  go_ret
  exact ⟨rfl, Zf (Below.refl _ _) _⟩
def impl_fileOf.f (l0_0 : List S74) (a1 : ByteArray) : Option Int := if l0_0.length ≤ 9223372036854775807 then some (idxF (fun s => s.toList == a1.toList) l0_0 0) else none
set_option maxHeartbeats 4000000 in
theorem impl_fileOf.calls (A0_0 : Option Addr) (c0_0 : Nat) (l0_0 : List S74) (a1 : ByteArray) (r : Int) (w : World) (hr0_0 : Kd.C k74 w A0_0 l0_0.length l0_0) (hc0_0 : l0_0.length ≤ c0_0) (h : impl_fileOf.f l0_0 a1 = some r) :
    Calls Tryd.prog 63 #[.agg #[.slice A0_0 l0_0.length c0_0], .string a1] w fun e w' => e = .returned (.int .i64 r) ∧ Below w.heap.size w w' := by
  unfold impl_fileOf.f at h
  split at h
  · rename_i hl
    have h := Option.some.inj h
    subst h
    have HR := Zh hr0_0
    have HL := Zh hl
    clear hr0_0 hl
    have e6 : ∀ args w, (callFunc 94 args).run Tryd.prog w = .ok (.enter 94 args) w := enters_of Tryd.func94 (by kernel_rfl) rfl
    have e7 : ∀ args w, (callFunc 95 args).run Tryd.prog w = .ok (.enter 95 args) w := enters_of Tryd.func95 (by kernel_rfl) rfl
    have hmf : ∀ (fn : Fn) (first cap : Array Value) (w : World), (Instr.makeFunc fn first cap).run Tryd.prog w = .ok (.func fn first cap) w := fun _ _ _ _ => rfl
    have hcall := indexFile.calls 95 #[.pointer (some ⟨w.heap.size + 1, 0, none⟩)] (fun s => s.toList == a1.toList) e7 A0_0 c0_0 l0_0 ((w.alloc (.cells #[.slice A0_0 l0_0.length c0_0] 29)).alloc (.cells #[.string a1] 9)) (Kd.C_alloc (Kd.C_alloc HR.out _) _) HL.out (fileOf1.pred _ _ _ (by simp))
    go_enter Tryd.func63, Tryd.ntmps63
    go_wp2_with (go_at_fn 94; refine hcall.mono ?_; rintro e w' ⟨rfl, hb⟩)
    go_ret
    exact ⟨rfl, Zl (Zf (Zf (Below.refl _ _) _) _) hb⟩
  cases h
end Go.Proofs.YtmgeffgcihfpcaaDoor.F

namespace Go.Proofs.YtmgeffgcihfpcaaDoor.F
open Go.RowKit Go.Proofs.YtmgeffgcihfpcaaDoorW.PrintWords Go.Proofs.YtmgeffgcihfpcaaDoorW.PrintLast Go.Proofs.YtmgeffgcihfpcaaDoorW.PrintMore
open Go.Proofs.YtmgeffgcihfpcaaDoor
set_option linter.unusedVariables false
set_option linter.unusedSimpArgs false
def impl_removeFile.f (k : Nat) (l0_0 : List S74) (a1 : ByteArray) : Option (List S74 × Bool) := (impl_copyDisk.f k l0_0).bind fun o => (impl_fileOf.f l0_0 a1).bind fun i => (impl_isDisk.f k l0_0).bind fun t => if t = true then (if i < 0 then some (o, false) else (if i < (o.length : Int) then some (o.eraseIdx i.toNat, true) else none)) else some (o, false)
set_option maxHeartbeats 8000000 in
set_option maxRecDepth 100000 in
theorem impl_removeFile.calls (k : Nat) (A0_0 : Option Addr) (c0_0 : Nat) (l0_0 : List S74) (a1 : ByteArray) (r1 : List S74) (r2 : Bool) (w : World) (hr0_0 : Kd.C k74 w A0_0 l0_0.length l0_0) (hc0_0 : l0_0.length ≤ c0_0) (h : impl_removeFile.f k l0_0 a1 = some (r1, r2)) :
    Calls Tryd.prog 68 #[.agg #[.slice A0_0 l0_0.length c0_0], .string a1] w fun e w' => ∃ v0_ : Value, e = .returned (.tuple #[.agg #[v0_], .bool r2]) ∧ Kd.S k74 74 w' w.heap.size (fun _ => True) v0_ r1 ∧ Below w.heap.size w w' := by
  have HR := Zh hr0_0
  have HC := Zh hc0_0
  clear hr0_0 hc0_0
  have ST := Zh (LW.St.start w)
  unfold impl_removeFile.f at h
  replace h := Option.bind_eq_some_iff.mp h
  obtain ⟨o, HA1, h⟩ := h
  replace h := Option.bind_eq_some_iff.mp h
  obtain ⟨i, HA2, h⟩ := h
  replace h := Option.bind_eq_some_iff.mp h
  obtain ⟨t, HA3, h⟩ := h
  replace HA1 := Zh HA1
  replace HA2 := Zh HA2
  replace HA3 := Zh HA3
  have H := Zh h
  clear h
  go_enter Tryd.func68, Tryd.ntmps68
  go_wp2_with fail
  replace ST := Zh (ST.out.alloc #[.slice A0_0 l0_0.length c0_0] 29 (g := w.heap.size) rfl)
  replace ST := Zh (ST.out.alloc #[.slice none 0 0] 29 (g := w.heap.size + 1) (by simp))
  with_reducible refine (impl_copyDisk.calls k _ _ l0_0 o _ (Kd.C_below HR.out ST.out.b) HC.out HA1.out).mono ?_
  rintro e w1 ⟨v1, rfl, ho, hb⟩
  obtain ⟨A1, c1, rfl⟩ := Kd.S_slice ho
  replace ST := Zh (ST.out.row hb ho)
  clear hb ho
  have hc1 := ST.out.cell 1 rfl 0 (u := .slice none 0 0) rfl
  have hl1 := ST.out.lt 1 rfl
  have hc2 := ST.out.cell 2 rfl 0 (u := .slice A0_0 l0_0.length c0_0) rfl
  have hl2 := ST.out.lt 2 rfl
  go_wp2_with fail
  replace ST := Zh (ST.out.alloc #[.slice A1 o.length c1] 29 (g := w1.heap.size) rfl)
  with_reducible refine (impl_fileOf.calls _ _ l0_0 a1 i _ (Kd.C_below HR.out ST.out.b) HC.out HA2.out).mono ?_
  rintro e w2 ⟨rfl, hb⟩
  replace ST := Zh (ST.out.step hb)
  clear hb
  clear hc1 hl1 hc2 hl2
  have hc1 := ST.out.cell 0 rfl 0 (u := .slice A1 o.length c1) rfl
  have hl1 := ST.out.lt 0 rfl
  have hc2 := ST.out.cell 3 rfl 0 (u := .slice A0_0 l0_0.length c0_0) rfl
  have hl2 := ST.out.lt 3 rfl
  go_wp2_with fail
  with_reducible refine (impl_isDisk.calls k _ _ l0_0 t _ (Kd.C_below HR.out ST.out.b) HC.out HA3.out).mono ?_
  rintro e w3 ⟨rfl, hb⟩
  replace ST := Zh (ST.out.step hb)
  clear hb
  clear hc1 hl1 hc2 hl2
  have hc1 := ST.out.cell 0 rfl 0 (u := .slice A1 o.length c1) rfl
  have hl1 := ST.out.lt 0 rfl
  have hc2 := ST.out.cell 2 rfl 0 (u := .slice none 0 0) rfl
  have hl2 := ST.out.lt 2 rfl
  have h := H.out
  clear H
  by_cases ct : t = true
  · subst ct
    rw [if_pos rfl] at h
    by_cases ci : i < 0
    · rw [if_pos ci] at h
      obtain ⟨rfl, rfl⟩ := Prod.mk.inj (Option.some.inj h)
      clear h
      have cib : decide (i < 0) = true := decide_eq_true ci
      clear ci
      have hf2 := ST.out.frozen 2 rfl 0
      go_wp2_with fail
      replace ST := Zh (ST.out.set 2 rfl 0 (.slice A1 o.length c1))
      refine bodyPost_ret (results_ct rfl _ _ (w.heap.size + 1) 29 #[.slice A1 o.length c1] (0, 0) _ rfl (ST.out.blk 2 rfl) Tryd.underlying29 rfl (by kernel_rfl)) rfl ?_
      exact ⟨_, rfl, Kd.S_mono (ST.out.own 1 rfl) (fun _ _ => trivial), ST.out.b⟩
    rw [if_neg ci] at h
    by_cases cj : i < (o.length : Int)
    · rw [if_pos cj] at h
      obtain ⟨rfl, rfl⟩ := Prod.mk.inj (Option.some.inj h)
      clear h
      obtain ⟨n, rfl⟩ := Int.eq_ofNat_of_zero_le (show 0 ≤ i by omega)
      have cib : decide ((n : Int) < 0) = false := decide_eq_false ci
      have hn : n < o.length := by omega
      have hcap := (ST.out.reads 1 rfl).2.1
      obtain ⟨g, cg, hv, _, _, _⟩ := Kd.S_form (ST.out.own 1 rfl) (by omega)
      injection hv with hv1 hv2 hv3
      subst hv1
      have hcc := S_cap (ST.out.own 1 rfl)
      have hb1 : (n : Int) + 1 ≤ 9223372036854775807 := by omega
      clear ci cj hcap hcc hv2 hv3
      go_wp2_with fail
      with_reducible refine (sDelete.calls n _ _ o w _ ST.out.b (ST.out.own 1 rfl) hn).mono ?_
      rintro e w4 ⟨v4, rfl, ho, hb, hk⟩
      clear hc1 hl1 hc2 hl2 cib hb1
      replace ST := Zh (ST.out.writeV 1 rfl ho hb hk)
      obtain ⟨A4, c4, rfl⟩ := Kd.S_slice ho
      clear ho hb hk
      have hc1 := ST.out.cell 0 rfl 0 (u := .slice (some ⟨g, 0, none⟩) o.length c1) rfl
      have hl1 := ST.out.lt 0 rfl
      have hf1 := ST.out.frozen 0 rfl 0
      have hc2 := ST.out.cell 2 rfl 0 (u := .slice none 0 0) rfl
      have hl2 := ST.out.lt 2 rfl
      have hf2 := ST.out.frozen 2 rfl 0
      have hne : (w1.heap.size == w.heap.size + 1) = false := by have := ST.out.ne 0 2 (by decide) rfl rfl; simpa using this
      have hne' : ¬ w1.heap.size = w.heap.size + 1 := ST.out.ne 0 2 (by decide) rfl rfl
      go_wp2_with fail
      replace ST := Zh (ST.out.set 0 rfl 0 (.slice A4 (o.eraseIdx n).length c4))
      replace ST := Zh (ST.out.set 2 rfl 0 (.slice A4 (o.eraseIdx n).length c4))
      refine bodyPost_ret (results_ct rfl _ _ (w.heap.size + 1) 29 #[.slice A4 (o.eraseIdx n).length c4] (0, 0) _ rfl (ST.out.blk 2 rfl) Tryd.underlying29 rfl (by kernel_rfl)) rfl ?_
      exact ⟨_, rfl, Kd.S_mono (ST.out.own 1 rfl) (fun _ _ => trivial), ST.out.b⟩
    rw [if_neg cj] at h
    exact absurd h (by simp)
  rw [if_neg ct] at h
  obtain rfl : t = false := by simpa using ct
  obtain ⟨rfl, rfl⟩ := Prod.mk.inj (Option.some.inj h)
  clear h ct
  have hf2 := ST.out.frozen 2 rfl 0
  go_wp2_with fail
  replace ST := Zh (ST.out.set 2 rfl 0 (.slice A1 o.length c1))
  refine bodyPost_ret (results_ct rfl _ _ (w.heap.size + 1) 29 #[.slice A1 o.length c1] (0, 0) _ rfl (ST.out.blk 2 rfl) Tryd.underlying29 rfl (by kernel_rfl)) rfl ?_
  exact ⟨_, rfl, Kd.S_mono (ST.out.own 1 rfl) (fun _ _ => trivial), ST.out.b⟩
theorem run_field29 (v : Value) (w : World) : (Instr.field 29 (.agg #[v]) 0).run Tryd.prog w = .ok v w := by
  simp [Instr.field, go_sem, asAgg, Tryd.underlying29, Tryd.underlying27]
attribute [local go_sem] run_field29
def impl_renameFile.f (k : Nat) (l0_0 : List S74) (a1 a2 : ByteArray) : Option (List S74 × Bool) := (impl_fileOf.f l0_0 a1).bind fun i => (impl_isDisk.f k l0_0).bind fun t => if t = true then (if i < 0 then (impl_copyDisk.f k l0_0).bind fun o => some (o, false) else (impl_isFileName.f a2).bind fun n => if n = true then (if a1.toList = a2.toList then (impl_copyDisk.f k l0_0).bind fun o => some (o, true) else (impl_removeFile.f k l0_0 a1).bind fun p => (impl_removeFile.f k p.1 a2).bind fun q => (impl_copyDisk.f k l0_0).bind fun o => if i < (o.length : Int) then (if (q.1.length + 1) * 64 ≤ 140737488355328 then some (insM q.1 ⟨a2, (rd_T74 o i).f1, (rd_T74 o i).f2⟩, true) else none) else none) else (impl_copyDisk.f k l0_0).bind fun o => some (o, false)) else (impl_copyDisk.f k l0_0).bind fun o => some (o, false)
set_option maxHeartbeats 8000000 in
set_option maxRecDepth 100000 in
theorem impl_renameFile.calls (k : Nat) (A0_0 : Option Addr) (c0_0 : Nat) (l0_0 : List S74) (a1 a2 : ByteArray) (r1 : List S74) (r2 : Bool) (w : World) (hr0_0 : Kd.C k74 w A0_0 l0_0.length l0_0) (hc0_0 : l0_0.length ≤ c0_0) (h : impl_renameFile.f k l0_0 a1 a2 = some (r1, r2)) :
    Calls Tryd.prog 79 #[.agg #[.slice A0_0 l0_0.length c0_0], .string a1, .string a2] w fun e w' => ∃ v0_ : Value, e = .returned (.tuple #[.agg #[v0_], .bool r2]) ∧ Kd.S k74 74 w' w.heap.size (fun _ => True) v0_ r1 ∧ Below w.heap.size w w' := by
  have HR := Zh hr0_0
  have HC := Zh hc0_0
  clear hr0_0 hc0_0
  have ST := Zh (LW.St.start w)
  have hu29 := Tryd.underlying29
  have hu74 := Tryd.underlying74
  unfold impl_renameFile.f at h
  replace h := Option.bind_eq_some_iff.mp h
  obtain ⟨i, HA1, h⟩ := h
  replace h := Option.bind_eq_some_iff.mp h
  obtain ⟨t, HA2, h⟩ := h
  replace HA1 := Zh HA1
  replace HA2 := Zh HA2
  have H := Zh h
  clear h
  go_enter Tryd.func79, Tryd.ntmps79
  go_wp2_with fail
  replace ST := Zh (ST.out.alloc #[.slice A0_0 l0_0.length c0_0] 29 (g := w.heap.size) rfl)
  replace ST := Zh (ST.out.alloc #[.slice none 0 0] 29 (g := w.heap.size + 1) (by simp))
  with_reducible refine (impl_fileOf.calls _ _ l0_0 a1 i _ (Kd.C_below HR.out ST.out.b) HC.out HA1.out).mono ?_
  rintro e w2 ⟨rfl, hb⟩
  replace ST := Zh (ST.out.step hb)
  clear hb
  have hc1 := ST.out.cell 1 rfl 0 (u := .slice A0_0 l0_0.length c0_0) rfl
  have hl1 := ST.out.lt 1 rfl
  go_wp2_with fail
  with_reducible refine (impl_isDisk.calls k _ _ l0_0 t _ (Kd.C_below HR.out ST.out.b) HC.out HA2.out).mono ?_
  rintro e w3 ⟨rfl, hb⟩
  replace ST := Zh (ST.out.step hb)
  clear hb hc1 hl1
  have hc1 := ST.out.cell 1 rfl 0 (u := .slice A0_0 l0_0.length c0_0) rfl
  have hl1 := ST.out.lt 1 rfl
  have h := H.out
  clear H
  by_cases ct : t = true
  · subst ct
    rw [if_pos rfl] at h
    by_cases ci : i < 0
    · rw [if_pos ci] at h
      have cib : decide (i < 0) = true := decide_eq_true ci
      clear ci
      replace h := Option.bind_eq_some_iff.mp h
      obtain ⟨o, HAo, h⟩ := h
      obtain ⟨rfl, rfl⟩ := Prod.mk.inj (Option.some.inj h)
      clear h
      replace HAo := Zh HAo
      go_wp2_with fail
      with_reducible refine (impl_copyDisk.calls k _ _ l0_0 o _ (Kd.C_below HR.out ST.out.b) HC.out HAo.out).mono ?_
      rintro e w9 ⟨v9, rfl, ho, hb⟩
      obtain ⟨A9, c9, rfl⟩ := Kd.S_slice ho
      replace ST := Zh (ST.out.row hb ho)
      clear hb ho hc1 hl1
      have hc2 := ST.out.cell 1 rfl 0 (u := .slice none 0 0) rfl
      have hl2 := ST.out.lt 1 rfl
      have hf2 := ST.out.frozen 1 rfl 0
      go_wp2
      replace ST := Zh (ST.out.set 1 rfl 0 (.slice A9 o.length c9))
      refine bodyPost_ret (results_ct rfl _ _ (w.heap.size + 1) 29 #[.slice A9 o.length c9] (0, 0) _ rfl (ST.out.blk 1 rfl) Tryd.underlying29 rfl (by kernel_rfl)) rfl ?_
      exact ⟨_, rfl, Kd.S_mono (ST.out.own 0 rfl) (fun _ _ => trivial), ST.out.b⟩
    rw [if_neg ci] at h
    have cib : decide (i < 0) = false := decide_eq_false ci
    have HI0 := Zh (show 0 ≤ i by omega)
    clear ci
    replace h := Option.bind_eq_some_iff.mp h
    obtain ⟨n, HA3, h⟩ := h
    replace HA3 := Zh HA3
    have H := Zh h
    clear h
    go_wp2_with fail
    with_reducible refine (impl_isFileName.calls a2 n _ HA3.out).mono ?_
    rintro e w4 ⟨rfl, hb⟩
    replace ST := Zh (ST.out.step hb)
    clear hb hc1 hl1
    have hc1 := ST.out.cell 1 rfl 0 (u := .slice A0_0 l0_0.length c0_0) rfl
    have hl1 := ST.out.lt 1 rfl
    have h := H.out
    clear H
    by_cases cn : n = true
    · subst cn
      rw [if_pos rfl] at h
      by_cases ce : a1.toList = a2.toList
      · rw [if_pos ce] at h
        have ceb : (a1.toList == a2.toList) = true := beq_iff_eq.mpr ce
        clear ce
        replace h := Option.bind_eq_some_iff.mp h
        obtain ⟨o, HAo, h⟩ := h
        obtain ⟨rfl, rfl⟩ := Prod.mk.inj (Option.some.inj h)
        clear h
        replace HAo := Zh HAo
        go_wp2_with fail
        with_reducible refine (impl_copyDisk.calls k _ _ l0_0 o _ (Kd.C_below HR.out ST.out.b) HC.out HAo.out).mono ?_
        rintro e w9 ⟨v9, rfl, ho, hb⟩
        obtain ⟨A9, c9, rfl⟩ := Kd.S_slice ho
        replace ST := Zh (ST.out.row hb ho)
        clear hb ho hc1 hl1
        have hc2 := ST.out.cell 1 rfl 0 (u := .slice none 0 0) rfl
        have hl2 := ST.out.lt 1 rfl
        have hf2 := ST.out.frozen 1 rfl 0
        go_wp2
        replace ST := Zh (ST.out.set 1 rfl 0 (.slice A9 o.length c9))
        refine bodyPost_ret (results_ct rfl _ _ (w.heap.size + 1) 29 #[.slice A9 o.length c9] (0, 0) _ rfl (ST.out.blk 1 rfl) Tryd.underlying29 rfl (by kernel_rfl)) rfl ?_
        exact ⟨_, rfl, Kd.S_mono (ST.out.own 0 rfl) (fun _ _ => trivial), ST.out.b⟩
      rw [if_neg ce] at h
      have ceb : (a1.toList == a2.toList) = false := beq_eq_false_iff_ne.mpr ce
      clear ce
      replace h := Option.bind_eq_some_iff.mp h
      obtain ⟨⟨p, pb⟩, HA4, h⟩ := h
      replace h := Option.bind_eq_some_iff.mp h
      obtain ⟨⟨q, qb⟩, HA5, h⟩ := h
      replace h := Option.bind_eq_some_iff.mp h
      obtain ⟨o, HA6, h⟩ := h
      simp only at HA5 h
      replace HA4 := Zh HA4
      replace HA5 := Zh HA5
      replace HA6 := Zh HA6
      by_cases cl : i < (o.length : Int)
      · rw [if_pos cl] at h
        by_cases cq : (q.length + 1) * 64 ≤ 140737488355328
        · rw [if_pos cq] at h
          obtain ⟨rfl, rfl⟩ := Prod.mk.inj (Option.some.inj h)
          have HCL := Zh cl
          have HCQ := Zh cq
          clear h cl cq
          go_wp2_with fail
          with_reducible refine (impl_removeFile.calls k _ _ l0_0 a1 p pb _ (Kd.C_below HR.out ST.out.b) HC.out HA4.out).mono ?_
          rintro e w5 ⟨v5, rfl, ho, hb⟩
          obtain ⟨A5, c5, rfl⟩ := Kd.S_slice ho
          replace ST := Zh (ST.out.row hb ho)
          clear hb ho hc1 hl1
          go_wp2_with fail
          replace ST := Zh (ST.out.alloc #[.slice A5 p.length c5] 29 (g := w5.heap.size) rfl)
          with_reducible refine (impl_removeFile.calls k _ _ p a2 q qb _ (ST.out.reads 1 rfl).2.2 (ST.out.reads 1 rfl).2.1 HA5.out).mono ?_
          rintro e w6 ⟨v6, rfl, ho, hb⟩
          obtain ⟨A6, c6, rfl⟩ := Kd.S_slice ho
          replace ST := Zh (ST.out.row hb ho)
          clear hb ho
          have hc1 := ST.out.cell 4 rfl 0 (u := .slice A0_0 l0_0.length c0_0) rfl
          have hl1 := ST.out.lt 4 rfl
          have hc2 := ST.out.cell 1 rfl 0 (u := .slice A5 p.length c5) rfl
          have hl2 := ST.out.lt 1 rfl
          have hf2 := ST.out.frozen 1 rfl 0
          have hne := ST.out.ne 1 4 (by decide) rfl rfl
          go_wp2_with fail
          replace ST := Zh (ST.out.set 1 rfl 0 (.slice A6 q.length c6))
          generalize (w6.setCell ⟨w5.heap.size, 0, none⟩ (.slice A6 q.length c6)) = w7 at ST ⊢
          with_reducible refine (impl_copyDisk.calls k _ _ l0_0 o _ (Kd.C_below HR.out ST.out.b) HC.out HA6.out).mono ?_
          rintro e w8 ⟨v8, rfl, ho, hb⟩
          obtain ⟨g, cg, rfl, _, _, _⟩ := Kd.S_form ho (by have := HCL.out; have := HI0.out; omega)
          replace ST := Zh (ST.out.row hb ho)
          clear hb ho hc1 hl1 hc2 hl2 hf2 hne
          obtain ⟨oki, cs, hcl, hM, hcc, hfr, hoki, hH⟩ := Kd.S_elem (ST.out.own 0 rfl) z74 i HI0.out HCL.out
          obtain ⟨pp, u1, u2, rfl, hM1, hM2⟩ := k74_openA hM
          obtain ⟨B1, d1, rfl⟩ := Kd.R_slice hM1
          obtain ⟨B2, d2, rfl⟩ := Kd.R_slice hM2
          have hrd : o.getD i.toNat z74 = rd_T74 o i := rfl
          rw [hrd] at hM1 hM2 hcc
          generalize hy : rd_T74 o i = y at hM1 hM2 hcc
          have HY := Zh hy
          clear hy
          have hy0 : w8.cell? ⟨g, i.toNat * 3, none⟩ = some (.string y.f0) := hcc 0 _ rfl
          have hy1 : w8.cell? ⟨g, i.toNat * 3 + 1, none⟩ = some (.slice B1 y.f1.length d1) := hcc 1 _ rfl
          have hy2 : w8.cell? ⟨g, i.toNat * 3 + 2, none⟩ = some (.slice B2 y.f2.length d2) := hcc 2 _ rfl
          have hc1 := ST.out.cell 2 rfl 0 (u := .slice A6 q.length c6) rfl
          have hl1 := ST.out.lt 2 rfl
          have p0 := eq_true HI0.out
          have p1 := eq_true HCL.out
          have K1 := Zh (And.intro hM1 (And.intro hM2 hoki))
          clear hrd hcl hM hcc hfr hoki hH hM1 hM2
          go_wp2_with ((with_reducible refine gate_dst (N := 11) rfl ?_); refine box_event ?hg (N := 11) ?hd (cs := #[.string (⟨#[]⟩ : ByteArray), .slice none 0 0, .slice none 0 0]) (t := 74) ?hr ?_; (case hd => rfl); (case hg => rfl); (case hr => first | (go_simp; done) | (go_simp; rfl)); intro gb hg w10 hbox hb; replace ST := Zh (ST.out.box hg hbox hb); have hd0 := ST.out.cell 0 rfl 0 (u := .string (⟨#[]⟩ : ByteArray)) rfl; have hd1 := ST.out.cell 0 rfl 1 (u := .slice none 0 0) rfl; have hd2 := ST.out.cell 0 rfl 2 (u := .slice none 0 0) rfl; have hg0 := ST.out.frozen 0 rfl 0; have hg1 := ST.out.frozen 0 rfl 1; have hg2 := ST.out.frozen 0 rfl 2; have hgl := ST.out.lt 0 rfl; replace hc1 := ST.out.cell 3 rfl 0 (u := .slice A6 q.length c6) rfl; replace hl1 := ST.out.lt 3 rfl; have hne := ST.out.ne 3 0 (by decide) rfl rfl; have hne' := hne.symm; have HBX := Zh hb; have HGB := Zh (Nat.le_of_eq hg.symm); clear hg hbox hb)
          have hb11 : Below w8.heap.size w8 ((((w10.setCell ⟨gb, 0, none⟩ (.string y.f0)).setCell ⟨gb, 1, none⟩ (.slice B1 y.f1.length d1)).setCell ⟨gb, 2, none⟩ (.slice B2 y.f2.length d2)).setCell ⟨gb, 0, none⟩ (.string a2)) := Zg (Zg (Zg (Zg HBX.out HGB.out) HGB.out) HGB.out) HGB.out
          replace ST := Zh (ST.out.set 0 rfl 0 (.string y.f0))
          replace ST := Zh (ST.out.set 0 rfl 1 (.slice B1 y.f1.length d1))
          replace ST := Zh (ST.out.set 0 rfl 2 (.slice B2 y.f2.length d2))
          replace ST := Zh (ST.out.set 0 rfl 0 (.string a2))
          clear hd0 hd1 hd2 hg0 hg1 hg2 hgl hc1 hl1 hne hne' hy0 hy1 hy2 p0 p1
          generalize ((((w10.setCell ⟨gb, 0, none⟩ (.string y.f0)).setCell ⟨gb, 1, none⟩ (.slice B1 y.f1.length d1)).setCell ⟨gb, 2, none⟩ (.slice B2 y.f2.length d2)).setCell ⟨gb, 0, none⟩ (.string a2)) = w11 at ST hb11 ⊢
          obtain ⟨hM1, hM2, hoki⟩ := K1.out
          refine (impl_withFile.calls _ oki _ q ⟨a2, y.f1, y.f2⟩ (.slice B1 y.f1.length d1) (.slice B2 y.f2.length d2) w w11 ST.out.b (ST.out.own 2 rfl) HCQ.out (k74_mkM w11 _ oki (⟨a2, y.f1, y.f2⟩ : S74) (Kd.R_mono (Kd.R_below hM1 hb11) (fun k hk => hk.1)) (Kd.R_mono (Kd.R_below hM2 hb11) (fun k hk => hk.1)) (fun k h1 h2 => (hM2.1 k h2.symm).2 (hM1.1 k h1.symm).2)) (fun k hk hp => LW.Its.disj ST.out.i 1 2 _ _ (by decide) rfl rfl k (hoki k hk).1 hp)).mono ?_
          rintro e w12 ⟨v', rfl, hS, hB12, hK12⟩
          have hl5 := ST.out.lt 5 rfl
          have b5 := (hK12.2 _ hl5 (fun hp => LW.Its.disj ST.out.i 5 2 _ _ (by decide) rfl rfl _ rfl hp)).trans (ST.out.blk 5 rfl)
          obtain ⟨A12, c12, hv12⟩ := Kd.S_slice hS
          obtain ⟨n12, hn12⟩ : ∃ n12, n12 = (insM q ⟨a2, y.f1, y.f2⟩).length := ⟨_, rfl⟩
          rw [← hn12] at hv12
          subst hv12
          clear hn12
          have FIN := Zh (And.intro hS (And.intro hB12 (And.intro hl5 b5)))
          have K2 := Zh hoki
          have hc5 := (blk_cell b5 0).trans (show _ = some (.slice none 0 0) from rfl)
          have hf5 := Zn b5 0
          have hm5 := blk_lt b5
          clear hS hB12 hK12 hl5 b5 hM1 hM2 hoki K1 hb11
          go_wp2_with fail
          obtain ⟨hS, hB12, hl5, b5⟩ := FIN.out
          have hy := HY.out
          clear HY
          subst hy
          refine bodyPost_ret (results_ct rfl _ _ (w.heap.size + 1) 29 #[.slice A12 n12 c12] (0, 0) _ rfl (blk_put b5 0 _ rfl) Tryd.underlying29 rfl (by kernel_rfl)) rfl ?_
          refine ⟨_, rfl, Kd.S_mono (Kd.S_far hS (fun k hk => ?_) _) (fun _ _ => trivial), Zg hB12 (Nat.le_succ _)⟩
          show k ≠ w.heap.size + 1
          intro he
          rcases hk with hk | hk | hk
          · exact LW.Its.disj ST.out.i 2 5 _ _ (by decide) rfl rfl k hk he
          · exact LW.Its.disj ST.out.i 1 5 _ _ (by decide) rfl rfl k (K2.out k hk).1 he
          have := hk.1; omega
        rw [if_neg cq] at h; exact absurd h (by simp)
      rw [if_neg cl] at h; exact absurd h (by simp)
    rw [if_neg cn] at h
    obtain rfl : n = false := by simpa using cn
    clear cn
    replace h := Option.bind_eq_some_iff.mp h
    obtain ⟨o, HAo, h⟩ := h
    obtain ⟨rfl, rfl⟩ := Prod.mk.inj (Option.some.inj h)
    clear h
    replace HAo := Zh HAo
    go_wp2_with fail
    with_reducible refine (impl_copyDisk.calls k _ _ l0_0 o _ (Kd.C_below HR.out ST.out.b) HC.out HAo.out).mono ?_
    rintro e w9 ⟨v9, rfl, ho, hb⟩
    obtain ⟨A9, c9, rfl⟩ := Kd.S_slice ho
    replace ST := Zh (ST.out.row hb ho)
    clear hb ho hc1 hl1
    have hc2 := ST.out.cell 1 rfl 0 (u := .slice none 0 0) rfl
    have hl2 := ST.out.lt 1 rfl
    have hf2 := ST.out.frozen 1 rfl 0
    go_wp2
    replace ST := Zh (ST.out.set 1 rfl 0 (.slice A9 o.length c9))
    refine bodyPost_ret (results_ct rfl _ _ (w.heap.size + 1) 29 #[.slice A9 o.length c9] (0, 0) _ rfl (ST.out.blk 1 rfl) Tryd.underlying29 rfl (by kernel_rfl)) rfl ?_
    exact ⟨_, rfl, Kd.S_mono (ST.out.own 0 rfl) (fun _ _ => trivial), ST.out.b⟩
  rw [if_neg ct] at h
  obtain rfl : t = false := by simpa using ct
  clear ct
  replace h := Option.bind_eq_some_iff.mp h
  obtain ⟨o, HAo, h⟩ := h
  obtain ⟨rfl, rfl⟩ := Prod.mk.inj (Option.some.inj h)
  clear h
  replace HAo := Zh HAo
  go_wp2_with fail
  with_reducible refine (impl_copyDisk.calls k _ _ l0_0 o _ (Kd.C_below HR.out ST.out.b) HC.out HAo.out).mono ?_
  rintro e w9 ⟨v9, rfl, ho, hb⟩
  obtain ⟨A9, c9, rfl⟩ := Kd.S_slice ho
  replace ST := Zh (ST.out.row hb ho)
  clear hb ho hc1 hl1
  have hc2 := ST.out.cell 1 rfl 0 (u := .slice none 0 0) rfl
  have hl2 := ST.out.lt 1 rfl
  have hf2 := ST.out.frozen 1 rfl 0
  go_wp2
  replace ST := Zh (ST.out.set 1 rfl 0 (.slice A9 o.length c9))
  refine bodyPost_ret (results_ct rfl _ _ (w.heap.size + 1) 29 #[.slice A9 o.length c9] (0, 0) _ rfl (ST.out.blk 1 rfl) Tryd.underlying29 rfl (by kernel_rfl)) rfl ?_
  exact ⟨_, rfl, Kd.S_mono (ST.out.own 0 rfl) (fun _ _ => trivial), ST.out.b⟩
def impl_RenameFile.f (k : Nat) (l0_0 : List S74) (a1 a2 : ByteArray) : Option (List S74 × Bool) := impl_renameFile.f k l0_0 a1 a2
set_option maxHeartbeats 8000000 in
theorem impl_RenameFile.calls (k : Nat) (A0_0 : Option Addr) (c0_0 : Nat) (l0_0 : List S74) (a1 a2 : ByteArray) (r1 : List S74) (r2 : Bool) (w : World) (hr0_0 : Kd.C k74 w A0_0 l0_0.length l0_0) (hc0_0 : l0_0.length ≤ c0_0) (h : impl_RenameFile.f k l0_0 a1 a2 = some (r1, r2)) :
    Calls Tryd.prog 41 #[.agg #[.slice A0_0 l0_0.length c0_0], .string a1, .string a2] w fun e w' => ∃ v0_ : Value, e = .returned (.tuple #[.agg #[v0_], .bool r2]) ∧ Kd.S k74 74 w' w.heap.size (fun _ => True) v0_ r1 ∧ Below w.heap.size w w' := by
  have HR := Zh hr0_0
  have HC := Zh hc0_0
  have HA := Zh (show impl_renameFile.f k l0_0 a1 a2 = some (r1, r2) from h)
  clear hr0_0 hc0_0 h
  have ST := Zh (LW.St.start w)
  go_enter Tryd.func41, Tryd.ntmps41
  go_wp2_with fail
  replace ST := Zh (ST.out.alloc #[.slice A0_0 l0_0.length c0_0] 29 (g := w.heap.size) rfl)
  replace ST := Zh (ST.out.alloc #[.slice none 0 0] 29 (g := w.heap.size + 1) (by simp))
  with_reducible refine (impl_renameFile.calls k _ _ l0_0 a1 a2 r1 r2 _ (Kd.C_below HR.out ST.out.b) HC.out HA.out).mono ?_
  rintro e w1 ⟨v1, rfl, ho, hb⟩
  obtain ⟨A1, c1, rfl⟩ := Kd.S_slice ho
  replace ST := Zh (ST.out.row hb ho)
  clear hb ho
  have hc1 := ST.out.cell 1 rfl 0 (u := .slice none 0 0) rfl
  have hl1 := ST.out.lt 1 rfl
  have hf1 := ST.out.frozen 1 rfl 0
  go_wp2
  replace ST := Zh (ST.out.set 1 rfl 0 (.slice A1 r1.length c1))
  refine bodyPost_ret (results_ct rfl _ _ (w.heap.size + 1) 29 #[.slice A1 r1.length c1] (0, 0) _ rfl (ST.out.blk 1 rfl) Tryd.underlying29 rfl (by kernel_rfl)) rfl ?_
  exact ⟨_, rfl, Kd.S_mono (ST.out.own 0 rfl) (fun _ _ => trivial), ST.out.b⟩
def laws_FnExactRenameFile.f (k : Nat) (l0_0 : List (S101)) (a1 : ByteArray) (a2 : ByteArray) : Option Bool := (if (a1.size : Int) > 1048576 then some true else (if (a2.size : Int) > 1048576 then some true else ((laws_szDisk.f k l0_0 1048576).bind fun p4 => (if p4 < 0 then some true else ((laws_toDisk.f k l0_0).bind fun p10 => ((spec_RenameFile.f k p10 a1 a2).bind fun p18 => ((laws_toDisk.f k l0_0).bind fun p27 => ((impl_RenameFile.f k p27 a1 a2).bind fun p35 => ((laws_eqDisk.f k p35.1 p18.1).bind fun p44 => (if p44 = true then (if p35.2 = p18.2 then ((laws_toDisk.f k l0_0).bind fun p50 => ((laws_eqDisk.f k p27 p50).bind fun p57 => (if p57 = true then ((laws_markDisk.f k p27 1).bind fun p63 => (if p63.1 < 0 then none else ((laws_eqDisk.f k p35.1 p18.1).bind fun p73 => (if p73 = true then (if p18.2 = p18.2 then ((laws_markDisk.f k p35.1 1).bind fun p79 => ((laws_heldDisk.f k p79.2 1).bind fun p86 => (if p86 < 0 then none else (if p86 = p79.1 then ((laws_toDisk.f k l0_0).bind fun p94 => ((impl_RenameFile.f k p94 a1 a2).bind fun p102 => ((laws_eqDisk.f k p102.1 p18.1).bind fun p111 => (if p111 = true then (if p102.2 = p18.2 then ((laws_heldDisk.f k p79.2 1).bind fun p118 => (if p118 < 0 then none else (if p118 = p79.1 then (some true) else none))) else none) else none)))) else none)))) else none) else none)))) else none))) else none) else none))))))))))
set_option maxHeartbeats 16000000 in
set_option maxRecDepth 100000 in
theorem laws_FnExactRenameFile.calls (k : Nat) (A0_0 : Option Addr) (c0_0 : Nat) (l0_0 : List (S101)) (a1 : ByteArray) (a2 : ByteArray) (r : Bool) (w : World) (hr0_0 : Kd.C k101 w A0_0 l0_0.length l0_0) (hc0_0 : l0_0.length ≤ c0_0) (h : laws_FnExactRenameFile.f k l0_0 a1 a2 = some r) :
    Calls Tryd.prog 10 #[.agg #[.slice A0_0 l0_0.length c0_0], .string a1, .string a2] w fun e w' => e = .returned (.bool r) ∧ Below w.heap.size w w' := by
  have HR0_0 := Zh hr0_0
  have HC0_0 := Zh hc0_0
  clear hr0_0 hc0_0
  have ST := Zh (LW.St.start w)
  unfold laws_FnExactRenameFile.f at h
  by_cases c1 : (a1.size : Int) > 1048576
  · rw [if_pos c1] at h
    obtain rfl := Option.some.inj h
    have c1b : decide ((a1.size : Int) > 1048576) = true := decide_eq_true c1
    clear c1
    go_enter Tryd.func10, Tryd.ntmps10
    go_wp2
    go_ret
    exact ⟨rfl, by repeat (first | exact Below.refl _ _ | apply Zf)⟩
  rw [if_neg c1] at h
  have c1b : decide ((a1.size : Int) > 1048576) = false := decide_eq_false c1
  clear c1
  by_cases c2 : (a2.size : Int) > 1048576
  · rw [if_pos c2] at h
    obtain rfl := Option.some.inj h
    have c2b : decide ((a2.size : Int) > 1048576) = true := decide_eq_true c2
    clear c2
    go_enter Tryd.func10, Tryd.ntmps10
    go_wp2
    go_ret
    exact ⟨rfl, by repeat (first | exact Below.refl _ _ | apply Zf)⟩
  rw [if_neg c2] at h
  have c2b : decide ((a2.size : Int) > 1048576) = false := decide_eq_false c2
  clear c2
  go_enter Tryd.func10, Tryd.ntmps10
  go_wp2_with fail
  replace ST := Zh (ST.out.alloc #[.slice A0_0 l0_0.length c0_0] 24 (g := w.heap.size) rfl)
  replace h := Option.bind_eq_some_iff.mp h
  obtain ⟨t3, HA_, h⟩ := h
  try dsimp only at h
  replace HA_ := Zh HA_
  with_reducible refine (laws_szDisk.calls k _ _ l0_0 1048576 t3 _ (Kd.C_below HR0_0.out ST.out.b) HC0_0.out HA_.out).mono ?_
  rintro e w5 ⟨rfl, hb⟩
  clear HA_
  replace ST := Zh (ST.out.step hb)
  clear hb
  have hc6 := ST.out.cell 0 rfl 0 (u := .slice A0_0 l0_0.length c0_0) rfl
  have hl7 := ST.out.lt 0 rfl
  by_cases c8 : t3 < 0
  · rw [if_pos c8] at h
    obtain rfl := Option.some.inj h
    have c8b : decide (t3 < 0) = true := decide_eq_true c8
    clear c8
    go_wp2
    go_ret
    exact ⟨rfl, ST.out.b⟩
  rw [if_neg c8] at h
  have c8b : decide (t3 < 0) = false := decide_eq_false c8
  clear c8
  go_wp2_with fail
  replace h := Option.bind_eq_some_iff.mp h
  obtain ⟨t9, HA_, h⟩ := h
  try dsimp only at h
  replace HA_ := Zh HA_
  with_reducible refine (laws_toDisk.calls k _ _ l0_0 t9 _ (Kd.C_below HR0_0.out ST.out.b) HC0_0.out HA_.out).mono ?_
  rintro e w11 ⟨v12, rfl, ho13, hb⟩
  clear HA_
  obtain ⟨A14, c15, rfl⟩ := Kd.S_slice ho13
  replace ST := Zh (ST.out.row hb ho13)
  clear hb ho13
  clear hc6 hl7
  go_wp2_with fail
  replace h := Option.bind_eq_some_iff.mp h
  obtain ⟨⟨t16, t17⟩, HA_, h⟩ := h
  try dsimp only at h
  replace HA_ := Zh HA_
  with_reducible refine (spec_RenameFile.calls k _ _ _ t9 a1 a2 t16 t17 _ (Kd.S_V (ST.out.own 0 rfl)) HA_.out).mono ?_
  rintro e w19 ⟨v20, rfl, ho21, hb⟩
  clear HA_
  obtain ⟨A22, c23, rfl⟩ := Kd.N_slice ho21
  replace ST := Zh (ST.out.seen 0 rfl hb ho21 (fun k_ hk_ => hk_))
  clear hb ho21
  have hc24 := ST.out.cell 2 rfl 0 (u := .slice A0_0 l0_0.length c0_0) rfl
  have hl25 := ST.out.lt 2 rfl
  go_wp2_with fail
  replace ST := Zh (ST.out.alloc #[.slice A22 t16.length c23] 29 (g := w19.heap.size) rfl)
  replace h := Option.bind_eq_some_iff.mp h
  obtain ⟨t26, HA_, h⟩ := h
  try dsimp only at h
  replace HA_ := Zh HA_
  with_reducible refine (laws_toDisk.calls k _ _ l0_0 t26 _ (Kd.C_below HR0_0.out ST.out.b) HC0_0.out HA_.out).mono ?_
  rintro e w28 ⟨v29, rfl, ho30, hb⟩
  clear HA_
  obtain ⟨A31, c32, rfl⟩ := Kd.S_slice ho30
  replace ST := Zh (ST.out.row hb ho30)
  clear hb ho30
  clear hc24 hl25
  go_wp2_with fail
  replace ST := Zh (ST.out.alloc #[.slice A31 t26.length c32] 29 (g := w28.heap.size) rfl)
  replace h := Option.bind_eq_some_iff.mp h
  obtain ⟨⟨t33, t34⟩, HA_, h⟩ := h
  try dsimp only at h
  replace HA_ := Zh HA_
  with_reducible refine (impl_RenameFile.calls k _ _ t26 a1 a2 t33 t34 _ (ST.out.reads 1 rfl).2.2 (ST.out.reads 1 rfl).2.1 HA_.out).mono ?_
  rintro e w36 ⟨v37, rfl, ho38, hb⟩
  clear HA_
  obtain ⟨A39, c40, rfl⟩ := Kd.S_slice ho38
  replace ST := Zh (ST.out.row hb ho38)
  clear hb ho38
  have hc41 := ST.out.cell 3 rfl 0 (u := .slice A22 t16.length c23) rfl
  have hl42 := ST.out.lt 3 rfl
  go_wp2_with fail
  replace ST := Zh (ST.out.alloc #[.slice A39 t33.length c40] 29 (g := w36.heap.size) rfl)
  replace h := Option.bind_eq_some_iff.mp h
  obtain ⟨t43, HA_, h⟩ := h
  try dsimp only at h
  replace HA_ := Zh HA_
  with_reducible refine (laws_eqDisk.calls k _ _ t33 _ _ t16 t43 _ (ST.out.reads 1 rfl).2.2 (ST.out.reads 1 rfl).2.1 (ST.out.views 5 rfl).2.2 (ST.out.views 5 rfl).2.1 HA_.out).mono ?_
  rintro e w45 ⟨rfl, hb⟩
  clear HA_
  replace ST := Zh (ST.out.step hb)
  clear hb
  obtain rfl : t43 = true := by
    cases t43 with
    | true => rfl
    | false => exact absurd h (by simp)
  first | rw [if_pos rfl] at h | rw [if_pos trivial] at h
  clear hc41 hl42
  have e46 : t34 = t17 := by
    refine Decidable.byContradiction fun e_ => ?_
    rw [if_neg e_] at h
    exact absurd h (by simp)
  rw [if_pos e46] at h
  obtain rfl : t17 = t34 := by first | exact e46 | exact e46.symm
  clear e46
  have hq47 : (t17 != t17) = false := bne_self_eq_false _
  go_wp2_with fail
  replace ST := Zh ST.out.drew
  refine start_ (n := 5) (S := fun w' => w'.cell? ⟨w28.heap.size, 0, none⟩ = some (.slice A31 t26.length c32) ∧ w'.cell? ⟨w.heap.size, 0, none⟩ = some (.slice A0_0 l0_0.length c0_0)) (ds := []) #[false, false, false, false, false] (by kernel_rfl) rfl rfl ⟨ST.out.cell 2 rfl 0 rfl, ST.out.cell 7 rfl 0 rfl⟩ (fun hHeld => ?_)
  generalize w45.drew = w48 at ST hHeld ⊢
  refine take_ (i := 0) (N := some 55) (v := ?_) (a' := ?_) #[true, false, false, false, false] rfl rfl (by kernel_rfl) (fun _ _ _ h => h) (Or.inl ⟨by rfl, ?_⟩) hHeld ?_ ?_
  rotate_left
  · rintro w' ⟨s0, s1⟩
    go_simp
    with_reducible rfl
  rotate_left
  · simp only [Act.put, List.setIfInBounds_toArray, List.set_cons_zero, List.set_cons_succ, i64_w, i32_w]
    rfl
  refine take_ (i := 1) (N := some 56) (v := ?_) (a' := ?_) #[true, true, false, false, false] rfl rfl (by kernel_rfl) (fun _ _ _ h => h) (Or.inl ⟨by rfl, ?_⟩) hHeld ?_ ?_
  rotate_left
  · rintro w' ⟨s0, s1⟩
    go_simp
    with_reducible rfl
  rotate_left
  · simp only [Act.put, List.setIfInBounds_toArray, List.set_cons_zero, List.set_cons_succ, i64_w, i32_w]
    rfl
  refine one_ (i := 2) (N := some 57) #[true, true, true, false, false] rfl rfl (by kernel_rfl) (by decide) (fun K hK => ?_)
  replace h := Option.bind_eq_some_iff.mp h
  obtain ⟨t49, HA_, h⟩ := h
  try dsimp only at h
  replace HA_ := Zh HA_
  refine goes_ Tryd.func16 (by kernel_rfl) rfl #[.agg #[.slice A0_0 l0_0.length c0_0]] (by rfl) rfl rfl (by (try simp only [List.map_toArray, List.map_cons, List.map_nil]); first | done | rfl) ?_
  with_reducible refine (laws_toDisk.calls k _ _ l0_0 t49 _ (Kd.C_below HR0_0.out ST.out.b) HC0_0.out HA_.out).mono ?_
  rintro e w51 ⟨v52, rfl, ho53, hb⟩
  clear HA_
  refine ⟨_, rfl, ?_⟩
  obtain ⟨A54, c55, rfl⟩ := Kd.S_slice ho53
  replace ST := Zh (ST.out.row hb ho53)
  clear hb ho53
  refine hK.out _ _ ⟨ST.out.cell 3 rfl 0 rfl, ST.out.cell 8 rfl 0 rfl⟩ (fun hHeld => ?_)
  clear hK K
  refine norm_ (a' := ?_) ?_ ?_
  rotate_left
  · show Act.put _ (some 57) _ = _
    simp only [Act.put, List.setIfInBounds_toArray, List.set_cons_zero, List.set_cons_succ, i64_w, i32_w]
    rfl
  refine one_ (i := 3) (N := some 58) #[true, true, true, true, false] rfl rfl (by kernel_rfl) (by decide) (fun K hK => ?_)
  replace h := Option.bind_eq_some_iff.mp h
  obtain ⟨t56, HA_, h⟩ := h
  try dsimp only at h
  replace HA_ := Zh HA_
  refine goes_ Tryd.func18 (by kernel_rfl) rfl #[.agg #[.slice A31 t26.length c32], .agg #[.slice A54 t49.length c55]] (by rfl) rfl rfl (by (try simp only [List.map_toArray, List.map_cons, List.map_nil]); first | done | rfl) ?_
  with_reducible refine (laws_eqDisk.calls k _ _ t26 _ _ t49 t56 _ (ST.out.reads 4 rfl).2.2 (ST.out.reads 4 rfl).2.1 (ST.out.reads 0 rfl).2.2 (ST.out.reads 0 rfl).2.1 HA_.out).mono ?_
  rintro e w58 ⟨rfl, hb⟩
  clear HA_
  refine ⟨_, rfl, ?_⟩
  replace ST := Zh (ST.out.step hb)
  clear hb
  obtain rfl : t56 = true := by
    cases t56 with
    | true => rfl
    | false => exact absurd h (by simp)
  first | rw [if_pos rfl] at h | rw [if_pos trivial] at h
  refine hK.out _ _ ⟨ST.out.cell 3 rfl 0 rfl, ST.out.cell 8 rfl 0 rfl⟩ (fun hHeld => ?_)
  clear hK K
  refine norm_ (a' := ?_) ?_ ?_
  rotate_left
  · show Act.put _ (some 58) _ = _
    simp only [Act.put, List.setIfInBounds_toArray, List.set_cons_zero, List.set_cons_succ, i64_w, i32_w]
    rfl
  refine pure_ (i := 4) (N := some 59) (v := ?_) (a' := ?_) #[true, true, true, true, true] rfl rfl (by kernel_rfl) (fun _ _ _ h => h) (Or.inl ⟨by rfl, ?_⟩) ?_ ?_
  rotate_left
  · intro w'
    go_simp
    with_reducible rfl
  rotate_left
  · simp only [Act.put, List.setIfInBounds_toArray, List.set_cons_zero, List.set_cons_succ, i64_w, i32_w]
    rfl
  refine done_ (by kernel_rfl) ?_
  have hc59 := ST.out.cell 3 rfl 0 (u := .slice A31 t26.length c32) rfl
  have hl60 := ST.out.lt 3 rfl
  go_wp2_with fail
  replace h := Option.bind_eq_some_iff.mp h
  obtain ⟨⟨t61, t62⟩, HA_, h⟩ := h
  try dsimp only at h
  replace HA_ := Zh HA_
  with_reducible refine (laws_markDisk.calls k _ _ t26 1 t61 t62 w _ ST.out.b (ST.out.own 4 rfl) HA_.out).mono ?_
  rintro e w64 ⟨rfl, ho65, hb, hk⟩
  clear HA_
  replace ST := Zh (ST.out.write 4 rfl ho65 hb hk)
  clear hb hk ho65
  have el66 := (ST.out.reads 4 rfl).1
  simp only [el66] at ST ⊢
  clear el66
  clear hc59 hl60
  have hc67 := ST.out.cell 1 rfl 0 (u := .slice A39 t33.length c40) rfl
  have hl68 := ST.out.lt 1 rfl
  have hc69 := ST.out.cell 5 rfl 0 (u := .slice A22 t16.length c23) rfl
  have hl70 := ST.out.lt 5 rfl
  by_cases c71 : t61 < 0
  · rw [if_pos c71] at h
    exact absurd h (by simp)
  rw [if_neg c71] at h
  have c71b : decide (t61 < 0) = false := decide_eq_false c71
  clear c71
  go_wp2_with fail
  replace h := Option.bind_eq_some_iff.mp h
  obtain ⟨t72, HA_, h⟩ := h
  try dsimp only at h
  replace HA_ := Zh HA_
  with_reducible refine (laws_eqDisk.calls k _ _ t33 _ _ t16 t72 _ (ST.out.reads 2 rfl).2.2 (ST.out.reads 2 rfl).2.1 (ST.out.views 6 rfl).2.2 (ST.out.views 6 rfl).2.1 HA_.out).mono ?_
  rintro e w74 ⟨rfl, hb⟩
  clear HA_
  replace ST := Zh (ST.out.step hb)
  clear hb
  obtain rfl : t72 = true := by
    cases t72 with
    | true => rfl
    | false => exact absurd h (by simp)
  first | rw [if_pos rfl] at h | rw [if_pos trivial] at h
  clear hc67 hl68 hc69 hl70
  have hc75 := ST.out.cell 1 rfl 0 (u := .slice A39 t33.length c40) rfl
  have hl76 := ST.out.lt 1 rfl
  first | rw [if_pos rfl] at h | rw [if_pos trivial] at h
  go_wp2_with fail
  replace h := Option.bind_eq_some_iff.mp h
  obtain ⟨⟨t77, t78⟩, HA_, h⟩ := h
  try dsimp only at h
  replace HA_ := Zh HA_
  with_reducible refine (laws_markDisk.calls k _ _ t33 1 t77 t78 w _ ST.out.b (ST.out.own 2 rfl) HA_.out).mono ?_
  rintro e w80 ⟨rfl, ho81, hb, hk⟩
  clear HA_
  replace ST := Zh (ST.out.write 2 rfl ho81 hb hk)
  clear hb hk ho81
  have el82 := (ST.out.reads 2 rfl).1
  simp only [el82] at ST ⊢
  clear el82
  clear hc75 hl76
  have hc83 := ST.out.cell 1 rfl 0 (u := .slice A39 t78.length c40) rfl
  have hl84 := ST.out.lt 1 rfl
  go_wp2_with fail
  replace h := Option.bind_eq_some_iff.mp h
  obtain ⟨t85, HA_, h⟩ := h
  try dsimp only at h
  replace HA_ := Zh HA_
  with_reducible refine (laws_heldDisk.calls k _ _ t78 1 t85 _ (ST.out.reads 2 rfl).2.2 (ST.out.reads 2 rfl).2.1 HA_.out).mono ?_
  rintro e w87 ⟨rfl, hb⟩
  clear HA_
  replace ST := Zh (ST.out.step hb)
  clear hb
  clear hc83 hl84
  have hc88 := ST.out.cell 8 rfl 0 (u := .slice A0_0 l0_0.length c0_0) rfl
  have hl89 := ST.out.lt 8 rfl
  by_cases c90 : t85 < 0
  · rw [if_pos c90] at h
    exact absurd h (by simp)
  rw [if_neg c90] at h
  have c90b : decide (t85 < 0) = false := decide_eq_false c90
  clear c90
  have e91 : t85 = t77 := by
    refine Decidable.byContradiction fun e_ => ?_
    rw [if_neg e_] at h
    exact absurd h (by simp)
  rw [if_pos e91] at h
  obtain rfl : t77 = t85 := by first | exact e91 | exact e91.symm
  clear e91
  have hq92 : (t77 != t77) = false := bne_self_eq_false _
  go_wp2_with fail
  replace h := Option.bind_eq_some_iff.mp h
  obtain ⟨t93, HA_, h⟩ := h
  try dsimp only at h
  replace HA_ := Zh HA_
  with_reducible refine (laws_toDisk.calls k _ _ l0_0 t93 _ (Kd.C_below HR0_0.out ST.out.b) HC0_0.out HA_.out).mono ?_
  rintro e w95 ⟨v96, rfl, ho97, hb⟩
  clear HA_
  obtain ⟨A98, c99, rfl⟩ := Kd.S_slice ho97
  replace ST := Zh (ST.out.row hb ho97)
  clear hb ho97
  clear hc88 hl89
  go_wp2_with fail
  replace h := Option.bind_eq_some_iff.mp h
  obtain ⟨⟨t100, t101⟩, HA_, h⟩ := h
  try dsimp only at h
  replace HA_ := Zh HA_
  with_reducible refine (impl_RenameFile.calls k _ _ t93 a1 a2 t100 t101 _ (ST.out.reads 0 rfl).2.2 (ST.out.reads 0 rfl).2.1 HA_.out).mono ?_
  rintro e w103 ⟨v104, rfl, ho105, hb⟩
  clear HA_
  obtain ⟨A106, c107, rfl⟩ := Kd.S_slice ho105
  replace ST := Zh (ST.out.row hb ho105)
  clear hb ho105
  have hc108 := ST.out.cell 7 rfl 0 (u := .slice A22 t16.length c23) rfl
  have hl109 := ST.out.lt 7 rfl
  go_wp2_with fail
  replace ST := Zh (ST.out.alloc #[.slice A106 t100.length c107] 29 (g := w103.heap.size) rfl)
  replace h := Option.bind_eq_some_iff.mp h
  obtain ⟨t110, HA_, h⟩ := h
  try dsimp only at h
  replace HA_ := Zh HA_
  with_reducible refine (laws_eqDisk.calls k _ _ t100 _ _ t16 t110 _ (ST.out.reads 1 rfl).2.2 (ST.out.reads 1 rfl).2.1 (ST.out.views 9 rfl).2.2 (ST.out.views 9 rfl).2.1 HA_.out).mono ?_
  rintro e w112 ⟨rfl, hb⟩
  clear HA_
  replace ST := Zh (ST.out.step hb)
  clear hb
  obtain rfl : t110 = true := by
    cases t110 with
    | true => rfl
    | false => exact absurd h (by simp)
  first | rw [if_pos rfl] at h | rw [if_pos trivial] at h
  clear hc108 hl109
  have hc113 := ST.out.cell 4 rfl 0 (u := .slice A39 t78.length c40) rfl
  have hl114 := ST.out.lt 4 rfl
  have e115 : t101 = t17 := by
    refine Decidable.byContradiction fun e_ => ?_
    rw [if_neg e_] at h
    exact absurd h (by simp)
  rw [if_pos e115] at h
  obtain rfl : t17 = t101 := by first | exact e115 | exact e115.symm
  clear e115
  have hq116 : (t17 != t17) = false := bne_self_eq_false _
  go_wp2_with fail
  replace h := Option.bind_eq_some_iff.mp h
  obtain ⟨t117, HA_, h⟩ := h
  try dsimp only at h
  replace HA_ := Zh HA_
  with_reducible refine (laws_heldDisk.calls k _ _ t78 1 t117 _ (ST.out.reads 5 rfl).2.2 (ST.out.reads 5 rfl).2.1 HA_.out).mono ?_
  rintro e w119 ⟨rfl, hb⟩
  clear HA_
  replace ST := Zh (ST.out.step hb)
  clear hb
  clear hc113 hl114
  by_cases c120 : t117 < 0
  · rw [if_pos c120] at h
    exact absurd h (by simp)
  rw [if_neg c120] at h
  have c120b : decide (t117 < 0) = false := decide_eq_false c120
  clear c120
  have e121 : t117 = t77 := by
    refine Decidable.byContradiction fun e_ => ?_
    rw [if_neg e_] at h
    exact absurd h (by simp)
  rw [if_pos e121] at h
  obtain rfl : t77 = t117 := by first | exact e121 | exact e121.symm
  clear e121
  have hq122 : (t77 != t77) = false := bne_self_eq_false _
  obtain rfl := Option.some.inj h
  go_wp2
  go_ret
  exact ⟨rfl, ST.out.b⟩
end Go.Proofs.YtmgeffgcihfpcaaDoor.F

namespace Go.Proofs.YtmgeffgcihfpcaaDoor.PK
set_option linter.unusedVariables false
set_option linter.unusedSimpArgs false
open Go.RowKit Go.Proofs.YtmgeffgcihfpcaaDoorW.PrintWords
theorem EvS {α : Type} {g : Nat → Option α} {r : α} (h : Ev (fun k => g (k + 1)) r) : Ev g r := by
  obtain ⟨K, h⟩ := h
  refine ⟨K + 1, fun k hk => ?_⟩
  obtain ⟨m, rfl⟩ : ∃ m, k = m + 1 := ⟨k - 1, by omega⟩
  exact h m (by omega)
theorem EvB {α β : Type} {g : Nat → Option α} {f : Nat → α → Option β} {a : α} {r : β} (h : Ev g a) : Ev (fun k => (g k).bind (f k)) r ↔ Ev (fun k => f k a) r := by
  obtain ⟨K, h⟩ := h
  constructor
  · rintro ⟨K', h'⟩
    refine ⟨max K K', fun k hk => ?_⟩
    have h2 : (g k).bind (f k) = some r := h' k (by omega)
    rw [h k (by omega)] at h2
    exact h2
  rintro ⟨K', h'⟩
  refine ⟨max K K', fun k hk => ?_⟩
  show (g k).bind (f k) = some r
  rw [h k (by omega)]
  exact h' k (by omega)
theorem EvN {α : Type} {r : α} : Ev (fun _ => some r) r := ⟨0, fun _ _ => rfl⟩
theorem EvE {α : Type} {g : Nat → Option α} {r : α} (h : Ev g r) : ∃ k, g k = some r := h.rounds
theorem w64 {x : Int} (h : -9223372036854775808 ≤ x) (h' : x ≤ 9223372036854775807) : wrap64 x = x := by
  unfold wrap64
  omega
theorem up {P : Int → Prop} (n : Nat) (base : P n) (step : ∀ i : Nat, i < n → P ((i + 1 : Nat) : Int) → P (i : Int)) : ∀ i : Nat, i ≤ n → P (i : Int) := by
  intro i hi
  obtain ⟨d, hd⟩ : ∃ d, d + i = n := ⟨n - i, by omega⟩
  induction d generalizing i with
  | zero => have : i = n := by omega
            subst this
            exact base
  | succ d ih => exact step i (by omega) (ih (i + 1) (by omega) (by omega))
theorem up0 {P : Int → Prop} (n : Nat) (base : P n) (step : ∀ i : Nat, i < n → P ((i + 1 : Nat) : Int) → P (i : Int)) : P 0 := up n base step 0 (Nat.zero_le _)
theorem getD_nat {α : Type} (l : List α) (z : α) (i : Nat) (h : i < l.length) : l.getD ((i : Int).toNat) z = l[i] := by
  simp [List.getD_eq_getElem?_getD, List.getElem?_eq_getElem h]
theorem drop_at {α : Type} (l : List α) (i : Nat) (h : i < l.length) : l.drop i = l[i] :: l.drop (i + 1) := List.drop_eq_getElem_cons h
end Go.Proofs.YtmgeffgcihfpcaaDoor.PK

namespace Go.Proofs.YtmgeffgcihfpcaaDoor.DK
set_option linter.unusedVariables false
set_option linter.unusedSimpArgs false
open Go.RowKit Go.Proofs.YtmgeffgcihfpcaaDoor.F Go.Proofs.YtmgeffgcihfpcaaDoor.PK Go.Proofs.YtmgeffgcihfpcaaDoorW.PrintWords Go.Proofs.YtmgeffgcihfpcaaDoorW.PrintLast Go.Proofs.YtmgeffgcihfpcaaDoorW.PrintMore
theorem nxt (i n : Nat) (h : i < n) (hn : n ≤ 9223372036854775807) : wrap64 ((i : Int) + 1) = ((i + 1 : Nat) : Int) := by rw [w64 (by omega) (by omega)]; omega
def inB (b : UInt8) : Bool := decide ((97 ≤ b.toNat ∧ b.toNat ≤ 122) ∨ (48 ≤ b.toNat ∧ b.toNat ≤ 57))
def nameM (s : ByteArray) : Bool := s.data.toList.all inB && decide (1 ≤ s.size ∧ s.size ≤ 12)
theorem bt_get (s : ByteArray) (i : Nat) (h : i < s.data.toList.length) : bt s (i : Int) = (s.data.toList[i].toNat : Int) := by
  have hs : i < s.size := by rw [← data_length]; exact h
  unfold bt
  rw [dif_pos (show (i : Int).toNat < s.size by rw [Int.toNat_natCast]; exact hs)]
  simp
  rfl
theorem spec_name (s : ByteArray) (hs : s.size ≤ 9223372036854775807) : Ev (fun k => spec_l01Name.f k s) (nameM s) := by
  have hl := data_length s
  have key := up0 (P := fun i => Ev (fun k => spec_l01Name.l0 k s i) ((s.data.toList.drop i.toNat).all inB && decide (1 ≤ s.size ∧ s.size ≤ 12))) s.size
    (EvS (by
      simp only [spec_l01Name.l0, Int.lt_irrefl, if_false, Int.toNat_natCast, spec_l01In.f]
      rw [List.drop_eq_nil_of_le (by omega), List.all_nil, Bool.true_and]
      by_cases h1 : 1 ≤ (s.size : Int)
      · simp only [if_pos h1, Option.bind_some]
        rw [show decide ((s.size : Int) ≤ 12) = decide (1 ≤ s.size ∧ s.size ≤ 12) from decide_eq_decide.2 (by omega)]
        exact EvN
      simp only [if_neg h1, Option.bind_some]
      rw [decide_eq_false (show ¬ (1 ≤ s.size ∧ s.size ≤ 12) by omega)]
      exact EvN))
    (fun i hi ih => EvS (by
      have hil : i < s.data.toList.length := by omega
      rw [Int.toNat_natCast] at *
      rw [drop_at _ i hil, List.all_cons]
      simp only [spec_l01Name.l0, if_pos (show (i : Int) < (s.size : Int) by omega), if_pos (show 0 ≤ (i : Int) by omega), nxt i _ hi hs]
      have hb := bt_get s i hil
      generalize bt s (i : Int) = x at hb ⊢
      generalize s.data.toList[i] = b at hb ⊢
      by_cases c1 : x ≥ 97
      · by_cases c2 : x ≤ 122
        · simp only [if_pos c1, if_pos c2, show inB b = true from decide_eq_true (by omega), Bool.true_and]; exact ih
        by_cases c3 : x ≥ 48
        · simp only [if_pos c1, if_neg c2, if_pos c3, if_neg (show ¬ x ≤ 57 by omega), show inB b = false from decide_eq_false (by omega), Bool.false_and]; exact EvN
        omega
      by_cases c3 : x ≥ 48
      · by_cases c4 : x ≤ 57
        · simp only [if_neg c1, if_pos c3, if_pos c4, show inB b = true from decide_eq_true (by omega), Bool.true_and]; exact ih
        simp only [if_neg c1, if_pos c3, if_neg c4, show inB b = false from decide_eq_false (by omega), Bool.false_and]; exact EvN
      simp only [if_neg c1, if_neg c3, show inB b = false from decide_eq_false (by omega), Bool.false_and]; exact EvN))
  unfold spec_l01Name.f nameM
  exact key
def cutB : List UInt8 := [97, 98, 99, 100, 101, 102, 103, 104, 105, 106, 107, 108, 109, 110, 111, 112, 113, 114, 115, 116, 117, 118, 119, 120, 121, 122, 48, 49, 50, 51, 52, 53, 54, 55, 56, 57]
theorem cut_in (b : UInt8) : cutB.contains b = inB b := by
  have h : ∀ n : Fin 256, cutB.contains (UInt8.ofNat n.val) = inB (UInt8.ofNat n.val) := by decide +kernel
  have := h ⟨b.toNat, b.toNat_lt⟩
  simpa using this
theorem dw_nil {α : Type} (p : α → Bool) : ∀ l : List α, l.dropWhile p = [] ↔ ∀ x ∈ l, p x = true
  | [] => by simp
  | a :: l => by
    rw [List.dropWhile_cons]
    by_cases h : p a = true
    · rw [if_pos h, dw_nil p l]
      simp [h]
    rw [if_neg h]
    simp [h]
theorem dw_head {α : Type} (p : α → Bool) : ∀ (l : List α) (x : α) (r : List α), l.dropWhile p = x :: r → p x = false
  | [], x, r, h => by simp at h
  | a :: l, x, r, h => by
    rw [List.dropWhile_cons] at h
    by_cases hp : p a = true
    · rw [if_pos hp] at h
      exact dw_head p l x r h
    rw [if_neg hp] at h
    injection h with h1 _
    rw [← h1]
    exact Bool.eq_false_iff.2 hp
theorem dw_mem {α : Type} (p : α → Bool) : ∀ (l : List α) (x : α), x ∈ l.dropWhile p → x ∈ l
  | [], x, h => by simp at h
  | a :: l, x, h => by
    rw [List.dropWhile_cons] at h
    by_cases hp : p a = true
    · rw [if_pos hp] at h
      exact List.mem_cons_of_mem _ (dw_mem p l x h)
    rw [if_neg hp] at h
    exact h
theorem trim_nil (l : List UInt8) : (Go.Lib.trimS l cutB == []) = l.all inB := by
  unfold Go.Lib.trimS Go.Lib.trimLeftS Go.Lib.trimRightS
  rw [Bool.eq_iff_iff, beq_iff_eq, dw_nil, List.all_eq_true]
  constructor
  · intro h
    have hd : l.reverse.dropWhile (cutB.contains ·) = [] := by
      cases hq : l.reverse.dropWhile (cutB.contains ·) with
      | nil => rfl
      | cons x r =>
        have h1 := h x (by rw [hq]; simp)
        have h2 := dw_head (cutB.contains ·) _ _ _ hq
        rw [h1] at h2
        cases h2
    rw [dw_nil] at hd
    intro x hx
    rw [← cut_in]
    exact hd x (List.mem_reverse.2 hx)
  intro h x hx
  rw [cut_in]
  exact h x (List.mem_reverse.1 (dw_mem _ _ _ (List.mem_reverse.1 hx)))
theorem impl_name (s : ByteArray) (hs : s.size ≤ 9223372036854775807) : impl_isFileName.f s = some (nameM s) := by
  unfold impl_isFileName.f nameM
  by_cases h1 : (s.size : Int) ≥ 1
  · by_cases h2 : (s.size : Int) ≤ 12
    · have ht : trimF.f s (⟨#[97, 98, 99, 100, 101, 102, 103, 104, 105, 106, 107, 108, 109, 110, 111, 112, 113, 114, 115, 116, 117, 118, 119, 120, 121, 122, 48, 49, 50, 51, 52, 53, 54, 55, 56, 57]⟩ : ByteArray) = some ⟨(Go.Lib.trimS s.data.toList cutB).toArray⟩ := by
        unfold trimF.f
        rw [if_pos ⟨hs, by decide, by decide⟩]
        rfl
      simp only [if_pos h1, if_pos h2, ht, Option.bind_some]
      rw [Go.Lib.toList_data, trim_nil, decide_eq_true (show 1 ≤ s.size ∧ s.size ≤ 12 by omega), Bool.and_true]
    simp only [if_pos h1, if_neg h2]
    rw [decide_eq_false (show ¬ (1 ≤ s.size ∧ s.size ≤ 12) by omega), Bool.and_false]
  simp only [if_neg h1]
  rw [decide_eq_false (show ¬ (1 ≤ s.size ∧ s.size ≤ 12) by omega), Bool.and_false]
end Go.Proofs.YtmgeffgcihfpcaaDoor.DK

namespace Go.Proofs.YtmgeffgcihfpcaaDoor.BY
set_option linter.unusedVariables false
set_option linter.unusedSimpArgs false
open Go.RowKit Go.Proofs.YtmgeffgcihfpcaaDoor.F Go.Proofs.YtmgeffgcihfpcaaDoor.PK Go.Proofs.YtmgeffgcihfpcaaDoorW.PrintWords Go.Proofs.YtmgeffgcihfpcaaDoorW.PrintLast
theorem rd_at (l : List Int) (i : Nat) (h : i < l.length) : rd l (i : Int) = l[i] := getD_nat l _ i h
theorem nxt (i n : Nat) (h : i < n) (hn : n ≤ 9223372036854775807) : wrap64 ((i : Int) + 1) = ((i + 1 : Nat) : Int) := by rw [w64 (by omega) (by omega)]; omega
theorem toByteS (l : List Int) (hl : l.length ≤ 1048576) : Ev (fun k => laws_toByteS.f k l) l := by
  have key := up (P := fun i => ∀ x : List Int, x.length = l.length → (∀ j : Nat, (j : Int) < i → x[j]? = l[j]?) → Ev (fun k => laws_toByteS.l0 k l x i) l) l.length
      (fun x h0 h1 => by
        have : x = l := List.ext_getElem? fun j => by
          by_cases hj : j < l.length
          · exact h1 j (by omega)
          rw [List.getElem?_eq_none (by omega), List.getElem?_eq_none (by omega)]
        subst this
        exact EvS (by simp only [laws_toByteS.l0, Int.lt_irrefl, if_false]; exact EvN))
      (fun i hi ih x h0 h1 => by
        refine EvS ?_
        simp only [laws_toByteS.l0, rd_at l i hi, Option.bind_some, h0, Int.toNat_natCast, if_pos (show (i : Int) < (l.length : Int) by omega), if_pos (show 0 ≤ (i : Int) by omega), nxt i _ hi (by omega)]
        refine ih _ (by simpa using h0) fun j hj => ?_
        by_cases hji : j = i
        · subst hji
          rw [List.getElem?_set_self (by omega)]
          simp [List.getElem?_eq_getElem hi]
        rw [List.getElem?_set_ne (by omega)]
        exact h1 j (by omega))
  have := key 0 (Nat.zero_le _) (List.replicate l.length 0) (by simp) (fun j hj => absurd hj (by omega))
  unfold laws_toByteS.f
  simp only [Int.toNat_natCast, if_pos (show 0 ≤ (l.length : Int) by omega), if_pos (show l.length ≤ 281474976710656 by omega)]
  exact this
theorem eqByteS (x : List Int) (hx : x.length ≤ 9223372036854775807) : Ev (fun k => laws_eqByteS.f k x x) true := by
  have key := up (P := fun i => Ev (fun k => laws_eqByteS.l0 k x x i) true) x.length
    (EvS (by simp only [laws_eqByteS.l0, Int.lt_irrefl, if_false]; exact EvN))
    (fun i hi ih => EvS (by simp only [laws_eqByteS.l0, if_true, Option.bind_some, if_pos (show (i : Int) < (x.length : Int) by omega), if_pos (show 0 ≤ (i : Int) by omega), nxt i _ hi hx]; exact ih))
  have := key 0 (Nat.zero_le _)
  unfold laws_eqByteS.f
  simp only [if_true]
  exact this
end Go.Proofs.YtmgeffgcihfpcaaDoor.BY

namespace Go.Proofs.YtmgeffgcihfpcaaDoor.DK
set_option linter.unusedVariables false
set_option linter.unusedSimpArgs false
open Go.RowKit Go.Proofs.YtmgeffgcihfpcaaDoor.F Go.Proofs.YtmgeffgcihfpcaaDoor.PK Go.Proofs.YtmgeffgcihfpcaaDoorW.PrintWords Go.Proofs.YtmgeffgcihfpcaaDoorW.PrintLast Go.Proofs.YtmgeffgcihfpcaaDoorW.PrintMore
open Go.Proofs.YtmgeffgcihfpcaaDoor.BY (toByteS eqByteS)
theorem rd74 (l : List S74) (i : Nat) (h : i < l.length) : rd_T74 l (i : Int) = l[i] := getD_nat l _ i h
theorem rd101 (l : List S101) (i : Nat) (h : i < l.length) : rd_T101 l (i : Int) = l[i] := getD_nat l _ i h
def conv101 (x : S101) : S74 := ⟨x.f0, x.f1, x.f2⟩
theorem toFile (a : ByteArray) (b c : List Int) (hb : b.length ≤ 1048576) (hc : c.length ≤ 1048576) : Ev (fun k => laws_toFile.f k a b c) (a, b, c) := by
  unfold laws_toFile.f
  simp only [EvB (toByteS b hb), EvB (toByteS c hc)]
  exact EvN
theorem toFileS (l : List S101) (hl : l.length ≤ 1048576) (hs : ∀ y ∈ l, y.f1.length ≤ 1048576 ∧ y.f2.length ≤ 1048576) : Ev (fun k => laws_toFileS.f k l) (l.map conv101) := by
  have key := up (P := fun i => ∀ x : List S74, x.length = l.length → (∀ j : Nat, (j : Int) < i → x[j]? = (l.map conv101)[j]?) → Ev (fun k => laws_toFileS.l0 k l x i) (l.map conv101)) l.length
      (fun x h0 h1 => by
        have : x = l.map conv101 := List.ext_getElem? fun j => by
          by_cases hj : j < l.length
          · exact h1 j (by omega)
          rw [List.getElem?_eq_none (by omega), List.getElem?_eq_none (by rw [List.length_map]; omega)]
        subst this
        exact EvS (by simp only [laws_toFileS.l0, Int.lt_irrefl, if_false]; exact EvN))
      (fun i hi ih x h0 h1 => by
        have hy := hs _ (List.getElem_mem hi)
        refine EvS ?_
        simp only [laws_toFileS.l0, rd101 l i hi, EvB (toFile l[i].f0 l[i].f1 l[i].f2 hy.1 hy.2), h0, Int.toNat_natCast, if_pos (show (i : Int) < (l.length : Int) by omega), if_pos (show 0 ≤ (i : Int) by omega), nxt i _ hi (by omega)]
        refine ih _ (by simpa using h0) fun j hj => ?_
        by_cases hji : j = i
        · subst hji
          rw [List.getElem?_set_self (by omega)]
          simp [List.getElem?_eq_getElem hi, conv101]
        rw [List.getElem?_set_ne (by omega)]
        exact h1 j (by omega))
  have := key 0 (Nat.zero_le _) (List.replicate l.length z74) (by simp) (fun j hj => absurd hj (by omega))
  unfold laws_toFileS.f
  have hS : (l.length ≤ 4398046511104) = True := eq_true (by omega)
  simp only [Int.toNat_natCast, if_pos (show 0 ≤ (l.length : Int) by omega), hS, if_true]
  exact this
theorem toDisk (l : List S101) (hl : l.length ≤ 1048576) (hs : ∀ y ∈ l, y.f1.length ≤ 1048576 ∧ y.f2.length ≤ 1048576) : Ev (fun k => laws_toDisk.f k l) (l.map conv101) := by
  unfold laws_toDisk.f
  simp only [EvB (toFileS l hl hs)]
  exact EvN
theorem szByteS (l : List Int) (c : Int) (h0 : 0 ≤ c) (h1 : c ≤ 1048576) (hl : l.length ≤ 9223372036854775807) : ∃ t, laws_szByteS.f l c = some t ∧ t ≤ c ∧ (0 ≤ t → (l.length : Int) ≤ c) := by
  unfold laws_szByteS.f
  rw [w64 (by omega) (by omega)]
  split
  · exact ⟨_, rfl, by omega, by omega⟩
  exact ⟨_, rfl, by omega, by omega⟩
theorem szFile (a : ByteArray) (b d : List Int) (c : Int) (h0 : 0 ≤ c) (h1 : c ≤ 1048576) (ha : a.size ≤ 9223372036854775807) (hb : b.length ≤ 9223372036854775807) (hd : d.length ≤ 9223372036854775807) : ∃ t, laws_szFile.f a b d c = some t ∧ t ≤ c ∧ (0 ≤ t → b.length ≤ 1048576 ∧ d.length ≤ 1048576) := by
  unfold laws_szFile.f
  rw [w64 (by omega) (by omega)]
  by_cases g : c - (a.size : Int) < 0
  · exact ⟨-1, by rw [if_pos g], by omega, by omega⟩
  obtain ⟨t, e, a1, a2⟩ := szByteS b (c - (a.size : Int)) (by omega) (by omega) hb
  by_cases g1 : t < 0
  · exact ⟨-1, by simp only [if_neg g, e, Option.bind_some, if_pos g1], by omega, by omega⟩
  obtain ⟨u, e2, b1, b2⟩ := szByteS d t (by omega) (by omega) hd
  by_cases g2 : u < 0
  · exact ⟨-1, by simp only [if_neg g, e, Option.bind_some, if_neg g1, e2, if_pos g2], by omega, by omega⟩
  exact ⟨u, by simp only [if_neg g, e, Option.bind_some, if_neg g1, e2, if_neg g2], by omega, by omega⟩
def wfF (l : List S101) : Prop := ∀ y ∈ l, y.f0.size ≤ 9223372036854775807 ∧ y.f1.length ≤ 9223372036854775807 ∧ y.f2.length ≤ 9223372036854775807
theorem szFileS (l : List S101) (hl : l.length ≤ 9223372036854775807) (hs : wfF l) : ∃ t, Ev (fun k => laws_szFileS.f k l 1048576) t ∧ (0 ≤ t → l.length ≤ 1048576 ∧ ∀ y ∈ l, y.f1.length ≤ 1048576 ∧ y.f2.length ≤ 1048576) := by
  by_cases h : (1048576 - (l.length : Int)) < 0
  · refine ⟨-1, ?_, by omega⟩
    unfold laws_szFileS.f
    rw [w64 (by omega) (by omega)]
    simp only [if_pos h]
    exact EvN
  have key := up (P := fun i => ∀ x, 0 ≤ x → x ≤ 1048576 → ∃ t, Ev (fun k => laws_szFileS.l0 k l x i) t ∧ (0 ≤ t → ∀ y ∈ l.drop i.toNat, y.f1.length ≤ 1048576 ∧ y.f2.length ≤ 1048576)) l.length
    (fun x g0 g1 => ⟨x, EvS (by simp only [laws_szFileS.l0, Int.lt_irrefl, if_false]; exact EvN), fun _ y hy => by rw [Int.toNat_natCast, List.drop_length] at hy; cases hy⟩)
    (fun i hi ih x g0 g1 => by
      have hz := hs _ (List.getElem_mem hi)
      obtain ⟨t, e1, e2, e3⟩ := szFile l[i].f0 l[i].f1 l[i].f2 x g0 g1 hz.1 hz.2.1 hz.2.2
      by_cases h2 : t < 0
      · refine ⟨-1, EvS ?_, by omega⟩
        simp only [laws_szFileS.l0, rd101 l i hi, e1, Option.bind_some, if_pos h2, if_pos (show (i : Int) < (l.length : Int) by omega), if_pos (show 0 ≤ (i : Int) by omega)]
        exact EvN
      obtain ⟨t', h3, h4⟩ := ih t (by omega) (by omega)
      refine ⟨t', EvS ?_, fun ht y hy => ?_⟩
      · simp only [laws_szFileS.l0, rd101 l i hi, e1, Option.bind_some, if_neg h2, if_pos (show (i : Int) < (l.length : Int) by omega), if_pos (show 0 ≤ (i : Int) by omega), nxt i _ hi hl]
        exact h3
      rw [Int.toNat_natCast, drop_at l i hi] at hy
      rcases List.mem_cons.1 hy with rfl | hy
      · exact e3 (by omega)
      exact h4 ht y (by rw [Int.toNat_natCast]; exact hy))
  obtain ⟨t, h2, h3⟩ := key 0 (Nat.zero_le _) (1048576 - (l.length : Int)) (by omega) (by omega)
  refine ⟨t, ?_, fun ht => ⟨by omega, fun y hy => h3 ht y (by simpa using hy)⟩⟩
  unfold laws_szFileS.f
  rw [w64 (by omega) (by omega)]
  simp only [if_neg h]
  exact h2
theorem szDisk (l : List S101) (hl : l.length ≤ 9223372036854775807) (hs : wfF l) : ∃ t, Ev (fun k => laws_szDisk.f k l 1048576) t ∧ (0 ≤ t → l.length ≤ 1048576 ∧ ∀ y ∈ l, y.f1.length ≤ 1048576 ∧ y.f2.length ≤ 1048576) := by
  obtain ⟨t, h1, h2⟩ := szFileS l hl hs
  unfold laws_szDisk.f
  by_cases h : t < 0
  · exact ⟨-1, by simp only [EvB h1, if_pos h]; exact EvN, by omega⟩
  exact ⟨t, by simp only [EvB h1, if_neg h]; exact EvN, h2⟩
theorem eqFile (a : ByteArray) (b c : List Int) (hb : b.length ≤ 9223372036854775807) (hc : c.length ≤ 9223372036854775807) : Ev (fun k => laws_eqFile.f k a b c a b c) true := by
  unfold laws_eqFile.f
  simp only [if_true, EvB (eqByteS b hb), EvB (eqByteS c hc)]
  exact EvN
theorem eqFileS (x : List S74) (hx : x.length ≤ 9223372036854775807) (hy : ∀ y ∈ x, y.f1.length ≤ 9223372036854775807 ∧ y.f2.length ≤ 9223372036854775807) : Ev (fun k => laws_eqFileS.f k x x) true := by
  have key := up (P := fun i => Ev (fun k => laws_eqFileS.l0 k x x i) true) x.length
    (EvS (by simp only [laws_eqFileS.l0, Int.lt_irrefl, if_false]; exact EvN))
    (fun i hi ih => EvS (by
      have e := eqFile x[i].f0 x[i].f1 x[i].f2 (hy _ (List.getElem_mem hi)).1 (hy _ (List.getElem_mem hi)).2
      simp only [laws_eqFileS.l0, rd74 x i hi, if_pos (show (i : Int) < (x.length : Int) by omega), if_pos (show 0 ≤ (i : Int) by omega), EvB e, if_true, nxt i _ hi hx]; exact ih))
  have := key 0 (Nat.zero_le _)
  unfold laws_eqFileS.f
  simp only [if_true]
  exact this
theorem eqDisk (x : List S74) (hx : x.length ≤ 9223372036854775807) (hy : ∀ y ∈ x, y.f1.length ≤ 9223372036854775807 ∧ y.f2.length ≤ 9223372036854775807) : Ev (fun k => laws_eqDisk.f k x x) true := by
  unfold laws_eqDisk.f
  simp only [EvB (eqFileS x hx hy), if_true]
  exact EvN
def okAt (l : List S74) (i : Nat) : Bool := nameM (rd_T74 l i).f0 && (decide ((rd_T74 l i).f1.length + (rd_T74 l i).f2.length ≤ 20000) && (decide (i = 0) || Op.bytesLess (rd_T74 l ((i - 1 : Nat) : Int)).f0.toList (rd_T74 l i).f0.toList))
def goD (l : List S74) : Nat → Nat → Bool
  | 0, _ => true
  | d + 1, i => okAt l i && goD l d (i + 1)
def diskM (l : List S74) : Bool := decide (l.length ≤ 8) && goD l l.length 0
def wfD (l : List S74) : Prop := ∀ y ∈ l, y.f0.size ≤ 9223372036854775807 ∧ y.f1.length ≤ 1048576 ∧ y.f2.length ≤ 1048576
theorem specGo (l : List S74) (hl : l.length ≤ 1048576) (hw : wfD l) : ∀ d i : Nat, d + i = l.length → Ev (fun k => spec_DiskOk.l0 k i l) (goD l d i) := by
  intro d
  induction d with
  | zero =>
    intro i hi
    refine EvS ?_
    simp only [spec_DiskOk.l0, if_neg (show ¬ (i : Int) < (l.length : Int) by omega)]
    exact EvN
  | succ d ih =>
    intro i hi
    have hil : i < l.length := by omega
    have hy := hw _ (List.getElem_mem hil)
    refine EvS ?_
    have hn := spec_name l[i].f0 hy.1
    have h := ih (i + 1) (by omega)
    rw [← rd74 l i hil] at hn hy
    unfold goD okAt
    simp only [spec_DiskOk.l0, if_pos (show (i : Int) < (l.length : Int) by omega), if_pos (show 0 ≤ (i : Int) by omega), EvB hn, nxt i _ hil (by omega)]
    generalize rd_T74 l (i : Int) = y at hy hn ⊢
    by_cases c1 : nameM y.f0 = true
    · by_cases c2 : (y.f1.length : Int) > 20000
      · simp only [if_pos c1, if_pos c2, decide_eq_false (show ¬ y.f1.length + y.f2.length ≤ 20000 by omega), Bool.false_and, Bool.and_false]; exact EvN
      have hw1 : wrap64 (20000 - (y.f1.length : Int)) = 20000 - (y.f1.length : Int) := w64 (by omega) (by omega)
      by_cases c3 : (y.f2.length : Int) > 20000 - (y.f1.length : Int)
      · simp only [if_pos c1, if_neg c2, hw1, if_pos c3, decide_eq_false (show ¬ y.f1.length + y.f2.length ≤ 20000 by omega), Bool.false_and, Bool.and_false]; exact EvN
      simp only [if_pos c1, if_neg c2, hw1, if_neg c3, c1, decide_eq_true (show y.f1.length + y.f2.length ≤ 20000 by omega), Bool.true_and]
      by_cases c4 : i = 0
      · simp only [if_neg (show ¬ (i : Int) > 0 by omega), decide_eq_true c4, Bool.true_or, Bool.true_and]; exact h
      have hw2 : wrap64 ((i : Int) - 1) = ((i - 1 : Nat) : Int) := by rw [w64 (by omega) (by omega)]; omega
      simp only [if_pos (show (i : Int) > 0 by omega), hw2, if_pos (show 0 ≤ ((i - 1 : Nat) : Int) by omega), if_pos (show ((i - 1 : Nat) : Int) < (l.length : Int) by omega), decide_eq_false c4, Bool.false_or]
      by_cases c5 : Op.bytesLess (rd_T74 l ((i - 1 : Nat) : Int)).f0.toList y.f0.toList = true
      · simp only [if_pos c5, c5, Bool.true_and]; exact h
      simp only [if_neg c5, Bool.eq_false_iff.2 c5, Bool.false_and]; exact EvN
    simp only [if_neg c1, Bool.eq_false_iff.2 c1, Bool.false_and]; exact EvN
theorem implGo (l : List S74) (hl : l.length ≤ 1048576) (hw : wfD l) : ∀ d i : Nat, d + i = l.length → Ev (fun k => impl_isDisk.l0 k l (l.length : Int) i l) (goD l d i && decide (l.length ≤ 8)) := by
  intro d
  induction d with
  | zero =>
    intro i hi
    refine EvS ?_
    simp only [impl_isDisk.l0, if_neg (show ¬ (i : Int) < (l.length : Int) by omega), goD, Bool.true_and]
    rw [show decide ((l.length : Int) ≤ 8) = decide (l.length ≤ 8) from decide_eq_decide.2 (by omega)]
    exact EvN
  | succ d ih =>
    intro i hi
    have hil : i < l.length := by omega
    have hy := hw _ (List.getElem_mem hil)
    refine EvS ?_
    have hn := impl_name l[i].f0 hy.1
    have h := ih (i + 1) (by omega)
    rw [← rd74 l i hil] at hn hy
    unfold goD okAt
    simp only [impl_isDisk.l0, if_pos (show (i : Int) < (l.length : Int) by omega), if_pos (show 0 ≤ (i : Int) by omega), hn, Option.bind_some, nxt i _ hil (by omega)]
    generalize rd_T74 l (i : Int) = y at hy hn ⊢
    by_cases c1 : nameM y.f0 = true
    · have hw1 : wrap64 ((y.f1.length : Int) + (y.f2.length : Int)) = (y.f1.length : Int) + (y.f2.length : Int) := w64 (by omega) (by omega)
      by_cases c3 : (y.f1.length : Int) + (y.f2.length : Int) > 20000
      · simp only [if_pos c1, hw1, if_pos c3, decide_eq_false (show ¬ y.f1.length + y.f2.length ≤ 20000 by omega), Bool.false_and, Bool.and_false]; exact EvN
      simp only [if_pos c1, hw1, if_neg c3, c1, decide_eq_true (show y.f1.length + y.f2.length ≤ 20000 by omega), Bool.true_and]
      by_cases c4 : i = 0
      · simp only [if_neg (show ¬ (i : Int) > 0 by omega), decide_eq_true c4, Bool.true_or, Bool.true_and]; exact h
      have hw2 : wrap64 ((i : Int) - 1) = ((i - 1 : Nat) : Int) := by rw [w64 (by omega) (by omega)]; omega
      simp only [if_pos (show (i : Int) > 0 by omega), hw2, if_pos (show 0 ≤ ((i - 1 : Nat) : Int) by omega), if_pos (show ((i - 1 : Nat) : Int) < (l.length : Int) by omega), decide_eq_false c4, Bool.false_or]
      by_cases c5 : Op.bytesLess (rd_T74 l ((i - 1 : Nat) : Int)).f0.toList y.f0.toList = true
      · simp only [if_pos c5, c5, Bool.true_and]; exact h
      simp only [if_neg c5, Bool.eq_false_iff.2 c5, Bool.false_and]; exact EvN
    simp only [if_neg c1, Bool.eq_false_iff.2 c1, Bool.false_and]; exact EvN
theorem spec_disk (l : List S74) (hl : l.length ≤ 1048576) (hw : wfD l) : Ev (fun k => spec_DiskOk.f k l) (diskM l) := by
  unfold spec_DiskOk.f diskM
  by_cases h : l.length ≤ 8
  · simp only [if_neg (show ¬ (l.length : Int) > 8 by omega), decide_eq_true h, Bool.true_and]
    exact specGo l hl hw l.length 0 rfl
  simp only [if_pos (show (l.length : Int) > 8 by omega), decide_eq_false h, Bool.false_and]
  exact EvN
theorem impl_disk (l : List S74) (hl : l.length ≤ 1048576) (hw : wfD l) : Ev (fun k => impl_isDisk.f k l) (diskM l) := by
  unfold impl_isDisk.f diskM
  rw [Bool.and_comm]
  exact implGo l hl hw l.length 0 rfl
end Go.Proofs.YtmgeffgcihfpcaaDoor.DK

namespace Go.Proofs.YtmgeffgcihfpcaaDoor.F
open Go.RowKit Go.Proofs.YtmgeffgcihfpcaaDoorW.PrintWords Go.Proofs.YtmgeffgcihfpcaaDoorW.PrintWords.Kd Go.Proofs.YtmgeffgcihfpcaaDoorW.PrintMore.Kd Go.Proofs.YtmgeffgcihfpcaaDoorW.PrintLast Go.Proofs.YtmgeffgcihfpcaaDoorW.PrintMore
attribute [local go_sem] max2_int min2_int max_two min_two max_three min_three max_four min_four   -- for this text's walks alone
set_option linter.unusedVariables false
set_option linter.unusedSimpArgs false
end Go.Proofs.YtmgeffgcihfpcaaDoor.F

namespace Go.Proofs.YtmgeffgcihfpcaaDoor.F
open Go.Proofs.YtmgeffgcihfpcaaDoor
open Go.RowKit Go.Proofs.YtmgeffgcihfpcaaDoorW.PrintWords Go.Proofs.YtmgeffgcihfpcaaDoorW.PrintWords.Kd Go.Proofs.YtmgeffgcihfpcaaDoorW.PrintMore.Kd Go.Proofs.YtmgeffgcihfpcaaDoorW.PrintLast Go.Proofs.YtmgeffgcihfpcaaDoorW.PrintMore
attribute [local go_sem] max2_int min2_int max_two min_two max_three min_three max_four min_four   -- for this text's walks alone
set_option linter.unusedVariables false
set_option linter.unusedSimpArgs false
end Go.Proofs.YtmgeffgcihfpcaaDoor.F

namespace Go.Proofs.YtmgeffgcihfpcaaDoor.F
open Go.RowKit Go.Proofs.YtmgeffgcihfpcaaDoorW.PrintWords Go.Proofs.YtmgeffgcihfpcaaDoorW.PrintWords.Kd Go.Proofs.YtmgeffgcihfpcaaDoorW.PrintMore.Kd Go.Proofs.YtmgeffgcihfpcaaDoorW.PrintLast Go.Proofs.YtmgeffgcihfpcaaDoorW.PrintMore
attribute [local go_sem] max2_int min2_int max_two min_two max_three min_three max_four min_four   -- for this text's walks alone
set_option linter.unusedVariables false
set_option linter.unusedSimpArgs false
end Go.Proofs.YtmgeffgcihfpcaaDoor.F

namespace Go.Proofs.YtmgeffgcihfpcaaDoor.DK
set_option linter.unusedVariables false
set_option linter.unusedSimpArgs false
open Go.RowKit Go.Proofs.YtmgeffgcihfpcaaDoor.F Go.Proofs.YtmgeffgcihfpcaaDoor.PK Go.Proofs.YtmgeffgcihfpcaaDoorW.PrintWords Go.Proofs.YtmgeffgcihfpcaaDoorW.PrintLast Go.Proofs.YtmgeffgcihfpcaaDoorW.PrintMore
theorem rdI (l : List Int) (i : Nat) (h : i < l.length) : rd l (i : Int) = l[i] := getD_nat l _ i h
theorem bytesS (l : List Int) (hl : l.length ≤ 1000000000) : Ev (fun k => spec_l01Bytes.f k l) l := by
  have key := up0 (P := fun i => Ev (fun k => spec_l01Bytes.l0 k l (l.take i.toNat) i) l) l.length
    (EvS (by simp only [spec_l01Bytes.l0, Int.lt_irrefl, if_false, Int.toNat_natCast, List.take_length]; exact EvN))
    (fun i hi ih => EvS (by
      simp only [spec_l01Bytes.l0, if_pos (show (i : Int) < (l.length : Int) by omega), if_pos (show 0 ≤ (i : Int) by omega), Int.toNat_natCast, rdI l i hi, nxt i _ hi (by omega), if_pos (show (l.take i).length < 140737488355328 by rw [List.length_take]; omega)]
      rw [Int.toNat_natCast, List.take_add_one, List.getElem?_eq_getElem hi] at ih
      exact ih))
  unfold spec_l01Bytes.f
  exact key
def isN (a : ByteArray) : ByteArray → Bool := fun s => s.toList == a.toList
theorem find_ev (l : List S74) (a : ByteArray) (hl : l.length ≤ 1048576) : Ev (fun k => spec_l03Find.f k l a) (idxF (isN a) l 0) := by
  have key := up0 (P := fun i => Ev (fun k => spec_l03Find.l0 k a i l) (idxF (isN a) (l.drop i.toNat) i)) l.length
    (EvS (by
      simp only [spec_l03Find.l0, Int.lt_irrefl, if_false, Int.toNat_natCast, List.drop_length, idxF]
      exact EvN))
    (fun i hi ih => EvS (by
      rw [Int.toNat_natCast] at *
      rw [drop_at l i hi]
      simp only [spec_l03Find.l0, if_pos (show (i : Int) < (l.length : Int) by omega), if_pos (show 0 ≤ (i : Int) by omega), rd74 l i hi, nxt i _ hi (by omega), idxF]
      by_cases h : l[i].f0.toList = a.toList
      · simp only [if_pos h, isN, beq_iff_eq.2 h, if_true]; exact EvN
      simp only [if_neg h, isN, beq_eq_false_iff_ne.2 h, Bool.false_eq_true, if_false]
      exact ih))
  unfold spec_l03Find.f
  exact key
theorem lt_irr : ∀ a : List UInt8, Op.bytesLess a a = false
  | [] => rfl
  | x :: r => by simp [Op.bytesLess, lt_irr r]
theorem lt_trans : ∀ a b c : List UInt8, Op.bytesLess a b = true → Op.bytesLess b c = true → Op.bytesLess a c = true
  | a, b, [], _, h => by cases b <;> simp [Op.bytesLess] at h
  | [], b, z :: c, _, _ => rfl
  | x :: a, [], z :: c, h, _ => by simp [Op.bytesLess] at h
  | x :: a, y :: b, z :: c, h, h' => by
    simp only [Op.bytesLess, Bool.or_eq_true, decide_eq_true_eq, Bool.and_eq_true, beq_iff_eq, UInt8.lt_iff_toNat_lt] at h h' ⊢
    rcases h with h | ⟨rfl, h⟩
    · rcases h' with h' | ⟨rfl, h'⟩
      · exact .inl (by omega)
      exact .inl h
    rcases h' with h' | ⟨rfl, h'⟩
    · exact .inl h'
    exact .inr ⟨rfl, lt_trans a b c h h'⟩
theorem lt_ne {a b : List UInt8} (h : Op.bytesLess a b = true) : a ≠ b := by
  rintro rfl
  rw [lt_irr] at h
  cases h
def nm (x : S74) : List UInt8 := x.f0.toList
def srt (l : List S74) : Prop := ∀ i j : Nat, i < j → ∀ x y, l[i]? = some x → l[j]? = some y → Op.bytesLess (nm x) (nm y) = true
theorem goD_at (l : List S74) : ∀ d i : Nat, goD l d i = true → ∀ j, i ≤ j → j < i + d → okAt l j = true := by
  intro d
  induction d with
  | zero => intro i _ j _ _; omega
  | succ d ih =>
    intro i h j h1 h2
    unfold goD at h
    rw [Bool.and_eq_true] at h
    by_cases e : j = i
    · subst e; exact h.1
    exact ih (i + 1) h.2 j (by omega) (by omega)
theorem goD_of (l : List S74) : ∀ d i : Nat, (∀ j, i ≤ j → j < i + d → okAt l j = true) → goD l d i = true := by
  intro d
  induction d with
  | zero => intro i _; rfl
  | succ d ih =>
    intro i h
    unfold goD
    rw [Bool.and_eq_true]
    exact ⟨h i (by omega) (by omega), ih (i + 1) (fun j h1 h2 => h j (by omega) (by omega))⟩
theorem disk_srt {l : List S74} (h : diskM l = true) : srt l := by
  unfold diskM at h
  rw [Bool.and_eq_true] at h
  have hk := goD_at l _ _ h.2
  have step : ∀ j, j + 1 < l.length → Op.bytesLess (nm (l.getD j z74)) (nm (l.getD (j + 1) z74)) = true := by
    intro j hj
    have := hk (j + 1) (by omega) (by omega)
    unfold okAt at this
    rw [Bool.and_eq_true, Bool.and_eq_true, Bool.or_eq_true] at this
    have h3 := this.2.2.resolve_left (by simp)
    simpa [rd_T74, nm] using h3
  have key : ∀ j i : Nat, i < j → j < l.length → Op.bytesLess (nm (l.getD i z74)) (nm (l.getD j z74)) = true := by
    intro j
    induction j with
    | zero => intro i h1; omega
    | succ j ih =>
      intro i h1 h2
      by_cases e : i = j
      · subst e; exact step i h2
      exact lt_trans _ _ _ (ih i (by omega) (by omega)) (step j h2)
  intro i j hij x y hx hy
  have h1 := (List.getElem?_eq_some_iff.1 hy).1
  have := key j i hij h1
  rw [List.getD_eq_getElem?_getD, List.getD_eq_getElem?_getD, hx, hy] at this
  exact this
theorem idxF_at (p : ByteArray → Bool) : ∀ (l : List S74) (s : Int), (idxF p l s = -1 ∧ ∀ x ∈ l, p x.f0 = false) ∨ (∃ m : Nat, ∃ x, idxF p l s = s + m ∧ l[m]? = some x ∧ p x.f0 = true ∧ ∀ (j : Nat) (y : S74), j < m → l[j]? = some y → p y.f0 = false) := by
  intro l
  induction l with
  | nil => intro s; exact .inl ⟨rfl, fun x hx => by cases hx⟩
  | cons x t ih =>
    intro s
    unfold idxF
    by_cases h : p x.f0 = true
    · rw [if_pos h]
      exact .inr ⟨0, x, by simp, rfl, h, fun j y hj => by omega⟩
    rw [if_neg h]
    rcases ih (s + 1) with ⟨h1, h2⟩ | ⟨m, y, h1, h2, h3, h4⟩
    · refine .inl ⟨h1, fun y hy => ?_⟩
      rcases List.mem_cons.1 hy with rfl | hy
      · exact Bool.eq_false_iff.2 h
      exact h2 y hy
    refine .inr ⟨m + 1, y, by rw [h1]; omega, by rw [List.getElem?_cons_succ]; exact h2, h3, fun j z hj hz => ?_⟩
    cases j with
    | zero => simp only [List.getElem?_cons_zero, Option.some.injEq] at hz; subst hz; exact Bool.eq_false_iff.2 h
    | succ j => rw [List.getElem?_cons_succ] at hz; exact h4 j z (by omega) hz
def notN (a : ByteArray) : S74 → Bool := fun x => !isN a x.f0
theorem filter_all {α : Type} {p : α → Bool} {l : List α} (h : ∀ x ∈ l, p x = true) : l.filter p = l := List.filter_eq_self.2 h
theorem split_at {α : Type} (l : List α) (m : Nat) (x : α) (h : l[m]? = some x) : l = l.take m ++ x :: l.drop (m + 1) := by
  obtain ⟨h1, h2⟩ := List.getElem?_eq_some_iff.1 h
  conv => lhs; rw [← List.take_append_drop m l, List.drop_eq_getElem_cons h1, h2]
theorem without_at {l : List S74} (hs : srt l) (a : ByteArray) (m : Nat) (x : S74) (hx : l[m]? = some x) (hp : isN a x.f0 = true) : l.filter (notN a) = l.eraseIdx m := by
  have hn : nm x = a.toList := by simpa [isN, nm] using hp
  have hb : ∀ y ∈ l.take m, notN a y = true := by
    intro y hy
    obtain ⟨j, hj⟩ := List.mem_iff_getElem?.1 hy
    rw [List.getElem?_take] at hj
    split at hj
    · have := lt_ne (hs j m (by omega) y x hj hx)
      simp only [notN, isN, Bool.not_eq_true', beq_eq_false_iff_ne]
      rw [← hn]; exact this
    cases hj
  have ha : ∀ y ∈ l.drop (m + 1), notN a y = true := by
    intro y hy
    obtain ⟨j, hj⟩ := List.mem_iff_getElem?.1 hy
    rw [List.getElem?_drop] at hj
    have := lt_ne (hs m (m + 1 + j) (by omega) x y hx hj)
    simp only [notN, isN, Bool.not_eq_true', beq_eq_false_iff_ne]
    rw [← hn]; exact fun e => this e.symm
  conv => lhs; rw [split_at l m x hx]
  rw [List.filter_append, filter_all hb, List.filter_cons, if_neg (by simp [notN, hp]), filter_all ha, List.eraseIdx_eq_take_drop_succ]
theorem copyS (l : List S74) (hl : l.length ≤ 100000000) (hw : ∀ y ∈ l, y.f1.length ≤ 100000000 ∧ y.f2.length ≤ 100000000) : Ev (fun k => spec_l03Copy.f k l) l := by
  have key := up0 (P := fun i => Ev (fun k => spec_l03Copy.l0 k i l (l.take i.toNat)) l) l.length
    (EvS (by simp only [spec_l03Copy.l0, Int.lt_irrefl, if_false, Int.toNat_natCast, List.take_length]; exact EvN))
    (fun i hi ih => EvS (by
      have hy := hw _ (List.getElem_mem hi)
      simp only [spec_l03Copy.l0, if_pos (show (i : Int) < (l.length : Int) by omega), if_pos (show 0 ≤ (i : Int) by omega), Int.toNat_natCast, rd74 l i hi, EvB (bytesS _ (show l[i].f1.length ≤ 1000000000 by omega)), EvB (bytesS _ (show l[i].f2.length ≤ 1000000000 by omega)), nxt i _ hi (by omega), if_pos (show (l.take i).length < 2199023255552 by rw [List.length_take]; omega)]
      rw [Int.toNat_natCast, List.take_add_one, List.getElem?_eq_getElem hi] at ih
      exact ih))
  unfold spec_l03Copy.f
  exact key
theorem copyI (l : List S74) (hl : l.length ≤ 100000000) (hw : ∀ y ∈ l, y.f1.length ≤ 100000000 ∧ y.f2.length ≤ 100000000) : Ev (fun k => impl_copyDisk.f k l) l := by
  have key := up0 (P := fun i => Ev (fun k => impl_copyDisk.l0 k l (l.length : Int) i (l.take i.toNat)) l) l.length
    (EvS (by simp only [impl_copyDisk.l0, Int.lt_irrefl, if_false, Int.toNat_natCast, List.take_length]; exact EvN))
    (fun i hi ih => EvS (by
      have hy := hw _ (List.getElem_mem hi)
      simp only [impl_copyDisk.l0, if_pos (show (i : Int) < (l.length : Int) by omega), if_pos (show 0 ≤ (i : Int) by omega), Int.toNat_natCast, rd74 l i hi, Option.bind_some, if_pos (show ([] : List Int).length + l[i].f1.length < 140737488355328 by rw [List.length_nil]; omega), if_pos (show ([] : List Int).length + l[i].f2.length < 140737488355328 by rw [List.length_nil]; omega), List.nil_append, nxt i _ hi (by omega), if_pos (show (l.take i).length < 2199023255552 by rw [List.length_take]; omega)]
      rw [Int.toNat_natCast, List.take_add_one, List.getElem?_eq_getElem hi] at ih
      exact ih))
  unfold impl_copyDisk.f
  exact key
theorem withoutS (l : List S74) (a : ByteArray) (hl : l.length ≤ 100000000) (hw : ∀ y ∈ l, y.f1.length ≤ 100000000 ∧ y.f2.length ≤ 100000000) : Ev (fun k => spec_l03Without.f k l a) (l.filter (notN a)) := by
  have key := up0 (P := fun i => Ev (fun k => spec_l03Without.l0 k a i l ((l.take i.toNat).filter (notN a))) (l.filter (notN a))) l.length
    (EvS (by
      have hlf : (l.filter (notN a)).length ≤ 100000000 := Nat.le_trans (List.length_filter_le _ _) hl
      simp only [spec_l03Without.l0, Int.lt_irrefl, if_false, Int.toNat_natCast, List.take_length, EvB (copyS _ hlf (fun y hy => hw y (List.mem_filter.1 hy).1))]
      exact EvN))
    (fun i hi ih => EvS (by
      have hlf : ((l.take i).filter (notN a)).length ≤ i := Nat.le_trans (List.length_filter_le _ _) (by rw [List.length_take]; omega)
      rw [Int.toNat_natCast, List.take_add_one, List.getElem?_eq_getElem hi, Option.toList_some, List.filter_append, List.filter_cons, List.filter_nil] at ih
      simp only [spec_l03Without.l0, if_pos (show (i : Int) < (l.length : Int) by omega), if_pos (show 0 ≤ (i : Int) by omega), Int.toNat_natCast, rd74 l i hi, nxt i _ hi (by omega)]
      by_cases c : l[i].f0.toList = a.toList
      · rw [if_neg (by simp [notN, isN, c]), List.append_nil] at ih
        simp only [if_pos c]
        exact ih
      rw [if_pos (by simp [notN, isN, c])] at ih
      simp only [if_neg c, if_pos (show ((l.take i).filter (notN a)).length < 2199023255552 by omega)]
      exact ih))
  unfold spec_l03Without.f
  exact key
def lessN (a : ByteArray) : S74 → Bool := fun x => Op.bytesLess (nm x) a.toList
def putGo (f : S74) : Bool → List S74 → List S74 → List S74
  | b, [], out => if b = true then out else out ++ [f]
  | true, x :: r, out => if nm x = nm f then putGo f true r out else putGo f true r (out ++ [x])
  | false, x :: r, out => if lessN f.f0 x = true then (if nm x = nm f then putGo f false r out else putGo f false r (out ++ [x])) else (if nm x = nm f then putGo f true r (out ++ [f]) else putGo f true r (out ++ [f] ++ [x]))
theorem putGo_true (f : S74) : ∀ (l out : List S74), putGo f true l out = out ++ l.filter (notN f.f0)
  | [], out => by simp [putGo]
  | x :: r, out => by
    unfold putGo
    by_cases c : nm x = nm f
    · rw [if_pos c, putGo_true f r out, List.filter_cons, if_neg (by simp [notN, isN]; exact c)]
    rw [if_neg c, putGo_true f r _, List.filter_cons, if_pos (by simp [notN, isN]; exact c), List.append_assoc]; rfl
theorem putGo_false (f : S74) : ∀ (l out : List S74), putGo f false l out = out ++ l.takeWhile (lessN f.f0) ++ f :: (l.dropWhile (lessN f.f0)).filter (notN f.f0)
  | [], out => by simp [putGo]
  | x :: r, out => by
    unfold putGo
    by_cases h : lessN f.f0 x = true
    · have c : ¬ nm x = nm f := lt_ne h
      rw [if_pos h, if_neg c, putGo_false f r _, List.takeWhile_cons_of_pos h, List.dropWhile_cons_of_pos h]
      simp
    rw [if_neg h, List.takeWhile_cons_of_neg h, List.dropWhile_cons_of_neg h]
    by_cases c : nm x = nm f
    · rw [if_pos c, putGo_true, List.filter_cons, if_neg (by simp [notN, isN]; exact c)]
      simp
    rw [if_neg c, putGo_true, List.filter_cons, if_pos (by simp [notN, isN]; exact c)]
    simp
def putM (l : List S74) (f : S74) : List S74 := l.takeWhile (lessN f.f0) ++ f :: (l.dropWhile (lessN f.f0)).filter (notN f.f0)
theorem put_len (f : S74) : ∀ (b : Bool) (l out : List S74), (putGo f b l out).length ≤ out.length + l.length + 1 := by
  intro b l out
  cases b with
  | true => rw [putGo_true, List.length_append]; have := List.length_filter_le (notN f.f0) l; omega
  | false =>
    rw [putGo_false]
    have h1 := List.length_filter_le (notN f.f0) (l.dropWhile (lessN f.f0))
    have h2 : (l.takeWhile (lessN f.f0)).length + (l.dropWhile (lessN f.f0)).length = l.length := by rw [← List.length_append, List.takeWhile_append_dropWhile]
    simp only [List.length_append, List.length_cons]
    omega
theorem put_mem (f : S74) (l : List S74) : ∀ y ∈ putM l f, y = f ∨ y ∈ l := by
  intro y hy
  rcases List.mem_append.1 hy with h | h
  · exact .inr ((List.takeWhile_sublist _).subset h)
  rcases List.mem_cons.1 h with h | h
  · exact .inl h
  exact .inr ((List.dropWhile_sublist _).subset (List.mem_filter.1 h).1)
end Go.Proofs.YtmgeffgcihfpcaaDoor.DK

namespace Go.Proofs.YtmgeffgcihfpcaaDoor.F
open Go.RowKit Go.Proofs.YtmgeffgcihfpcaaDoorW.PrintWords Go.Proofs.YtmgeffgcihfpcaaDoorW.PrintWords.Kd Go.Proofs.YtmgeffgcihfpcaaDoorW.PrintMore.Kd Go.Proofs.YtmgeffgcihfpcaaDoorW.PrintLast Go.Proofs.YtmgeffgcihfpcaaDoorW.PrintMore
attribute [local go_sem] max2_int min2_int max_two min_two max_three min_three max_four min_four   -- for this text's walks alone
set_option linter.unusedVariables false
set_option linter.unusedSimpArgs false
end Go.Proofs.YtmgeffgcihfpcaaDoor.F

namespace Go.Proofs.YtmgeffgcihfpcaaDoor.DK
set_option linter.unusedVariables false
set_option linter.unusedSimpArgs false
open Go.RowKit Go.Proofs.YtmgeffgcihfpcaaDoor.F Go.Proofs.YtmgeffgcihfpcaaDoor.PK Go.Proofs.YtmgeffgcihfpcaaDoorW.PrintWords Go.Proofs.YtmgeffgcihfpcaaDoorW.PrintLast Go.Proofs.YtmgeffgcihfpcaaDoorW.PrintMore
def removeM (l : List S74) (a : ByteArray) : List S74 × Bool := if diskM l = true then (if idxF (isN a) l 0 < 0 then (l, false) else (l.eraseIdx (idxF (isN a) l 0).toNat, true)) else (l, false)
theorem wfD_le {l : List S74} (hw : wfD l) : ∀ y ∈ l, y.f1.length ≤ 100000000 ∧ y.f2.length ≤ 100000000 := fun y hy => by have := hw y hy; omega
theorem idx_in (l : List S74) (a : ByteArray) (h : ¬ idxF (isN a) l 0 < 0) : ∃ (m : Nat) (x : S74), idxF (isN a) l 0 = m ∧ l[m]? = some x ∧ isN a x.f0 = true ∧ m < l.length := by
  rcases idxF_at (isN a) l 0 with ⟨h1, _⟩ | ⟨m, x, h1, h2, h3, _⟩
  · omega
  exact ⟨m, x, by omega, h2, h3, (List.getElem?_eq_some_iff.1 h2).1⟩
theorem impl_remove (l : List S74) (a : ByteArray) (hl : l.length ≤ 1048576) (hw : wfD l) : Ev (fun k => impl_removeFile.f k l a) (removeM l a) := by
  have hc := copyI l (by omega) (wfD_le hw)
  have hf : impl_fileOf.f l a = some (idxF (isN a) l 0) := by unfold impl_fileOf.f; rw [if_pos (by omega)]; rfl
  unfold impl_removeFile.f removeM
  simp only [EvB hc, hf, Option.bind_some, EvB (impl_disk l hl hw)]
  by_cases h : diskM l = true
  · simp only [if_pos h]
    by_cases h2 : idxF (isN a) l 0 < 0
    · simp only [if_pos h2]; exact EvN
    obtain ⟨m, x, e, hx, hp, hm⟩ := idx_in l a h2
    simp only [if_neg h2, if_pos (show idxF (isN a) l 0 < (l.length : Int) by omega)]
    exact EvN
  simp only [if_neg h]; exact EvN
theorem putS (l : List S74) (f : S74) (hl : l.length ≤ 10000000) (hw : ∀ y ∈ l, y.f1.length ≤ 100000000 ∧ y.f2.length ≤ 100000000) (hf : f.f1.length ≤ 100000000 ∧ f.f2.length ≤ 100000000) : Ev (fun k => spec_l03Put.f k l f.f0 f.f1 f.f2) (putM l f) := by
  have hsz : (putM l f).length ≤ 100000000 := by
    have := put_len f false l []
    rw [putGo_false, List.length_nil] at this
    simp only [List.nil_append] at this
    show (l.takeWhile (lessN f.f0) ++ f :: (l.dropWhile (lessN f.f0)).filter (notN f.f0)).length ≤ _
    omega
  have fin : Ev (fun k => spec_l03Copy.f k (putM l f)) (putM l f) := copyS _ hsz (fun y hy => by
    rcases put_mem f l y hy with rfl | h
    · exact hf
    exact hw y h)
  have key : ∀ d i : Nat, d + i = l.length → ∀ (b : Bool) (out : List S74), out.length ≤ 2 * i → putGo f b (l.drop i) out = putM l f → Ev (fun k => spec_l03Put.l0 k b i l f.f0 f.f1 f.f2 out) (putM l f) := by
    intro d
    induction d with
    | zero =>
      intro i hi b out h1 h3
      have hi : i = l.length := by omega
      subst hi
      rw [List.drop_length] at h3
      refine EvS ?_
      simp only [spec_l03Put.l0, Int.lt_irrefl, if_false]
      cases b with
      | true =>
        simp only [putGo, if_true] at h3
        subst h3
        simp only [if_true]
        exact (EvB fin).2 EvN
      | false =>
        simp only [putGo, Bool.false_eq_true, if_false] at h3
        simp only [Bool.false_eq_true, if_false, if_pos (show out.length < 2199023255552 by omega)]
        rw [h3]
        exact (EvB fin).2 EvN
    | succ d ih =>
      intro i hi b out h1 h3
      have hil : i < l.length := by omega
      rw [drop_at l i hil] at h3
      have ih' := fun b out h1 h3 => ih (i + 1) (by omega) b out h1 h3
      refine EvS ?_
      have hi1 : (i : Int) < (l.length : Int) := by omega
      have hi0 : 0 ≤ (i : Int) := by omega
      have hnx := nxt i _ hil (by omega)
      simp only [spec_l03Put.l0, if_pos hi1, if_pos hi0, rd74 l i hil]
      cases b with
      | true =>
        simp only [if_true]
        refine EvS ?_
        simp only [spec_l03Put.j1, Bool.false_eq_true, if_false, if_pos hi1, if_pos hi0, rd74 l i hil, hnx]
        simp only [putGo] at h3
        by_cases c : l[i].f0.toList = f.f0.toList
        · rw [if_pos (show nm l[i] = nm f from c)] at h3
          simp only [if_pos c]
          exact ih' _ _ (by omega) h3
        rw [if_neg (show ¬ nm l[i] = nm f from c)] at h3
        simp only [if_neg c, if_pos (show out.length < 2199023255552 by omega)]
        exact ih' _ _ (by simp; omega) h3
      | false =>
        simp only [Bool.false_eq_true, if_false]
        refine EvS ?_
        simp only [putGo] at h3
        by_cases g : lessN f.f0 l[i] = true
        · have g' : Op.bytesLess l[i].f0.toList f.f0.toList = true := g
          rw [if_pos g] at h3
          simp only [g', Bool.not_true, spec_l03Put.j1, Bool.false_eq_true, if_false, if_pos hi1, if_pos hi0, rd74 l i hil, hnx]
          by_cases c : l[i].f0.toList = f.f0.toList
          · rw [if_pos (show nm l[i] = nm f from c)] at h3
            simp only [if_pos c]
            exact ih' _ _ (by omega) h3
          rw [if_neg (show ¬ nm l[i] = nm f from c)] at h3
          simp only [if_neg c, if_pos (show out.length < 2199023255552 by omega)]
          exact ih' _ _ (by simp; omega) h3
        have g' : Op.bytesLess l[i].f0.toList f.f0.toList = false := Bool.eq_false_iff.2 g
        rw [if_neg g] at h3
        simp only [g', Bool.not_false, spec_l03Put.j1, if_true, if_pos hi1, if_pos hi0, rd74 l i hil, hnx, if_pos (show out.length < 2199023255552 by omega), Option.bind_some]
        by_cases c : l[i].f0.toList = f.f0.toList
        · rw [if_pos (show nm l[i] = nm f from c)] at h3
          simp only [if_pos c]
          exact ih' _ _ (by simp; omega) h3
        rw [if_neg (show ¬ nm l[i] = nm f from c)] at h3
        have hlen : (out ++ [(⟨f.f0, f.f1, f.f2⟩ : S74)]).length < 2199023255552 := by simp; omega
        simp only [if_neg c, if_pos hlen]
        exact ih' _ _ (by simp; omega) h3
  have := key l.length 0 rfl false [] (by simp) (by rw [List.drop_zero, putGo_false]; rfl)
  unfold spec_l03Put.f
  exact this
theorem idx_at (l : List S74) (a : ByteArray) (h : ¬ idxF (isN a) l 0 < 0) : ∃ (m : Nat) (x : S74), idxF (isN a) l 0 = m ∧ l[m]? = some x ∧ nm x = a.toList ∧ m < l.length := by
  rcases idxF_at (isN a) l 0 with ⟨h1, _⟩ | ⟨m, x, h1, h2, h3, _⟩
  · omega
  exact ⟨m, x, by omega, h2, by simpa [isN, nm] using h3, (List.getElem?_eq_some_iff.1 h2).1⟩
theorem put_at {l : List S74} (hs : srt l) (f : S74) (m : Nat) (x : S74) (hx : l[m]? = some x) (hn : nm x = f.f0.toList) : putM l f = l.set m f := by
  have hb : ∀ y ∈ l.take m, lessN f.f0 y = true := by
    intro y hy
    obtain ⟨j, hj⟩ := List.mem_iff_getElem?.1 hy
    rw [List.getElem?_take] at hj
    split at hj
    · have := hs j m (by omega) y x hj hx
      rw [hn] at this
      exact this
    cases hj
  have ha : ∀ y ∈ l.drop (m + 1), notN f.f0 y = true := by
    intro y hy
    obtain ⟨j, hj⟩ := List.mem_iff_getElem?.1 hy
    rw [List.getElem?_drop] at hj
    have := lt_ne (hs m (m + 1 + j) (by omega) x y hx hj)
    simp only [notN, isN, Bool.not_eq_true', beq_eq_false_iff_ne]
    rw [← hn]; exact fun e => this e.symm
  have hx0 : lessN f.f0 x = false := by unfold lessN; rw [hn, lt_irr]
  have hx1 : notN f.f0 x = false := by unfold notN isN; rw [Bool.not_eq_false', beq_iff_eq]; exact hn
  have hm := (List.getElem?_eq_some_iff.1 hx).1
  unfold putM
  have e1 : l.takeWhile (lessN f.f0) = l.take m := by
    conv => lhs; rw [split_at l m x hx]
    rw [List.takeWhile_append_of_pos hb, List.takeWhile_cons_of_neg (by rw [hx0]; decide), List.append_nil]
  have e2 : l.dropWhile (lessN f.f0) = x :: l.drop (m + 1) := by
    conv => lhs; rw [split_at l m x hx]
    rw [List.dropWhile_append_of_pos hb, List.dropWhile_cons_of_neg (by rw [hx0]; decide)]
  rw [e1, e2, List.filter_cons, if_neg (by rw [hx1]; decide), filter_all ha, List.set_eq_take_append_cons_drop, if_pos hm]
abbrev ltF (x y : S74) : Prop := Op.bytesLess (nm x) (nm y) = true
theorem srt_pw {l : List S74} : srt l ↔ l.Pairwise ltF := by
  rw [List.pairwise_iff_getElem]
  constructor
  · intro h i j hi hj hij
    exact h i j hij _ _ (List.getElem?_eq_getElem hi) (List.getElem?_eq_getElem hj)
  intro h i j hij x y hx hy
  obtain ⟨hi, rfl⟩ := List.getElem?_eq_some_iff.1 hx
  obtain ⟨hj, rfl⟩ := List.getElem?_eq_some_iff.1 hy
  exact h i j hi hj hij
theorem ins_take (x : S74) : ∀ l : List S74, l.take (wIdx x.f0 l) = l.takeWhile (lessN x.f0) ∧ l.drop (wIdx x.f0 l) = l.dropWhile (lessN x.f0)
  | [] => ⟨rfl, rfl⟩
  | y :: r => by
    obtain ⟨h1, h2⟩ := ins_take x r
    unfold wIdx
    cases h : Op.bytesLess y.f0.toList x.f0.toList with
    | true =>
      have hl : lessN x.f0 y = true := h
      simp only [if_true, List.take_succ_cons, List.drop_succ_cons, List.takeWhile_cons, List.dropWhile_cons, hl, h1, h2, and_self]
    | false =>
      have hl : lessN x.f0 y = false := h
      simp only [Bool.false_eq_true, if_false, List.take_zero, List.drop_zero, List.takeWhile_cons, List.dropWhile_cons, hl, and_self]
theorem ins_eq (l : List S74) (x : S74) : insM l x = l.takeWhile (lessN x.f0) ++ x :: l.dropWhile (lessN x.f0) := by
  unfold insM
  rw [(ins_take x l).1, (ins_take x l).2]
theorem less_not {a : ByteArray} {y : S74} (h : lessN a y = true) : notN a y = true := by
  have := lt_ne (a := nm y) (b := a.toList) h
  unfold notN isN
  simpa [nm] using this
theorem dw_less {a : ByteArray} : ∀ {l : List S74}, l.Pairwise ltF → ∀ y ∈ l.dropWhile (lessN a), lessN a y = false
  | [], _, y, hy => by simp at hy
  | x :: r, h, y, hy => by
    rw [List.dropWhile_cons] at hy
    cases hx : lessN a x with
    | true => rw [hx, if_pos rfl] at hy; exact dw_less (List.pairwise_cons.1 h).2 y hy
    | false =>
      rw [hx, if_neg (by decide)] at hy
      rcases List.mem_cons.1 hy with rfl | hy
      · exact hx
      cases hq : lessN a y with
      | false => rfl
      | true =>
        have h1 : lessN a x = true := lt_trans _ _ _ ((List.pairwise_cons.1 h).1 y hy) hq
        rw [hx] at h1
        cases h1
theorem tw_app {p : S74 → Bool} : ∀ (t d : List S74), (∀ y ∈ t, p y = true) → (∀ y ∈ d, p y = false) → (t ++ d).takeWhile p = t ∧ (t ++ d).dropWhile p = d
  | [], d, _, hd => by
    cases d with
    | nil => exact ⟨rfl, rfl⟩
    | cons y r =>
      have := hd y List.mem_cons_self
      simp [List.takeWhile_cons, List.dropWhile_cons, this]
  | x :: t, d, ht, hd => by
    obtain ⟨h1, h2⟩ := tw_app t d (fun y hy => ht y (List.mem_cons_of_mem _ hy)) hd
    have := ht x List.mem_cons_self
    simp [List.takeWhile_cons, List.dropWhile_cons, this, h1, h2]
theorem tw_all {p : S74 → Bool} : ∀ (l : List S74), ∀ y ∈ l.takeWhile p, p y = true
  | [], y, hy => by simp at hy
  | x :: r, y, hy => by
    rw [List.takeWhile_cons] at hy
    cases hx : p x with
    | true =>
      rw [hx, if_pos rfl] at hy
      rcases List.mem_cons.1 hy with rfl | hy
      · exact hx
      exact tw_all r y hy
    | false => rw [hx, if_neg (by decide)] at hy; simp at hy
theorem fil_split {a : ByteArray} {l : List S74} (h : l.Pairwise ltF) : (l.filter (notN a)).takeWhile (lessN a) = l.takeWhile (lessN a) ∧ (l.filter (notN a)).dropWhile (lessN a) = (l.dropWhile (lessN a)).filter (notN a) := by
  have e : l.filter (notN a) = l.takeWhile (lessN a) ++ (l.dropWhile (lessN a)).filter (notN a) := by
    conv => lhs; rw [← List.takeWhile_append_dropWhile (p := lessN a) (l := l)]
    rw [List.filter_append, filter_all (fun y hy => less_not (tw_all l y hy))]
  rw [e]
  exact tw_app _ _ (fun y hy => tw_all l y hy) (fun y hy => dw_less h y (List.mem_filter.1 hy).1)
theorem ins_put {l : List S74} (h : l.Pairwise ltF) (f : S74) : insM (l.filter (notN f.f0)) f = putM l f := by
  rw [ins_eq, (fil_split h).1, (fil_split h).2]
  rfl
theorem put_fil {l : List S74} (h : l.Pairwise ltF) (f : S74) : putM (l.filter (notN f.f0)) f = putM l f := by
  unfold putM
  rw [(fil_split h).1, (fil_split h).2, List.filter_filter]
  simp only [Bool.and_self]
theorem disk_each {l : List S74} (h : diskM l = true) : l.length ≤ 8 ∧ ∀ y ∈ l, nameM y.f0 = true ∧ y.f1.length + y.f2.length ≤ 20000 := by
  unfold diskM at h
  rw [Bool.and_eq_true, decide_eq_true_iff] at h
  refine ⟨h.1, fun y hy => ?_⟩
  obtain ⟨j, hj, rfl⟩ := List.mem_iff_getElem.1 hy
  have hk := goD_at l _ _ h.2 j (by omega) (by omega)
  unfold okAt at hk
  rw [Bool.and_eq_true, Bool.and_eq_true, decide_eq_true_iff, rd74 l j hj] at hk
  exact ⟨hk.1, hk.2.1⟩
theorem disk_of {l : List S74} (h1 : l.length ≤ 8) (h2 : ∀ y ∈ l, nameM y.f0 = true ∧ y.f1.length + y.f2.length ≤ 20000) (h3 : l.Pairwise ltF) : diskM l = true := by
  unfold diskM
  rw [Bool.and_eq_true, decide_eq_true_iff]
  refine ⟨h1, goD_of l _ _ fun j _ hj => ?_⟩
  have hj : j < l.length := by omega
  have hy := h2 _ (List.getElem_mem hj)
  unfold okAt
  rw [Bool.and_eq_true, Bool.and_eq_true, decide_eq_true_iff, rd74 l j hj]
  refine ⟨hy.1, hy.2, ?_⟩
  by_cases h0 : j = 0
  · simp [h0]
  rw [rd74 l (j - 1) (by omega), Bool.or_eq_true]
  exact .inr (List.pairwise_iff_getElem.1 h3 (j - 1) j (by omega) hj (by omega))
theorem disk_fil {l : List S74} (p : S74 → Bool) (h : diskM l = true) : diskM (l.filter p) = true := by
  obtain ⟨h1, h2⟩ := disk_each h
  exact disk_of (Nat.le_trans (List.length_filter_le _ _) h1) (fun y hy => h2 y (List.mem_filter.1 hy).1) ((srt_pw.1 (disk_srt h)).filter _)
theorem remove_fil {l : List S74} (a : ByteArray) (h : diskM l = true) : (removeM l a).1 = l.filter (notN a) := by
  unfold removeM
  rw [if_pos h]
  rcases idxF_at (isN a) l 0 with ⟨e, hn⟩ | ⟨m, x, e, hx, hp, _⟩
  · rw [if_pos (by omega)]
    exact (filter_all (fun y hy => by unfold notN; rw [hn y hy]; rfl)).symm
  rw [if_neg (by omega), without_at (disk_srt h) a m x hx hp]
  show l.eraseIdx _ = _
  congr 1
  omega
def renM (l : List S74) (a b : ByteArray) : List S74 × Bool := if diskM l = true ∧ ¬ idxF (isN a) l 0 < 0 ∧ nameM b = true then (putM (l.filter (notN a)) ⟨b, (rd_T74 l (idxF (isN a) l 0)).f1, (rd_T74 l (idxF (isN a) l 0)).f2⟩, true) else (l, false)
theorem ren_le (l : List S74) (a b : ByteArray) (hw : wfD l) : (renM l a b).1.length ≤ l.length + 1 ∧ ∀ y ∈ (renM l a b).1, y.f1.length + y.f2.length ≤ 2097152 := by
  unfold renM
  have hl : ∀ y ∈ l, y.f1.length + y.f2.length ≤ 2097152 := fun y hy => by have := hw y hy; omega
  split
  · rename_i h
    obtain ⟨m, x, e, hx, hn, hm⟩ := idx_at l a h.2.1
    refine ⟨?_, fun y hy => ?_⟩
    · have h1 := List.length_filter_le (notN a) l
      have h2 := List.length_filter_le (notN b) ((l.filter (notN a)).dropWhile (lessN b))
      have h3 := congrArg List.length (List.takeWhile_append_dropWhile (p := lessN b) (l := l.filter (notN a)))
      simp only [putM, List.length_append, List.length_cons] at h3 ⊢
      omega
    rcases put_mem _ _ y hy with rfl | hy
    · show (rd_T74 l (idxF (isN a) l 0)).f1.length + (rd_T74 l (idxF (isN a) l 0)).f2.length ≤ 2097152
      rw [e, rd74 l m hm]
      exact hl _ (List.getElem_mem hm)
    exact hl y (List.mem_filter.1 hy).1
  exact ⟨Nat.le_succ _, hl⟩
theorem ba_ext {a b : ByteArray} (h : a.toList = b.toList) : a = b := by
  rw [ByteArray.toList_eq, ByteArray.toList_eq] at h
  cases a with
  | mk x => cases b with
    | mk y => simpa using h
theorem spec_ren (l : List S74) (a b : ByteArray) (hl : l.length ≤ 1048576) (hw : wfD l) (hb : b.size ≤ 9223372036854775807) : Ev (fun k => spec_RenameFile.f k l a b) (renM l a b) := by
  have hc := copyS l (by omega) (wfD_le hw)
  have bad : ∀ i : Int, ¬ (diskM l = true ∧ ¬ idxF (isN a) l 0 < 0 ∧ nameM b = true) → Ev (fun k => spec_RenameFile.j0 k a b i true l) (renM l a b) := fun i h => EvS (by
    unfold renM
    rw [if_neg h]
    simp only [spec_RenameFile.j0, if_true]
    exact (EvB hc).2 EvN)
  unfold spec_RenameFile.f
  refine (EvB (find_ev l a hl)).2 ?_
  refine (EvB (spec_disk l hl hw)).2 ?_
  by_cases h : diskM l = true
  · by_cases h2 : idxF (isN a) l 0 < 0
    · simp only [if_pos h, if_pos h2]
      exact bad _ (fun q => q.2.1 h2)
    simp only [if_pos h, if_neg h2]
    refine (EvB (spec_name b hb)).2 ?_
    by_cases h3 : nameM b = true
    · obtain ⟨m, x, e, hx, hn, hm⟩ := idx_at l a h2
      rw [h3]
      refine EvS ?_
      have hr := hw _ (List.getElem_mem hm)
      have hW := withoutS l a (by omega) (wfD_le hw)
      have hl1 : (l.filter (notN a)).length ≤ l.length := List.length_filter_le _ _
      have hP := putS (l.filter (notN a)) (⟨b, (rd_T74 l (idxF (isN a) l 0)).f1, (rd_T74 l (idxF (isN a) l 0)).f2⟩ : S74) (by omega) (fun y hy => wfD_le hw y (List.mem_filter.1 hy).1) (by
        show (rd_T74 l (idxF (isN a) l 0)).f1.length ≤ 100000000 ∧ (rd_T74 l (idxF (isN a) l 0)).f2.length ≤ 100000000
        rw [e, rd74 l m hm]
        omega)
      unfold renM
      simp only [spec_RenameFile.j0, Bool.not_true, Bool.false_eq_true, if_false, if_pos (show 0 ≤ idxF (isN a) l 0 by omega), if_pos (show idxF (isN a) l 0 < (l.length : Int) by omega), if_pos (show diskM l = true ∧ ¬ idxF (isN a) l 0 < 0 ∧ nameM b = true from ⟨h, h2, h3⟩)]
      refine (EvB hW).2 ?_
      exact (EvB hP).2 EvN
    rw [Bool.eq_false_iff.2 h3]
    exact bad _ (fun q => h3 q.2.2)
  simp only [if_neg h]
  exact bad _ (fun q => h q.1)
theorem impl_ren (l : List S74) (a b : ByteArray) (hl : l.length ≤ 1048576) (hw : wfD l) (hb : b.size ≤ 9223372036854775807) : Ev (fun k => impl_renameFile.f k l a b) (renM l a b) := by
  have hc := copyI l (by omega) (wfD_le hw)
  have hf : impl_fileOf.f l a = some (idxF (isN a) l 0) := by unfold impl_fileOf.f; rw [if_pos (by omega)]; rfl
  unfold impl_renameFile.f renM
  simp only [hf, Option.bind_some, EvB (impl_disk l hl hw)]
  by_cases h : diskM l = true
  · by_cases h2 : idxF (isN a) l 0 < 0
    · simp only [if_pos h, if_pos h2, if_neg (show ¬ (diskM l = true ∧ ¬ idxF (isN a) l 0 < 0 ∧ nameM b = true) from fun q => q.2.1 h2)]
      exact (EvB hc).2 EvN
    simp only [if_pos h, if_neg h2, impl_name b hb, Option.bind_some]
    by_cases h3 : nameM b = true
    · obtain ⟨m, x, e, hx, hn, hm⟩ := idx_at l a h2
      have hpw := srt_pw.1 (disk_srt h)
      simp only [if_pos h3, if_pos (show diskM l = true ∧ ¬ idxF (isN a) l 0 < 0 ∧ nameM b = true from ⟨h, h2, h3⟩)]
      by_cases h4 : a.toList = b.toList
      · have hab := ba_ext h4
        subst hab
        simp only [if_true]
        have hp := put_fil hpw (⟨a, (rd_T74 l (idxF (isN a) l 0)).f1, (rd_T74 l (idxF (isN a) l 0)).f2⟩ : S74)
        rw [put_at (disk_srt h) _ m x hx hn] at hp
        have hxm : l[m] = x := by rw [List.getElem?_eq_getElem hm] at hx; exact Option.some.inj hx
        have hf : (⟨a, (rd_T74 l (idxF (isN a) l 0)).f1, (rd_T74 l (idxF (isN a) l 0)).f2⟩ : S74) = x := by
          rw [e, rd74 l m hm, hxm]
          have : x.f0 = a := ba_ext hn
          cases x
          simp only at this ⊢
          rw [this]
        rw [hf] at hp
        have hxa : x.f0 = a := ba_ext hn
        rw [hxa] at hp
        rw [hf, hp, show l.set m x = l by rw [← hxm]; exact List.set_getElem_self hm]
        exact (EvB hc).2 EvN
      simp only [if_neg h4]
      have hd1 := disk_fil (notN a) h
      have hl1 : (l.filter (notN a)).length ≤ l.length := List.length_filter_le _ _
      have hw1 : wfD (l.filter (notN a)) := fun y hy => hw y (List.mem_filter.1 hy).1
      have hl2 : ((l.filter (notN a)).filter (notN b)).length ≤ (l.filter (notN a)).length := List.length_filter_le _ _
      refine (EvB (impl_remove l a hl hw)).2 ?_
      rw [remove_fil a h]
      refine (EvB (impl_remove (l.filter (notN a)) b (by omega) hw1)).2 ?_
      rw [remove_fil b hd1]
      refine (EvB hc).2 ?_
      simp only [if_pos (show idxF (isN a) l 0 < (l.length : Int) by omega), if_pos (show (((l.filter (notN a)).filter (notN b)).length + 1) * 64 ≤ 140737488355328 by omega)]
      rw [ins_put (srt_pw.1 (disk_srt hd1)) (⟨b, (rd_T74 l (idxF (isN a) l 0)).f1, (rd_T74 l (idxF (isN a) l 0)).f2⟩ : S74)]
      exact EvN
    simp only [if_neg h3, if_neg (show ¬ (diskM l = true ∧ ¬ idxF (isN a) l 0 < 0 ∧ nameM b = true) from fun q => h3 q.2.2)]
    exact (EvB hc).2 EvN
  simp only [if_neg h, if_neg (show ¬ (diskM l = true ∧ ¬ idxF (isN a) l 0 < 0 ∧ nameM b = true) from fun q => h q.1)]
  exact (EvB hc).2 EvN
theorem impl_ren' (l : List S74) (a b : ByteArray) (hl : l.length ≤ 1048576) (hw : wfD l) (hb : b.size ≤ 9223372036854775807) : Ev (fun k => impl_RenameFile.f k l a b) (renM l a b) := impl_ren l a b hl hw hb
end Go.Proofs.YtmgeffgcihfpcaaDoor.DK

namespace Go.Proofs.YtmgeffgcihfpcaaDoor.BY
set_option linter.unusedVariables false
set_option linter.unusedSimpArgs false
open Go.RowKit Go.Proofs.YtmgeffgcihfpcaaDoor.F Go.Proofs.YtmgeffgcihfpcaaDoor.PK Go.Proofs.YtmgeffgcihfpcaaDoorW.PrintWords Go.Proofs.YtmgeffgcihfpcaaDoorW.PrintLast
theorem markByteS (l : List Int) (hl : l.length ≤ 9000000000000000000) (a : Int) (ha : 0 ≤ a) (hla : a + l.length ≤ 9223372036854775807) : ∃ (m : Int) (l' : List Int), Ev (fun k => laws_markByteS.f k l a) (m, l') ∧ m = a + l.length ∧ l'.length = l.length ∧ Ev (fun k => laws_heldByteS.f k l' a) m := by
  have key : ∀ (d i : Nat), d + i = l.length → ∀ (x : List Int) (b : Int), x.length = l.length → b = a + i → ∃ l', Ev (fun k => laws_markByteS.l0 k x b i) (a + l.length, l') ∧ l'.length = l.length ∧ (∀ j, j < i → l'[j]? = x[j]?) ∧ Ev (fun k => laws_heldByteS.l0 k l' b i) (a + l.length) := by
    intro d
    induction d with
    | zero =>
      intro i hi x b hx hb
      have hi : i = l.length := by omega
      subst hi
      subst hb
      exact ⟨x, EvS (by simp only [laws_markByteS.l0, hx, Int.lt_irrefl, if_false]; exact EvN), hx, fun _ _ => rfl, EvS (by simp only [laws_heldByteS.l0, hx, Int.lt_irrefl, if_false]; exact EvN)⟩
    | succ d ih =>
      intro i hi x b hx hb
      have hw : wrap64 (b + 1) = b + 1 := w64 (by omega) (by omega)
      obtain ⟨l', h1, h2, h3, h4⟩ := ih (i + 1) (by omega) (x.set i (b % 256)) (b + 1) (by simpa using hx) (by omega)
      have hli : i < l'.length := by omega
      have he : l'[i] = b % 256 := by
        have := h3 i (by omega)
        rw [List.getElem?_set_self (by omega), List.getElem?_eq_getElem hli] at this
        exact Option.some.inj this
      refine ⟨l', EvS ?_, h2, fun j hj => ?_, EvS ?_⟩
      · simp only [laws_markByteS.l0, if_pos (show (i : Int) < (x.length : Int) by omega), if_pos (show 0 ≤ (i : Int) by omega), hw, Int.toNat_natCast, nxt i l.length (by omega) (by omega)]
        exact h1
      · rw [h3 j (by omega), List.getElem?_set_ne (by omega)]
      simp only [laws_heldByteS.l0, if_pos (show (i : Int) < (l'.length : Int) by omega), if_pos (show 0 ≤ (i : Int) by omega), hw, rd_at l' i hli, he, if_true, nxt i l.length (by omega) (by omega)]
      exact h4
  obtain ⟨l', h1, h2, _, h4⟩ := key l.length 0 (by omega) l a rfl (by omega)
  exact ⟨_, l', h1, rfl, h2, h4⟩
end Go.Proofs.YtmgeffgcihfpcaaDoor.BY

namespace Go.Proofs.YtmgeffgcihfpcaaDoor.MT
set_option linter.unusedVariables false
set_option linter.unusedSimpArgs false
open Go.RowKit Go.Proofs.YtmgeffgcihfpcaaDoor.F Go.Proofs.YtmgeffgcihfpcaaDoor.PK Go.Proofs.YtmgeffgcihfpcaaDoorW.PrintWords Go.Proofs.YtmgeffgcihfpcaaDoorW.PrintLast
theorem strOf1 (x : Int) : (strOfNums [x]).size = 1 := rfl
theorem markText (x : Int) (h : x ≤ 9223372036854775807) : ∃ s, Ev (fun k => laws_markText.f k x) s := by
  have key : ∀ (d : Nat) (x : Int) (s : ByteArray), x < 10 ^ d → s.size + d ≤ 30 → ∃ r, Ev (fun k => laws_markText.l0 k x s) r := by
    intro d
    induction d with
    | zero =>
      intro x s hx hs
      have hS : (1 + s.size ≤ 9223372036854775807) = True := eq_true (by omega)
      refine ⟨(⟨#[109]⟩ : ByteArray) ++ s, EvS ?_⟩
      simp only [laws_markText.l0, if_neg (show ¬ x > 0 by simp at hx; omega), hS, if_true]
      exact EvN
    | succ d ih =>
      intro x s hx hs
      have hS : (1 + s.size ≤ 9223372036854775807) = True := eq_true (by omega)
      by_cases h0 : x > 0
      · have h10 : (10 : Int) ^ (d + 1) = 10 * 10 ^ d := by rw [Int.pow_succ, Int.mul_comm]
        have hq : Int.tdiv x 10 = x / 10 := Int.tdiv_eq_ediv_of_nonneg (by omega)
        obtain ⟨r, hr⟩ := ih (wrap64 (x / 10)) (strOfNums [(wrap64 (48 + (Int.tmod x 10))) % 256] ++ s) (by unfold wrap64; omega) (by rw [ByteArray.size_append, strOf1]; omega)
        refine ⟨r, EvS ?_⟩
        simp only [laws_markText.l0, if_pos h0, Option.bind_some, strOf1, hS, if_true, hq]
        exact hr
      refine ⟨(⟨#[109]⟩ : ByteArray) ++ s, EvS ?_⟩
      simp only [laws_markText.l0, if_neg h0, hS, if_true]
      exact EvN
  by_cases h0 : x ≤ 0
  · exact ⟨⟨#[109, 48]⟩, by unfold laws_markText.f; simp only [if_pos h0]; exact EvN⟩
  have h19 : (10 : Int) ^ 19 = 10000000000000000000 := by decide
  obtain ⟨r, hr⟩ := key 19 x ⟨#[]⟩ (by omega) (show 0 + 19 ≤ 30 by omega)
  exact ⟨r, by unfold laws_markText.f; simp only [if_neg h0]; exact hr⟩
end Go.Proofs.YtmgeffgcihfpcaaDoor.MT

namespace Go.Proofs.YtmgeffgcihfpcaaDoor.DK
set_option linter.unusedVariables false
set_option linter.unusedSimpArgs false
open Go.RowKit Go.Proofs.YtmgeffgcihfpcaaDoor.F Go.Proofs.YtmgeffgcihfpcaaDoor.PK Go.Proofs.YtmgeffgcihfpcaaDoorW.PrintWords Go.Proofs.YtmgeffgcihfpcaaDoorW.PrintLast Go.Proofs.YtmgeffgcihfpcaaDoorW.PrintMore
open Go.Proofs.YtmgeffgcihfpcaaDoor.BY (markByteS)
open Go.Proofs.YtmgeffgcihfpcaaDoor.MT (markText)
theorem markFS (B : Nat) (hB : B ≤ 3000000) : ∀ (d i : Nat) (x : List S74) (a : Int), d + i = x.length → x.length ≤ 3000000 → (∀ y ∈ x, 1 + y.f1.length + y.f2.length ≤ B) → 0 ≤ a → a + d * B ≤ 3900000000000000 →
    ∃ (m : Int) (x' : List S74), Ev (fun k => laws_markFileS.l0 k x a i) (m, x') ∧ a ≤ m ∧ m ≤ a + d * B ∧ x'.length = x.length ∧ (∀ j, j < i → x'[j]? = x[j]?) ∧ Ev (fun k => laws_heldFileS.l0 k x' a i) m := by
  intro d
  induction d with
  | zero =>
    intro i x a hi hx hy h0 h1
    have hi : i = x.length := by omega
    subst hi
    exact ⟨a, x, EvS (by simp only [laws_markFileS.l0, Int.lt_irrefl, if_false]; exact EvN), Int.le_refl _, by omega, rfl, fun _ _ => rfl, EvS (by simp only [laws_heldFileS.l0, Int.lt_irrefl, if_false]; exact EvN)⟩
  | succ d ih =>
    intro i x a hi hx hy h0 h1
    have hix : i < x.length := by omega
    have hyi := hy _ (List.getElem_mem hix)
    have hq : ((d + 1 : Nat) : Int) * (B : Int) = (d : Int) * (B : Int) + (B : Int) := by rw [Int.natCast_succ, Int.add_mul, Int.one_mul]
    have hdn : (0 : Int) ≤ (d : Int) * (B : Int) := Int.mul_nonneg (by omega) (by omega)
    rw [hq] at h1
    have hw : wrap64 (a + 1) = a + 1 := w64 (by omega) (by omega)
    obtain ⟨s, hs⟩ := markText a (by omega)
    obtain ⟨b, n', a1, a2, a3, a4⟩ := markByteS x[i].f1 (by omega) (a + 1) (by omega) (by omega)
    obtain ⟨c, w', b1, b2, b3, b4⟩ := markByteS x[i].f2 (by omega) b (by omega) (by omega)
    obtain ⟨m, x', f1, f2, f3, f4, f5, f6⟩ := ih (i + 1) (x.set i ⟨s, n', w'⟩) c (by simp; omega) (by simpa using hx) (fun y hmem => by
      rcases List.mem_or_eq_of_mem_set hmem with h | rfl
      · exact hy y h
      simp only [a3, b3]; exact hyi) (by omega) (by omega)
    have hli : i < x'.length := by rw [f4]; simpa using hix
    have he : x'[i] = ⟨s, n', w'⟩ := by
      have := f5 i (by omega)
      rw [List.getElem?_set_self hix, List.getElem?_eq_getElem hli] at this
      exact Option.some.inj this
    refine ⟨m, x', EvS ?_, by omega, by rw [hq]; omega, by simpa using f4, fun j hj => ?_, EvS ?_⟩
    · simp only [laws_markFileS.l0, if_pos (show (i : Int) < (x.length : Int) by omega), if_pos (show 0 ≤ (i : Int) by omega), EvB hs, rd74 x i hix, hw, EvB a1, EvB b1, Int.toNat_natCast, nxt i x.length hix (by omega)]
      exact f1
    · rw [f5 j (by omega), List.getElem?_set_ne (by omega)]
    simp only [laws_heldFileS.l0, if_pos (show (i : Int) < (x'.length : Int) by omega), if_pos (show 0 ≤ (i : Int) by omega), EvB hs, rd74 x' i hli, he, if_true, hw, EvB a4, EvB b4, if_neg (show ¬ b < 0 by omega), if_neg (show ¬ c < 0 by omega), nxt i x'.length hli (by rw [f4]; simp; omega)]
    exact f6
theorem markDisk (B : Nat) (x : List S74) (hB : B ≤ 3000000) (hx : x.length ≤ 3000000) (hs : 1 + (x.length : Int) * B ≤ 3900000000000000) (hy : ∀ y ∈ x, 1 + y.f1.length + y.f2.length ≤ B) : ∃ (m : Int) (x' : List S74), Ev (fun k => laws_markDisk.f k x 1) (m, x') ∧ 1 ≤ m ∧ Ev (fun k => laws_heldDisk.f k x' 1) m := by
  obtain ⟨m, x', h1, h2, _, _, _, h3⟩ := markFS B hB x.length 0 x 1 rfl hx hy (by omega) hs
  refine ⟨m, x', h1, h2, ?_⟩
  have h3 : Ev (fun k => laws_heldFileS.f k x' 1) m := h3
  unfold laws_heldDisk.f
  simp only [EvB h3, if_neg (show ¬ m < 0 by omega)]
  exact EvN
end Go.Proofs.YtmgeffgcihfpcaaDoor.DK

namespace Go.Proofs.YtmgeffgcihfpcaaDoor.Pure
set_option linter.unusedVariables false
set_option linter.unusedSimpArgs false
open Go.RowKit Go.Proofs.YtmgeffgcihfpcaaDoor.F Go.Proofs.YtmgeffgcihfpcaaDoor.PK Go.Proofs.YtmgeffgcihfpcaaDoorW.PrintWords Go.Proofs.YtmgeffgcihfpcaaDoorW.PrintLast
open Go.Proofs.YtmgeffgcihfpcaaDoor.DK Go.Proofs.YtmgeffgcihfpcaaDoor.BY
theorem FnExactRenameFile (l0_0 : List (S101)) (a1 a2 : ByteArray) (hw0 : l0_0.length ≤ 9223372036854775807 ∧ ∀ y_ ∈ l0_0, ((y_.f0.size ≤ 9223372036854775807) ∧ (y_.f1.length ≤ 9223372036854775807 ∧ ∀ z_ ∈ y_.f1, ((Lit.int .u8 z_).wf = true)) ∧ (y_.f2.length ≤ 9223372036854775807 ∧ ∀ z_ ∈ y_.f2, ((Lit.int .u8 z_).wf = true)))) (hw1 : a1.size ≤ 9223372036854775807) (hw2 : a2.size ≤ 9223372036854775807) : ∃ k, laws_FnExactRenameFile.f k l0_0 a1 a2 = some true := by
  refine EvE ?_
  unfold laws_FnExactRenameFile.f
  by_cases h0 : (a1.size : Int) > 1048576
  · simp only [if_pos h0]; exact EvN
  by_cases h02 : (a2.size : Int) > 1048576
  · simp only [if_neg h0, if_pos h02]; exact EvN
  obtain ⟨t, h1, h3⟩ := szDisk l0_0 hw0.1 (fun y hy => ⟨(hw0.2 y hy).1, (hw0.2 y hy).2.1.1, (hw0.2 y hy).2.2.1⟩)
  simp only [if_neg h0, if_neg h02, EvB h1]
  by_cases h : t < 0
  · simp only [if_pos h]; exact EvN
  have h3 := h3 (by omega)
  have hT := toDisk l0_0 h3.1 h3.2
  have hw : wfD (l0_0.map conv101) := fun r hr => by
    obtain ⟨y, hy, rfl⟩ := List.mem_map.1 hr
    exact ⟨(hw0.2 y hy).1, h3.2 y hy⟩
  have hl : (l0_0.map conv101).length ≤ 1048576 := by rw [List.length_map]; exact h3.1
  generalize l0_0.map conv101 = l at hT hw hl
  have hS := spec_ren l a1 a2 hl hw hw2
  have hI := impl_ren' l a1 a2 hl hw hw2
  have hc := ren_le l a1 a2 hw
  generalize renM l a1 a2 = r at hS hI hc
  obtain ⟨b, q⟩ := r
  simp only at hc
  have hwb : ∀ y ∈ b, y.f1.length + y.f2.length ≤ 2097152 := hc.2
  have hE := eqDisk l (by omega) (fun y hy => by have := hw y hy; omega)
  have hQ := eqDisk b (by omega) (fun y hy => by have := hwb y hy; omega)
  have hm : (l.length : Int) * ((2097153 : Nat) : Int) ≤ 1048576 * 2097153 := Int.mul_le_mul (by omega) (by omega) (by omega) (by omega)
  have hm2 : (b.length : Int) * ((2097153 : Nat) : Int) ≤ 1048577 * 2097153 := Int.mul_le_mul (by omega) (by omega) (by omega) (by omega)
  obtain ⟨m, l', m1, m2, _⟩ := markDisk 2097153 l (by omega) (by omega) (by omega) (fun y hy => by have := hw y hy; omega)
  obtain ⟨n, b', q1, q2, q3⟩ := markDisk 2097153 b (by omega) (by omega) (by omega) (fun y hy => by have := hwb y hy; omega)
  simp only [if_neg h, EvB hT, EvB hS, EvB hI, EvB hQ, if_true, EvB hE, EvB m1, if_neg (show ¬ m < 0 by omega), EvB q1, EvB q3, if_neg (show ¬ n < 0 by omega)]
  exact EvN
end Go.Proofs.YtmgeffgcihfpcaaDoor.Pure

namespace Go.Proofs.YtmgeffgcihfpcaaDoor.Opens
set_option linter.unusedVariables false
set_option linter.unusedSimpArgs false
open Go.RowKit Go.Proofs.YtmgeffgcihfpcaaDoorW.PrintWords
def Opens (P : Program) (t : TypeId) {α : Type} (d : Kd α) (ok : α → Prop) : Prop :=
  P.cellsOf t = d.sz ∧ ∀ (H : Type) (enc : TypeId × Value → H) (w : World) (spare : Nat → Bool) (fuel : Nat) (cs : List Value) (x : DataW H × List MemPlace), DataW.trod enc P w 0 spare true fuel t cs = some x → ∃ a : α, d.K w a cs ∧ ok a
variable {P : Program}
theorem opens_int {t : TypeId} {k : IntKind} (ht : P.underlying t = some (.int k)) (hc : P.cellsOf t = 1) : Opens P t (Kd.int k) (fun a => (Lit.int k a).wf = true) :=
  ⟨hc, fun _ _ _ _ _ _ _ h => by
    obtain ⟨n, rfl, _, hw⟩ := DataW.trod_int ht h
    exact ⟨n, rfl, hw⟩⟩
theorem opens_string {t : TypeId} (ht : P.underlying t = some .string) (hc : P.cellsOf t = 1) : Opens P t Kd.string (fun a => a.size ≤ 9223372036854775807) :=
  ⟨hc, fun _ _ _ _ _ _ _ h => by
    obtain ⟨n, rfl, _, hw⟩ := DataW.trod_string ht h
    exact ⟨n, rfl, hw⟩⟩
theorem add_add (a : Addr) (i j : Nat) : (a.add i).add j = a.add (i + j) := by
  unfold Addr.add
  by_cases hi : i = 0 <;> by_cases hj : j = 0 <;> simp [hi, hj, Nat.add_assoc]
theorem opens_slice {t e : TypeId} {α : Type} {d : Kd α} {ok : α → Prop} (ht : P.underlying t = some (.slice e)) (hc : P.cellsOf t = 1) (hd : Opens P e d ok) :
    Opens P t (Kd.slice e d) (fun l => l.length ≤ 9223372036854775807 ∧ ∀ a ∈ l, ok a) :=
  ⟨hc, fun H enc w spare fuel cs x h => by
    rcases Deep.open_slice ht h with ⟨rfl, _⟩ | ⟨a, len, cap, m, n, D, Pl, rfl, _, hl, hm, hmm, hxx, hx⟩
    · exact ⟨[], ⟨none, 0, rfl, Nat.le_refl _, rfl, Nat.zero_le _, fun h => absurd h (Nat.lt_irrefl _)⟩, Nat.zero_le _, fun _ h => nomatch h⟩
    have hlm : len ≤ m := by rw [hmm]; split <;> omega
    have hex : ∀ i, i < len → ∃ b : α, ∃ cs', w.cells? 0 (a.add (i * P.cellsOf e)) (P.cellsOf e) = some cs' ∧ d.K w b cs' ∧ ok b := fun i hi => by
      obtain ⟨cs', h1, h2⟩ := hx i (Nat.lt_of_lt_of_le hi hlm)
      obtain ⟨b, hb⟩ := hd.2 H enc w spare n cs' _ h2
      exact ⟨b, cs', h1, hb.1, hb.2⟩
    have hml : len ≤ 9223372036854775807 := by unfold maxLen at hm; omega
    obtain ⟨l, hll, hat⟩ : ∃ l : List α, l.length = len ∧ ∀ i p, l[i]? = some p → ∃ cs', w.cells? 0 (a.add (i * P.cellsOf e)) (P.cellsOf e) = some cs' ∧ d.K w p cs' ∧ ok p := by
      clear hx hlm hmm hl hm hml hxx h
      induction len with
      | zero => exact ⟨[], rfl, fun i p h => by simp at h⟩
      | succ len ih =>
        obtain ⟨l, hll, hat⟩ := ih (fun i hi => hex i (Nat.lt_succ_of_lt hi))
        obtain ⟨b, hb⟩ := hex len (Nat.lt_succ_self _)
        refine ⟨l ++ [b], by simp [hll], fun i p h => ?_⟩
        rcases Nat.lt_or_ge i l.length with hi | hi
        · rw [List.getElem?_append_left hi] at h
          exact hat i p h
        rw [List.getElem?_append_right hi] at h
        have hi0 : i - l.length = 0 := by
          rcases Nat.eq_zero_or_pos (i - l.length) with h0 | h0
          · exact h0
          rw [List.getElem?_eq_none (by simp; omega)] at h
          cases h
        rw [hi0] at h
        have : b = p := by simpa using h
        subst this
        have : i = len := by omega
        subst this
        exact hb
    subst hll
    refine ⟨l, ⟨some a, cap, rfl, hl, rfl, hml, fun _ => ⟨a, rfl, fun j p hj => ?_⟩⟩, hml, fun b hb => ?_⟩
    · obtain ⟨cs', h1, hk, _⟩ := hat j p hj
      obtain ⟨_, hlen, hcell⟩ := World.cells?_some h1
      refine ⟨cs', hlen.trans hd.1, hk, fun i u hu => ?_⟩
      have hi : i < P.cellsOf e := by
        have := (List.getElem?_eq_some_iff.1 hu).1
        omega
      have := hcell i hi
      rw [hu, add_add, hd.1] at this
      exact this
    obtain ⟨i, hi⟩ := List.getElem?_of_mem hb
    obtain ⟨_, _, _, hok⟩ := hat i b hi
    exact hok⟩
def OpensF (P : Program) (fs : List Field) (off : Nat) {α : Type} (d : Kd α) (ok : α → Prop) : Prop :=
  ∀ (H : Type) (enc : TypeId × Value → H) (w : World) (spare : Nat → Bool) (n : Nat) (cs : List Value), (∀ f, f ∈ fs → ∃ y, DataW.trod enc P w 0 spare true n f.type ((cs.drop f.offset).take (P.cellsOf f.type)) = some y) → cs.length = off + d.sz → ∃ a : α, d.K w a (cs.drop off) ∧ ok a
theorem opens_last {f : Field} {off : Nat} {α : Type} {d : Kd α} {ok : α → Prop} (ho : f.offset = off) (hd : Opens P f.type d ok) : OpensF P [f] off d ok := fun H enc w spare n cs hf hl => by
  obtain ⟨y, hy⟩ := hf f (List.mem_singleton.2 rfl)
  rw [ho, List.take_of_length_le (by rw [List.length_drop, hl, hd.1]; omega)] at hy
  exact hd.2 H enc w spare n _ y hy
theorem opens_field {f : Field} {fs : List Field} {off : Nat} {α β : Type} {d : Kd α} {d' : Kd β} {ok : α → Prop} {ok' : β → Prop} (ho : f.offset = off) (hd : Opens P f.type d ok) (hr : OpensF P fs (off + d.sz) d' ok') :
    OpensF P (f :: fs) off (Kd.pair d d') (fun p => ok p.1 ∧ ok' p.2) := fun H enc w spare n cs hf hl => by
  obtain ⟨y, hy⟩ := hf f (List.mem_cons_self ..)
  have hz : (Kd.pair d d').sz = d.sz + d'.sz := rfl
  rw [ho, hd.1] at hy
  obtain ⟨a, ha, hoa⟩ := hd.2 H enc w spare n _ y hy
  obtain ⟨b, hb, hob⟩ := hr H enc w spare n cs (fun g hg => hf g (List.mem_cons_of_mem _ hg)) (by omega)
  refine ⟨(a, b), ⟨(cs.drop off).take d.sz, cs.drop (off + d.sz), ?_, ha, hb⟩, hoa, hob⟩
  rw [← List.drop_drop, List.take_append_drop]
theorem opens_struct {t : TypeId} {fs : Array Field} {α : Type} {d : Kd α} {ok : α → Prop} (ht : P.underlying t = some (.struct fs)) (hc : P.cellsOf t = d.sz) (hf : OpensF P fs.toList 0 d ok) : Opens P t d ok :=
  ⟨hc, fun H enc w spare fuel cs x h => by
    obtain ⟨xs, n, _, _, hlen, hxs, hi⟩ := DataW.trod_struct ht h
    have := hf H enc w spare n cs (fun f hm => by
      obtain ⟨i, hi'⟩ := List.getElem?_of_mem hm
      have hq := hi i f (by simpa using hi')
      have hlt : i < xs.length := by
        have := (List.getElem?_eq_some_iff.1 hi').1
        rw [hxs]
        simpa using this
      rw [List.getElem?_eq_getElem hlt] at hq
      exact ⟨_, hq⟩) (by omega)
    simpa using this⟩
theorem opens_iso {t : TypeId} {α β : Type} {d : Kd α} {ok : α → Prop} (f : β → α) (g : α → β) (hfg : ∀ a, f (g a) = a) (h : Opens P t d ok) : Opens P t (Kd.iso d f) (fun b => ok (f b)) :=
  ⟨h.1, fun H enc w spare fuel cs x hx => by
    obtain ⟨a, ha, hok⟩ := h.2 H enc w spare fuel cs x hx
    exact ⟨g a, by show d.K w (f (g a)) cs; rw [hfg]; exact ha, by show ok (f (g a)); rw [hfg]; exact hok⟩⟩
end Go.Proofs.YtmgeffgcihfpcaaDoor.Opens
