/- Merged texts below the law FnExactWalAppend: Go functions as Lean functions, their contracts, and plain lemmas. -/
import Derived.Test.YtcgojdhbphocgaaDoorQFnExactWalAppend23
import Derived.Test.YtcgojdhbphocgaaDoorVFnExactWalAppendMore
import Derived.Test.YtcgojdhbphocgaaDoorVFnExactWalAppendKept
import Derived.Test.YtcgojdhbphocgaaDoorVFnExactWalAppendApart
namespace Go.Proofs.YtcgojdhbphocgaaDoor.F
open Go.Proofs.YtcgojdhbphocgaaDoor
open Go.RowKit Go.Proofs.YtcgojdhbphocgaaDoorW.PrintWords Go.Proofs.YtcgojdhbphocgaaDoorW.PrintWords.Kd Go.Proofs.YtcgojdhbphocgaaDoorW.PrintMore.Kd Go.Proofs.YtcgojdhbphocgaaDoorW.PrintLast Go.Proofs.YtcgojdhbphocgaaDoorW.PrintMore
attribute [local go_sem] max2_int min2_int max_two min_two max_three min_three max_four min_four   -- for this text's walks alone
set_option linter.unusedVariables false
set_option linter.unusedSimpArgs false
def spec_DiskOk.l0 : Nat → Int → List (S55) → Option (Bool)
 | 0, _, _ => none
 | k + 1, x3, x112000 => if x3 < (x112000.length : Int) then (if 0 ≤ x3 then ((spec_l01Name.f k ((rd_T55 x112000 x3).f0)).bind fun t114 => (if t114 = true then (if (((rd_T55 x112000 x3).f1).length : Int) > 20000 then (some false) else (if (((rd_T55 x112000 x3).f2).length : Int) > (wrap64 (20000 - (((rd_T55 x112000 x3).f1).length : Int))) then (some false) else (if x3 > 0 then (if 0 ≤ (wrap64 (x3 - 1)) then (if (wrap64 (x3 - 1)) < (x112000.length : Int) then (if ((Op.bytesLess (((rd_T55 x112000 (wrap64 (x3 - 1))).f0).toList) (((rd_T55 x112000 x3).f0).toList)) = true) then (spec_DiskOk.l0 k (wrap64 (x3 + 1)) x112000) else (some false)) else (none)) else (none)) else (spec_DiskOk.l0 k (wrap64 (x3 + 1)) x112000)))) else (some false))) else (none)) else (some true)
def spec_DiskOk.f (k : Nat) (l0_0 : List (S55)) : Option (Bool) := if (l0_0.length : Int) > 8 then (some false) else (spec_DiskOk.l0 k 0 l0_0)
def spec_DiskOk.T7 : Bool × List (List Nat × List Nat) := (true, [([], []), ([0], [0]), ([1], [1]), ([2], [2]), ([3, 2], [3]), ([4], [4]), ([5, 4], [4, 5]), ([6, 4], [4, 6]), ([7, 4], [4, 7]), ([4, 8], [4, 8]), ([9, 4], [9]), ([10], [10]), ([11, 10], [10, 11]), ([12, 10], [10, 12]), ([10], [10]), ([14, 10], [10, 14]), ([15, 10], [10, 15]), ([16, 10], [10, 16]), ([13, 17, 10], [10, 13, 17]), ([10, 18], [10, 18]), ([19, 10], [19]), ([20], [20]), ([21, 20], [20, 21]), ([22, 20, 20], [20, 22]), ([23], [23]), ([24, 23], [23, 24]), ([23], [23]), ([26, 23], [23, 26]), ([25, 27, 23], [23, 25, 27]), ([28, 23], [23, 28]), ([29, 23], [23, 29]), ([23], [23]), ([31, 23], [23, 31]), ([30, 32, 23], [23, 30, 32]), ([23, 33, 20], [20, 23, 33]), ([20, 34], [20, 34])])
def spec_DiskOk.B7 : List Nat := [0, 1, 3, 7, 15, 31, 63, 127, 255, 511, 1023, 2047, 4095, 8191, 2047, 18431, 51199, 116735, 262143, 524287, 1048575, 2097151, 4194303, 8388607, 16777215, 33554431, 16777215, 83886079, 268435455, 536870911, 1073741823, 16777215, 2164260863, 8589934591, 17179869183, 34359738367]
theorem spec_DiskOk.tab7 : rtab .any (opsOf Tryd.f84 7) = spec_DiskOk.T7 := by kernel_rfl
theorem spec_DiskOk.bits7 : waitsOk spec_DiskOk.T7.2 spec_DiskOk.B7 = true := by kernel_rfl
set_option maxHeartbeats 8000000 in
set_option maxRecDepth 100000 in
theorem spec_DiskOk.calls (k : Nat) (A0_0 : Option Addr) (c0_0 : Nat) (l0_0 : List (S55)) (r : Bool) (w : World) (hr0_0 : Kd.C k55 w A0_0 l0_0.length l0_0) (hc0_0 : l0_0.length ≤ c0_0) (h : spec_DiskOk.f k l0_0 = some r) :
  Calls Tryd.prog 84 #[.agg #[.slice A0_0 l0_0.length c0_0]] w fun e w' => e = .returned (.bool r) ∧ Below w.heap.size w w' := by
 have hu28 := Tryd.underlying28
 have hu55 := Tryd.underlying55
 have HR0_0 := Zh hr0_0
 have HC0_0 := Zh hc0_0
 clear hr0_0 hc0_0
 have HB := Zh (Below.refl w.heap.size w)
 have H : (if (l0_0.length : Int) > 8 then (some false) else (spec_DiskOk.l0 k 0 l0_0)) = some r := h
 clear h
 by_cases c2 : (l0_0.length : Int) > 8
 ·
  rw [if_pos c2] at H
  have c2b0 : decide (8 < (l0_0.length : Int)) = true := decide_eq_true c2
  have c2b1 : decide (8 < l0_0.length) = true := decide_eq_true (by omega)
  clear c2
  obtain rfl := Option.some.inj H
  go_enter Tryd.func84, Tryd.ntmps84
  go_wp2_with (first | ((with_reducible refine gate_dst (N := 1) rfl ?_); (try (refine gate_guard (by rfl) ?_; dsimp only)); refine box_event ?hg (N := 1) ?hd (cs := #[.slice A0_0 l0_0.length c0_0]) (t := 28) ?hr ?_; (case hd => rfl); (case hg => rfl); (case hr => first | (go_simp; done) | (go_simp; rfl)); intro gb111 hg w3 hbox hb; have n0_ := Zh (Zl Zs hb); have n1_ := Zh (hbox); have n2_ := Zh ((by rw [hg]; exact (below_size Zs) : w.heap.size ≤ gb111)); have n3_ := Zh ((by rw [hg]; exact (below_size Zs) : w.heap.size ≤ gb111)); clear HB; have HB := n0_; have BK111 := n1_; have GW111 := n2_; have GE111 := n3_; clear n0_ n1_ n2_ n3_; clear hb hbox hg; have hcz4_0 : w3.cell? ⟨gb111, 0, none⟩ = some (.slice A0_0 l0_0.length c0_0) := (blk_cell BK111.out 0).trans rfl; have hfz4_0 := Zn BK111.out 0))
  go_ret
  exact ⟨by first | rfl | (simp [errW_none, errW_some] <;> rfl) | (simp [*, errW_none, errW_some] <;> rfl), by repeat (first | (with_reducible first | exact HB.out | apply Zf | apply Zd | apply Ze | refine Zg ?_ GE111.out) | exact HB.out)⟩
 rw [if_neg c2] at H
 have c2b0 : decide (8 < (l0_0.length : Int)) = false := decide_eq_false c2
 have c2b1 : decide (8 < l0_0.length) = false := decide_eq_false (by omega)
 clear c2
 have H' := Zh H
 clear H
 go_enter Tryd.func84, Tryd.ntmps84
 go_wp2_with (first | ((with_reducible refine gate_dst (N := 1) rfl ?_); (try (refine gate_guard (by rfl) ?_; dsimp only)); refine box_event ?hg (N := 1) ?hd (cs := #[.slice A0_0 l0_0.length c0_0]) (t := 28) ?hr ?_; (case hd => rfl); (case hg => rfl); (case hr => first | (go_simp; done) | (go_simp; rfl)); intro gb111 hg w5 hbox hb; have n0_ := Zh (Zl Zs hb); have n1_ := Zh (hbox); have n2_ := Zh ((by rw [hg]; exact (below_size Zs) : w.heap.size ≤ gb111)); have n3_ := Zh ((by rw [hg]; exact (below_size Zs) : w.heap.size ≤ gb111)); clear HB; have HB := n0_; have BK111 := n1_; have GW111 := n2_; have GE111 := n3_; clear n0_ n1_ n2_ n3_; clear hb hbox hg; have hcz6_0 : w5.cell? ⟨gb111, 0, none⟩ = some (.slice A0_0 l0_0.length c0_0) := (blk_cell BK111.out 0).trans rfl; have hfz6_0 := Zn BK111.out 0))
 go_loopg [3] k (fun kq v3 w' => ∃ (x3_1 : Int), v3 = .int .i64 x3_1 ∧ Aside0 (spec_DiskOk.l0 kq x3_1 l0_0 = some r) ∧ Aside0 (kq ≤ k) ∧ Aside0 (w'.heap[gb111]? = some (.cells #[(.slice A0_0 l0_0.length c0_0)] 28 (0, 0))) ∧ Aside0 (Below w.heap.size w w'))
 case atStart => exact ⟨(0), (by first | rfl | (simp; done) | (simp [*]; done)), H', ⟨Nat.le_refl _⟩, ⟨by (with_reducible repeat (first | refine Za ?_ _ | refine Zb ?_ | refine blk_alloc ?_ _)); exact BK111.out⟩, ⟨by repeat (first | (with_reducible first | exact HB.out | apply Zf | apply Zd | apply Ze | refine Zg ?_ GE111.out) | exact HB.out)⟩⟩
 case round =>
  clear H'
  try clear c2
  try clear c2b0
  try clear c2b1
  try clear p2
  try clear hcz4_0
  try clear hcz6_0
  try clear hfz4_0
  try clear hfz6_0
  obtain ⟨x3_1, rfl, HA, HK1, BK111, HB⟩ := hrel
  cases gk with
  | zero => exact absurd HA.out (by simp [spec_DiskOk.l0])
  | succ k1 =>
   have H := HA.out
   clear HA
   simp only [spec_DiskOk.l0] at H
   by_cases c7 : x3_1 < (l0_0.length : Int)
   ·
    rw [if_pos c7] at H
    have c7b0 : decide (x3_1 < (l0_0.length : Int)) = true := decide_eq_true c7
    clear c7
    by_cases c8 : 0 ≤ x3_1
    ·
     rw [if_pos c8] at H
     have c8b0 : decide (0 ≤ x3_1) = true := decide_eq_true c8
     clear c8
     replace H := Option.bind_eq_some_iff.mp H
     obtain ⟨t114, A90, H⟩ := H
     replace H : (if t114 = true then (if (((rd_T55 l0_0 x3_1).f1).length : Int) > 20000 then (some false) else (if (((rd_T55 l0_0 x3_1).f2).length : Int) > (wrap64 (20000 - (((rd_T55 l0_0 x3_1).f1).length : Int))) then (some false) else (if x3_1 > 0 then (if 0 ≤ (wrap64 (x3_1 - 1)) then (if (wrap64 (x3_1 - 1)) < (l0_0.length : Int) then (if ((Op.bytesLess (((rd_T55 l0_0 (wrap64 (x3_1 - 1))).f0).toList) (((rd_T55 l0_0 x3_1).f0).toList)) = true) then (spec_DiskOk.l0 k1 (wrap64 (x3_1 + 1)) l0_0) else (some false)) else (none)) else (none)) else (spec_DiskOk.l0 k1 (wrap64 (x3_1 + 1)) l0_0)))) else (some false)) = some r := H
     have A9 := Zh A90
     clear A90
     by_cases c10 : t114 = true
     ·
      subst c10
      have H1 : (if (((rd_T55 l0_0 x3_1).f1).length : Int) > 20000 then (some false) else (if (((rd_T55 l0_0 x3_1).f2).length : Int) > (wrap64 (20000 - (((rd_T55 l0_0 x3_1).f1).length : Int))) then (some false) else (if x3_1 > 0 then (if 0 ≤ (wrap64 (x3_1 - 1)) then (if (wrap64 (x3_1 - 1)) < (l0_0.length : Int) then (if ((Op.bytesLess (((rd_T55 l0_0 (wrap64 (x3_1 - 1))).f0).toList) (((rd_T55 l0_0 x3_1).f0).toList)) = true) then (spec_DiskOk.l0 k1 (wrap64 (x3_1 + 1)) l0_0) else (some false)) else (none)) else (none)) else (spec_DiskOk.l0 k1 (wrap64 (x3_1 + 1)) l0_0)))) = some r := by rw [if_pos rfl] at H; exact H
      clear H
      have H := H1
      clear H1
      by_cases c11 : (((rd_T55 l0_0 x3_1).f1).length : Int) > 20000
      ·
       rw [if_pos c11] at H
       have c11b0 : decide (20000 < (((rd_T55 l0_0 x3_1).f1).length : Int)) = true := decide_eq_true c11
       have c11b1 : decide (20000 < ((rd_T55 l0_0 x3_1).f1).length) = true := decide_eq_true (by omega)
       clear c11
       obtain rfl := Option.some.inj H
       have hcz12_0 : wr.cell? ⟨gb111, 0, none⟩ = some (.slice A0_0 l0_0.length c0_0) := (blk_cell BK111.out 0).trans rfl
       have hfz12_0 := Zn BK111.out 0
       have p112 : 0 ≤ (x3_1 : Int) := Zo
       have q112 : x3_1 < (l0_0.length : Int) := Zo
       obtain ⟨ad112, A112_1, c112_1, A112_2, c112_2, e112, hx112_0, hx112_1, hx112_2, hl112_1, hi112_1, hl112_2, hi112_2⟩ := at_T55 HR0_0.out x3_1 p112 q112
       cases e112
       replace hx112_0 := Zc HB.out hx112_0
       replace hx112_1 := Zc HB.out hx112_1
       replace hx112_2 := Zc HB.out hx112_2
       have HR112_1 := Zh hi112_1
       have HC112_1 := Zh hl112_1
       clear hi112_1 hl112_1
       have HR112_2 := Zh hi112_2
       have HC112_2 := Zh hl112_2
       clear hi112_2 hl112_2
       replace p112 := eq_true p112
       replace q112 := eq_true q112
       try go_wp2_with (first | ((with_reducible refine gate_dst (N := 4) rfl ?_); (try (refine gate_guard (by rfl) ?_; dsimp only)); refine box_event ?hg (N := 4) ?hd (cs := #[.string (⟨#[]⟩ : ByteArray), .slice none 0 0, .slice none 0 0]) (t := 55) ?hr ?_; (case hd => rfl); (case hg => rfl); (case hr => first | (go_simp; done) | (go_simp; rfl)); intro gb113 hg w13 hbox hb; have n0_ := Zh (Zm (g := gb111) (o := .cells #[.slice (some ad112) l0_0.length c0_0] 28 (0, 0)) Zk hb); have n1_ := Zh (Zl Zs hb); have n2_ := Zh (hbox); have n3_ := Zh ((by rw [hg]; exact (below_size Zs) : w.heap.size ≤ gb113)); have n4_ := Zh ((by rw [hg]; exact (below_size Zs) : w.heap.size ≤ gb113)); have n5_ := Zh ((by rw [hg]; exact Nat.ne_of_lt (blk_lt (g := gb111) (o := .cells #[.slice (some ad112) l0_0.length c0_0] 28 (0, 0)) Zk) : gb111 ≠ gb113)); have n6_ := Zh ((by rw [hg]; exact Nat.ne_of_gt (blk_lt (g := gb111) (o := .cells #[.slice (some ad112) l0_0.length c0_0] 28 (0, 0)) Zk) : gb113 ≠ gb111)); clear BK111; clear HB; have BK111 := n0_; have HB := n1_; have BK113 := n2_; have GW113 := n3_; have GE113 := n4_; have NB111_113 := n5_; have NB113_111 := n6_; clear n0_ n1_ n2_ n3_ n4_ n5_ n6_; clear hb hbox hg; have hnb14 := NB113_111.out; have hnc14 := NB111_113.out; have hcz15_0 : w13.cell? ⟨gb113, 0, none⟩ = some (.string (⟨#[]⟩ : ByteArray)) := (blk_cell BK113.out 0).trans rfl; have hcz15_1 : w13.cell? ⟨gb113, 1, none⟩ = some (.slice none 0 0) := (blk_cell BK113.out 1).trans rfl; have hcz15_2 : w13.cell? ⟨gb113, 2, none⟩ = some (.slice none 0 0) := (blk_cell BK113.out 2).trans rfl; have hfz15_0 := Zn BK113.out 0; have hfz15_1 := Zn BK113.out 1; have hfz15_2 := Zn BK113.out 2))
       have n0_ : Aside0 ((((w13.setCell ⟨gb113, 0, none⟩ (.string ((rd_T55 l0_0 x3_1).f0))).setCell ⟨gb113, 1, none⟩ (.slice A112_1 ((rd_T55 l0_0 x3_1).f1).length c112_1)).setCell ⟨gb113, 2, none⟩ (.slice A112_2 ((rd_T55 l0_0 x3_1).f2).length c112_2)).heap[gb111]? = some (.cells #[.slice (some ad112) l0_0.length c0_0] 28 (0, 0))) := ⟨by (with_reducible repeat (first | refine Za ?_ _ | refine Zb ?_ | refine blk_alloc ?_ _)); refine Zp ?_ NB111_113.out _; (with_reducible repeat (first | refine Za ?_ _ | refine Zb ?_ | refine blk_alloc ?_ _)); refine Zp ?_ NB111_113.out _; (with_reducible repeat (first | refine Za ?_ _ | refine Zb ?_ | refine blk_alloc ?_ _)); refine Zp ?_ NB111_113.out _; (with_reducible repeat (first | refine Za ?_ _ | refine Zb ?_ | refine blk_alloc ?_ _)); exact BK111.out⟩
       have n1_ : Aside0 ((((w13.setCell ⟨gb113, 0, none⟩ (.string ((rd_T55 l0_0 x3_1).f0))).setCell ⟨gb113, 1, none⟩ (.slice A112_1 ((rd_T55 l0_0 x3_1).f1).length c112_1)).setCell ⟨gb113, 2, none⟩ (.slice A112_2 ((rd_T55 l0_0 x3_1).f2).length c112_2)).heap[gb113]? = some (.cells #[.string ((rd_T55 l0_0 x3_1).f0), .slice A112_1 ((rd_T55 l0_0 x3_1).f1).length c112_1, .slice A112_2 ((rd_T55 l0_0 x3_1).f2).length c112_2] 55 (0, 0))) := ⟨by (with_reducible repeat (first | refine Za ?_ _ | refine Zb ?_ | refine blk_alloc ?_ _)); refine blk_put (cs := #[.string ((rd_T55 l0_0 x3_1).f0), .slice A112_1 ((rd_T55 l0_0 x3_1).f1).length c112_1, .slice none 0 0]) ?_ 2 _ rfl; (with_reducible repeat (first | refine Za ?_ _ | refine Zb ?_ | refine blk_alloc ?_ _)); refine blk_put (cs := #[.string ((rd_T55 l0_0 x3_1).f0), .slice none 0 0, .slice none 0 0]) ?_ 1 _ rfl; (with_reducible repeat (first | refine Za ?_ _ | refine Zb ?_ | refine blk_alloc ?_ _)); refine blk_put (cs := #[.string (⟨#[]⟩ : ByteArray), .slice none 0 0, .slice none 0 0]) ?_ 0 _ rfl; (with_reducible repeat (first | refine Za ?_ _ | refine Zb ?_ | refine blk_alloc ?_ _)); exact BK113.out⟩
       have n2_ : Aside0 (Below w.heap.size w (((w13.setCell ⟨gb113, 0, none⟩ (.string ((rd_T55 l0_0 x3_1).f0))).setCell ⟨gb113, 1, none⟩ (.slice A112_1 ((rd_T55 l0_0 x3_1).f1).length c112_1)).setCell ⟨gb113, 2, none⟩ (.slice A112_2 ((rd_T55 l0_0 x3_1).f2).length c112_2))) := ⟨by repeat (first | (with_reducible first | exact HB.out | apply Zf | apply Zd | apply Ze | refine Zg ?_ GE111.out | refine Zg ?_ GE113.out) | exact HB.out)⟩
       (try clear BK111)
       (try clear BK113)
       (try clear HB)
       generalize (((w13.setCell ⟨gb113, 0, none⟩ (.string ((rd_T55 l0_0 x3_1).f0))).setCell ⟨gb113, 1, none⟩ (.slice A112_1 ((rd_T55 l0_0 x3_1).f1).length c112_1)).setCell ⟨gb113, 2, none⟩ (.slice A112_2 ((rd_T55 l0_0 x3_1).f2).length c112_2)) = w16 at n0_ n1_ n2_ ⊢
       have BK111 := n0_
       have BK113 := n1_
       have HB := n2_
       clear n0_ n1_ n2_
       have n0_ := Zh (Zb BK111.out)
       have n1_ := Zh (Zb BK113.out)
       have n2_ := Zh (Ze HB.out)
       clear BK111
       clear BK113
       clear HB
       have BK111 := n0_
       have BK113 := n1_
       have HB := n2_
       clear n0_ n1_ n2_
       refine start_ (n := 36) (S := fun w' => w'.cell? ⟨gb113, 0, none⟩ = some (.string ((rd_T55 l0_0 x3_1).f0)) ∧ w'.cell? ⟨gb113, 1, none⟩ = some (.slice A112_1 ((rd_T55 l0_0 x3_1).f1).length c112_1) ∧ w'.cell? ⟨gb113, 2, none⟩ = some (.slice A112_2 ((rd_T55 l0_0 x3_1).f2).length c112_2)) (ds := []) #[false, false, false, false, false, false, false, false, false, false, false, false, false, false, false, false, false, false, false, false, false, false, false, false, false, false, false, false, false, false, false, false, false, false, false, false] (by kernel_rfl) rfl rfl ⟨(blk_cell BK113.out 0).trans rfl, (blk_cell BK113.out 1).trans rfl, (blk_cell BK113.out 2).trans rfl⟩ (fun hHeld => ?_); refine with_tabW spec_DiskOk.tab7 spec_DiskOk.bits7 (fun HT_ HW_ => ?_)
       generalize w16.drew = w17 at BK111 BK113 HB hHeld ⊢
       refine SQ.pu 0 21 HT_ ?_
       refine SQ.tk 1 22 HT_ HW_ hHeld ?_
       refine one_ (i := 2) (N := some 23) #[true, true, true, false, false, false, false, false, false, false, false, false, false, false, false, false, false, false, false, false, false, false, false, false, false, false, false, false, false, false, false, false, false, false, false, false] rfl rfl (one_of HT_.out (by kernel_rfl)) (by decide) (fun K hK => ?_)
       refine goes_ Tryd.func90 (by kernel_rfl) rfl #[.string ((rd_T55 l0_0 x3_1).f0)] (by rfl) rfl rfl (by (try simp only [List.map_toArray, List.map_cons, List.map_nil]); first | done | rfl | (simp only [List.length_drop, List.length_take]; rfl)) ?_
       with_reducible refine (spec_l01Name.calls k1 ((rd_T55 l0_0 x3_1).f0) true _ A9.out).mono ?_
       rintro e w' ⟨rfl, ⟨nd, rfl⟩⟩
       refine ⟨_, rfl, ?_⟩
       refine hK.out _ _ ⟨(blk_cell BK113.out 0).trans rfl, (blk_cell BK113.out 1).trans rfl, (blk_cell BK113.out 2).trans rfl⟩ (fun hHeld => ?_)
       clear hK K
       refine norm_ (a' := ?_) ?_ ?_
       rotate_left
       ·
        show Act.put _ (some 23) _ = _
        simp only [Act.put, List.setIfInBounds_toArray, List.set_cons_zero, List.set_cons_succ, i64_w, i32_w]
        rfl
       refine SQ.pu 3 24 HT_ ?_
       refine SQ.pu 4 25 HT_ ?_
       refine SQ.pu 5 26 HT_ ?_
       refine SQ.tk 6 27 HT_ HW_ hHeld ?_
       refine SQ.pu 7 28 HT_ ?_
       refine SQ.pu 8 29 HT_ ?_
       refine SQ.pu 9 30 HT_ ?_
       refine SQ.pu 10 31 HT_ ?_
       refine SQ.of 11 32 HT_ ?_
       refine SQ.of 12 33 HT_ ?_
       refine SQ.of 13 34 HT_ ?_
       refine SQ.of 14 35 HT_ ?_
       refine SQ.of 15 36 HT_ ?_
       refine SQ.of 16 37 HT_ ?_
       refine SQ.of 17 38 HT_ ?_
       refine SQ.of 18 39 HT_ ?_
       refine SQ.pu 19 40 HT_ ?_
       refine SQ.pu 20 41 HT_ ?_
       refine SQ.of 21 42 HT_ ?_
       refine SQ.of 22 43 HT_ ?_
       refine SQ.of 23 44 HT_ ?_
       refine SQ.of 24 45 HT_ ?_
       refine SQ.of 25 46 HT_ ?_
       refine SQ.of 26 47 HT_ ?_
       refine SQ.of 27 48 HT_ ?_
       refine SQ.of 28 49 HT_ ?_
       refine SQ.of 29 50 HT_ ?_
       refine SQ.of 30 51 HT_ ?_
       refine SQ.of 31 52 HT_ ?_
       refine SQ.of 32 53 HT_ ?_
       refine SQ.of 33 54 HT_ ?_
       refine SQ.of 34 55 HT_ ?_
       refine SQ.pu 35 56 HT_ ?_
       refine done_ (done_of HT_.out (by kernel_rfl)) ?_
       try go_wp2
       go_ret
       exact ⟨by first | rfl | (simp [errW_none, errW_some] <;> rfl) | (simp [*, errW_none, errW_some] <;> rfl), by repeat (first | (with_reducible first | exact HB.out | apply Zf | apply Zd | apply Ze | refine Zg ?_ GE111.out | refine Zg ?_ GE113.out) | exact HB.out)⟩
      rw [if_neg c11] at H
      have c11b0 : decide (20000 < (((rd_T55 l0_0 x3_1).f1).length : Int)) = false := decide_eq_false c11
      have c11b1 : decide (20000 < ((rd_T55 l0_0 x3_1).f1).length) = false := decide_eq_false (by omega)
      clear c11
      by_cases c18 : (((rd_T55 l0_0 x3_1).f2).length : Int) > (wrap64 (20000 - (((rd_T55 l0_0 x3_1).f1).length : Int)))
      ·
       rw [if_pos c18] at H
       have c18b0 : decide ((wrap64 (20000 - (((rd_T55 l0_0 x3_1).f1).length : Int))) < (((rd_T55 l0_0 x3_1).f2).length : Int)) = true := decide_eq_true c18
       clear c18
       obtain rfl := Option.some.inj H
       have hcz19_0 : wr.cell? ⟨gb111, 0, none⟩ = some (.slice A0_0 l0_0.length c0_0) := (blk_cell BK111.out 0).trans rfl
       have hfz19_0 := Zn BK111.out 0
       have p112 : 0 ≤ (x3_1 : Int) := Zo
       have q112 : x3_1 < (l0_0.length : Int) := Zo
       obtain ⟨ad112, A112_1, c112_1, A112_2, c112_2, e112, hx112_0, hx112_1, hx112_2, hl112_1, hi112_1, hl112_2, hi112_2⟩ := at_T55 HR0_0.out x3_1 p112 q112
       cases e112
       replace hx112_0 := Zc HB.out hx112_0
       replace hx112_1 := Zc HB.out hx112_1
       replace hx112_2 := Zc HB.out hx112_2
       have HR112_1 := Zh hi112_1
       have HC112_1 := Zh hl112_1
       clear hi112_1 hl112_1
       have HR112_2 := Zh hi112_2
       have HC112_2 := Zh hl112_2
       clear hi112_2 hl112_2
       replace p112 := eq_true p112
       replace q112 := eq_true q112
       try go_wp2_with (first | ((with_reducible refine gate_dst (N := 4) rfl ?_); (try (refine gate_guard (by rfl) ?_; dsimp only)); refine box_event ?hg (N := 4) ?hd (cs := #[.string (⟨#[]⟩ : ByteArray), .slice none 0 0, .slice none 0 0]) (t := 55) ?hr ?_; (case hd => rfl); (case hg => rfl); (case hr => first | (go_simp; done) | (go_simp; rfl)); intro gb113 hg w20 hbox hb; have n0_ := Zh (Zm (g := gb111) (o := .cells #[.slice (some ad112) l0_0.length c0_0] 28 (0, 0)) Zk hb); have n1_ := Zh (Zl Zs hb); have n2_ := Zh (hbox); have n3_ := Zh ((by rw [hg]; exact (below_size Zs) : w.heap.size ≤ gb113)); have n4_ := Zh ((by rw [hg]; exact (below_size Zs) : w.heap.size ≤ gb113)); have n5_ := Zh ((by rw [hg]; exact Nat.ne_of_lt (blk_lt (g := gb111) (o := .cells #[.slice (some ad112) l0_0.length c0_0] 28 (0, 0)) Zk) : gb111 ≠ gb113)); have n6_ := Zh ((by rw [hg]; exact Nat.ne_of_gt (blk_lt (g := gb111) (o := .cells #[.slice (some ad112) l0_0.length c0_0] 28 (0, 0)) Zk) : gb113 ≠ gb111)); clear BK111; clear HB; have BK111 := n0_; have HB := n1_; have BK113 := n2_; have GW113 := n3_; have GE113 := n4_; have NB111_113 := n5_; have NB113_111 := n6_; clear n0_ n1_ n2_ n3_ n4_ n5_ n6_; clear hb hbox hg; have hnb21 := NB113_111.out; have hnc21 := NB111_113.out; have hcz22_0 : w20.cell? ⟨gb113, 0, none⟩ = some (.string (⟨#[]⟩ : ByteArray)) := (blk_cell BK113.out 0).trans rfl; have hcz22_1 : w20.cell? ⟨gb113, 1, none⟩ = some (.slice none 0 0) := (blk_cell BK113.out 1).trans rfl; have hcz22_2 : w20.cell? ⟨gb113, 2, none⟩ = some (.slice none 0 0) := (blk_cell BK113.out 2).trans rfl; have hfz22_0 := Zn BK113.out 0; have hfz22_1 := Zn BK113.out 1; have hfz22_2 := Zn BK113.out 2))
       have n0_ : Aside0 ((((w20.setCell ⟨gb113, 0, none⟩ (.string ((rd_T55 l0_0 x3_1).f0))).setCell ⟨gb113, 1, none⟩ (.slice A112_1 ((rd_T55 l0_0 x3_1).f1).length c112_1)).setCell ⟨gb113, 2, none⟩ (.slice A112_2 ((rd_T55 l0_0 x3_1).f2).length c112_2)).heap[gb111]? = some (.cells #[.slice (some ad112) l0_0.length c0_0] 28 (0, 0))) := ⟨by (with_reducible repeat (first | refine Za ?_ _ | refine Zb ?_ | refine blk_alloc ?_ _)); refine Zp ?_ NB111_113.out _; (with_reducible repeat (first | refine Za ?_ _ | refine Zb ?_ | refine blk_alloc ?_ _)); refine Zp ?_ NB111_113.out _; (with_reducible repeat (first | refine Za ?_ _ | refine Zb ?_ | refine blk_alloc ?_ _)); refine Zp ?_ NB111_113.out _; (with_reducible repeat (first | refine Za ?_ _ | refine Zb ?_ | refine blk_alloc ?_ _)); exact BK111.out⟩
       have n1_ : Aside0 ((((w20.setCell ⟨gb113, 0, none⟩ (.string ((rd_T55 l0_0 x3_1).f0))).setCell ⟨gb113, 1, none⟩ (.slice A112_1 ((rd_T55 l0_0 x3_1).f1).length c112_1)).setCell ⟨gb113, 2, none⟩ (.slice A112_2 ((rd_T55 l0_0 x3_1).f2).length c112_2)).heap[gb113]? = some (.cells #[.string ((rd_T55 l0_0 x3_1).f0), .slice A112_1 ((rd_T55 l0_0 x3_1).f1).length c112_1, .slice A112_2 ((rd_T55 l0_0 x3_1).f2).length c112_2] 55 (0, 0))) := ⟨by (with_reducible repeat (first | refine Za ?_ _ | refine Zb ?_ | refine blk_alloc ?_ _)); refine blk_put (cs := #[.string ((rd_T55 l0_0 x3_1).f0), .slice A112_1 ((rd_T55 l0_0 x3_1).f1).length c112_1, .slice none 0 0]) ?_ 2 _ rfl; (with_reducible repeat (first | refine Za ?_ _ | refine Zb ?_ | refine blk_alloc ?_ _)); refine blk_put (cs := #[.string ((rd_T55 l0_0 x3_1).f0), .slice none 0 0, .slice none 0 0]) ?_ 1 _ rfl; (with_reducible repeat (first | refine Za ?_ _ | refine Zb ?_ | refine blk_alloc ?_ _)); refine blk_put (cs := #[.string (⟨#[]⟩ : ByteArray), .slice none 0 0, .slice none 0 0]) ?_ 0 _ rfl; (with_reducible repeat (first | refine Za ?_ _ | refine Zb ?_ | refine blk_alloc ?_ _)); exact BK113.out⟩
       have n2_ : Aside0 (Below w.heap.size w (((w20.setCell ⟨gb113, 0, none⟩ (.string ((rd_T55 l0_0 x3_1).f0))).setCell ⟨gb113, 1, none⟩ (.slice A112_1 ((rd_T55 l0_0 x3_1).f1).length c112_1)).setCell ⟨gb113, 2, none⟩ (.slice A112_2 ((rd_T55 l0_0 x3_1).f2).length c112_2))) := ⟨by repeat (first | (with_reducible first | exact HB.out | apply Zf | apply Zd | apply Ze | refine Zg ?_ GE111.out | refine Zg ?_ GE113.out) | exact HB.out)⟩
       (try clear BK111)
       (try clear BK113)
       (try clear HB)
       generalize (((w20.setCell ⟨gb113, 0, none⟩ (.string ((rd_T55 l0_0 x3_1).f0))).setCell ⟨gb113, 1, none⟩ (.slice A112_1 ((rd_T55 l0_0 x3_1).f1).length c112_1)).setCell ⟨gb113, 2, none⟩ (.slice A112_2 ((rd_T55 l0_0 x3_1).f2).length c112_2)) = w23 at n0_ n1_ n2_ ⊢
       have BK111 := n0_
       have BK113 := n1_
       have HB := n2_
       clear n0_ n1_ n2_
       have n0_ := Zh (Zb BK111.out)
       have n1_ := Zh (Zb BK113.out)
       have n2_ := Zh (Ze HB.out)
       clear BK111
       clear BK113
       clear HB
       have BK111 := n0_
       have BK113 := n1_
       have HB := n2_
       clear n0_ n1_ n2_
       refine start_ (n := 36) (S := fun w' => w'.cell? ⟨gb113, 0, none⟩ = some (.string ((rd_T55 l0_0 x3_1).f0)) ∧ w'.cell? ⟨gb113, 1, none⟩ = some (.slice A112_1 ((rd_T55 l0_0 x3_1).f1).length c112_1) ∧ w'.cell? ⟨gb113, 2, none⟩ = some (.slice A112_2 ((rd_T55 l0_0 x3_1).f2).length c112_2)) (ds := []) #[false, false, false, false, false, false, false, false, false, false, false, false, false, false, false, false, false, false, false, false, false, false, false, false, false, false, false, false, false, false, false, false, false, false, false, false] (by kernel_rfl) rfl rfl ⟨(blk_cell BK113.out 0).trans rfl, (blk_cell BK113.out 1).trans rfl, (blk_cell BK113.out 2).trans rfl⟩ (fun hHeld => ?_); refine with_tabW spec_DiskOk.tab7 spec_DiskOk.bits7 (fun HT_ HW_ => ?_)
       generalize w23.drew = w24 at BK111 BK113 HB hHeld ⊢
       refine SQ.pu 0 21 HT_ ?_
       refine SQ.tk 1 22 HT_ HW_ hHeld ?_
       refine one_ (i := 2) (N := some 23) #[true, true, true, false, false, false, false, false, false, false, false, false, false, false, false, false, false, false, false, false, false, false, false, false, false, false, false, false, false, false, false, false, false, false, false, false] rfl rfl (one_of HT_.out (by kernel_rfl)) (by decide) (fun K hK => ?_)
       refine goes_ Tryd.func90 (by kernel_rfl) rfl #[.string ((rd_T55 l0_0 x3_1).f0)] (by rfl) rfl rfl (by (try simp only [List.map_toArray, List.map_cons, List.map_nil]); first | done | rfl | (simp only [List.length_drop, List.length_take]; rfl)) ?_
       with_reducible refine (spec_l01Name.calls k1 ((rd_T55 l0_0 x3_1).f0) true _ A9.out).mono ?_
       rintro e w' ⟨rfl, ⟨nd, rfl⟩⟩
       refine ⟨_, rfl, ?_⟩
       refine hK.out _ _ ⟨(blk_cell BK113.out 0).trans rfl, (blk_cell BK113.out 1).trans rfl, (blk_cell BK113.out 2).trans rfl⟩ (fun hHeld => ?_)
       clear hK K
       refine norm_ (a' := ?_) ?_ ?_
       rotate_left
       ·
        show Act.put _ (some 23) _ = _
        simp only [Act.put, List.setIfInBounds_toArray, List.set_cons_zero, List.set_cons_succ, i64_w, i32_w]
        rfl
       refine SQ.pu 3 24 HT_ ?_
       refine SQ.pu 4 25 HT_ ?_
       refine SQ.pu 5 26 HT_ ?_
       refine SQ.tk 6 27 HT_ HW_ hHeld ?_
       refine SQ.pu 7 28 HT_ ?_
       refine SQ.pu 8 29 HT_ ?_
       refine SQ.pu 9 30 HT_ ?_
       refine SQ.pu 10 31 HT_ ?_
       refine SQ.pu 11 32 HT_ ?_
       refine SQ.pu 14 35 HT_ ?_
       refine SQ.tk 12 33 HT_ HW_ hHeld ?_
       refine SQ.pu 13 34 HT_ ?_
       refine SQ.tk 15 36 HT_ HW_ hHeld ?_
       refine SQ.pu 16 37 HT_ ?_
       refine SQ.pu 17 38 HT_ ?_
       refine SQ.pu 18 39 HT_ ?_
       refine SQ.pu 19 40 HT_ ?_
       refine SQ.pu 20 41 HT_ ?_
       refine SQ.of 21 42 HT_ ?_
       refine SQ.of 22 43 HT_ ?_
       refine SQ.of 23 44 HT_ ?_
       refine SQ.of 24 45 HT_ ?_
       refine SQ.of 25 46 HT_ ?_
       refine SQ.of 26 47 HT_ ?_
       refine SQ.of 27 48 HT_ ?_
       refine SQ.of 28 49 HT_ ?_
       refine SQ.of 29 50 HT_ ?_
       refine SQ.of 30 51 HT_ ?_
       refine SQ.of 31 52 HT_ ?_
       refine SQ.of 32 53 HT_ ?_
       refine SQ.of 33 54 HT_ ?_
       refine SQ.of 34 55 HT_ ?_
       refine SQ.pu 35 56 HT_ ?_
       refine done_ (done_of HT_.out (by kernel_rfl)) ?_
       try go_wp2
       go_ret
       exact ⟨by first | rfl | (simp [errW_none, errW_some] <;> rfl) | (simp [*, errW_none, errW_some] <;> rfl), by repeat (first | (with_reducible first | exact HB.out | apply Zf | apply Zd | apply Ze | refine Zg ?_ GE111.out | refine Zg ?_ GE113.out) | exact HB.out)⟩
      rw [if_neg c18] at H
      have c18b0 : decide ((wrap64 (20000 - (((rd_T55 l0_0 x3_1).f1).length : Int))) < (((rd_T55 l0_0 x3_1).f2).length : Int)) = false := decide_eq_false c18
      clear c18
      by_cases c25 : x3_1 > 0
      ·
       rw [if_pos c25] at H
       have c25b0 : decide (0 < x3_1) = true := decide_eq_true c25
       clear c25
       obtain ⟨ji26, hji26⟩ : ∃ j_ : Int, (wrap64 (x3_1 - 1)) = j_ := ⟨_, rfl⟩
       replace H : (if 0 ≤ (ji26) then (if (ji26) < (l0_0.length : Int) then (if ((Op.bytesLess (((rd_T55 l0_0 (ji26)).f0).toList) (((rd_T55 l0_0 x3_1).f0).toList)) = true) then (spec_DiskOk.l0 k1 (wrap64 (x3_1 + 1)) l0_0) else (some false)) else (none)) else (none)) = some r := by first | (rw [hji26] at H; exact H) | (simp only [hji26] at H ⊢; exact H)
       (try rw [hji26] at A9)
       have hji26w : (IntKind.i64.wrap (x3_1 - 1)) = ji26 := (i64_w _).trans hji26
       by_cases c27 : 0 ≤ (ji26)
       ·
        rw [if_pos c27] at H
        have c27b0 : decide (0 ≤ (ji26)) = true := decide_eq_true c27
        clear c27
        by_cases c28 : (ji26) < (l0_0.length : Int)
        ·
         rw [if_pos c28] at H
         have c28b0 : decide ((ji26) < (l0_0.length : Int)) = true := decide_eq_true c28
         clear c28
         by_cases c29 : ((Op.bytesLess (((rd_T55 l0_0 (ji26)).f0).toList) (((rd_T55 l0_0 x3_1).f0).toList)) = true)
         ·
          rw [if_pos c29] at H
          have c29b0 : (Op.bytesLess (((rd_T55 l0_0 (ji26)).f0).toList) (((rd_T55 l0_0 x3_1).f0).toList)) = true := c29
          clear c29
          have H' := Zh H
          clear H
          have hcz30_0 : wr.cell? ⟨gb111, 0, none⟩ = some (.slice A0_0 l0_0.length c0_0) := (blk_cell BK111.out 0).trans rfl
          have hfz30_0 := Zn BK111.out 0
          have p112 : 0 ≤ (x3_1 : Int) := Zo
          have q112 : x3_1 < (l0_0.length : Int) := Zo
          obtain ⟨ad112, A112_1, c112_1, A112_2, c112_2, e112, hx112_0, hx112_1, hx112_2, hl112_1, hi112_1, hl112_2, hi112_2⟩ := at_T55 HR0_0.out x3_1 p112 q112
          cases e112
          replace hx112_0 := Zc HB.out hx112_0
          replace hx112_1 := Zc HB.out hx112_1
          replace hx112_2 := Zc HB.out hx112_2
          have HR112_1 := Zh hi112_1
          have HC112_1 := Zh hl112_1
          clear hi112_1 hl112_1
          have HR112_2 := Zh hi112_2
          have HC112_2 := Zh hl112_2
          clear hi112_2 hl112_2
          replace p112 := eq_true p112
          replace q112 := eq_true q112
          try go_wp2_with (first | ((with_reducible refine gate_dst (N := 4) rfl ?_); (try (refine gate_guard (by rfl) ?_; dsimp only)); refine box_event ?hg (N := 4) ?hd (cs := #[.string (⟨#[]⟩ : ByteArray), .slice none 0 0, .slice none 0 0]) (t := 55) ?hr ?_; (case hd => rfl); (case hg => rfl); (case hr => first | (go_simp; done) | (go_simp; rfl)); intro gb113 hg w31 hbox hb; have n0_ := Zh (Zm (g := gb111) (o := .cells #[.slice (some ad112) l0_0.length c0_0] 28 (0, 0)) Zk hb); have n1_ := Zh (Zl Zs hb); have n2_ := Zh (hbox); have n3_ := Zh ((by rw [hg]; exact (below_size Zs) : w.heap.size ≤ gb113)); have n4_ := Zh ((by rw [hg]; exact (below_size Zs) : w.heap.size ≤ gb113)); have n5_ := Zh ((by rw [hg]; exact Nat.ne_of_lt (blk_lt (g := gb111) (o := .cells #[.slice (some ad112) l0_0.length c0_0] 28 (0, 0)) Zk) : gb111 ≠ gb113)); have n6_ := Zh ((by rw [hg]; exact Nat.ne_of_gt (blk_lt (g := gb111) (o := .cells #[.slice (some ad112) l0_0.length c0_0] 28 (0, 0)) Zk) : gb113 ≠ gb111)); clear BK111; clear HB; have BK111 := n0_; have HB := n1_; have BK113 := n2_; have GW113 := n3_; have GE113 := n4_; have NB111_113 := n5_; have NB113_111 := n6_; clear n0_ n1_ n2_ n3_ n4_ n5_ n6_; clear hb hbox hg; have hnb32 := NB113_111.out; have hnc32 := NB111_113.out; have hcz33_0 : w31.cell? ⟨gb113, 0, none⟩ = some (.string (⟨#[]⟩ : ByteArray)) := (blk_cell BK113.out 0).trans rfl; have hcz33_1 : w31.cell? ⟨gb113, 1, none⟩ = some (.slice none 0 0) := (blk_cell BK113.out 1).trans rfl; have hcz33_2 : w31.cell? ⟨gb113, 2, none⟩ = some (.slice none 0 0) := (blk_cell BK113.out 2).trans rfl; have hfz33_0 := Zn BK113.out 0; have hfz33_1 := Zn BK113.out 1; have hfz33_2 := Zn BK113.out 2))
          have n0_ : Aside0 ((((w31.setCell ⟨gb113, 0, none⟩ (.string ((rd_T55 l0_0 x3_1).f0))).setCell ⟨gb113, 1, none⟩ (.slice A112_1 ((rd_T55 l0_0 x3_1).f1).length c112_1)).setCell ⟨gb113, 2, none⟩ (.slice A112_2 ((rd_T55 l0_0 x3_1).f2).length c112_2)).heap[gb111]? = some (.cells #[.slice (some ad112) l0_0.length c0_0] 28 (0, 0))) := ⟨by (with_reducible repeat (first | refine Za ?_ _ | refine Zb ?_ | refine blk_alloc ?_ _)); refine Zp ?_ NB111_113.out _; (with_reducible repeat (first | refine Za ?_ _ | refine Zb ?_ | refine blk_alloc ?_ _)); refine Zp ?_ NB111_113.out _; (with_reducible repeat (first | refine Za ?_ _ | refine Zb ?_ | refine blk_alloc ?_ _)); refine Zp ?_ NB111_113.out _; (with_reducible repeat (first | refine Za ?_ _ | refine Zb ?_ | refine blk_alloc ?_ _)); exact BK111.out⟩
          have n1_ : Aside0 ((((w31.setCell ⟨gb113, 0, none⟩ (.string ((rd_T55 l0_0 x3_1).f0))).setCell ⟨gb113, 1, none⟩ (.slice A112_1 ((rd_T55 l0_0 x3_1).f1).length c112_1)).setCell ⟨gb113, 2, none⟩ (.slice A112_2 ((rd_T55 l0_0 x3_1).f2).length c112_2)).heap[gb113]? = some (.cells #[.string ((rd_T55 l0_0 x3_1).f0), .slice A112_1 ((rd_T55 l0_0 x3_1).f1).length c112_1, .slice A112_2 ((rd_T55 l0_0 x3_1).f2).length c112_2] 55 (0, 0))) := ⟨by (with_reducible repeat (first | refine Za ?_ _ | refine Zb ?_ | refine blk_alloc ?_ _)); refine blk_put (cs := #[.string ((rd_T55 l0_0 x3_1).f0), .slice A112_1 ((rd_T55 l0_0 x3_1).f1).length c112_1, .slice none 0 0]) ?_ 2 _ rfl; (with_reducible repeat (first | refine Za ?_ _ | refine Zb ?_ | refine blk_alloc ?_ _)); refine blk_put (cs := #[.string ((rd_T55 l0_0 x3_1).f0), .slice none 0 0, .slice none 0 0]) ?_ 1 _ rfl; (with_reducible repeat (first | refine Za ?_ _ | refine Zb ?_ | refine blk_alloc ?_ _)); refine blk_put (cs := #[.string (⟨#[]⟩ : ByteArray), .slice none 0 0, .slice none 0 0]) ?_ 0 _ rfl; (with_reducible repeat (first | refine Za ?_ _ | refine Zb ?_ | refine blk_alloc ?_ _)); exact BK113.out⟩
          have n2_ : Aside0 (Below w.heap.size w (((w31.setCell ⟨gb113, 0, none⟩ (.string ((rd_T55 l0_0 x3_1).f0))).setCell ⟨gb113, 1, none⟩ (.slice A112_1 ((rd_T55 l0_0 x3_1).f1).length c112_1)).setCell ⟨gb113, 2, none⟩ (.slice A112_2 ((rd_T55 l0_0 x3_1).f2).length c112_2))) := ⟨by repeat (first | (with_reducible first | exact HB.out | apply Zf | apply Zd | apply Ze | refine Zg ?_ GE111.out | refine Zg ?_ GE113.out) | exact HB.out)⟩
          (try clear BK111)
          (try clear BK113)
          (try clear HB)
          generalize (((w31.setCell ⟨gb113, 0, none⟩ (.string ((rd_T55 l0_0 x3_1).f0))).setCell ⟨gb113, 1, none⟩ (.slice A112_1 ((rd_T55 l0_0 x3_1).f1).length c112_1)).setCell ⟨gb113, 2, none⟩ (.slice A112_2 ((rd_T55 l0_0 x3_1).f2).length c112_2)) = w34 at n0_ n1_ n2_ ⊢
          have BK111 := n0_
          have BK113 := n1_
          have HB := n2_
          clear n0_ n1_ n2_
          have n0_ := Zh (Zb BK111.out)
          have n1_ := Zh (Zb BK113.out)
          have n2_ := Zh (Ze HB.out)
          clear BK111
          clear BK113
          clear HB
          have BK111 := n0_
          have BK113 := n1_
          have HB := n2_
          clear n0_ n1_ n2_
          have p115 : 0 ≤ ((ji26) : Int) := Zo
          have q115 : (ji26) < (l0_0.length : Int) := Zo
          obtain ⟨ad115, A115_1, c115_1, A115_2, c115_2, e115, hx115_0, hx115_1, hx115_2, hl115_1, hi115_1, hl115_2, hi115_2⟩ := at_T55 HR0_0.out (ji26) p115 q115
          have hw115_2 := hx115_2
          have hw115_1 := hx115_1
          have hw115_0 := hx115_0
          obtain rfl : ad112 = ad115 := (by injection e115)
          replace hx115_0 := Zc HB.out hx115_0
          replace hx115_1 := Zc HB.out hx115_1
          replace hx115_2 := Zc HB.out hx115_2
          have HR115_1 := Zh hi115_1
          have HC115_1 := Zh hl115_1
          clear hi115_1 hl115_1
          have HR115_2 := Zh hi115_2
          have HC115_2 := Zh hl115_2
          clear hi115_2 hl115_2
          replace p115 := eq_true p115
          replace q115 := eq_true q115
          refine start_ (n := 36) (S := fun w' => w'.cell? ⟨gb113, 0, none⟩ = some (.string ((rd_T55 l0_0 x3_1).f0)) ∧ w'.cell? ⟨gb113, 1, none⟩ = some (.slice A112_1 ((rd_T55 l0_0 x3_1).f1).length c112_1) ∧ w'.cell? ⟨gb113, 2, none⟩ = some (.slice A112_2 ((rd_T55 l0_0 x3_1).f2).length c112_2) ∧ w'.cell? ⟨gb111, 0, none⟩ = some (.slice (some ad112) l0_0.length c0_0) ∧ w'.cell? (ad112.add (((ji26)).toNat * 3)) = some (.string ((rd_T55 l0_0 (ji26)).f0)) ∧ w'.cell? ⟨(ad112.add (((ji26)).toNat * 3)).block, (ad112.add (((ji26)).toNat * 3)).off + 1, none⟩ = some (.slice A115_1 ((rd_T55 l0_0 (ji26)).f1).length c115_1) ∧ w'.cell? ⟨(ad112.add (((ji26)).toNat * 3)).block, (ad112.add (((ji26)).toNat * 3)).off + 2, none⟩ = some (.slice A115_2 ((rd_T55 l0_0 (ji26)).f2).length c115_2)) (ds := []) #[false, false, false, false, false, false, false, false, false, false, false, false, false, false, false, false, false, false, false, false, false, false, false, false, false, false, false, false, false, false, false, false, false, false, false, false] (by kernel_rfl) rfl rfl ⟨(blk_cell BK113.out 0).trans rfl, (blk_cell BK113.out 1).trans rfl, (blk_cell BK113.out 2).trans rfl, (blk_cell BK111.out 0).trans rfl, ((HB.out.cell (Zi w _ hw115_0)).trans hw115_0), ((HB.out.cell (Zi w _ hw115_1)).trans hw115_1), ((HB.out.cell (Zi w _ hw115_2)).trans hw115_2)⟩ (fun hHeld => ?_); refine with_tabW spec_DiskOk.tab7 spec_DiskOk.bits7 (fun HT_ HW_ => ?_)
          generalize w34.drew = w35 at BK111 BK113 HB HR115_1 HR115_2 hx115_0 hx115_1 hx115_2 hHeld ⊢
          refine SQ.pu 0 21 HT_ ?_
          refine SQ.tk 1 22 HT_ HW_ hHeld ?_
          refine one_ (i := 2) (N := some 23) #[true, true, true, false, false, false, false, false, false, false, false, false, false, false, false, false, false, false, false, false, false, false, false, false, false, false, false, false, false, false, false, false, false, false, false, false] rfl rfl (one_of HT_.out (by kernel_rfl)) (by decide) (fun K hK => ?_)
          refine goes_ Tryd.func90 (by kernel_rfl) rfl #[.string ((rd_T55 l0_0 x3_1).f0)] (by rfl) rfl rfl (by (try simp only [List.map_toArray, List.map_cons, List.map_nil]); first | done | rfl | (simp only [List.length_drop, List.length_take]; rfl)) ?_
          with_reducible refine (spec_l01Name.calls k1 ((rd_T55 l0_0 x3_1).f0) true _ A9.out).mono ?_
          rintro e w' ⟨rfl, ⟨nd, rfl⟩⟩
          refine ⟨_, rfl, ?_⟩
          refine hK.out _ _ ⟨(blk_cell BK113.out 0).trans rfl, (blk_cell BK113.out 1).trans rfl, (blk_cell BK113.out 2).trans rfl, (blk_cell BK111.out 0).trans rfl, ((HB.out.cell (Zi w _ hw115_0)).trans hw115_0), ((HB.out.cell (Zi w _ hw115_1)).trans hw115_1), ((HB.out.cell (Zi w _ hw115_2)).trans hw115_2)⟩ (fun hHeld => ?_)
          clear hK K
          refine norm_ (a' := ?_) ?_ ?_
          rotate_left
          ·
           show Act.put _ (some 23) _ = _
           simp only [Act.put, List.setIfInBounds_toArray, List.set_cons_zero, List.set_cons_succ, i64_w, i32_w]
           rfl
          refine SQ.pu 3 24 HT_ ?_
          refine SQ.pu 4 25 HT_ ?_
          refine SQ.pu 5 26 HT_ ?_
          refine SQ.tk 6 27 HT_ HW_ hHeld ?_
          refine SQ.pu 7 28 HT_ ?_
          refine SQ.pu 8 29 HT_ ?_
          refine SQ.pu 9 30 HT_ ?_
          refine SQ.pu 10 31 HT_ ?_
          refine SQ.pu 11 32 HT_ ?_
          refine SQ.pu 14 35 HT_ ?_
          refine SQ.tk 12 33 HT_ HW_ hHeld ?_
          refine SQ.pu 13 34 HT_ ?_
          refine SQ.tk 15 36 HT_ HW_ hHeld ?_
          refine SQ.pu 16 37 HT_ ?_
          refine SQ.pu 17 38 HT_ ?_
          refine SQ.pu 18 39 HT_ ?_
          refine SQ.pu 19 40 HT_ ?_
          refine SQ.pu 20 41 HT_ ?_
          refine SQ.pu 21 42 HT_ ?_
          refine SQ.pu 22 43 HT_ ?_
          refine SQ.pu 23 44 HT_ ?_
          refine SQ.pu 24 45 HT_ ?_
          refine SQ.pu 26 47 HT_ ?_
          refine SQ.pu 27 48 HT_ ?_
          refine SQ.pu 31 52 HT_ ?_
          refine SQ.tk 25 46 HT_ HW_ hHeld ?_
          refine SQ.pu 28 49 HT_ ?_
          refine SQ.pu 29 50 HT_ ?_
          refine SQ.tk 30 51 HT_ HW_ hHeld ?_
          refine SQ.tk 32 53 HT_ HW_ hHeld ?_
          refine SQ.pu 33 54 HT_ ?_
          refine SQ.pu 34 55 HT_ ?_
          refine SQ.pu 35 56 HT_ ?_
          refine done_ (done_of HT_.out (by kernel_rfl)) ?_
          try go_wp2
          go_roundg k1
          case measure => have := HK1.out; omega
          case rel => exact ⟨(wrap64 (x3_1 + 1)), (by first | rfl | (simp; done) | (simp [*]; done)), H', ⟨by have := HK1.out; omega⟩, ⟨by (with_reducible repeat (first | refine Za ?_ _ | refine Zb ?_ | refine blk_alloc ?_ _)); exact BK111.out⟩, ⟨by repeat (first | (with_reducible first | exact HB.out | apply Zf | apply Zd | apply Ze | refine Zg ?_ GE111.out | refine Zg ?_ GE113.out) | exact HB.out)⟩⟩
         rw [if_neg c29] at H
         have c29b0 : (Op.bytesLess (((rd_T55 l0_0 (ji26)).f0).toList) (((rd_T55 l0_0 x3_1).f0).toList)) = false := by simpa using c29
         clear c29
         obtain rfl := Option.some.inj H
         have hcz36_0 : wr.cell? ⟨gb111, 0, none⟩ = some (.slice A0_0 l0_0.length c0_0) := (blk_cell BK111.out 0).trans rfl
         have hfz36_0 := Zn BK111.out 0
         have p112 : 0 ≤ (x3_1 : Int) := Zo
         have q112 : x3_1 < (l0_0.length : Int) := Zo
         obtain ⟨ad112, A112_1, c112_1, A112_2, c112_2, e112, hx112_0, hx112_1, hx112_2, hl112_1, hi112_1, hl112_2, hi112_2⟩ := at_T55 HR0_0.out x3_1 p112 q112
         cases e112
         replace hx112_0 := Zc HB.out hx112_0
         replace hx112_1 := Zc HB.out hx112_1
         replace hx112_2 := Zc HB.out hx112_2
         have HR112_1 := Zh hi112_1
         have HC112_1 := Zh hl112_1
         clear hi112_1 hl112_1
         have HR112_2 := Zh hi112_2
         have HC112_2 := Zh hl112_2
         clear hi112_2 hl112_2
         replace p112 := eq_true p112
         replace q112 := eq_true q112
         try go_wp2_with (first | ((with_reducible refine gate_dst (N := 4) rfl ?_); (try (refine gate_guard (by rfl) ?_; dsimp only)); refine box_event ?hg (N := 4) ?hd (cs := #[.string (⟨#[]⟩ : ByteArray), .slice none 0 0, .slice none 0 0]) (t := 55) ?hr ?_; (case hd => rfl); (case hg => rfl); (case hr => first | (go_simp; done) | (go_simp; rfl)); intro gb113 hg w37 hbox hb; have n0_ := Zh (Zm (g := gb111) (o := .cells #[.slice (some ad112) l0_0.length c0_0] 28 (0, 0)) Zk hb); have n1_ := Zh (Zl Zs hb); have n2_ := Zh (hbox); have n3_ := Zh ((by rw [hg]; exact (below_size Zs) : w.heap.size ≤ gb113)); have n4_ := Zh ((by rw [hg]; exact (below_size Zs) : w.heap.size ≤ gb113)); have n5_ := Zh ((by rw [hg]; exact Nat.ne_of_lt (blk_lt (g := gb111) (o := .cells #[.slice (some ad112) l0_0.length c0_0] 28 (0, 0)) Zk) : gb111 ≠ gb113)); have n6_ := Zh ((by rw [hg]; exact Nat.ne_of_gt (blk_lt (g := gb111) (o := .cells #[.slice (some ad112) l0_0.length c0_0] 28 (0, 0)) Zk) : gb113 ≠ gb111)); clear BK111; clear HB; have BK111 := n0_; have HB := n1_; have BK113 := n2_; have GW113 := n3_; have GE113 := n4_; have NB111_113 := n5_; have NB113_111 := n6_; clear n0_ n1_ n2_ n3_ n4_ n5_ n6_; clear hb hbox hg; have hnb38 := NB113_111.out; have hnc38 := NB111_113.out; have hcz39_0 : w37.cell? ⟨gb113, 0, none⟩ = some (.string (⟨#[]⟩ : ByteArray)) := (blk_cell BK113.out 0).trans rfl; have hcz39_1 : w37.cell? ⟨gb113, 1, none⟩ = some (.slice none 0 0) := (blk_cell BK113.out 1).trans rfl; have hcz39_2 : w37.cell? ⟨gb113, 2, none⟩ = some (.slice none 0 0) := (blk_cell BK113.out 2).trans rfl; have hfz39_0 := Zn BK113.out 0; have hfz39_1 := Zn BK113.out 1; have hfz39_2 := Zn BK113.out 2))
         have n0_ : Aside0 ((((w37.setCell ⟨gb113, 0, none⟩ (.string ((rd_T55 l0_0 x3_1).f0))).setCell ⟨gb113, 1, none⟩ (.slice A112_1 ((rd_T55 l0_0 x3_1).f1).length c112_1)).setCell ⟨gb113, 2, none⟩ (.slice A112_2 ((rd_T55 l0_0 x3_1).f2).length c112_2)).heap[gb111]? = some (.cells #[.slice (some ad112) l0_0.length c0_0] 28 (0, 0))) := ⟨by (with_reducible repeat (first | refine Za ?_ _ | refine Zb ?_ | refine blk_alloc ?_ _)); refine Zp ?_ NB111_113.out _; (with_reducible repeat (first | refine Za ?_ _ | refine Zb ?_ | refine blk_alloc ?_ _)); refine Zp ?_ NB111_113.out _; (with_reducible repeat (first | refine Za ?_ _ | refine Zb ?_ | refine blk_alloc ?_ _)); refine Zp ?_ NB111_113.out _; (with_reducible repeat (first | refine Za ?_ _ | refine Zb ?_ | refine blk_alloc ?_ _)); exact BK111.out⟩
         have n1_ : Aside0 ((((w37.setCell ⟨gb113, 0, none⟩ (.string ((rd_T55 l0_0 x3_1).f0))).setCell ⟨gb113, 1, none⟩ (.slice A112_1 ((rd_T55 l0_0 x3_1).f1).length c112_1)).setCell ⟨gb113, 2, none⟩ (.slice A112_2 ((rd_T55 l0_0 x3_1).f2).length c112_2)).heap[gb113]? = some (.cells #[.string ((rd_T55 l0_0 x3_1).f0), .slice A112_1 ((rd_T55 l0_0 x3_1).f1).length c112_1, .slice A112_2 ((rd_T55 l0_0 x3_1).f2).length c112_2] 55 (0, 0))) := ⟨by (with_reducible repeat (first | refine Za ?_ _ | refine Zb ?_ | refine blk_alloc ?_ _)); refine blk_put (cs := #[.string ((rd_T55 l0_0 x3_1).f0), .slice A112_1 ((rd_T55 l0_0 x3_1).f1).length c112_1, .slice none 0 0]) ?_ 2 _ rfl; (with_reducible repeat (first | refine Za ?_ _ | refine Zb ?_ | refine blk_alloc ?_ _)); refine blk_put (cs := #[.string ((rd_T55 l0_0 x3_1).f0), .slice none 0 0, .slice none 0 0]) ?_ 1 _ rfl; (with_reducible repeat (first | refine Za ?_ _ | refine Zb ?_ | refine blk_alloc ?_ _)); refine blk_put (cs := #[.string (⟨#[]⟩ : ByteArray), .slice none 0 0, .slice none 0 0]) ?_ 0 _ rfl; (with_reducible repeat (first | refine Za ?_ _ | refine Zb ?_ | refine blk_alloc ?_ _)); exact BK113.out⟩
         have n2_ : Aside0 (Below w.heap.size w (((w37.setCell ⟨gb113, 0, none⟩ (.string ((rd_T55 l0_0 x3_1).f0))).setCell ⟨gb113, 1, none⟩ (.slice A112_1 ((rd_T55 l0_0 x3_1).f1).length c112_1)).setCell ⟨gb113, 2, none⟩ (.slice A112_2 ((rd_T55 l0_0 x3_1).f2).length c112_2))) := ⟨by repeat (first | (with_reducible first | exact HB.out | apply Zf | apply Zd | apply Ze | refine Zg ?_ GE111.out | refine Zg ?_ GE113.out) | exact HB.out)⟩
         (try clear BK111)
         (try clear BK113)
         (try clear HB)
         generalize (((w37.setCell ⟨gb113, 0, none⟩ (.string ((rd_T55 l0_0 x3_1).f0))).setCell ⟨gb113, 1, none⟩ (.slice A112_1 ((rd_T55 l0_0 x3_1).f1).length c112_1)).setCell ⟨gb113, 2, none⟩ (.slice A112_2 ((rd_T55 l0_0 x3_1).f2).length c112_2)) = w40 at n0_ n1_ n2_ ⊢
         have BK111 := n0_
         have BK113 := n1_
         have HB := n2_
         clear n0_ n1_ n2_
         have n0_ := Zh (Zb BK111.out)
         have n1_ := Zh (Zb BK113.out)
         have n2_ := Zh (Ze HB.out)
         clear BK111
         clear BK113
         clear HB
         have BK111 := n0_
         have BK113 := n1_
         have HB := n2_
         clear n0_ n1_ n2_
         have p115 : 0 ≤ ((ji26) : Int) := Zo
         have q115 : (ji26) < (l0_0.length : Int) := Zo
         obtain ⟨ad115, A115_1, c115_1, A115_2, c115_2, e115, hx115_0, hx115_1, hx115_2, hl115_1, hi115_1, hl115_2, hi115_2⟩ := at_T55 HR0_0.out (ji26) p115 q115
         have hw115_2 := hx115_2
         have hw115_1 := hx115_1
         have hw115_0 := hx115_0
         obtain rfl : ad112 = ad115 := (by injection e115)
         replace hx115_0 := Zc HB.out hx115_0
         replace hx115_1 := Zc HB.out hx115_1
         replace hx115_2 := Zc HB.out hx115_2
         have HR115_1 := Zh hi115_1
         have HC115_1 := Zh hl115_1
         clear hi115_1 hl115_1
         have HR115_2 := Zh hi115_2
         have HC115_2 := Zh hl115_2
         clear hi115_2 hl115_2
         replace p115 := eq_true p115
         replace q115 := eq_true q115
         refine start_ (n := 36) (S := fun w' => w'.cell? ⟨gb113, 0, none⟩ = some (.string ((rd_T55 l0_0 x3_1).f0)) ∧ w'.cell? ⟨gb113, 1, none⟩ = some (.slice A112_1 ((rd_T55 l0_0 x3_1).f1).length c112_1) ∧ w'.cell? ⟨gb113, 2, none⟩ = some (.slice A112_2 ((rd_T55 l0_0 x3_1).f2).length c112_2) ∧ w'.cell? ⟨gb111, 0, none⟩ = some (.slice (some ad112) l0_0.length c0_0) ∧ w'.cell? (ad112.add (((ji26)).toNat * 3)) = some (.string ((rd_T55 l0_0 (ji26)).f0)) ∧ w'.cell? ⟨(ad112.add (((ji26)).toNat * 3)).block, (ad112.add (((ji26)).toNat * 3)).off + 1, none⟩ = some (.slice A115_1 ((rd_T55 l0_0 (ji26)).f1).length c115_1) ∧ w'.cell? ⟨(ad112.add (((ji26)).toNat * 3)).block, (ad112.add (((ji26)).toNat * 3)).off + 2, none⟩ = some (.slice A115_2 ((rd_T55 l0_0 (ji26)).f2).length c115_2)) (ds := []) #[false, false, false, false, false, false, false, false, false, false, false, false, false, false, false, false, false, false, false, false, false, false, false, false, false, false, false, false, false, false, false, false, false, false, false, false] (by kernel_rfl) rfl rfl ⟨(blk_cell BK113.out 0).trans rfl, (blk_cell BK113.out 1).trans rfl, (blk_cell BK113.out 2).trans rfl, (blk_cell BK111.out 0).trans rfl, ((HB.out.cell (Zi w _ hw115_0)).trans hw115_0), ((HB.out.cell (Zi w _ hw115_1)).trans hw115_1), ((HB.out.cell (Zi w _ hw115_2)).trans hw115_2)⟩ (fun hHeld => ?_); refine with_tabW spec_DiskOk.tab7 spec_DiskOk.bits7 (fun HT_ HW_ => ?_)
         generalize w40.drew = w41 at BK111 BK113 HB HR115_1 HR115_2 hx115_0 hx115_1 hx115_2 hHeld ⊢
         refine SQ.pu 0 21 HT_ ?_
         refine SQ.tk 1 22 HT_ HW_ hHeld ?_
         refine one_ (i := 2) (N := some 23) #[true, true, true, false, false, false, false, false, false, false, false, false, false, false, false, false, false, false, false, false, false, false, false, false, false, false, false, false, false, false, false, false, false, false, false, false] rfl rfl (one_of HT_.out (by kernel_rfl)) (by decide) (fun K hK => ?_)
         refine goes_ Tryd.func90 (by kernel_rfl) rfl #[.string ((rd_T55 l0_0 x3_1).f0)] (by rfl) rfl rfl (by (try simp only [List.map_toArray, List.map_cons, List.map_nil]); first | done | rfl | (simp only [List.length_drop, List.length_take]; rfl)) ?_
         with_reducible refine (spec_l01Name.calls k1 ((rd_T55 l0_0 x3_1).f0) true _ A9.out).mono ?_
         rintro e w' ⟨rfl, ⟨nd, rfl⟩⟩
         refine ⟨_, rfl, ?_⟩
         refine hK.out _ _ ⟨(blk_cell BK113.out 0).trans rfl, (blk_cell BK113.out 1).trans rfl, (blk_cell BK113.out 2).trans rfl, (blk_cell BK111.out 0).trans rfl, ((HB.out.cell (Zi w _ hw115_0)).trans hw115_0), ((HB.out.cell (Zi w _ hw115_1)).trans hw115_1), ((HB.out.cell (Zi w _ hw115_2)).trans hw115_2)⟩ (fun hHeld => ?_)
         clear hK K
         refine norm_ (a' := ?_) ?_ ?_
         rotate_left
         ·
          show Act.put _ (some 23) _ = _
          simp only [Act.put, List.setIfInBounds_toArray, List.set_cons_zero, List.set_cons_succ, i64_w, i32_w]
          rfl
         refine SQ.pu 3 24 HT_ ?_
         refine SQ.pu 4 25 HT_ ?_
         refine SQ.pu 5 26 HT_ ?_
         refine SQ.tk 6 27 HT_ HW_ hHeld ?_
         refine SQ.pu 7 28 HT_ ?_
         refine SQ.pu 8 29 HT_ ?_
         refine SQ.pu 9 30 HT_ ?_
         refine SQ.pu 10 31 HT_ ?_
         refine SQ.pu 11 32 HT_ ?_
         refine SQ.pu 14 35 HT_ ?_
         refine SQ.tk 12 33 HT_ HW_ hHeld ?_
         refine SQ.pu 13 34 HT_ ?_
         refine SQ.tk 15 36 HT_ HW_ hHeld ?_
         refine SQ.pu 16 37 HT_ ?_
         refine SQ.pu 17 38 HT_ ?_
         refine SQ.pu 18 39 HT_ ?_
         refine SQ.pu 19 40 HT_ ?_
         refine SQ.pu 20 41 HT_ ?_
         refine SQ.pu 21 42 HT_ ?_
         refine SQ.pu 22 43 HT_ ?_
         refine SQ.pu 23 44 HT_ ?_
         refine SQ.pu 24 45 HT_ ?_
         refine SQ.pu 26 47 HT_ ?_
         refine SQ.pu 27 48 HT_ ?_
         refine SQ.pu 31 52 HT_ ?_
         refine SQ.tk 25 46 HT_ HW_ hHeld ?_
         refine SQ.pu 28 49 HT_ ?_
         refine SQ.pu 29 50 HT_ ?_
         refine SQ.tk 30 51 HT_ HW_ hHeld ?_
         refine SQ.tk 32 53 HT_ HW_ hHeld ?_
         refine SQ.pu 33 54 HT_ ?_
         refine SQ.pu 34 55 HT_ ?_
         refine SQ.pu 35 56 HT_ ?_
         refine done_ (done_of HT_.out (by kernel_rfl)) ?_
         try go_wp2
         go_ret
         exact ⟨by first | rfl | (simp [errW_none, errW_some] <;> rfl) | (simp only [← hji26]; first | rfl | (simp [errW_none, errW_some] <;> rfl)) | (simp [*, errW_none, errW_some] <;> rfl), by repeat (first | (with_reducible first | exact HB.out | apply Zf | apply Zd | apply Ze | refine Zg ?_ GE111.out | refine Zg ?_ GE113.out) | exact HB.out)⟩
        rw [if_neg c28] at H
        exact absurd H (by simp)
       rw [if_neg c27] at H
       exact absurd H (by simp)
      rw [if_neg c25] at H
      have c25b0 : decide (0 < x3_1) = false := decide_eq_false c25
      clear c25
      have H' := Zh H
      clear H
      have hcz42_0 : wr.cell? ⟨gb111, 0, none⟩ = some (.slice A0_0 l0_0.length c0_0) := (blk_cell BK111.out 0).trans rfl
      have hfz42_0 := Zn BK111.out 0
      have p112 : 0 ≤ (x3_1 : Int) := Zo
      have q112 : x3_1 < (l0_0.length : Int) := Zo
      obtain ⟨ad112, A112_1, c112_1, A112_2, c112_2, e112, hx112_0, hx112_1, hx112_2, hl112_1, hi112_1, hl112_2, hi112_2⟩ := at_T55 HR0_0.out x3_1 p112 q112
      cases e112
      replace hx112_0 := Zc HB.out hx112_0
      replace hx112_1 := Zc HB.out hx112_1
      replace hx112_2 := Zc HB.out hx112_2
      have HR112_1 := Zh hi112_1
      have HC112_1 := Zh hl112_1
      clear hi112_1 hl112_1
      have HR112_2 := Zh hi112_2
      have HC112_2 := Zh hl112_2
      clear hi112_2 hl112_2
      replace p112 := eq_true p112
      replace q112 := eq_true q112
      try go_wp2_with (first | ((with_reducible refine gate_dst (N := 4) rfl ?_); (try (refine gate_guard (by rfl) ?_; dsimp only)); refine box_event ?hg (N := 4) ?hd (cs := #[.string (⟨#[]⟩ : ByteArray), .slice none 0 0, .slice none 0 0]) (t := 55) ?hr ?_; (case hd => rfl); (case hg => rfl); (case hr => first | (go_simp; done) | (go_simp; rfl)); intro gb113 hg w43 hbox hb; have n0_ := Zh (Zm (g := gb111) (o := .cells #[.slice (some ad112) l0_0.length c0_0] 28 (0, 0)) Zk hb); have n1_ := Zh (Zl Zs hb); have n2_ := Zh (hbox); have n3_ := Zh ((by rw [hg]; exact (below_size Zs) : w.heap.size ≤ gb113)); have n4_ := Zh ((by rw [hg]; exact (below_size Zs) : w.heap.size ≤ gb113)); have n5_ := Zh ((by rw [hg]; exact Nat.ne_of_lt (blk_lt (g := gb111) (o := .cells #[.slice (some ad112) l0_0.length c0_0] 28 (0, 0)) Zk) : gb111 ≠ gb113)); have n6_ := Zh ((by rw [hg]; exact Nat.ne_of_gt (blk_lt (g := gb111) (o := .cells #[.slice (some ad112) l0_0.length c0_0] 28 (0, 0)) Zk) : gb113 ≠ gb111)); clear BK111; clear HB; have BK111 := n0_; have HB := n1_; have BK113 := n2_; have GW113 := n3_; have GE113 := n4_; have NB111_113 := n5_; have NB113_111 := n6_; clear n0_ n1_ n2_ n3_ n4_ n5_ n6_; clear hb hbox hg; have hnb44 := NB113_111.out; have hnc44 := NB111_113.out; have hcz45_0 : w43.cell? ⟨gb113, 0, none⟩ = some (.string (⟨#[]⟩ : ByteArray)) := (blk_cell BK113.out 0).trans rfl; have hcz45_1 : w43.cell? ⟨gb113, 1, none⟩ = some (.slice none 0 0) := (blk_cell BK113.out 1).trans rfl; have hcz45_2 : w43.cell? ⟨gb113, 2, none⟩ = some (.slice none 0 0) := (blk_cell BK113.out 2).trans rfl; have hfz45_0 := Zn BK113.out 0; have hfz45_1 := Zn BK113.out 1; have hfz45_2 := Zn BK113.out 2))
      have n0_ : Aside0 ((((w43.setCell ⟨gb113, 0, none⟩ (.string ((rd_T55 l0_0 x3_1).f0))).setCell ⟨gb113, 1, none⟩ (.slice A112_1 ((rd_T55 l0_0 x3_1).f1).length c112_1)).setCell ⟨gb113, 2, none⟩ (.slice A112_2 ((rd_T55 l0_0 x3_1).f2).length c112_2)).heap[gb111]? = some (.cells #[.slice (some ad112) l0_0.length c0_0] 28 (0, 0))) := ⟨by (with_reducible repeat (first | refine Za ?_ _ | refine Zb ?_ | refine blk_alloc ?_ _)); refine Zp ?_ NB111_113.out _; (with_reducible repeat (first | refine Za ?_ _ | refine Zb ?_ | refine blk_alloc ?_ _)); refine Zp ?_ NB111_113.out _; (with_reducible repeat (first | refine Za ?_ _ | refine Zb ?_ | refine blk_alloc ?_ _)); refine Zp ?_ NB111_113.out _; (with_reducible repeat (first | refine Za ?_ _ | refine Zb ?_ | refine blk_alloc ?_ _)); exact BK111.out⟩
      have n1_ : Aside0 ((((w43.setCell ⟨gb113, 0, none⟩ (.string ((rd_T55 l0_0 x3_1).f0))).setCell ⟨gb113, 1, none⟩ (.slice A112_1 ((rd_T55 l0_0 x3_1).f1).length c112_1)).setCell ⟨gb113, 2, none⟩ (.slice A112_2 ((rd_T55 l0_0 x3_1).f2).length c112_2)).heap[gb113]? = some (.cells #[.string ((rd_T55 l0_0 x3_1).f0), .slice A112_1 ((rd_T55 l0_0 x3_1).f1).length c112_1, .slice A112_2 ((rd_T55 l0_0 x3_1).f2).length c112_2] 55 (0, 0))) := ⟨by (with_reducible repeat (first | refine Za ?_ _ | refine Zb ?_ | refine blk_alloc ?_ _)); refine blk_put (cs := #[.string ((rd_T55 l0_0 x3_1).f0), .slice A112_1 ((rd_T55 l0_0 x3_1).f1).length c112_1, .slice none 0 0]) ?_ 2 _ rfl; (with_reducible repeat (first | refine Za ?_ _ | refine Zb ?_ | refine blk_alloc ?_ _)); refine blk_put (cs := #[.string ((rd_T55 l0_0 x3_1).f0), .slice none 0 0, .slice none 0 0]) ?_ 1 _ rfl; (with_reducible repeat (first | refine Za ?_ _ | refine Zb ?_ | refine blk_alloc ?_ _)); refine blk_put (cs := #[.string (⟨#[]⟩ : ByteArray), .slice none 0 0, .slice none 0 0]) ?_ 0 _ rfl; (with_reducible repeat (first | refine Za ?_ _ | refine Zb ?_ | refine blk_alloc ?_ _)); exact BK113.out⟩
      have n2_ : Aside0 (Below w.heap.size w (((w43.setCell ⟨gb113, 0, none⟩ (.string ((rd_T55 l0_0 x3_1).f0))).setCell ⟨gb113, 1, none⟩ (.slice A112_1 ((rd_T55 l0_0 x3_1).f1).length c112_1)).setCell ⟨gb113, 2, none⟩ (.slice A112_2 ((rd_T55 l0_0 x3_1).f2).length c112_2))) := ⟨by repeat (first | (with_reducible first | exact HB.out | apply Zf | apply Zd | apply Ze | refine Zg ?_ GE111.out | refine Zg ?_ GE113.out) | exact HB.out)⟩
      (try clear BK111)
      (try clear BK113)
      (try clear HB)
      generalize (((w43.setCell ⟨gb113, 0, none⟩ (.string ((rd_T55 l0_0 x3_1).f0))).setCell ⟨gb113, 1, none⟩ (.slice A112_1 ((rd_T55 l0_0 x3_1).f1).length c112_1)).setCell ⟨gb113, 2, none⟩ (.slice A112_2 ((rd_T55 l0_0 x3_1).f2).length c112_2)) = w46 at n0_ n1_ n2_ ⊢
      have BK111 := n0_
      have BK113 := n1_
      have HB := n2_
      clear n0_ n1_ n2_
      have n0_ := Zh (Zb BK111.out)
      have n1_ := Zh (Zb BK113.out)
      have n2_ := Zh (Ze HB.out)
      clear BK111
      clear BK113
      clear HB
      have BK111 := n0_
      have BK113 := n1_
      have HB := n2_
      clear n0_ n1_ n2_
      refine start_ (n := 36) (S := fun w' => w'.cell? ⟨gb113, 0, none⟩ = some (.string ((rd_T55 l0_0 x3_1).f0)) ∧ w'.cell? ⟨gb113, 1, none⟩ = some (.slice A112_1 ((rd_T55 l0_0 x3_1).f1).length c112_1) ∧ w'.cell? ⟨gb113, 2, none⟩ = some (.slice A112_2 ((rd_T55 l0_0 x3_1).f2).length c112_2)) (ds := []) #[false, false, false, false, false, false, false, false, false, false, false, false, false, false, false, false, false, false, false, false, false, false, false, false, false, false, false, false, false, false, false, false, false, false, false, false] (by kernel_rfl) rfl rfl ⟨(blk_cell BK113.out 0).trans rfl, (blk_cell BK113.out 1).trans rfl, (blk_cell BK113.out 2).trans rfl⟩ (fun hHeld => ?_); refine with_tabW spec_DiskOk.tab7 spec_DiskOk.bits7 (fun HT_ HW_ => ?_)
      generalize w46.drew = w47 at BK111 BK113 HB hHeld ⊢
      refine SQ.pu 0 21 HT_ ?_
      refine SQ.tk 1 22 HT_ HW_ hHeld ?_
      refine one_ (i := 2) (N := some 23) #[true, true, true, false, false, false, false, false, false, false, false, false, false, false, false, false, false, false, false, false, false, false, false, false, false, false, false, false, false, false, false, false, false, false, false, false] rfl rfl (one_of HT_.out (by kernel_rfl)) (by decide) (fun K hK => ?_)
      refine goes_ Tryd.func90 (by kernel_rfl) rfl #[.string ((rd_T55 l0_0 x3_1).f0)] (by rfl) rfl rfl (by (try simp only [List.map_toArray, List.map_cons, List.map_nil]); first | done | rfl | (simp only [List.length_drop, List.length_take]; rfl)) ?_
      with_reducible refine (spec_l01Name.calls k1 ((rd_T55 l0_0 x3_1).f0) true _ A9.out).mono ?_
      rintro e w' ⟨rfl, ⟨nd, rfl⟩⟩
      refine ⟨_, rfl, ?_⟩
      refine hK.out _ _ ⟨(blk_cell BK113.out 0).trans rfl, (blk_cell BK113.out 1).trans rfl, (blk_cell BK113.out 2).trans rfl⟩ (fun hHeld => ?_)
      clear hK K
      refine norm_ (a' := ?_) ?_ ?_
      rotate_left
      ·
       show Act.put _ (some 23) _ = _
       simp only [Act.put, List.setIfInBounds_toArray, List.set_cons_zero, List.set_cons_succ, i64_w, i32_w]
       rfl
      refine SQ.pu 3 24 HT_ ?_
      refine SQ.pu 4 25 HT_ ?_
      refine SQ.pu 5 26 HT_ ?_
      refine SQ.tk 6 27 HT_ HW_ hHeld ?_
      refine SQ.pu 7 28 HT_ ?_
      refine SQ.pu 8 29 HT_ ?_
      refine SQ.pu 9 30 HT_ ?_
      refine SQ.pu 10 31 HT_ ?_
      refine SQ.pu 11 32 HT_ ?_
      refine SQ.pu 14 35 HT_ ?_
      refine SQ.tk 12 33 HT_ HW_ hHeld ?_
      refine SQ.pu 13 34 HT_ ?_
      refine SQ.tk 15 36 HT_ HW_ hHeld ?_
      refine SQ.pu 16 37 HT_ ?_
      refine SQ.pu 17 38 HT_ ?_
      refine SQ.pu 18 39 HT_ ?_
      refine SQ.pu 19 40 HT_ ?_
      refine SQ.pu 20 41 HT_ ?_
      refine SQ.pu 21 42 HT_ ?_
      refine SQ.pu 22 43 HT_ ?_
      refine SQ.pu 23 44 HT_ ?_
      refine SQ.of 24 45 HT_ ?_
      refine SQ.of 25 46 HT_ ?_
      refine SQ.of 26 47 HT_ ?_
      refine SQ.of 27 48 HT_ ?_
      refine SQ.of 28 49 HT_ ?_
      refine SQ.of 29 50 HT_ ?_
      refine SQ.of 30 51 HT_ ?_
      refine SQ.of 31 52 HT_ ?_
      refine SQ.of 32 53 HT_ ?_
      refine SQ.of 33 54 HT_ ?_
      refine SQ.pu 34 55 HT_ ?_
      refine SQ.pu 35 56 HT_ ?_
      refine done_ (done_of HT_.out (by kernel_rfl)) ?_
      try go_wp2
      go_roundg k1
      case measure => have := HK1.out; omega
      case rel => exact ⟨(wrap64 (x3_1 + 1)), (by first | rfl | (simp; done) | (simp [*]; done)), H', ⟨by have := HK1.out; omega⟩, ⟨by (with_reducible repeat (first | refine Za ?_ _ | refine Zb ?_ | refine blk_alloc ?_ _)); exact BK111.out⟩, ⟨by repeat (first | (with_reducible first | exact HB.out | apply Zf | apply Zd | apply Ze | refine Zg ?_ GE111.out | refine Zg ?_ GE113.out) | exact HB.out)⟩⟩
     replace c10 := Bool.eq_false_iff.mpr c10
     subst c10
     have H1 : (some false) = some r := by rw [if_neg (show ¬ (false = true) by decide)] at H; exact H
     clear H
     have H := H1
     clear H1
     obtain rfl := Option.some.inj H
     have hcz48_0 : wr.cell? ⟨gb111, 0, none⟩ = some (.slice A0_0 l0_0.length c0_0) := (blk_cell BK111.out 0).trans rfl
     have hfz48_0 := Zn BK111.out 0
     have p112 : 0 ≤ (x3_1 : Int) := Zo
     have q112 : x3_1 < (l0_0.length : Int) := Zo
     obtain ⟨ad112, A112_1, c112_1, A112_2, c112_2, e112, hx112_0, hx112_1, hx112_2, hl112_1, hi112_1, hl112_2, hi112_2⟩ := at_T55 HR0_0.out x3_1 p112 q112
     cases e112
     replace hx112_0 := Zc HB.out hx112_0
     replace hx112_1 := Zc HB.out hx112_1
     replace hx112_2 := Zc HB.out hx112_2
     have HR112_1 := Zh hi112_1
     have HC112_1 := Zh hl112_1
     clear hi112_1 hl112_1
     have HR112_2 := Zh hi112_2
     have HC112_2 := Zh hl112_2
     clear hi112_2 hl112_2
     replace p112 := eq_true p112
     replace q112 := eq_true q112
     try go_wp2_with (first | ((with_reducible refine gate_dst (N := 4) rfl ?_); (try (refine gate_guard (by rfl) ?_; dsimp only)); refine box_event ?hg (N := 4) ?hd (cs := #[.string (⟨#[]⟩ : ByteArray), .slice none 0 0, .slice none 0 0]) (t := 55) ?hr ?_; (case hd => rfl); (case hg => rfl); (case hr => first | (go_simp; done) | (go_simp; rfl)); intro gb113 hg w49 hbox hb; have n0_ := Zh (Zm (g := gb111) (o := .cells #[.slice (some ad112) l0_0.length c0_0] 28 (0, 0)) Zk hb); have n1_ := Zh (Zl Zs hb); have n2_ := Zh (hbox); have n3_ := Zh ((by rw [hg]; exact (below_size Zs) : w.heap.size ≤ gb113)); have n4_ := Zh ((by rw [hg]; exact (below_size Zs) : w.heap.size ≤ gb113)); have n5_ := Zh ((by rw [hg]; exact Nat.ne_of_lt (blk_lt (g := gb111) (o := .cells #[.slice (some ad112) l0_0.length c0_0] 28 (0, 0)) Zk) : gb111 ≠ gb113)); have n6_ := Zh ((by rw [hg]; exact Nat.ne_of_gt (blk_lt (g := gb111) (o := .cells #[.slice (some ad112) l0_0.length c0_0] 28 (0, 0)) Zk) : gb113 ≠ gb111)); clear BK111; clear HB; have BK111 := n0_; have HB := n1_; have BK113 := n2_; have GW113 := n3_; have GE113 := n4_; have NB111_113 := n5_; have NB113_111 := n6_; clear n0_ n1_ n2_ n3_ n4_ n5_ n6_; clear hb hbox hg; have hnb50 := NB113_111.out; have hnc50 := NB111_113.out; have hcz51_0 : w49.cell? ⟨gb113, 0, none⟩ = some (.string (⟨#[]⟩ : ByteArray)) := (blk_cell BK113.out 0).trans rfl; have hcz51_1 : w49.cell? ⟨gb113, 1, none⟩ = some (.slice none 0 0) := (blk_cell BK113.out 1).trans rfl; have hcz51_2 : w49.cell? ⟨gb113, 2, none⟩ = some (.slice none 0 0) := (blk_cell BK113.out 2).trans rfl; have hfz51_0 := Zn BK113.out 0; have hfz51_1 := Zn BK113.out 1; have hfz51_2 := Zn BK113.out 2))
     have n0_ : Aside0 ((((w49.setCell ⟨gb113, 0, none⟩ (.string ((rd_T55 l0_0 x3_1).f0))).setCell ⟨gb113, 1, none⟩ (.slice A112_1 ((rd_T55 l0_0 x3_1).f1).length c112_1)).setCell ⟨gb113, 2, none⟩ (.slice A112_2 ((rd_T55 l0_0 x3_1).f2).length c112_2)).heap[gb111]? = some (.cells #[.slice (some ad112) l0_0.length c0_0] 28 (0, 0))) := ⟨by (with_reducible repeat (first | refine Za ?_ _ | refine Zb ?_ | refine blk_alloc ?_ _)); refine Zp ?_ NB111_113.out _; (with_reducible repeat (first | refine Za ?_ _ | refine Zb ?_ | refine blk_alloc ?_ _)); refine Zp ?_ NB111_113.out _; (with_reducible repeat (first | refine Za ?_ _ | refine Zb ?_ | refine blk_alloc ?_ _)); refine Zp ?_ NB111_113.out _; (with_reducible repeat (first | refine Za ?_ _ | refine Zb ?_ | refine blk_alloc ?_ _)); exact BK111.out⟩
     have n1_ : Aside0 ((((w49.setCell ⟨gb113, 0, none⟩ (.string ((rd_T55 l0_0 x3_1).f0))).setCell ⟨gb113, 1, none⟩ (.slice A112_1 ((rd_T55 l0_0 x3_1).f1).length c112_1)).setCell ⟨gb113, 2, none⟩ (.slice A112_2 ((rd_T55 l0_0 x3_1).f2).length c112_2)).heap[gb113]? = some (.cells #[.string ((rd_T55 l0_0 x3_1).f0), .slice A112_1 ((rd_T55 l0_0 x3_1).f1).length c112_1, .slice A112_2 ((rd_T55 l0_0 x3_1).f2).length c112_2] 55 (0, 0))) := ⟨by (with_reducible repeat (first | refine Za ?_ _ | refine Zb ?_ | refine blk_alloc ?_ _)); refine blk_put (cs := #[.string ((rd_T55 l0_0 x3_1).f0), .slice A112_1 ((rd_T55 l0_0 x3_1).f1).length c112_1, .slice none 0 0]) ?_ 2 _ rfl; (with_reducible repeat (first | refine Za ?_ _ | refine Zb ?_ | refine blk_alloc ?_ _)); refine blk_put (cs := #[.string ((rd_T55 l0_0 x3_1).f0), .slice none 0 0, .slice none 0 0]) ?_ 1 _ rfl; (with_reducible repeat (first | refine Za ?_ _ | refine Zb ?_ | refine blk_alloc ?_ _)); refine blk_put (cs := #[.string (⟨#[]⟩ : ByteArray), .slice none 0 0, .slice none 0 0]) ?_ 0 _ rfl; (with_reducible repeat (first | refine Za ?_ _ | refine Zb ?_ | refine blk_alloc ?_ _)); exact BK113.out⟩
     have n2_ : Aside0 (Below w.heap.size w (((w49.setCell ⟨gb113, 0, none⟩ (.string ((rd_T55 l0_0 x3_1).f0))).setCell ⟨gb113, 1, none⟩ (.slice A112_1 ((rd_T55 l0_0 x3_1).f1).length c112_1)).setCell ⟨gb113, 2, none⟩ (.slice A112_2 ((rd_T55 l0_0 x3_1).f2).length c112_2))) := ⟨by repeat (first | (with_reducible first | exact HB.out | apply Zf | apply Zd | apply Ze | refine Zg ?_ GE111.out | refine Zg ?_ GE113.out) | exact HB.out)⟩
     (try clear BK111)
     (try clear BK113)
     (try clear HB)
     generalize (((w49.setCell ⟨gb113, 0, none⟩ (.string ((rd_T55 l0_0 x3_1).f0))).setCell ⟨gb113, 1, none⟩ (.slice A112_1 ((rd_T55 l0_0 x3_1).f1).length c112_1)).setCell ⟨gb113, 2, none⟩ (.slice A112_2 ((rd_T55 l0_0 x3_1).f2).length c112_2)) = w52 at n0_ n1_ n2_ ⊢
     have BK111 := n0_
     have BK113 := n1_
     have HB := n2_
     clear n0_ n1_ n2_
     have n0_ := Zh (Zb BK111.out)
     have n1_ := Zh (Zb BK113.out)
     have n2_ := Zh (Ze HB.out)
     clear BK111
     clear BK113
     clear HB
     have BK111 := n0_
     have BK113 := n1_
     have HB := n2_
     clear n0_ n1_ n2_
     refine start_ (n := 36) (S := fun w' => w'.cell? ⟨gb113, 0, none⟩ = some (.string ((rd_T55 l0_0 x3_1).f0)) ∧ w'.cell? ⟨gb113, 1, none⟩ = some (.slice A112_1 ((rd_T55 l0_0 x3_1).f1).length c112_1) ∧ w'.cell? ⟨gb113, 2, none⟩ = some (.slice A112_2 ((rd_T55 l0_0 x3_1).f2).length c112_2)) (ds := []) #[false, false, false, false, false, false, false, false, false, false, false, false, false, false, false, false, false, false, false, false, false, false, false, false, false, false, false, false, false, false, false, false, false, false, false, false] (by kernel_rfl) rfl rfl ⟨(blk_cell BK113.out 0).trans rfl, (blk_cell BK113.out 1).trans rfl, (blk_cell BK113.out 2).trans rfl⟩ (fun hHeld => ?_); refine with_tabW spec_DiskOk.tab7 spec_DiskOk.bits7 (fun HT_ HW_ => ?_)
     generalize w52.drew = w53 at BK111 BK113 HB hHeld ⊢
     refine SQ.pu 0 21 HT_ ?_
     refine SQ.tk 1 22 HT_ HW_ hHeld ?_
     refine one_ (i := 2) (N := some 23) #[true, true, true, false, false, false, false, false, false, false, false, false, false, false, false, false, false, false, false, false, false, false, false, false, false, false, false, false, false, false, false, false, false, false, false, false] rfl rfl (one_of HT_.out (by kernel_rfl)) (by decide) (fun K hK => ?_)
     refine goes_ Tryd.func90 (by kernel_rfl) rfl #[.string ((rd_T55 l0_0 x3_1).f0)] (by rfl) rfl rfl (by (try simp only [List.map_toArray, List.map_cons, List.map_nil]); first | done | rfl | (simp only [List.length_drop, List.length_take]; rfl)) ?_
     with_reducible refine (spec_l01Name.calls k1 ((rd_T55 l0_0 x3_1).f0) false _ A9.out).mono ?_
     rintro e w' ⟨rfl, ⟨nd, rfl⟩⟩
     refine ⟨_, rfl, ?_⟩
     refine hK.out _ _ ⟨(blk_cell BK113.out 0).trans rfl, (blk_cell BK113.out 1).trans rfl, (blk_cell BK113.out 2).trans rfl⟩ (fun hHeld => ?_)
     clear hK K
     refine norm_ (a' := ?_) ?_ ?_
     rotate_left
     ·
      show Act.put _ (some 23) _ = _
      simp only [Act.put, List.setIfInBounds_toArray, List.set_cons_zero, List.set_cons_succ, i64_w, i32_w]
      rfl
     refine SQ.pu 3 24 HT_ ?_
     refine SQ.pu 4 25 HT_ ?_
     refine SQ.of 5 26 HT_ ?_
     refine SQ.of 6 27 HT_ ?_
     refine SQ.of 7 28 HT_ ?_
     refine SQ.of 8 29 HT_ ?_
     refine SQ.pu 9 30 HT_ ?_
     refine SQ.pu 10 31 HT_ ?_
     refine SQ.of 11 32 HT_ ?_
     refine SQ.of 12 33 HT_ ?_
     refine SQ.of 13 34 HT_ ?_
     refine SQ.of 14 35 HT_ ?_
     refine SQ.of 15 36 HT_ ?_
     refine SQ.of 16 37 HT_ ?_
     refine SQ.of 17 38 HT_ ?_
     refine SQ.of 18 39 HT_ ?_
     refine SQ.pu 19 40 HT_ ?_
     refine SQ.pu 20 41 HT_ ?_
     refine SQ.of 21 42 HT_ ?_
     refine SQ.of 22 43 HT_ ?_
     refine SQ.of 23 44 HT_ ?_
     refine SQ.of 24 45 HT_ ?_
     refine SQ.of 25 46 HT_ ?_
     refine SQ.of 26 47 HT_ ?_
     refine SQ.of 27 48 HT_ ?_
     refine SQ.of 28 49 HT_ ?_
     refine SQ.of 29 50 HT_ ?_
     refine SQ.of 30 51 HT_ ?_
     refine SQ.of 31 52 HT_ ?_
     refine SQ.of 32 53 HT_ ?_
     refine SQ.of 33 54 HT_ ?_
     refine SQ.of 34 55 HT_ ?_
     refine SQ.pu 35 56 HT_ ?_
     refine done_ (done_of HT_.out (by kernel_rfl)) ?_
     try go_wp2
     go_ret
     exact ⟨by first | rfl | (simp [errW_none, errW_some] <;> rfl) | (simp [*, errW_none, errW_some] <;> rfl), by repeat (first | (with_reducible first | exact HB.out | apply Zf | apply Zd | apply Ze | refine Zg ?_ GE111.out | refine Zg ?_ GE113.out) | exact HB.out)⟩
    rw [if_neg c8] at H
    exact absurd H (by simp)
   rw [if_neg c7] at H
   have c7b0 : decide (x3_1 < (l0_0.length : Int)) = false := decide_eq_false c7
   clear c7
   obtain rfl := Option.some.inj H
   have hcz54_0 : wr.cell? ⟨gb111, 0, none⟩ = some (.slice A0_0 l0_0.length c0_0) := (blk_cell BK111.out 0).trans rfl
   have hfz54_0 := Zn BK111.out 0
   go_wp2
   go_ret
   exact ⟨by first | rfl | (simp [errW_none, errW_some] <;> rfl) | (simp [*, errW_none, errW_some] <;> rfl), by repeat (first | (with_reducible first | exact HB.out | apply Zf | apply Zd | apply Ze | refine Zg ?_ GE111.out) | exact HB.out)⟩
end Go.Proofs.YtcgojdhbphocgaaDoor.F

namespace Go.Proofs.YtcgojdhbphocgaaDoor.F
open Go.RowKit Go.Proofs.YtcgojdhbphocgaaDoorW.PrintWords Go.Proofs.YtcgojdhbphocgaaDoorW.PrintWords.Kd Go.Proofs.YtcgojdhbphocgaaDoorW.PrintMore.Kd Go.Proofs.YtcgojdhbphocgaaDoorW.PrintLast Go.Proofs.YtcgojdhbphocgaaDoorW.PrintMore
attribute [local go_sem] max2_int min2_int max_two min_two max_three min_three max_four min_four   -- for this text's walks alone
set_option linter.unusedVariables false
set_option linter.unusedSimpArgs false
def spec_l01Bytes.l0 : Nat → List Int → List Int → Int → Option (List Int)
 | 0, _, _, _ => none
 | k + 1, x0, x3, x4 => if x4 < (x0.length : Int) then (if 0 ≤ x4 then (if x3.length < 140737488355328 then (spec_l01Bytes.l0 k x0 (x3 ++ [rd x0 x4]) (wrap64 (x4 + 1))) else (none)) else (none)) else (some x3)
def spec_l01Bytes.f (k : Nat) (l0 : List Int) : Option (List Int) := spec_l01Bytes.l0 k l0 (([] : List Int)) 0
set_option maxHeartbeats 8000000 in
set_option maxRecDepth 100000 in
theorem spec_l01Bytes.calls (k : Nat) (A0 : Option Addr) (c0 : Nat) (l0 : List Int) (r : List Int) (w : World) (hr0 : Kd.C (Kd.int .u8) w A0 l0.length l0) (hc0 : l0.length ≤ c0) (h : spec_l01Bytes.f k l0 = some r) :
  Calls Tryd.prog 87 #[.slice A0 l0.length c0] w fun e w' => ∃ v0_ : Value, e = .returned (v0_) ∧ Kd.R (Kd.int .u8) 5 w' w.heap.size (fun _ => True) v0_ r ∧ Below w.heap.size w w' := by
 have HR0 := Zh hr0
 have HC0 := Zh hc0
 clear hr0 hc0
 have HB := Zh (Below.refl w.heap.size w)
 have H : (spec_l01Bytes.l0 k l0 (([] : List Int)) 0) = some r := h
 clear h
 obtain ⟨y116, hy116⟩ : ∃ y_ : List Int, y_ = (([] : List Int)) := ⟨_, rfl⟩
 replace H : (spec_l01Bytes.l0 k l0 y116 0) = some r := by first | (rw [hy116]; with_reducible exact H) | (have H2_ := (Option.bind_some _ _).symm.trans H; rw [hy116]; with_reducible exact H2_) | (have H2_ := (Option.bind_some _ _).symm.trans H; with_reducible exact H2_) | with_reducible exact H | (rw [hy116]; exact H) | exact H
 have Ny116 := Zh hy116
 clear hy116
 have H' := Zh H
 clear H
 go_enter Tryd.func87, Tryd.ntmps87
 go_wp2_with (first | ((with_reducible refine gate_dst (N := 5) rfl ?_); refine R_lit (Kd.int .u8) _ 5 ?hg (N := 5) ?hd (xs := ([] : List Int)) (inner := []) (ok := fun _ => True) (okp := fun _ => True) ?hr ?hp (fun _ hk => hk) trivial (Below.refl _ _) (Nat.le_refl _) (by simp) ?_; (case hd => rfl); (case hg => rfl); (case hr => first | (go_simp; done) | (go_simp; rfl)); (case hp => exact (Reps.none _ _)); intro v117 w2 ho3 hb hg_ hnew_; clear hg_ hnew_; (first | rw [← Ny116.out] at ho3 | (simp only [Int.reduceToNat] at ho3; rw [← Ny116.out] at ho3)); have n0_ := Zh (R_lower ho3 (below_size Zs)); have n1_ := Zh (Zl Zs hb); clear HB; have HO118 := n0_; have HB := n1_; clear n0_ n1_; clear hb ho3))
 go_loopg [3, 4] k (fun kq v3 v4 w' => ∃ (x3_1 : List Int) (x4_1 : Int), v4 = .int .i64 x4_1 ∧ Aside0 (spec_l01Bytes.l0 kq l0 x3_1 x4_1 = some r) ∧ Aside0 (kq ≤ k) ∧ Aside0 (Kd.R (Kd.int .u8) 5 w' w.heap.size (fun _ => True) v3 x3_1) ∧ Aside0 (Below w.heap.size w w'))
 case atStart => exact ⟨(y116), (0), (by first | rfl | (simp; done) | (simp [*]; done)), H', ⟨Nat.le_refl _⟩, ⟨by (with_reducible repeat (first | apply R_alloc | apply R_drewN | apply R_drew)); exact HO118.out⟩, ⟨by repeat (first | (with_reducible first | exact HB.out | apply Zf | apply Zd | apply Ze) | exact HB.out)⟩⟩
 case round =>
  clear H'
  try clear p2
  obtain ⟨x3_1, x4_1, rfl, HA, HK1, HO_3, HB⟩ := hrel
  cases gk with
  | zero => exact absurd HA.out (by simp [spec_l01Bytes.l0])
  | succ k1 =>
   have H := HA.out
   clear HA
   simp only [spec_l01Bytes.l0] at H
   by_cases c4 : x4_1 < (l0.length : Int)
   ·
    rw [if_pos c4] at H
    have c4b0 : decide (x4_1 < (l0.length : Int)) = true := decide_eq_true c4
    clear c4
    by_cases c5 : 0 ≤ x4_1
    ·
     rw [if_pos c5] at H
     have c5b0 : decide (0 ≤ x4_1) = true := decide_eq_true c5
     clear c5
     by_cases c6 : x3_1.length < 140737488355328
     ·
      rw [if_pos c6] at H
      have LMc6 := Zh c6
      clear c6
      obtain ⟨y120, hy120⟩ : ∃ y_ : List Int, y_ = (x3_1 ++ [rd l0 x4_1]) := ⟨_, rfl⟩
      replace H : (spec_l01Bytes.l0 k1 l0 y120 (wrap64 (x4_1 + 1))) = some r := by first | (rw [hy120]; with_reducible exact H) | (have H2_ := (Option.bind_some _ _).symm.trans H; rw [hy120]; with_reducible exact H2_) | (have H2_ := (Option.bind_some _ _).symm.trans H; with_reducible exact H2_) | with_reducible exact H | (rw [hy120]; exact H) | exact H
      have Ny120 := Zh hy120
      clear hy120
      have H' := Zh H
      clear H
      have p119 : 0 ≤ (x4_1 : Int) := Zo
      have q119 : x4_1 < (l0.length : Int) := Zo
      obtain ⟨ad119, e119, hx119_0⟩ := Kd.at_int HR0.out x4_1 p119 q119
      cases e119
      replace hx119_0 := Zc HB.out hx119_0
      replace p119 := eq_true p119
      replace q119 := eq_true q119
      go_wp2_with (first | ((with_reducible refine gate_builtin (b := .append) (xs := #[.tmp 12, .tmp 17]) rfl ?_); at_builtin; refine R_append (Kd.int .u8) (w0 := w) w.heap.size rfl (.tmp 12) (.tmp 17) 41 5 (.int .u8 0) 1 rfl Tryd.underlying41 info5 rfl (by decide) (by omega) u3 x3_1 (rd l0 x4_1) [.int .u8 (rd l0 x4_1)] (fun _ => True) (fun _ => False) rfl rfl ?aP (fun _ hk => hk.elim) ?aF ?aO ?aB ?aS ?aL ?_; (case aP => exact rfl); (case aB => exact Zs); (case aF => exact (fun _ _ => trivial)); (case aO => exact (by (with_reducible repeat (first | apply R_alloc | apply R_drewN | apply R_drew)); exact HO_3.out)); (case aS => exact (below_size Zs)); (case aL => have := LMc6.out; omega); intro v121 w7 ho hb hg hat; rw [← Ny120.out] at ho; have n0_ := Zh (hb); have n1_ := Zh (ho); clear HB; clear HO_3; have HB := n0_; have HO122 := n1_; clear n0_ n1_; clear ho hb hg hat))
      go_roundg k1
      case measure => have := HK1.out; omega
      case rel => exact ⟨(y120), (wrap64 (x4_1 + 1)), (by first | rfl | (simp; done) | (simp [*]; done)), H', ⟨by have := HK1.out; omega⟩, ⟨by (with_reducible repeat (first | apply R_alloc | apply R_drewN | apply R_drew)); exact HO122.out⟩, ⟨by repeat (first | (with_reducible first | exact HB.out | apply Zf | apply Zd | apply Ze) | exact HB.out)⟩⟩
     rw [if_neg c6] at H
     exact absurd H (by simp)
    rw [if_neg c5] at H
    exact absurd H (by simp)
   rw [if_neg c4] at H
   have c4b0 : decide (x4_1 < (l0.length : Int)) = false := decide_eq_false c4
   clear c4
   obtain rfl := Option.some.inj H
   go_wp2
   go_ret
   exact ⟨_, by first | rfl | (simp [errW_none, errW_some] <;> rfl) | (simp [*, errW_none, errW_some] <;> rfl), by (with_reducible repeat (first | apply R_alloc | apply R_drewN | apply R_drew)); exact HO_3.out, by repeat (first | (with_reducible first | exact HB.out | apply Zf | apply Zd | apply Ze) | exact HB.out)⟩
def spec_l01Join.l0 : Nat → List Int → List Int → Int → Option (List Int)
 | 0, _, _, _ => none
 | k + 1, x1, x5, x6 => if x6 < (x1.length : Int) then (if 0 ≤ x6 then (if x5.length < 140737488355328 then (spec_l01Join.l0 k x1 (x5 ++ [rd x1 x6]) (wrap64 (x6 + 1))) else (none)) else (none)) else (some x5)
def spec_l01Join.f (k : Nat) (l0 : List Int) (l1 : List Int) : Option (List Int) := (spec_l01Bytes.f k l0).bind fun t123 => (spec_l01Join.l0 k l1 t123 0)
set_option maxHeartbeats 8000000 in
set_option maxRecDepth 100000 in
theorem spec_l01Join.calls (k : Nat) (A0 : Option Addr) (c0 : Nat) (l0 : List Int) (A1 : Option Addr) (c1 : Nat) (l1 : List Int) (r : List Int) (w : World) (hr0 : Kd.C (Kd.int .u8) w A0 l0.length l0) (hc0 : l0.length ≤ c0) (hr1 : Kd.C (Kd.int .u8) w A1 l1.length l1) (hc1 : l1.length ≤ c1) (h : spec_l01Join.f k l0 l1 = some r) :
  Calls Tryd.prog 85 #[.slice A0 l0.length c0, .slice A1 l1.length c1] w fun e w' => ∃ v0_ : Value, e = .returned (v0_) ∧ Kd.R (Kd.int .u8) 5 w' w.heap.size (fun _ => True) v0_ r ∧ Below w.heap.size w w' := by
 have HR0 := Zh hr0
 have HC0 := Zh hc0
 clear hr0 hc0
 have HR1 := Zh hr1
 have HC1 := Zh hc1
 clear hr1 hc1
 have HB := Zh (Below.refl w.heap.size w)
 have H : ((spec_l01Bytes.f k l0).bind fun t123 => (spec_l01Join.l0 k l1 t123 0)) = some r := h
 clear h
 replace H := Option.bind_eq_some_iff.mp H
 obtain ⟨t123, A30, H⟩ := H
 replace H : (spec_l01Join.l0 k l1 t123 0) = some r := H
 have A3 := Zh A30
 clear A30
 have H' := Zh H
 clear H
 go_enter Tryd.func85, Tryd.ntmps85
 go_wp2_with (first | ((with_reducible refine gate_callee (f := 87) rfl ?_); refine goesL_ (some 8) rfl rfl Tryd.func87 (by kernel_rfl) rfl #[.slice A0 l0.length c0] rfl (by (try simp only [List.map_toArray, List.map_cons, List.map_nil]); first | done | rfl | (simp only [List.length_drop, List.length_take]; rfl)) ?_; (with_reducible refine (spec_l01Bytes.calls k _ _ l0 t123 _ ?side1 ?side2 A3.out).mono ?_); (case side1 => repeat (first | exact HR0.out | (with_reducible refine C_alloc ?_ _) | (with_reducible refine C_drewN ?_ _) | (with_reducible refine C_drew ?_))); (case side2 => exact HC0.out); rintro e w4 ⟨v124, rfl, ho0, hb⟩; refine ⟨_, rfl, ?_⟩; have n0_ := Zh (R_lower ho0 (below_size Zs)); have n1_ := Zh (Zl Zs hb); clear HB; have HO125 := n0_; have HB := n1_; clear n0_ n1_; (try clear hb); (try clear hb2); (try clear hk); (try clear hi); (try clear ho0)))
 go_loopg [5, 6] k (fun kq v5 v6 w' => ∃ (x5_1 : List Int) (x6_1 : Int), v6 = .int .i64 x6_1 ∧ Aside0 (spec_l01Join.l0 kq l1 x5_1 x6_1 = some r) ∧ Aside0 (kq ≤ k) ∧ Aside0 (Kd.R (Kd.int .u8) 5 w' w.heap.size (fun _ => True) v5 x5_1) ∧ Aside0 (Below w.heap.size w w'))
 case atStart => exact ⟨(t123), (0), (by first | rfl | (simp; done) | (simp [*]; done)), H', ⟨Nat.le_refl _⟩, ⟨by (with_reducible repeat (first | apply R_alloc | apply R_drewN | apply R_drew)); exact HO125.out⟩, ⟨by repeat (first | (with_reducible first | exact HB.out | apply Zf | apply Zd | apply Ze) | exact HB.out)⟩⟩
 case round =>
  clear H'
  try clear c1
  try clear p2
  obtain ⟨x5_1, x6_1, rfl, HA, HK1, HO_5, HB⟩ := hrel
  cases gk with
  | zero => exact absurd HA.out (by simp [spec_l01Join.l0])
  | succ k1 =>
   have H := HA.out
   clear HA
   simp only [spec_l01Join.l0] at H
   by_cases c5 : x6_1 < (l1.length : Int)
   ·
    rw [if_pos c5] at H
    have c5b0 : decide (x6_1 < (l1.length : Int)) = true := decide_eq_true c5
    clear c5
    by_cases c6 : 0 ≤ x6_1
    ·
     rw [if_pos c6] at H
     have c6b0 : decide (0 ≤ x6_1) = true := decide_eq_true c6
     clear c6
     by_cases c7 : x5_1.length < 140737488355328
     ·
      rw [if_pos c7] at H
      have LMc7 := Zh c7
      clear c7
      obtain ⟨y127, hy127⟩ : ∃ y_ : List Int, y_ = (x5_1 ++ [rd l1 x6_1]) := ⟨_, rfl⟩
      replace H : (spec_l01Join.l0 k1 l1 y127 (wrap64 (x6_1 + 1))) = some r := by first | (rw [hy127]; with_reducible exact H) | (have H2_ := (Option.bind_some _ _).symm.trans H; rw [hy127]; with_reducible exact H2_) | (have H2_ := (Option.bind_some _ _).symm.trans H; with_reducible exact H2_) | with_reducible exact H | (rw [hy127]; exact H) | exact H
      have Ny127 := Zh hy127
      clear hy127
      have H' := Zh H
      clear H
      have p126 : 0 ≤ (x6_1 : Int) := Zo
      have q126 : x6_1 < (l1.length : Int) := Zo
      obtain ⟨ad126, e126, hx126_0⟩ := Kd.at_int HR1.out x6_1 p126 q126
      cases e126
      replace hx126_0 := Zc HB.out hx126_0
      replace p126 := eq_true p126
      replace q126 := eq_true q126
      go_wp2_with (first | ((with_reducible refine gate_builtin (b := .append) (xs := #[.tmp 15, .tmp 20]) rfl ?_); at_builtin; refine R_append (Kd.int .u8) (w0 := w) w.heap.size rfl (.tmp 15) (.tmp 20) 41 5 (.int .u8 0) 1 rfl Tryd.underlying41 info5 rfl (by decide) (by omega) u5 x5_1 (rd l1 x6_1) [.int .u8 (rd l1 x6_1)] (fun _ => True) (fun _ => False) rfl rfl ?aP (fun _ hk => hk.elim) ?aF ?aO ?aB ?aS ?aL ?_; (case aP => exact rfl); (case aB => exact Zs); (case aF => exact (fun _ _ => trivial)); (case aO => exact (by (with_reducible repeat (first | apply R_alloc | apply R_drewN | apply R_drew)); exact HO_5.out)); (case aS => exact (below_size Zs)); (case aL => have := LMc7.out; omega); intro v128 w8 ho hb hg hat; rw [← Ny127.out] at ho; have n0_ := Zh (hb); have n1_ := Zh (ho); clear HB; clear HO_5; have HB := n0_; have HO129 := n1_; clear n0_ n1_; clear ho hb hg hat))
      go_roundg k1
      case measure => have := HK1.out; omega
      case rel => exact ⟨(y127), (wrap64 (x6_1 + 1)), (by first | rfl | (simp; done) | (simp [*]; done)), H', ⟨by have := HK1.out; omega⟩, ⟨by (with_reducible repeat (first | apply R_alloc | apply R_drewN | apply R_drew)); exact HO129.out⟩, ⟨by repeat (first | (with_reducible first | exact HB.out | apply Zf | apply Zd | apply Ze) | exact HB.out)⟩⟩
     rw [if_neg c7] at H
     exact absurd H (by simp)
    rw [if_neg c6] at H
    exact absurd H (by simp)
   rw [if_neg c5] at H
   have c5b0 : decide (x6_1 < (l1.length : Int)) = false := decide_eq_false c5
   clear c5
   obtain rfl := Option.some.inj H
   go_wp2
   go_ret
   exact ⟨_, by first | rfl | (simp [errW_none, errW_some] <;> rfl) | (simp [*, errW_none, errW_some] <;> rfl), by (with_reducible repeat (first | apply R_alloc | apply R_drewN | apply R_drew)); exact HO_5.out, by repeat (first | (with_reducible first | exact HB.out | apply Zf | apply Zd | apply Ze) | exact HB.out)⟩
end Go.Proofs.YtcgojdhbphocgaaDoor.F

namespace Go.Proofs.YtcgojdhbphocgaaDoor.F
open Go.Proofs.YtcgojdhbphocgaaDoor
open Go.RowKit Go.Proofs.YtcgojdhbphocgaaDoorW.PrintWords Go.Proofs.YtcgojdhbphocgaaDoorW.PrintWords.Kd Go.Proofs.YtcgojdhbphocgaaDoorW.PrintMore.Kd Go.Proofs.YtcgojdhbphocgaaDoorW.PrintLast Go.Proofs.YtcgojdhbphocgaaDoorW.PrintMore
attribute [local go_sem] max2_int min2_int max_two min_two max_three min_three max_four min_four   -- for this text's walks alone
set_option linter.unusedVariables false
set_option linter.unusedSimpArgs false
def spec_l03Copy.l0 : Nat → Int → List (S55) → List (S55) → Option ((List (S55)))
 | 0, _, _, _ => none
 | k + 1, x4, x139000, x141000 => if x4 < (x139000.length : Int) then (if 0 ≤ x4 then ((spec_l01Bytes.f k ((rd_T55 x139000 x4).f1)).bind fun t143 => ((spec_l01Bytes.f k ((rd_T55 x139000 x4).f2)).bind fun t146 => (if x141000.length < 2199023255552 then (spec_l03Copy.l0 k (wrap64 (x4 + 1)) x139000 (x141000 ++ [(⟨(rd_T55 x139000 x4).f0, t143, t146⟩ : S55)])) else (none)))) else (none)) else (some x141000)
def spec_l03Copy.f (k : Nat) (l0_0 : List (S55)) : Option ((List (S55))) := spec_l03Copy.l0 k 0 l0_0 ([] : List (S55))
def spec_l03Copy.T6 : Bool × List (List Nat × List Nat) := (true, [([], []), ([0], [0]), ([], []), ([2], [2]), ([], []), ([4], [4]), ([5], [5]), ([], []), ([7], [7]), ([8, 6], [8]), ([3, 6, 9], [3, 6, 9]), ([10], [10]), ([1, 11, 9], [1, 11]), ([0, 1, 2, 3, 4, 5, 6, 7, 8, 9, 10, 11, 12], []), ([13, 12, 12, 0, 1, 2, 3, 4, 5, 6, 7, 8, 9, 10, 11, 12], [12, 13])])
def spec_l03Copy.B6 : List Nat := [0, 1, 0, 4, 0, 16, 48, 0, 128, 496, 1020, 2044, 4095, 8191, 16383]
theorem spec_l03Copy.tab6 : rtab .any (opsOf Tryd.f54 6) = spec_l03Copy.T6 := by kernel_rfl
theorem spec_l03Copy.bits6 : waitsOk spec_l03Copy.T6.2 spec_l03Copy.B6 = true := by kernel_rfl
set_option maxHeartbeats 8000000 in
set_option maxRecDepth 100000 in
theorem spec_l03Copy.calls (k : Nat) (A0_0 : Option Addr) (c0_0 : Nat) (l0_0 : List (S55)) (r : List (S55)) (w : World) (hr0_0 : Kd.C k55 w A0_0 l0_0.length l0_0) (hc0_0 : l0_0.length ≤ c0_0) (h : spec_l03Copy.f k l0_0 = some r) :
  Calls Tryd.prog 54 #[.agg #[.slice A0_0 l0_0.length c0_0]] w fun e w' => ∃ v0_ : Value, e = .returned (.agg #[v0_]) ∧ Kd.S k55 55 w' w.heap.size (fun _ => True) v0_ r ∧ Below w.heap.size w w' := by
 have hu28 := Tryd.underlying28
 have hu55 := Tryd.underlying55
 have HR0_0 := Zh hr0_0
 have HC0_0 := Zh hc0_0
 clear hr0_0 hc0_0
 have HB := Zh (Below.refl w.heap.size w)
 have H : (spec_l03Copy.l0 k 0 l0_0 ([] : List (S55))) = some r := h
 clear h
 have H' := Zh H
 clear H
 go_enter Tryd.func54, Tryd.ntmps54
 go_wp2_with (first | ((with_reducible refine gate_dst (N := 1) rfl ?_); refine box_event ?hg (N := 1) ?hd (cs := #[.slice A0_0 l0_0.length c0_0]) (t := 28) ?hr ?_; (case hd => rfl); (case hg => rfl); (case hr => first | (go_simp; done) | (go_simp; rfl)); intro gb138 hg w2 hbox hb; have n0_ := Zh (Zl Zs hb); have n1_ := Zh (hbox); have n2_ := Zh ((by rw [hg]; exact (below_size Zs) : w.heap.size ≤ gb138)); have n3_ := Zh ((by rw [hg]; exact (below_size Zs) : w.heap.size ≤ gb138)); clear HB; have HB := n0_; have BK138 := n1_; have GW138 := n2_; have GE138 := n3_; clear n0_ n1_ n2_ n3_; clear hb hbox hg) | ((with_reducible refine gate_dst (N := 2) rfl ?_); refine box_event ?hg (N := 2) ?hd (cs := #[.slice none 0 0]) (t := 28) ?hr ?_; (case hd => rfl); (case hg => rfl); (case hr => first | (go_simp; done) | (go_simp; rfl)); intro gb139 hg w3 hbox hb; have n0_ := Zh (Zm (g := gb138) (o := .cells #[.slice A0_0 l0_0.length c0_0] 28 (0, 0)) Zk hb); have n1_ := Zh (Zl Zs hb); have n2_ := Zh (hbox); have n3_ := Zh ((by rw [hg]; exact (below_size Zs) : w.heap.size ≤ gb139)); have n4_ := Zh ((by rw [hg]; exact (below_size Zs) : w.heap.size ≤ gb139)); have n5_ := Zh ((by rw [hg]; exact Nat.ne_of_lt (blk_lt (g := gb138) (o := .cells #[.slice A0_0 l0_0.length c0_0] 28 (0, 0)) Zk) : gb138 ≠ gb139)); have n6_ := Zh ((by rw [hg]; exact Nat.ne_of_gt (blk_lt (g := gb138) (o := .cells #[.slice A0_0 l0_0.length c0_0] 28 (0, 0)) Zk) : gb139 ≠ gb138)); clear BK138; clear HB; have BK138 := n0_; have HB := n1_; have BK139 := n2_; have GW139 := n3_; have GE139 := n4_; have NB138_139 := n5_; have NB139_138 := n6_; clear n0_ n1_ n2_ n3_ n4_ n5_ n6_; clear hb hbox hg) | ((with_reducible refine gate_dst (N := 3) rfl ?_); refine box_event ?hg (N := 3) ?hd (cs := #[.slice none 0 0]) (t := 28) ?hr ?_; (case hd => rfl); (case hg => rfl); (case hr => first | (go_simp; done) | (go_simp; rfl)); intro gb140 hg w4 hbox hb; have n0_ := Zh (Zm (g := gb138) (o := .cells #[.slice A0_0 l0_0.length c0_0] 28 (0, 0)) Zk hb); have n1_ := Zh (Zm (g := gb139) (o := .cells #[.slice none 0 0] 28 (0, 0)) Zk hb); have n2_ := Zh (Zl Zs hb); have n3_ := Zh (hbox); have n4_ := Zh ((by rw [hg]; exact (below_size Zs) : w.heap.size ≤ gb140)); have n5_ := Zh ((by rw [hg]; exact (below_size Zs) : w.heap.size ≤ gb140)); have n6_ := Zh ((by rw [hg]; exact Nat.ne_of_lt (blk_lt (g := gb138) (o := .cells #[.slice A0_0 l0_0.length c0_0] 28 (0, 0)) Zk) : gb138 ≠ gb140)); have n7_ := Zh ((by rw [hg]; exact Nat.ne_of_gt (blk_lt (g := gb138) (o := .cells #[.slice A0_0 l0_0.length c0_0] 28 (0, 0)) Zk) : gb140 ≠ gb138)); have n8_ := Zh ((by rw [hg]; exact Nat.ne_of_lt (blk_lt (g := gb139) (o := .cells #[.slice none 0 0] 28 (0, 0)) Zk) : gb139 ≠ gb140)); have n9_ := Zh ((by rw [hg]; exact Nat.ne_of_gt (blk_lt (g := gb139) (o := .cells #[.slice none 0 0] 28 (0, 0)) Zk) : gb140 ≠ gb139)); clear BK138; clear BK139; clear HB; have BK138 := n0_; have BK139 := n1_; have HB := n2_; have BK140 := n3_; have GW140 := n4_; have GE140 := n5_; have NB138_140 := n6_; have NB140_138 := n7_; have NB139_140 := n8_; have NB140_139 := n9_; clear n0_ n1_ n2_ n3_ n4_ n5_ n6_ n7_ n8_ n9_; clear hb hbox hg; have hnb5 := NB140_138.out; have hnc5 := NB138_140.out; have hnb6 := NB140_139.out; have hnc6 := NB139_140.out; have hcz7_0 : w4.cell? ⟨gb140, 0, none⟩ = some (.slice none 0 0) := (blk_cell BK140.out 0).trans rfl; have hfz7_0 := Zn BK140.out 0))
 go_loopg [4] k (fun kq v4 w' => ∃ (x4_1 : Int) (x141000_1 : List (S55)) (u141000 : Value), v4 = .int .i64 x4_1 ∧ Aside0 (spec_l03Copy.l0 kq x4_1 l0_0 x141000_1 = some r) ∧ Aside0 (kq ≤ k) ∧ Aside0 (Kd.S k55 55 w' w.heap.size (fun _ => True) u141000 x141000_1) ∧ Aside0 (w'.heap[gb138]? = some (.cells #[(.slice A0_0 l0_0.length c0_0)] 28 (0, 0))) ∧ Aside0 (w'.heap[gb139]? = some (.cells #[(.slice none 0 0)] 28 (0, 0))) ∧ Aside0 (w'.heap[gb140]? = some (.cells #[u141000] 28 (0, 0))) ∧ Aside0 (Below w.heap.size w w'))
 case atStart => exact ⟨(0), (([] : List (S55))), (.slice none 0 0), (by first | rfl | (simp; done) | (simp [*]; done)), H', ⟨Nat.le_refl _⟩, ⟨by first | exact S_nil _ _ _ _ _ | exact N_nil _ _ _ _ _ | exact V_nil _ _ _ _ _ | exact Q_nil _ _ _ _ _ | exact R_nil _ _ _ _ _⟩, ⟨by (with_reducible repeat (first | refine Za ?_ _ | refine Zb ?_ | refine blk_alloc ?_ _)); refine Zp ?_ NB138_140.out _; (with_reducible repeat (first | refine Za ?_ _ | refine Zb ?_ | refine blk_alloc ?_ _)); exact BK138.out⟩, ⟨by (with_reducible repeat (first | refine Za ?_ _ | refine Zb ?_ | refine blk_alloc ?_ _)); refine Zp ?_ NB139_140.out _; (with_reducible repeat (first | refine Za ?_ _ | refine Zb ?_ | refine blk_alloc ?_ _)); exact BK139.out⟩, ⟨by (with_reducible repeat (first | refine Za ?_ _ | refine Zb ?_ | refine blk_alloc ?_ _)); refine blk_put (cs := #[.slice none 0 0]) ?_ 0 _ rfl; (with_reducible repeat (first | refine Za ?_ _ | refine Zb ?_ | refine blk_alloc ?_ _)); exact BK140.out⟩, ⟨by repeat (first | (with_reducible first | exact HB.out | apply Zf | apply Zd | apply Ze | refine Zg ?_ GE138.out | refine Zg ?_ GE139.out | refine Zg ?_ GE140.out) | exact HB.out)⟩⟩
 case round =>
  clear H'
  try clear p2
  try clear c5
  try clear c6
  try clear hcz7_0
  try clear hfz7_0
  obtain ⟨x4_1, x141000_1, u141000, rfl, HA, HK1, HO_141000, BK138, BK139, BK140, HB⟩ := hrel
  cases gk with
  | zero => exact absurd HA.out (by simp [spec_l03Copy.l0])
  | succ k1 =>
   have H := HA.out
   clear HA
   simp only [spec_l03Copy.l0] at H
   by_cases c8 : x4_1 < (l0_0.length : Int)
   ·
    rw [if_pos c8] at H
    have c8b0 : decide (x4_1 < (l0_0.length : Int)) = true := decide_eq_true c8
    clear c8
    by_cases c9 : 0 ≤ x4_1
    ·
     rw [if_pos c9] at H
     have c9b0 : decide (0 ≤ x4_1) = true := decide_eq_true c9
     clear c9
     replace H := Option.bind_eq_some_iff.mp H
     obtain ⟨t143, A100, H⟩ := H
     replace H : ((spec_l01Bytes.f k1 ((rd_T55 l0_0 x4_1).f2)).bind fun t146 => (if x141000_1.length < 2199023255552 then (spec_l03Copy.l0 k1 (wrap64 (x4_1 + 1)) l0_0 (x141000_1 ++ [(⟨(rd_T55 l0_0 x4_1).f0, t143, t146⟩ : S55)])) else (none))) = some r := H
     have A10 := Zh A100
     clear A100
     replace H := Option.bind_eq_some_iff.mp H
     obtain ⟨t146, A110, H⟩ := H
     replace H : (if x141000_1.length < 2199023255552 then (spec_l03Copy.l0 k1 (wrap64 (x4_1 + 1)) l0_0 (x141000_1 ++ [(⟨(rd_T55 l0_0 x4_1).f0, t143, t146⟩ : S55)])) else (none)) = some r := H
     have A11 := Zh A110
     clear A110
     by_cases c12 : x141000_1.length < 2199023255552
     ·
      rw [if_pos c12] at H
      have LMc12 := Zh c12
      clear c12
      obtain ⟨y149, hy149⟩ : ∃ y_ : List (S55), y_ = (x141000_1 ++ [(⟨(rd_T55 l0_0 x4_1).f0, t143, t146⟩ : S55)]) := ⟨_, rfl⟩
      replace H : (spec_l03Copy.l0 k1 (wrap64 (x4_1 + 1)) l0_0 y149) = some r := by first | (rw [hy149]; with_reducible exact H) | (have H2_ := (Option.bind_some _ _).symm.trans H; rw [hy149]; with_reducible exact H2_) | (have H2_ := (Option.bind_some _ _).symm.trans H; with_reducible exact H2_) | with_reducible exact H | (rw [hy149]; exact H) | exact H
      have Ny149 := Zh hy149
      clear hy149
      have H' := Zh H
      clear H
      have hnb13 := NB138_139.out
      have hnc13 := NB139_138.out
      have hnb14 := NB138_140.out
      have hnc14 := NB140_138.out
      have hcz15_0 : wr.cell? ⟨gb138, 0, none⟩ = some (.slice A0_0 l0_0.length c0_0) := (blk_cell BK138.out 0).trans rfl
      have hfz15_0 := Zn BK138.out 0
      have p141 : 0 ≤ (x4_1 : Int) := Zo
      have q141 : x4_1 < (l0_0.length : Int) := Zo
      obtain ⟨ad141, A141_1, c141_1, A141_2, c141_2, e141, hx141_0, hx141_1, hx141_2, hl141_1, hi141_1, hl141_2, hi141_2⟩ := at_T55 HR0_0.out x4_1 p141 q141
      cases e141
      replace hx141_0 := Zc HB.out hx141_0
      replace hx141_1 := Zc HB.out hx141_1
      replace hx141_2 := Zc HB.out hx141_2
      have HR141_1 := Zh hi141_1
      have HC141_1 := Zh hl141_1
      clear hi141_1 hl141_1
      have HR141_2 := Zh hi141_2
      have HC141_2 := Zh hl141_2
      clear hi141_2 hl141_2
      replace p141 := eq_true p141
      replace q141 := eq_true q141
      try go_wp2_with (first | ((with_reducible refine gate_dst (N := 5) rfl ?_); refine box_event ?hg (N := 5) ?hd (cs := #[.string (⟨#[]⟩ : ByteArray), .slice none 0 0, .slice none 0 0]) (t := 55) ?hr ?_; (case hd => rfl); (case hg => rfl); (case hr => first | (go_simp; done) | (go_simp; rfl)); intro gb142 hg w16 hbox hb; have n0_ := Zh (S_below (S_elderB (by (with_reducible repeat (first | apply S_alloc | apply S_drewN | apply S_drew)); exact HO_141000.out) gb142 (Nat.le_of_eq hg.symm)) hb); have n1_ := Zh (Zm (g := gb138) (o := .cells #[.slice (some ad141) l0_0.length c0_0] 28 (0, 0)) Zk hb); have n2_ := Zh (Zm (g := gb139) (o := .cells #[.slice none 0 0] 28 (0, 0)) Zk hb); have n3_ := Zh (Zm (g := gb140) (o := .cells #[u141000] 28 (0, 0)) Zk hb); have n4_ := Zh (Zl Zs hb); have n5_ := Zh (hbox); have n6_ := Zh ((by rw [hg]; exact (below_size Zs) : w.heap.size ≤ gb142)); have n7_ := Zh ((by rw [hg]; exact (below_size Zs) : w.heap.size ≤ gb142)); have n8_ := Zh ((by rw [hg]; exact Nat.ne_of_lt (blk_lt (g := gb138) (o := .cells #[.slice (some ad141) l0_0.length c0_0] 28 (0, 0)) Zk) : gb138 ≠ gb142)); have n9_ := Zh ((by rw [hg]; exact Nat.ne_of_gt (blk_lt (g := gb138) (o := .cells #[.slice (some ad141) l0_0.length c0_0] 28 (0, 0)) Zk) : gb142 ≠ gb138)); have n10_ := Zh ((by rw [hg]; exact Nat.ne_of_lt (blk_lt (g := gb139) (o := .cells #[.slice none 0 0] 28 (0, 0)) Zk) : gb139 ≠ gb142)); have n11_ := Zh ((by rw [hg]; exact Nat.ne_of_gt (blk_lt (g := gb139) (o := .cells #[.slice none 0 0] 28 (0, 0)) Zk) : gb142 ≠ gb139)); have n12_ := Zh ((by rw [hg]; exact Nat.ne_of_lt (blk_lt (g := gb140) (o := .cells #[u141000] 28 (0, 0)) Zk) : gb140 ≠ gb142)); have n13_ := Zh ((by rw [hg]; exact Nat.ne_of_gt (blk_lt (g := gb140) (o := .cells #[u141000] 28 (0, 0)) Zk) : gb142 ≠ gb140)); clear HO_141000; clear BK138; clear BK139; clear BK140; clear HB; have HO_141000 := n0_; have BK138 := n1_; have BK139 := n2_; have BK140 := n3_; have HB := n4_; have BK142 := n5_; have GW142 := n6_; have GE142 := n7_; have NB138_142 := n8_; have NB142_138 := n9_; have NB139_142 := n10_; have NB142_139 := n11_; have NB140_142 := n12_; have NB142_140 := n13_; clear n0_ n1_ n2_ n3_ n4_ n5_ n6_ n7_ n8_ n9_ n10_ n11_ n12_ n13_; clear hb hbox hg; have hnb17 := NB142_138.out; have hnc17 := NB138_142.out; have hnb18 := NB142_139.out; have hnc18 := NB139_142.out; have hnb19 := NB142_140.out; have hnc19 := NB140_142.out; have hcz20_0 : w16.cell? ⟨gb142, 0, none⟩ = some (.string (⟨#[]⟩ : ByteArray)) := (blk_cell BK142.out 0).trans rfl; have hcz20_1 : w16.cell? ⟨gb142, 1, none⟩ = some (.slice none 0 0) := (blk_cell BK142.out 1).trans rfl; have hcz20_2 : w16.cell? ⟨gb142, 2, none⟩ = some (.slice none 0 0) := (blk_cell BK142.out 2).trans rfl; have hfz20_0 := Zn BK142.out 0; have hfz20_1 := Zn BK142.out 1; have hfz20_2 := Zn BK142.out 2))
      have n0_ : Aside0 (Kd.S k55 55 (((w16.setCell ⟨gb142, 0, none⟩ (.string ((rd_T55 l0_0 x4_1).f0))).setCell ⟨gb142, 1, none⟩ (.slice A141_1 ((rd_T55 l0_0 x4_1).f1).length c141_1)).setCell ⟨gb142, 2, none⟩ (.slice A141_2 ((rd_T55 l0_0 x4_1).f2).length c141_2)) w.heap.size (fun k_ => k_ ≠ gb142) u141000 x141000_1) := ⟨by (with_reducible repeat (first | apply S_alloc | apply S_drewN | apply S_drew)); exact S_mono (S_far (p := ⟨gb142, 2, none⟩) (S_far (p := ⟨gb142, 1, none⟩) (S_far (p := ⟨gb142, 0, none⟩) (S_mono HO_141000.out (fun k_ hk => (⟨hk, hk.2⟩ : _ ∧ k_ ≠ gb142))) (fun _ hk => hk.2) (.string ((rd_T55 l0_0 x4_1).f0))) (fun _ hk => hk.2) (.slice A141_1 ((rd_T55 l0_0 x4_1).f1).length c141_1)) (fun _ hk => hk.2) (.slice A141_2 ((rd_T55 l0_0 x4_1).f2).length c141_2)) (fun _ hk => hk.1.2)⟩
      have n1_ : Aside0 ((((w16.setCell ⟨gb142, 0, none⟩ (.string ((rd_T55 l0_0 x4_1).f0))).setCell ⟨gb142, 1, none⟩ (.slice A141_1 ((rd_T55 l0_0 x4_1).f1).length c141_1)).setCell ⟨gb142, 2, none⟩ (.slice A141_2 ((rd_T55 l0_0 x4_1).f2).length c141_2)).heap[gb138]? = some (.cells #[.slice (some ad141) l0_0.length c0_0] 28 (0, 0))) := ⟨by (with_reducible repeat (first | refine Za ?_ _ | refine Zb ?_ | refine blk_alloc ?_ _)); refine Zp ?_ NB138_142.out _; (with_reducible repeat (first | refine Za ?_ _ | refine Zb ?_ | refine blk_alloc ?_ _)); refine Zp ?_ NB138_142.out _; (with_reducible repeat (first | refine Za ?_ _ | refine Zb ?_ | refine blk_alloc ?_ _)); refine Zp ?_ NB138_142.out _; (with_reducible repeat (first | refine Za ?_ _ | refine Zb ?_ | refine blk_alloc ?_ _)); exact BK138.out⟩
      have n2_ : Aside0 ((((w16.setCell ⟨gb142, 0, none⟩ (.string ((rd_T55 l0_0 x4_1).f0))).setCell ⟨gb142, 1, none⟩ (.slice A141_1 ((rd_T55 l0_0 x4_1).f1).length c141_1)).setCell ⟨gb142, 2, none⟩ (.slice A141_2 ((rd_T55 l0_0 x4_1).f2).length c141_2)).heap[gb139]? = some (.cells #[.slice none 0 0] 28 (0, 0))) := ⟨by (with_reducible repeat (first | refine Za ?_ _ | refine Zb ?_ | refine blk_alloc ?_ _)); refine Zp ?_ NB139_142.out _; (with_reducible repeat (first | refine Za ?_ _ | refine Zb ?_ | refine blk_alloc ?_ _)); refine Zp ?_ NB139_142.out _; (with_reducible repeat (first | refine Za ?_ _ | refine Zb ?_ | refine blk_alloc ?_ _)); refine Zp ?_ NB139_142.out _; (with_reducible repeat (first | refine Za ?_ _ | refine Zb ?_ | refine blk_alloc ?_ _)); exact BK139.out⟩
      have n3_ : Aside0 ((((w16.setCell ⟨gb142, 0, none⟩ (.string ((rd_T55 l0_0 x4_1).f0))).setCell ⟨gb142, 1, none⟩ (.slice A141_1 ((rd_T55 l0_0 x4_1).f1).length c141_1)).setCell ⟨gb142, 2, none⟩ (.slice A141_2 ((rd_T55 l0_0 x4_1).f2).length c141_2)).heap[gb140]? = some (.cells #[u141000] 28 (0, 0))) := ⟨by (with_reducible repeat (first | refine Za ?_ _ | refine Zb ?_ | refine blk_alloc ?_ _)); refine Zp ?_ NB140_142.out _; (with_reducible repeat (first | refine Za ?_ _ | refine Zb ?_ | refine blk_alloc ?_ _)); refine Zp ?_ NB140_142.out _; (with_reducible repeat (first | refine Za ?_ _ | refine Zb ?_ | refine blk_alloc ?_ _)); refine Zp ?_ NB140_142.out _; (with_reducible repeat (first | refine Za ?_ _ | refine Zb ?_ | refine blk_alloc ?_ _)); exact BK140.out⟩
      have n4_ : Aside0 ((((w16.setCell ⟨gb142, 0, none⟩ (.string ((rd_T55 l0_0 x4_1).f0))).setCell ⟨gb142, 1, none⟩ (.slice A141_1 ((rd_T55 l0_0 x4_1).f1).length c141_1)).setCell ⟨gb142, 2, none⟩ (.slice A141_2 ((rd_T55 l0_0 x4_1).f2).length c141_2)).heap[gb142]? = some (.cells #[.string ((rd_T55 l0_0 x4_1).f0), .slice A141_1 ((rd_T55 l0_0 x4_1).f1).length c141_1, .slice A141_2 ((rd_T55 l0_0 x4_1).f2).length c141_2] 55 (0, 0))) := ⟨by (with_reducible repeat (first | refine Za ?_ _ | refine Zb ?_ | refine blk_alloc ?_ _)); refine blk_put (cs := #[.string ((rd_T55 l0_0 x4_1).f0), .slice A141_1 ((rd_T55 l0_0 x4_1).f1).length c141_1, .slice none 0 0]) ?_ 2 _ rfl; (with_reducible repeat (first | refine Za ?_ _ | refine Zb ?_ | refine blk_alloc ?_ _)); refine blk_put (cs := #[.string ((rd_T55 l0_0 x4_1).f0), .slice none 0 0, .slice none 0 0]) ?_ 1 _ rfl; (with_reducible repeat (first | refine Za ?_ _ | refine Zb ?_ | refine blk_alloc ?_ _)); refine blk_put (cs := #[.string (⟨#[]⟩ : ByteArray), .slice none 0 0, .slice none 0 0]) ?_ 0 _ rfl; (with_reducible repeat (first | refine Za ?_ _ | refine Zb ?_ | refine blk_alloc ?_ _)); exact BK142.out⟩
      have n5_ : Aside0 (Below w.heap.size w (((w16.setCell ⟨gb142, 0, none⟩ (.string ((rd_T55 l0_0 x4_1).f0))).setCell ⟨gb142, 1, none⟩ (.slice A141_1 ((rd_T55 l0_0 x4_1).f1).length c141_1)).setCell ⟨gb142, 2, none⟩ (.slice A141_2 ((rd_T55 l0_0 x4_1).f2).length c141_2))) := ⟨by repeat (first | (with_reducible first | exact HB.out | apply Zf | apply Zd | apply Ze | refine Zg ?_ GE138.out | refine Zg ?_ GE139.out | refine Zg ?_ GE140.out | refine Zg ?_ GE142.out) | exact HB.out)⟩
      (try clear HO_141000)
      (try clear BK138)
      (try clear BK139)
      (try clear BK140)
      (try clear BK142)
      (try clear HB)
      generalize (((w16.setCell ⟨gb142, 0, none⟩ (.string ((rd_T55 l0_0 x4_1).f0))).setCell ⟨gb142, 1, none⟩ (.slice A141_1 ((rd_T55 l0_0 x4_1).f1).length c141_1)).setCell ⟨gb142, 2, none⟩ (.slice A141_2 ((rd_T55 l0_0 x4_1).f2).length c141_2)) = w21 at n0_ n1_ n2_ n3_ n4_ n5_ ⊢
      have HO_141000 := n0_
      have BK138 := n1_
      have BK139 := n2_
      have BK140 := n3_
      have BK142 := n4_
      have HB := n5_
      clear n0_ n1_ n2_ n3_ n4_ n5_
      have n0_ := Zh (S_drew HO_141000.out)
      have n1_ := Zh (Zb BK138.out)
      have n2_ := Zh (Zb BK139.out)
      have n3_ := Zh (Zb BK140.out)
      have n4_ := Zh (Zb BK142.out)
      have n5_ := Zh (Ze HB.out)
      clear HO_141000
      clear BK138
      clear BK139
      clear BK140
      clear BK142
      clear HB
      have HO_141000 := n0_
      have BK138 := n1_
      have BK139 := n2_
      have BK140 := n3_
      have BK142 := n4_
      have HB := n5_
      clear n0_ n1_ n2_ n3_ n4_ n5_
      refine start_ (n := 15) (S := fun w' => w'.cell? ⟨gb140, 0, none⟩ = some (u141000) ∧ w'.cell? ⟨gb142, 0, none⟩ = some (.string ((rd_T55 l0_0 x4_1).f0)) ∧ w'.cell? ⟨gb142, 1, none⟩ = some (.slice A141_1 ((rd_T55 l0_0 x4_1).f1).length c141_1) ∧ w'.cell? ⟨gb142, 2, none⟩ = some (.slice A141_2 ((rd_T55 l0_0 x4_1).f2).length c141_2)) (ds := [14]) #[false, false, false, false, false, false, false, false, false, false, false, false, false, false, false] (by kernel_rfl) rfl rfl ⟨(blk_cell BK140.out 0).trans rfl, (blk_cell BK142.out 0).trans rfl, (blk_cell BK142.out 1).trans rfl, (blk_cell BK142.out 2).trans rfl⟩ (fun hHeld => ?_); refine with_tabW spec_l03Copy.tab6 spec_l03Copy.bits6 (fun HT_ HW_ => ?_)
      generalize w21.drew = w22 at HO_141000 BK138 BK139 BK140 BK142 HB hHeld ⊢
      refine SQ.pu 0 19 HT_ ?_
      refine SQ.pu 2 21 HT_ ?_
      refine SQ.pu 4 23 HT_ ?_
      refine SQ.pu 7 26 HT_ ?_
      refine SQ.tk 1 20 HT_ HW_ hHeld ?_
      refine SQ.tk 3 22 HT_ HW_ hHeld ?_
      refine SQ.tk 5 24 HT_ HW_ hHeld ?_
      refine SQ.tk 8 27 HT_ HW_ hHeld ?_
      refine one_ (i := 6) (N := some 25) #[true, true, true, true, true, true, true, true, true, false, false, false, false, false, false] rfl rfl (one_of HT_.out (by kernel_rfl)) (by decide) (fun K hK => ?_)
      refine goes_ Tryd.func87 (by kernel_rfl) rfl #[.slice A141_1 ((rd_T55 l0_0 x4_1).f1).length c141_1] (by rfl) rfl rfl (by (try simp only [List.map_toArray, List.map_cons, List.map_nil]); first | done | rfl | (simp only [List.length_drop, List.length_take]; rfl)) ?_
      with_reducible refine (spec_l01Bytes.calls k1 _ _ ((rd_T55 l0_0 x4_1).f1) t143 _ ?side1 ?side2 A10.out).mono ?_
      (case side1 => repeat (first | exact (C_below HR141_1.out HB.out) | (with_reducible refine C_alloc ?_ _) | (with_reducible refine C_drewN ?_ _) | (with_reducible refine C_drew ?_)))
      (case side2 => exact HC141_1.out)
      rintro e w23 ⟨v144, rfl, ho0, hb⟩
      refine ⟨_, rfl, ?_⟩
      have n0_ := Zh (S_elder' (by (with_reducible repeat (first | apply S_alloc | apply S_drewN | apply S_drew)); exact HO_141000.out) (R_base ho0) hb)
      have n1_ := Zh (R_lower ho0 (below_size Zs))
      have n2_ := Zh (Zm (g := gb138) (o := .cells #[.slice (some ad141) l0_0.length c0_0] 28 (0, 0)) Zk hb)
      have n3_ := Zh (Zm (g := gb139) (o := .cells #[.slice none 0 0] 28 (0, 0)) Zk hb)
      have n4_ := Zh (Zm (g := gb140) (o := .cells #[u141000] 28 (0, 0)) Zk hb)
      have n5_ := Zh (Zm (g := gb142) (o := .cells #[.string ((rd_T55 l0_0 x4_1).f0), .slice A141_1 ((rd_T55 l0_0 x4_1).f1).length c141_1, .slice A141_2 ((rd_T55 l0_0 x4_1).f2).length c141_2] 55 (0, 0)) Zk hb)
      have n6_ := Zh (Zl Zs hb)
      clear HO_141000
      clear BK138
      clear BK139
      clear BK140
      clear BK142
      clear HB
      have HO_141000 := n0_
      have HO145 := n1_
      have BK138 := n2_
      have BK139 := n3_
      have BK140 := n4_
      have BK142 := n5_
      have HB := n6_
      clear n0_ n1_ n2_ n3_ n4_ n5_ n6_
      (try clear hb)
      (try clear hb2)
      (try clear hk)
      (try clear hi)
      (try clear ho0)
      refine hK.out _ _ ⟨(blk_cell BK140.out 0).trans rfl, (blk_cell BK142.out 0).trans rfl, (blk_cell BK142.out 1).trans rfl, (blk_cell BK142.out 2).trans rfl⟩ (fun hHeld => ?_)
      clear hK K
      refine norm_ (a' := ?_) ?_ ?_
      rotate_left
      ·
       show Act.put _ (some 25) _ = _
       simp only [Act.put, List.setIfInBounds_toArray, List.set_cons_zero, List.set_cons_succ, i64_w, i32_w]
       rfl
      refine one_ (i := 9) (N := some 28) #[true, true, true, true, true, true, true, true, true, true, false, false, false, false, false] rfl rfl (one_of HT_.out (by kernel_rfl)) (by decide) (fun K hK => ?_)
      refine goes_ Tryd.func87 (by kernel_rfl) rfl #[.slice A141_2 ((rd_T55 l0_0 x4_1).f2).length c141_2] (by rfl) rfl rfl (by (try simp only [List.map_toArray, List.map_cons, List.map_nil]); first | done | rfl | (simp only [List.length_drop, List.length_take]; rfl)) ?_
      with_reducible refine (spec_l01Bytes.calls k1 _ _ ((rd_T55 l0_0 x4_1).f2) t146 _ ?side1 ?side2 A11.out).mono ?_
      (case side1 => repeat (first | exact (C_below HR141_2.out HB.out) | (with_reducible refine C_alloc ?_ _) | (with_reducible refine C_drewN ?_ _) | (with_reducible refine C_drew ?_)))
      (case side2 => exact HC141_2.out)
      rintro e w24 ⟨v147, rfl, ho0, hb⟩
      refine ⟨_, rfl, ?_⟩
      have n0_ := Zh (S_elder' (by (with_reducible repeat (first | apply S_alloc | apply S_drewN | apply S_drew)); exact HO_141000.out) (R_base ho0) hb)
      have n1_ := Zh (R_elder' (by (with_reducible repeat (first | apply R_alloc | apply R_drewN | apply R_drew)); exact HO145.out) (R_base ho0) hb)
      have n2_ := Zh (R_lower (R_new' ho0 (R_lt (by (with_reducible repeat (first | apply R_alloc | apply R_drewN | apply R_drew)); exact HO145.out))) (below_size Zs))
      have n3_ := Zh (Zm (g := gb138) (o := .cells #[.slice (some ad141) l0_0.length c0_0] 28 (0, 0)) Zk hb)
      have n4_ := Zh (Zm (g := gb139) (o := .cells #[.slice none 0 0] 28 (0, 0)) Zk hb)
      have n5_ := Zh (Zm (g := gb140) (o := .cells #[u141000] 28 (0, 0)) Zk hb)
      have n6_ := Zh (Zm (g := gb142) (o := .cells #[.string ((rd_T55 l0_0 x4_1).f0), .slice A141_1 ((rd_T55 l0_0 x4_1).f1).length c141_1, .slice A141_2 ((rd_T55 l0_0 x4_1).f2).length c141_2] 55 (0, 0)) Zk hb)
      have n7_ := Zh (Zl Zs hb)
      clear HO_141000
      clear HO145
      clear BK138
      clear BK139
      clear BK140
      clear BK142
      clear HB
      have HO_141000 := n0_
      have HO145 := n1_
      have HO148 := n2_
      have BK138 := n3_
      have BK139 := n4_
      have BK140 := n5_
      have BK142 := n6_
      have HB := n7_
      clear n0_ n1_ n2_ n3_ n4_ n5_ n6_ n7_
      (try clear hb)
      (try clear hb2)
      (try clear hk)
      (try clear hi)
      (try clear ho0)
      obtain ⟨Ao25, co25, eo25⟩ := R_slice HO148.out
      (first | subst eo25 | (injection eo25 with f1_ f2_ f3_; have f4_ := f1_.symm; have f5_ := f3_.symm; clear f1_ f2_ f3_; subst f4_; subst f5_))
      obtain ⟨Ao26, co26, eo26⟩ := R_slice HO145.out
      (first | subst eo26 | (injection eo26 with f1_ f2_ f3_; have f4_ := f1_.symm; have f5_ := f3_.symm; clear f1_ f2_ f3_; subst f4_; subst f5_))
      refine hK.out _ _ ⟨(blk_cell BK140.out 0).trans rfl, (blk_cell BK142.out 0).trans rfl, (blk_cell BK142.out 1).trans rfl, (blk_cell BK142.out 2).trans rfl⟩ (fun hHeld => ?_)
      clear hK K
      refine norm_ (a' := ?_) ?_ ?_
      rotate_left
      ·
       show Act.put _ (some 28) _ = _
       simp only [Act.put, List.setIfInBounds_toArray, List.set_cons_zero, List.set_cons_succ, i64_w, i32_w]
       rfl
      refine SQ.pu 10 29 HT_ ?_
      refine one_ (i := 11) (N := some 30) #[true, true, true, true, true, true, true, true, true, true, true, true, false, false, false] rfl rfl (one_of HT_.out (by kernel_rfl)) (by decide) (fun K hK => ?_)
      refine value_ (w1 := ?_) (v := ?_) (by rfl) rfl ?_ ?_
      rotate_left 2
      ·
       go_simp
       constructor
       ·
        rfl
       rfl
      refine hK.out _ _ ⟨(blk_cell (blk_alloc BK140.out _) 0).trans rfl, (blk_cell (blk_alloc BK142.out _) 0).trans rfl, (blk_cell (blk_alloc BK142.out _) 1).trans rfl, (blk_cell (blk_alloc BK142.out _) 2).trans rfl⟩ (fun hHeld => ?_)
      clear hK K
      refine norm_ (a' := ?_) ?_ ?_
      rotate_left
      ·
       show Act.put _ (some 30) _ = _
       simp only [Act.put, List.setIfInBounds_toArray, List.set_cons_zero, List.set_cons_succ, i64_w, i32_w]
       rfl
      refine one_ (i := 12) (N := some 31) #[true, true, true, true, true, true, true, true, true, true, true, true, true, false, false] rfl rfl (one_of HT_.out (by kernel_rfl)) (by decide) (fun K hK => ?_)
      refine S_append_step k55 (w0 := w) w.heap.size (by rfl) (.tmp 20) (.tmp 30) 26 55 (.agg #[(.string ⟨#[]⟩), (.slice none 0 0), (.slice none 0 0)]) 64 rfl Tryd.underlying26 info55 rfl (by decide) (by omega) u141000 x141000_1 (⟨(rd_T55 l0_0 x4_1).f0, t143, t146⟩ : S55) [.string ((rd_T55 l0_0 x4_1).f0), .slice Ao26 t143.length co26, .slice Ao25 t146.length co25] (fun k_ => k_ ≠ gb142) (fun k_ => some k_ = (.slice Ao26 t143.length co26 : Value).ownBlock ∨ some k_ = (.slice Ao25 t146.length co25 : Value).ownBlock) rfl rfl ?aP (fun k_ hk_ => hk_.elim (fun h_ => ((R_mono (ok' := fun k_ => ((fun k_ => k_ ≠ gb142)) k_ ∧ some k_ ≠ (u141000 : Value).ownBlock) (R_types (R_apart' (HO145.out) (S_typed HO_141000.out) (by decide)) BK142.out (by decide)) (fun k_ hk => ⟨hk.2, hk.1.2⟩))).1 k_ h_.symm) (fun h_ => ((R_mono (ok' := fun k_ => ((fun k_ => k_ ≠ gb142)) k_ ∧ some k_ ≠ (u141000 : Value).ownBlock) (R_types (R_apart' (HO148.out) (S_typed HO_141000.out) (by decide)) BK142.out (by decide)) (fun k_ hk => ⟨hk.2, hk.1.2⟩))).1 k_ h_.symm)) ?aF ?aO ?aB ?aS ?aL ?_
      (case aP => exact k55_mkM _ _ _ (⟨(rd_T55 l0_0 x4_1).f0, t143, t146⟩ : S55) (R_mono (R_tight rfl (R_mono (ok' := fun k_ => ((fun k_ => k_ ≠ gb142)) k_ ∧ some k_ ≠ (u141000 : Value).ownBlock) (R_types (R_apart' (HO145.out) (S_typed HO_141000.out) (by decide)) BK142.out (by decide)) (fun k_ hk => ⟨hk.2, hk.1.2⟩))) (fun _ h_ => Or.inl h_)) (R_mono (R_tight rfl (R_mono (ok' := fun k_ => ((fun k_ => k_ ≠ gb142)) k_ ∧ some k_ ≠ (u141000 : Value).ownBlock) (R_types (R_apart' (HO148.out) (S_typed HO_141000.out) (by decide)) BK142.out (by decide)) (fun k_ hk => ⟨hk.2, hk.1.2⟩))) (fun _ h_ => Or.inr (h_))) (AP.ne_of (HO145.out) (HO148.out) (by first | exact .inl (fun k_ hk_ => by first | exact hk_ | exact hk_.1 | exact hk_.2 | exact hk_.1.1 | exact hk_.1.2 | exact hk_.2.1 | exact hk_.2.2) | exact .inr (fun k_ hk_ => by first | exact hk_ | exact hk_.1 | exact hk_.2 | exact hk_.1.1 | exact hk_.1.2 | exact hk_.2.1 | exact hk_.2.2))))
      (case aB => exact Zs)
      (case aF => exact (fun k_ hk => Kd.freshB (g := gb142) (o := .cells #[.string ((rd_T55 l0_0 x4_1).f0), .slice A141_1 ((rd_T55 l0_0 x4_1).f1).length c141_1, .slice A141_2 ((rd_T55 l0_0 x4_1).f2).length c141_2] 55 (0, 0)) Zk k_ hk))
      (case aO => exact (by (with_reducible repeat (first | apply S_alloc | apply S_drewN | apply S_drew)); exact S_mono HO_141000.out (fun k_ hk => ⟨hk.1.1, fun e_ => e_.elim (fun h_ => hk.1.2 h_) (fun h_ => hk.2 h_)⟩)))
      (case aS => exact (below_size Zs))
      (case aL => have := LMc12.out; omega)
      intro v150 w27 ho hb hg hat
      rw [← Ny149.out] at ho
      have n0_ := Zh (blk_grown (g := gb138) (o := .cells #[.slice (some ad141) l0_0.length c0_0] 28 (0, 0)) Zk hg (S_ne HO_141000.out BK138.out (by decide)))
      have n1_ := Zh (blk_grown (g := gb139) (o := .cells #[.slice none 0 0] 28 (0, 0)) Zk hg (S_ne HO_141000.out BK139.out (by decide)))
      have n2_ := Zh (blk_grown (g := gb140) (o := .cells #[u141000] 28 (0, 0)) Zk hg (S_ne HO_141000.out BK140.out (by decide)))
      have n3_ := Zh (blk_grown (g := gb142) (o := .cells #[.string ((rd_T55 l0_0 x4_1).f0), .slice A141_1 ((rd_T55 l0_0 x4_1).f1).length c141_1, .slice A141_2 ((rd_T55 l0_0 x4_1).f2).length c141_2] 55 (0, 0)) Zk hg (S_away HO_141000.out (fun _ hk => hk.1.1)))
      have n4_ := Zh (hb)
      have n5_ := Zh (ho)
      clear BK138
      clear BK139
      clear BK140
      clear BK142
      clear HB
      clear HO_141000
      clear HO145
      clear HO148
      have BK138 := n0_
      have BK139 := n1_
      have BK140 := n2_
      have BK142 := n3_
      have HB := n4_
      have HO151 := n5_
      clear n0_ n1_ n2_ n3_ n4_ n5_
      clear ho hb hg hat
      obtain ⟨Ao28, co28, eo28⟩ := S_slice HO151.out
      (first | subst eo28 | (injection eo28 with f1_ f2_ f3_; have f4_ := f1_.symm; have f5_ := f3_.symm; clear f1_ f2_ f3_; subst f4_; subst f5_))
      refine hK.out _ _ ⟨(blk_cell BK140.out 0).trans rfl, (blk_cell BK142.out 0).trans rfl, (blk_cell BK142.out 1).trans rfl, (blk_cell BK142.out 2).trans rfl⟩ (fun hHeld => ?_)
      clear hK K
      refine norm_ (a' := ?_) ?_ ?_
      rotate_left
      ·
       show Act.put _ (some 31) _ = _
       simp only [Act.put, List.setIfInBounds_toArray, List.set_cons_zero, List.set_cons_succ, i64_w, i32_w]
       rfl
      refine SQ.pu 13 32 HT_ ?_
      refine last_ (i := 14) (N := none) #[true, true, true, true, true, true, true, true, true, true, true, true, true, true, true] rfl rfl (one_of HT_.out (by kernel_rfl)) (by decide) (fun K hK => ?_)
      have hs29 : w27.cell? ⟨gb140, 0, none⟩ = some (u141000) := (blk_cell BK140.out 0).trans rfl
      have hfs29 := Zn BK140.out 0
      have hns29_0 := NB138_140.out
      have hns29_1 := NB139_140.out
      have hns29_3 := NB142_140.out
      have hms29_0 := NB140_138.out
      have hms29_1 := NB140_139.out
      have hms29_3 := NB140_142.out
      refine skip_ (w1 := ?_) (by rfl) rfl ?_ ?_
      rotate_left
      ·
       go_simp
       rfl
      refine hK.out _ _ ?_
      clear hK K
      refine done_ (done_of HT_.out (by kernel_rfl)) ?_
      try go_wp2
      go_roundg k1
      case measure => have := HK1.out; omega
      case rel => exact ⟨(wrap64 (x4_1 + 1)), (y149), (.slice Ao28 y149.length co28), (by first | rfl | (simp; done) | (simp [*]; done)), H', ⟨by have := HK1.out; omega⟩, ⟨by (with_reducible repeat (first | apply S_alloc | apply S_drewN | apply S_drew)); exact S_mono (S_far (p := ⟨gb140, 0, none⟩) (S_types HO151.out BK140.out (by decide)) (fun _ hk => hk.2) (.slice Ao28 y149.length co28)) (fun _ hk => trivial)⟩, ⟨by (with_reducible repeat (first | refine Za ?_ _ | refine Zb ?_ | refine blk_alloc ?_ _)); refine Zp ?_ NB138_140.out _; (with_reducible repeat (first | refine Za ?_ _ | refine Zb ?_ | refine blk_alloc ?_ _)); exact BK138.out⟩, ⟨by (with_reducible repeat (first | refine Za ?_ _ | refine Zb ?_ | refine blk_alloc ?_ _)); refine Zp ?_ NB139_140.out _; (with_reducible repeat (first | refine Za ?_ _ | refine Zb ?_ | refine blk_alloc ?_ _)); exact BK139.out⟩, ⟨by (with_reducible repeat (first | refine Za ?_ _ | refine Zb ?_ | refine blk_alloc ?_ _)); refine blk_put (cs := #[u141000]) ?_ 0 _ rfl; (with_reducible repeat (first | refine Za ?_ _ | refine Zb ?_ | refine blk_alloc ?_ _)); exact BK140.out⟩, ⟨by repeat (first | (with_reducible first | exact HB.out | apply Zf | apply Zd | apply Ze | refine Zg ?_ GE138.out | refine Zg ?_ GE139.out | refine Zg ?_ GE140.out | refine Zg ?_ GE142.out) | exact HB.out)⟩⟩
     rw [if_neg c12] at H
     exact absurd H (by simp)
    rw [if_neg c9] at H
    exact absurd H (by simp)
   rw [if_neg c8] at H
   have c8b0 : decide (x4_1 < (l0_0.length : Int)) = false := decide_eq_false c8
   clear c8
   obtain rfl := Option.some.inj H
   have hnb30 := NB138_139.out
   have hnc30 := NB139_138.out
   have hnb31 := NB138_140.out
   have hnc31 := NB140_138.out
   have hcz32_0 : wr.cell? ⟨gb138, 0, none⟩ = some (.slice A0_0 l0_0.length c0_0) := (blk_cell BK138.out 0).trans rfl
   have hfz32_0 := Zn BK138.out 0
   have hnb33 := NB140_139.out
   have hnc33 := NB139_140.out
   have hcz34_0 : wr.cell? ⟨gb140, 0, none⟩ = some (u141000) := (blk_cell BK140.out 0).trans rfl
   have hfz34_0 := Zn BK140.out 0
   obtain ⟨Ao35, co35, eo35⟩ := S_slice HO_141000.out
   subst eo35
   have hcz36_0 : wr.cell? ⟨gb139, 0, none⟩ = some (.slice none 0 0) := (blk_cell BK139.out 0).trans rfl
   have hfz36_0 := Zn BK139.out 0
   go_wp2
   refine bodyPost_ret (results_cell_row rfl _ _ gb139 28 #[.slice Ao35 x141000_1.length co35] (0, 0) _ rfl (by (with_reducible repeat (first | refine Za ?_ _ | refine Zb ?_ | refine blk_alloc ?_ _)); refine blk_put (cs := #[.slice none 0 0]) ?_ 0 _ rfl; (with_reducible repeat (first | refine Za ?_ _ | refine Zb ?_ | refine blk_alloc ?_ _)); exact BK139.out) Tryd.underlying28 rfl (by kernel_rfl)) rfl ?_
   exact ⟨_, by first | rfl | (simp [errW_none, errW_some] <;> rfl) | (simp [*, errW_none, errW_some] <;> rfl), by (with_reducible repeat (first | apply S_alloc | apply S_drewN | apply S_drew)); exact S_mono (S_far (p := ⟨gb139, 0, none⟩) (S_types HO_141000.out BK139.out (by decide)) (fun _ hk => hk.2) (.slice Ao35 x141000_1.length co35)) (fun _ hk => trivial), by repeat (first | (with_reducible first | exact HB.out | apply Zf | apply Zd | apply Ze | refine Zg ?_ GE138.out | refine Zg ?_ GE139.out | refine Zg ?_ GE140.out) | exact HB.out)⟩
mutual
def spec_l03Put.l0 : Nat → Bool → Int → List (S55) → ByteArray → List Int → List Int → List (S55) → Option ((List (S55)))
 | 0, _, _, _, _, _, _, _ => none
 | k + 1, x6, x7, x153000, x154000, x154001, x154002, x156000 => if x7 < (x153000.length : Int) then (if x6 = true then (spec_l03Put.j1 k x6 x7 false x153000 x154000 x154001 x154002 x156000) else (if 0 ≤ x7 then (spec_l03Put.j1 k x6 x7 (!(Op.bytesLess (((rd_T55 x153000 x7).f0).toList) x154000.toList)) x153000 x154000 x154001 x154002 x156000) else (none))) else (if x6 = true then ((spec_l03Copy.f k x156000).bind fun t156 => (some t156)) else (if x156000.length < 2199023255552 then ((spec_l03Copy.f k (x156000 ++ [(⟨x154000, x154001, x154002⟩ : S55)])).bind fun t162 => (some t162)) else (none)))
def spec_l03Put.j1 : Nat → Bool → Int → Bool → List (S55) → ByteArray → List Int → List Int → List (S55) → Option ((List (S55)))
 | 0, _, _, _, _, _, _, _, _ => none
 | k + 1, x6, x7, x28, x153000, x154000, x154001, x154002, x156000 => if x28 = true then (if x156000.length < 2199023255552 then ((some (x156000 ++ [(⟨x154000, x154001, x154002⟩ : S55)] : List (S55))).bind fun y166 => (if 0 ≤ x7 then (if x7 < (x153000.length : Int) then (if ((rd_T55 x153000 x7).f0).toList = x154000.toList then (spec_l03Put.l0 k true (wrap64 (x7 + 1)) x153000 x154000 x154001 x154002 y166) else (if y166.length < 2199023255552 then (spec_l03Put.l0 k true (wrap64 (x7 + 1)) x153000 x154000 x154001 x154002 (y166 ++ [(⟨(rd_T55 x153000 x7).f0, (rd_T55 x153000 x7).f1, (rd_T55 x153000 x7).f2⟩ : S55)])) else (none))) else (none)) else (none))) else (none)) else (if 0 ≤ x7 then (if x7 < (x153000.length : Int) then (if ((rd_T55 x153000 x7).f0).toList = x154000.toList then (spec_l03Put.l0 k x6 (wrap64 (x7 + 1)) x153000 x154000 x154001 x154002 x156000) else (if x156000.length < 2199023255552 then (spec_l03Put.l0 k x6 (wrap64 (x7 + 1)) x153000 x154000 x154001 x154002 (x156000 ++ [(⟨(rd_T55 x153000 x7).f0, (rd_T55 x153000 x7).f1, (rd_T55 x153000 x7).f2⟩ : S55)])) else (none))) else (none)) else (none))
end
def spec_l03Put.f (k : Nat) (l0_0 : List (S55)) (a1_0 : ByteArray) (l1_1 : List Int) (l1_2 : List Int) : Option ((List (S55))) := spec_l03Put.l0 k false 0 l0_0 a1_0 l1_1 l1_2 ([] : List (S55))
def spec_l03Put.T6 : Bool × List (List Nat × List Nat) := (true, [([], []), ([0], [0]), ([1], [1]), ([2], [2]), ([3, 2], [2, 3]), ([2], [2]), ([4, 5, 2], [2, 4, 5]), ([6, 2], [2, 6]), ([7, 2], [2, 7]), ([2], [2]), ([9, 2], [2, 9]), ([8, 10, 2], [2, 8, 10]), ([2, 11], [2, 11])])
def spec_l03Put.B6 : List Nat := [0, 1, 3, 7, 15, 7, 63, 127, 255, 7, 519, 2047, 4095]
theorem spec_l03Put.tab6 : rtab .any (opsOf Tryd.f77 6) = spec_l03Put.T6 := by kernel_rfl
theorem spec_l03Put.bits6 : waitsOk spec_l03Put.T6.2 spec_l03Put.B6 = true := by kernel_rfl
def spec_l03Put.T9 : Bool × List (List Nat × List Nat) := (true, [([], []), ([0], [0]), ([], []), ([1, 2], [1, 2]), ([3], [3]), ([4], [4]), ([], []), ([6], [6]), ([5, 7], [5, 7])])
def spec_l03Put.B9 : List Nat := [0, 1, 0, 7, 15, 31, 0, 64, 255]
theorem spec_l03Put.tab9 : rtab .any (opsOf Tryd.f77 9) = spec_l03Put.T9 := by kernel_rfl
theorem spec_l03Put.bits9 : waitsOk spec_l03Put.T9.2 spec_l03Put.B9 = true := by kernel_rfl
def spec_l03Put.T10 : Bool × List (List Nat × List Nat) := (true, [([], []), ([0], [0]), ([], []), ([2], [2]), ([], []), ([3, 4], [3, 4]), ([5], [5]), ([6], [6]), ([1, 7], [1, 7]), ([0, 1, 2, 3, 4, 5, 6, 7, 8], []), ([9, 8, 8, 0, 1, 2, 3, 4, 5, 6, 7, 8], [8, 9])])
def spec_l03Put.B10 : List Nat := [0, 1, 0, 4, 0, 28, 60, 124, 255, 511, 1023]
theorem spec_l03Put.tab10 : rtab .any (opsOf Tryd.f77 10) = spec_l03Put.T10 := by kernel_rfl
theorem spec_l03Put.bits10 : waitsOk spec_l03Put.T10.2 spec_l03Put.B10 = true := by kernel_rfl
set_option maxHeartbeats 8000000 in
set_option maxRecDepth 100000 in
theorem spec_l03Put.calls (k : Nat) (P0_0_ : Nat → Prop) (A0_0 : Option Addr) (c0_0 : Nat) (l0_0 : List (S55)) (a1_0 : ByteArray) (P1_1_ : Nat → Prop) (A1_1 : Option Addr) (c1_1 : Nat) (l1_1 : List Int) (P1_2_ : Nat → Prop) (A1_2 : Option Addr) (c1_2 : Nat) (l1_2 : List Int) (r : List (S55)) (w : World) (hs0_0 : Kd.V k55 55 w w.heap.size (fun k_ => P0_0_ k_) (.slice A0_0 l0_0.length c0_0) l0_0) (hs1_1 : Kd.V (Kd.int .u8) 5 w w.heap.size (fun k_ => P1_1_ k_) (.slice A1_1 l1_1.length c1_1) l1_1) (hs1_2 : Kd.V (Kd.int .u8) 5 w w.heap.size (fun k_ => P1_2_ k_) (.slice A1_2 l1_2.length c1_2) l1_2) (h : spec_l03Put.f k l0_0 a1_0 l1_1 l1_2 = some r) :
  Calls Tryd.prog 77 #[.agg #[.slice A0_0 l0_0.length c0_0], .agg #[.string a1_0, .slice A1_1 l1_1.length c1_1, .slice A1_2 l1_2.length c1_2]] w fun e w' => ∃ v0_ : Value, e = .returned (.agg #[v0_]) ∧ Kd.N k55 55 w' w.heap.size (fun k_ => ((P0_0_ k_ ∨ P1_1_ k_ ∨ P1_2_ k_) ∨ w.heap.size ≤ k_)) v0_ r ∧ Below w.heap.size w w' := by
 have hu28 := Tryd.underlying28
 have hu55 := Tryd.underlying55
 have HO0_0 := Zh (show Kd.V k55 55 w w.heap.size (fun k_ => ((P0_0_ k_ ∨ P1_1_ k_ ∨ P1_2_ k_) ∨ w.heap.size ≤ k_)) (.slice A0_0 l0_0.length c0_0) l0_0 from V_mono hs0_0 (fun k_ hk => .inl (.inl hk)))
 have HO1_1 := Zh (show Kd.V (Kd.int .u8) 5 w w.heap.size (fun k_ => ((P0_0_ k_ ∨ P1_1_ k_ ∨ P1_2_ k_) ∨ w.heap.size ≤ k_)) (.slice A1_1 l1_1.length c1_1) l1_1 from V_mono hs1_1 (fun k_ hk => .inl (.inr (.inl hk))))
 have HO1_2 := Zh (show Kd.V (Kd.int .u8) 5 w w.heap.size (fun k_ => ((P0_0_ k_ ∨ P1_1_ k_ ∨ P1_2_ k_) ∨ w.heap.size ≤ k_)) (.slice A1_2 l1_2.length c1_2) l1_2 from V_mono hs1_2 (fun k_ hk => .inl (.inr (.inr hk))))
 have HB := Zh (Below.refl w.heap.size w)
 have H : (spec_l03Put.l0 k false 0 l0_0 a1_0 l1_1 l1_2 ([] : List (S55))) = some r := h
 clear h
 have H' := Zh H
 clear H
 go_enter Tryd.func77, Tryd.ntmps77
 go_wp2_with (first | ((with_reducible refine gate_dst (N := 2) rfl ?_); refine box_event ?hg (N := 2) ?hd (cs := #[.slice A0_0 l0_0.length c0_0]) (t := 28) ?hr ?_; (case hd => rfl); (case hg => rfl); (case hr => first | (go_simp; done) | (go_simp; rfl)); intro gb152 hg w3 hbox hb; have n0_ := Zh (V_below (V_elderB (by (with_reducible repeat (first | apply V_alloc | apply V_drewN | apply V_drew)); exact HO0_0.out) gb152 (Nat.le_of_eq hg.symm)) hb); have n1_ := Zh (V_below (V_elderB (by (with_reducible repeat (first | apply V_alloc | apply V_drewN | apply V_drew)); exact HO1_1.out) gb152 (Nat.le_of_eq hg.symm)) hb); have n2_ := Zh (V_below (V_elderB (by (with_reducible repeat (first | apply V_alloc | apply V_drewN | apply V_drew)); exact HO1_2.out) gb152 (Nat.le_of_eq hg.symm)) hb); have n3_ := Zh (Zl Zs hb); have n4_ := Zh (hbox); have n5_ := Zh ((by rw [hg]; exact (below_size Zs) : w.heap.size ≤ gb152)); have n6_ := Zh ((by rw [hg]; exact (below_size Zs) : w.heap.size ≤ gb152)); clear HO0_0; clear HO1_1; clear HO1_2; clear HB; have HO0_0 := n0_; have HO1_1 := n1_; have HO1_2 := n2_; have HB := n3_; have BK152 := n4_; have GW152 := n5_; have GE152 := n6_; clear n0_ n1_ n2_ n3_ n4_ n5_ n6_; clear hb hbox hg) | ((with_reducible refine gate_dst (N := 3) rfl ?_); refine box_event ?hg (N := 3) ?hd (cs := #[.string a1_0, .slice A1_1 l1_1.length c1_1, .slice A1_2 l1_2.length c1_2]) (t := 55) ?hr ?_; (case hd => rfl); (case hg => rfl); (case hr => first | (go_simp; done) | (go_simp; rfl)); intro gb153 hg w4 hbox hb; have n0_ := Zh (V_below (V_elderB (by (with_reducible repeat (first | apply V_alloc | apply V_drewN | apply V_drew)); exact HO0_0.out) gb153 (Nat.le_of_eq hg.symm)) hb); have n1_ := Zh (V_below (V_elderB (by (with_reducible repeat (first | apply V_alloc | apply V_drewN | apply V_drew)); exact HO1_1.out) gb153 (Nat.le_of_eq hg.symm)) hb); have n2_ := Zh (V_below (V_elderB (by (with_reducible repeat (first | apply V_alloc | apply V_drewN | apply V_drew)); exact HO1_2.out) gb153 (Nat.le_of_eq hg.symm)) hb); have n3_ := Zh (Zm (g := gb152) (o := .cells #[.slice A0_0 l0_0.length c0_0] 28 (0, 0)) Zk hb); have n4_ := Zh (Zl Zs hb); have n5_ := Zh (hbox); have n6_ := Zh ((by rw [hg]; exact (below_size Zs) : w.heap.size ≤ gb153)); have n7_ := Zh ((by rw [hg]; exact (below_size Zs) : w.heap.size ≤ gb153)); have n8_ := Zh ((by rw [hg]; exact Nat.ne_of_lt (blk_lt (g := gb152) (o := .cells #[.slice A0_0 l0_0.length c0_0] 28 (0, 0)) Zk) : gb152 ≠ gb153)); have n9_ := Zh ((by rw [hg]; exact Nat.ne_of_gt (blk_lt (g := gb152) (o := .cells #[.slice A0_0 l0_0.length c0_0] 28 (0, 0)) Zk) : gb153 ≠ gb152)); clear HO0_0; clear HO1_1; clear HO1_2; clear BK152; clear HB; have HO0_0 := n0_; have HO1_1 := n1_; have HO1_2 := n2_; have BK152 := n3_; have HB := n4_; have BK153 := n5_; have GW153 := n6_; have GE153 := n7_; have NB152_153 := n8_; have NB153_152 := n9_; clear n0_ n1_ n2_ n3_ n4_ n5_ n6_ n7_ n8_ n9_; clear hb hbox hg) | ((with_reducible refine gate_dst (N := 4) rfl ?_); refine box_event ?hg (N := 4) ?hd (cs := #[.slice none 0 0]) (t := 28) ?hr ?_; (case hd => rfl); (case hg => rfl); (case hr => first | (go_simp; done) | (go_simp; rfl)); intro gb154 hg w5 hbox hb; have n0_ := Zh (V_below (V_elderB (by (with_reducible repeat (first | apply V_alloc | apply V_drewN | apply V_drew)); exact HO0_0.out) gb154 (Nat.le_of_eq hg.symm)) hb); have n1_ := Zh (V_below (V_elderB (by (with_reducible repeat (first | apply V_alloc | apply V_drewN | apply V_drew)); exact HO1_1.out) gb154 (Nat.le_of_eq hg.symm)) hb); have n2_ := Zh (V_below (V_elderB (by (with_reducible repeat (first | apply V_alloc | apply V_drewN | apply V_drew)); exact HO1_2.out) gb154 (Nat.le_of_eq hg.symm)) hb); have n3_ := Zh (Zm (g := gb152) (o := .cells #[.slice A0_0 l0_0.length c0_0] 28 (0, 0)) Zk hb); have n4_ := Zh (Zm (g := gb153) (o := .cells #[.string a1_0, .slice A1_1 l1_1.length c1_1, .slice A1_2 l1_2.length c1_2] 55 (0, 0)) Zk hb); have n5_ := Zh (Zl Zs hb); have n6_ := Zh (hbox); have n7_ := Zh ((by rw [hg]; exact (below_size Zs) : w.heap.size ≤ gb154)); have n8_ := Zh ((by rw [hg]; exact (below_size Zs) : w.heap.size ≤ gb154)); have n9_ := Zh ((by rw [hg]; exact Nat.ne_of_lt (blk_lt (g := gb152) (o := .cells #[.slice A0_0 l0_0.length c0_0] 28 (0, 0)) Zk) : gb152 ≠ gb154)); have n10_ := Zh ((by rw [hg]; exact Nat.ne_of_gt (blk_lt (g := gb152) (o := .cells #[.slice A0_0 l0_0.length c0_0] 28 (0, 0)) Zk) : gb154 ≠ gb152)); have n11_ := Zh ((by rw [hg]; exact Nat.ne_of_lt (blk_lt (g := gb153) (o := .cells #[.string a1_0, .slice A1_1 l1_1.length c1_1, .slice A1_2 l1_2.length c1_2] 55 (0, 0)) Zk) : gb153 ≠ gb154)); have n12_ := Zh ((by rw [hg]; exact Nat.ne_of_gt (blk_lt (g := gb153) (o := .cells #[.string a1_0, .slice A1_1 l1_1.length c1_1, .slice A1_2 l1_2.length c1_2] 55 (0, 0)) Zk) : gb154 ≠ gb153)); clear HO0_0; clear HO1_1; clear HO1_2; clear BK152; clear BK153; clear HB; have HO0_0 := n0_; have HO1_1 := n1_; have HO1_2 := n2_; have BK152 := n3_; have BK153 := n4_; have HB := n5_; have BK154 := n6_; have GW154 := n7_; have GE154 := n8_; have NB152_154 := n9_; have NB154_152 := n10_; have NB153_154 := n11_; have NB154_153 := n12_; clear n0_ n1_ n2_ n3_ n4_ n5_ n6_ n7_ n8_ n9_ n10_ n11_ n12_; clear hb hbox hg) | ((with_reducible refine gate_dst (N := 5) rfl ?_); refine box_event ?hg (N := 5) ?hd (cs := #[.slice none 0 0]) (t := 28) ?hr ?_; (case hd => rfl); (case hg => rfl); (case hr => first | (go_simp; done) | (go_simp; rfl)); intro gb155 hg w6 hbox hb; have n0_ := Zh (V_below (V_elderB (by (with_reducible repeat (first | apply V_alloc | apply V_drewN | apply V_drew)); exact HO0_0.out) gb155 (Nat.le_of_eq hg.symm)) hb); have n1_ := Zh (V_below (V_elderB (by (with_reducible repeat (first | apply V_alloc | apply V_drewN | apply V_drew)); exact HO1_1.out) gb155 (Nat.le_of_eq hg.symm)) hb); have n2_ := Zh (V_below (V_elderB (by (with_reducible repeat (first | apply V_alloc | apply V_drewN | apply V_drew)); exact HO1_2.out) gb155 (Nat.le_of_eq hg.symm)) hb); have n3_ := Zh (Zm (g := gb152) (o := .cells #[.slice A0_0 l0_0.length c0_0] 28 (0, 0)) Zk hb); have n4_ := Zh (Zm (g := gb153) (o := .cells #[.string a1_0, .slice A1_1 l1_1.length c1_1, .slice A1_2 l1_2.length c1_2] 55 (0, 0)) Zk hb); have n5_ := Zh (Zm (g := gb154) (o := .cells #[.slice none 0 0] 28 (0, 0)) Zk hb); have n6_ := Zh (Zl Zs hb); have n7_ := Zh (hbox); have n8_ := Zh ((by rw [hg]; exact (below_size Zs) : w.heap.size ≤ gb155)); have n9_ := Zh ((by rw [hg]; exact (below_size Zs) : w.heap.size ≤ gb155)); have n10_ := Zh ((by rw [hg]; exact Nat.ne_of_lt (blk_lt (g := gb152) (o := .cells #[.slice A0_0 l0_0.length c0_0] 28 (0, 0)) Zk) : gb152 ≠ gb155)); have n11_ := Zh ((by rw [hg]; exact Nat.ne_of_gt (blk_lt (g := gb152) (o := .cells #[.slice A0_0 l0_0.length c0_0] 28 (0, 0)) Zk) : gb155 ≠ gb152)); have n12_ := Zh ((by rw [hg]; exact Nat.ne_of_lt (blk_lt (g := gb153) (o := .cells #[.string a1_0, .slice A1_1 l1_1.length c1_1, .slice A1_2 l1_2.length c1_2] 55 (0, 0)) Zk) : gb153 ≠ gb155)); have n13_ := Zh ((by rw [hg]; exact Nat.ne_of_gt (blk_lt (g := gb153) (o := .cells #[.string a1_0, .slice A1_1 l1_1.length c1_1, .slice A1_2 l1_2.length c1_2] 55 (0, 0)) Zk) : gb155 ≠ gb153)); have n14_ := Zh ((by rw [hg]; exact Nat.ne_of_lt (blk_lt (g := gb154) (o := .cells #[.slice none 0 0] 28 (0, 0)) Zk) : gb154 ≠ gb155)); have n15_ := Zh ((by rw [hg]; exact Nat.ne_of_gt (blk_lt (g := gb154) (o := .cells #[.slice none 0 0] 28 (0, 0)) Zk) : gb155 ≠ gb154)); clear HO0_0; clear HO1_1; clear HO1_2; clear BK152; clear BK153; clear BK154; clear HB; have HO0_0 := n0_; have HO1_1 := n1_; have HO1_2 := n2_; have BK152 := n3_; have BK153 := n4_; have BK154 := n5_; have HB := n6_; have BK155 := n7_; have GW155 := n8_; have GE155 := n9_; have NB152_155 := n10_; have NB155_152 := n11_; have NB153_155 := n12_; have NB155_153 := n13_; have NB154_155 := n14_; have NB155_154 := n15_; clear n0_ n1_ n2_ n3_ n4_ n5_ n6_ n7_ n8_ n9_ n10_ n11_ n12_ n13_ n14_ n15_; clear hb hbox hg; have hnb7 := NB155_152.out; have hnc7 := NB152_155.out; have hnb8 := NB155_153.out; have hnc8 := NB153_155.out; have hnb9 := NB155_154.out; have hnc9 := NB154_155.out; have hcz10_0 : w6.cell? ⟨gb155, 0, none⟩ = some (.slice none 0 0) := (blk_cell BK155.out 0).trans rfl; have hfz10_0 := Zn BK155.out 0))
 go_loopg [6, 7] k (fun kq v6 v7 w' => ∃ (x6_1 : Bool) (x7_1 : Int) (x156000_1 : List (S55)) (u156000 : Value), v6 = .bool x6_1 ∧ v7 = .int .i64 x7_1 ∧ Aside0 (spec_l03Put.l0 kq x6_1 x7_1 l0_0 a1_0 l1_1 l1_2 x156000_1 = some r) ∧ Aside0 (kq ≤ k) ∧ Aside0 (Kd.V k55 55 w' w.heap.size (fun k_ => ((P0_0_ k_ ∨ P1_1_ k_ ∨ P1_2_ k_) ∨ w.heap.size ≤ k_) ∧ some k_ ≠ (u156000 : Value).ownBlock ∧ k_ ≠ gb152 ∧ k_ ≠ gb153 ∧ k_ ≠ gb154 ∧ k_ ≠ gb155) (.slice A0_0 l0_0.length c0_0) l0_0) ∧ Aside0 (Kd.V (Kd.int .u8) 5 w' w.heap.size (fun k_ => ((P0_0_ k_ ∨ P1_1_ k_ ∨ P1_2_ k_) ∨ w.heap.size ≤ k_) ∧ some k_ ≠ (u156000 : Value).ownBlock ∧ k_ ≠ gb152 ∧ k_ ≠ gb153 ∧ k_ ≠ gb154 ∧ k_ ≠ gb155) (.slice A1_1 l1_1.length c1_1) l1_1) ∧ Aside0 (Kd.V (Kd.int .u8) 5 w' w.heap.size (fun k_ => ((P0_0_ k_ ∨ P1_1_ k_ ∨ P1_2_ k_) ∨ w.heap.size ≤ k_) ∧ some k_ ≠ (u156000 : Value).ownBlock ∧ k_ ≠ gb152 ∧ k_ ≠ gb153 ∧ k_ ≠ gb154 ∧ k_ ≠ gb155) (.slice A1_2 l1_2.length c1_2) l1_2) ∧ Aside0 (Kd.N k55 55 w' w.heap.size (fun k_ => ((P0_0_ k_ ∨ P1_1_ k_ ∨ P1_2_ k_) ∨ w.heap.size ≤ k_) ∧ k_ ≠ gb152 ∧ k_ ≠ gb153 ∧ k_ ≠ gb154 ∧ k_ ≠ gb155) u156000 x156000_1) ∧ Aside0 (w'.heap[gb152]? = some (.cells #[(.slice A0_0 l0_0.length c0_0)] 28 (0, 0))) ∧ Aside0 (w'.heap[gb153]? = some (.cells #[.string a1_0, (.slice A1_1 l1_1.length c1_1), (.slice A1_2 l1_2.length c1_2)] 55 (0, 0))) ∧ Aside0 (w'.heap[gb154]? = some (.cells #[(.slice none 0 0)] 28 (0, 0))) ∧ Aside0 (w'.heap[gb155]? = some (.cells #[u156000] 28 (0, 0))) ∧ Aside0 (Below w.heap.size w w'))
 case atStart => exact ⟨(false), (0), (([] : List (S55))), (.slice none 0 0), (by first | rfl | (simp; done) | (simp [*]; done)), (by first | rfl | (simp; done) | (simp [*]; done)), H', ⟨Nat.le_refl _⟩, ⟨by (with_reducible repeat (first | apply V_alloc | apply V_drewN | apply V_drew)); exact V_mono (V_far (p := ⟨gb155, 0, none⟩) (V_mono HO0_0.out (fun k_ hk => (⟨hk, hk.2⟩ : _ ∧ k_ ≠ gb155))) (fun _ hk => hk.2) (.slice none 0 0)) (fun _ hk => ⟨hk.1.1.1.1.1, ⟨(by simp [Value.ownBlock]), ⟨hk.1.1.1.1.2, ⟨hk.1.1.1.2, ⟨hk.1.1.2, hk.1.2⟩⟩⟩⟩⟩)⟩, ⟨by (with_reducible repeat (first | apply V_alloc | apply V_drewN | apply V_drew)); exact V_mono (V_far (p := ⟨gb155, 0, none⟩) (V_mono HO1_1.out (fun k_ hk => (⟨hk, hk.2⟩ : _ ∧ k_ ≠ gb155))) (fun _ hk => hk.2) (.slice none 0 0)) (fun _ hk => ⟨hk.1.1.1.1.1, ⟨(by simp [Value.ownBlock]), ⟨hk.1.1.1.1.2, ⟨hk.1.1.1.2, ⟨hk.1.1.2, hk.1.2⟩⟩⟩⟩⟩)⟩, ⟨by (with_reducible repeat (first | apply V_alloc | apply V_drewN | apply V_drew)); exact V_mono (V_far (p := ⟨gb155, 0, none⟩) (V_mono HO1_2.out (fun k_ hk => (⟨hk, hk.2⟩ : _ ∧ k_ ≠ gb155))) (fun _ hk => hk.2) (.slice none 0 0)) (fun _ hk => ⟨hk.1.1.1.1.1, ⟨(by simp [Value.ownBlock]), ⟨hk.1.1.1.1.2, ⟨hk.1.1.1.2, ⟨hk.1.1.2, hk.1.2⟩⟩⟩⟩⟩)⟩, ⟨by first | exact S_nil _ _ _ _ _ | exact N_nil _ _ _ _ _ | exact V_nil _ _ _ _ _ | exact Q_nil _ _ _ _ _ | exact R_nil _ _ _ _ _⟩, ⟨by (with_reducible repeat (first | refine Za ?_ _ | refine Zb ?_ | refine blk_alloc ?_ _)); refine Zp ?_ NB152_155.out _; (with_reducible repeat (first | refine Za ?_ _ | refine Zb ?_ | refine blk_alloc ?_ _)); exact BK152.out⟩, ⟨by (with_reducible repeat (first | refine Za ?_ _ | refine Zb ?_ | refine blk_alloc ?_ _)); refine Zp ?_ NB153_155.out _; (with_reducible repeat (first | refine Za ?_ _ | refine Zb ?_ | refine blk_alloc ?_ _)); exact BK153.out⟩, ⟨by (with_reducible repeat (first | refine Za ?_ _ | refine Zb ?_ | refine blk_alloc ?_ _)); refine Zp ?_ NB154_155.out _; (with_reducible repeat (first | refine Za ?_ _ | refine Zb ?_ | refine blk_alloc ?_ _)); exact BK154.out⟩, ⟨by (with_reducible repeat (first | refine Za ?_ _ | refine Zb ?_ | refine blk_alloc ?_ _)); refine blk_put (cs := #[.slice none 0 0]) ?_ 0 _ rfl; (with_reducible repeat (first | refine Za ?_ _ | refine Zb ?_ | refine blk_alloc ?_ _)); exact BK155.out⟩, ⟨by repeat (first | (with_reducible first | exact HB.out | apply Zf | apply Zd | apply Ze | refine Zg ?_ GE152.out | refine Zg ?_ GE153.out | refine Zg ?_ GE154.out | refine Zg ?_ GE155.out) | exact HB.out)⟩⟩
 case round =>
  clear H'
  try clear c1
  try clear p2
  try clear c7
  try clear c8
  try clear c9
  try clear hcz10_0
  try clear hfz10_0
  obtain ⟨x6_1, x7_1, x156000_1, u156000, rfl, rfl, HA, HK1, HO_153000, HO_154001, HO_154002, HO_156000, BK152, BK153, BK154, BK155, HB⟩ := hrel
  cases gk with
  | zero => exact absurd HA.out (by simp [spec_l03Put.l0])
  | succ k1 =>
   have H := HA.out
   clear HA
   simp only [spec_l03Put.l0] at H
   by_cases c11 : x7_1 < (l0_0.length : Int)
   ·
    rw [if_pos c11] at H
    have c11b0 : decide (x7_1 < (l0_0.length : Int)) = true := decide_eq_true c11
    clear c11
    have HC12 := Zh H
    clear H
    have hnb13 := NB152_153.out
    have hnc13 := NB153_152.out
    have hnb14 := NB152_154.out
    have hnc14 := NB154_152.out
    have hnb15 := NB152_155.out
    have hnc15 := NB155_152.out
    have hcz16_0 : wr.cell? ⟨gb152, 0, none⟩ = some (.slice A0_0 l0_0.length c0_0) := (blk_cell BK152.out 0).trans rfl
    have hfz16_0 := Zn BK152.out 0
    go_upto_region 6 with (fail)
    go_cut [28] (fun v28 wc => ∃ (kq : Nat) (x28_11 : Bool), v28 = .bool x28_11 ∧ Aside0 (spec_l03Put.j1 kq x6_1 x7_1 x28_11 l0_0 a1_0 l1_1 l1_2 x156000_1 = some r) ∧ Aside0 (kq ≤ k1) ∧ Aside0 (Kd.V k55 55 wc w.heap.size (fun k_ => ((P0_0_ k_ ∨ P1_1_ k_ ∨ P1_2_ k_) ∨ w.heap.size ≤ k_) ∧ some k_ ≠ (u156000 : Value).ownBlock ∧ k_ ≠ gb152 ∧ k_ ≠ gb153 ∧ k_ ≠ gb154 ∧ k_ ≠ gb155) (.slice A0_0 l0_0.length c0_0) l0_0) ∧ Aside0 (Kd.V (Kd.int .u8) 5 wc w.heap.size (fun k_ => ((P0_0_ k_ ∨ P1_1_ k_ ∨ P1_2_ k_) ∨ w.heap.size ≤ k_) ∧ some k_ ≠ (u156000 : Value).ownBlock ∧ k_ ≠ gb152 ∧ k_ ≠ gb153 ∧ k_ ≠ gb154 ∧ k_ ≠ gb155) (.slice A1_1 l1_1.length c1_1) l1_1) ∧ Aside0 (Kd.V (Kd.int .u8) 5 wc w.heap.size (fun k_ => ((P0_0_ k_ ∨ P1_1_ k_ ∨ P1_2_ k_) ∨ w.heap.size ≤ k_) ∧ some k_ ≠ (u156000 : Value).ownBlock ∧ k_ ≠ gb152 ∧ k_ ≠ gb153 ∧ k_ ≠ gb154 ∧ k_ ≠ gb155) (.slice A1_2 l1_2.length c1_2) l1_2) ∧ Aside0 (Kd.N k55 55 wc w.heap.size (fun k_ => ((P0_0_ k_ ∨ P1_1_ k_ ∨ P1_2_ k_) ∨ w.heap.size ≤ k_) ∧ k_ ≠ gb152 ∧ k_ ≠ gb153 ∧ k_ ≠ gb154 ∧ k_ ≠ gb155) u156000 x156000_1) ∧ Aside0 (wc.heap[gb152]? = some (.cells #[(.slice A0_0 l0_0.length c0_0)] 28 (0, 0))) ∧ Aside0 (wc.heap[gb153]? = some (.cells #[.string a1_0, (.slice A1_1 l1_1.length c1_1), (.slice A1_2 l1_2.length c1_2)] 55 (0, 0))) ∧ Aside0 (wc.heap[gb154]? = some (.cells #[(.slice none 0 0)] 28 (0, 0))) ∧ Aside0 (wc.heap[gb155]? = some (.cells #[u156000] 28 (0, 0))) ∧ Aside0 (Below w.heap.size w wc))
    case first =>
     have H := HC12.out
     clear HC12
     by_cases c17 : x6_1 = true
     ·
      subst c17
      have H1 : (spec_l03Put.j1 k1 true x7_1 false l0_0 a1_0 l1_1 l1_2 x156000_1) = some r := by rw [if_pos rfl] at H; exact H
      clear H
      have H := H1
      clear H1
      have H' := Zh H
      clear H
      try go_wp2
      have n0_ := Zh (V_drew HO_153000.out)
      have n1_ := Zh (V_drew HO_154001.out)
      have n2_ := Zh (V_drew HO_154002.out)
      have n3_ := Zh (N_drew HO_156000.out)
      have n4_ := Zh (Zb BK152.out)
      have n5_ := Zh (Zb BK153.out)
      have n6_ := Zh (Zb BK154.out)
      have n7_ := Zh (Zb BK155.out)
      have n8_ := Zh (Ze HB.out)
      clear HO_153000
      clear HO_154001
      clear HO_154002
      clear HO_156000
      clear BK152
      clear BK153
      clear BK154
      clear BK155
      clear HB
      have HO_153000 := n0_
      have HO_154001 := n1_
      have HO_154002 := n2_
      have HO_156000 := n3_
      have BK152 := n4_
      have BK153 := n5_
      have BK154 := n6_
      have BK155 := n7_
      have HB := n8_
      clear n0_ n1_ n2_ n3_ n4_ n5_ n6_ n7_ n8_
      refine start_ (n := 13) (S := fun w' => True) (ds := []) #[false, false, false, false, false, false, false, false, false, false, false, false, false] (by kernel_rfl) rfl rfl trivial (fun hHeld => ?_); refine with_tabW spec_l03Put.tab6 spec_l03Put.bits6 (fun HT_ HW_ => ?_)
      generalize wr.drew = w18 at HO_153000 HO_154001 HO_154002 HO_156000 BK152 BK153 BK154 BK155 HB hHeld ⊢
      refine SQ.pu 0 16 HT_ ?_
      refine SQ.pu 1 17 HT_ ?_
      refine SQ.pu 2 18 HT_ ?_
      refine SQ.of 3 19 HT_ ?_
      refine SQ.of 4 20 HT_ ?_
      refine SQ.of 5 21 HT_ ?_
      refine SQ.of 6 22 HT_ ?_
      refine SQ.of 7 23 HT_ ?_
      refine SQ.of 8 24 HT_ ?_
      refine SQ.of 9 25 HT_ ?_
      refine SQ.of 10 26 HT_ ?_
      refine SQ.of 11 27 HT_ ?_
      refine SQ.pu 12 28 HT_ ?_
      refine done_ (done_of HT_.out (by kernel_rfl)) ?_
      try go_wp2
      go_meet
      case rel => exact ⟨_, (false), (by first | rfl | (simp; done) | (simp [*]; done)), H', ⟨by have := HK1.out; first | omega | exact Nat.le_refl _⟩, ⟨by (with_reducible repeat (first | apply V_alloc | apply V_drewN | apply V_drew)); exact HO_153000.out⟩, ⟨by (with_reducible repeat (first | apply V_alloc | apply V_drewN | apply V_drew)); exact HO_154001.out⟩, ⟨by (with_reducible repeat (first | apply V_alloc | apply V_drewN | apply V_drew)); exact HO_154002.out⟩, ⟨by (with_reducible repeat (first | apply N_alloc | apply N_drewN | apply N_drew)); exact HO_156000.out⟩, ⟨by (with_reducible repeat (first | refine Za ?_ _ | refine Zb ?_ | refine blk_alloc ?_ _)); exact BK152.out⟩, ⟨by (with_reducible repeat (first | refine Za ?_ _ | refine Zb ?_ | refine blk_alloc ?_ _)); exact BK153.out⟩, ⟨by (with_reducible repeat (first | refine Za ?_ _ | refine Zb ?_ | refine blk_alloc ?_ _)); exact BK154.out⟩, ⟨by (with_reducible repeat (first | refine Za ?_ _ | refine Zb ?_ | refine blk_alloc ?_ _)); exact BK155.out⟩, ⟨by repeat (first | (with_reducible first | exact HB.out | apply Zf | apply Zd | apply Ze | refine Zg ?_ GE152.out | refine Zg ?_ GE153.out | refine Zg ?_ GE154.out | refine Zg ?_ GE155.out) | exact HB.out)⟩⟩
     replace c17 := Bool.eq_false_iff.mpr c17
     subst c17
     have H1 : (if 0 ≤ x7_1 then (spec_l03Put.j1 k1 false x7_1 (!(Op.bytesLess (((rd_T55 l0_0 x7_1).f0).toList) a1_0.toList)) l0_0 a1_0 l1_1 l1_2 x156000_1) else (none)) = some r := by rw [if_neg (show ¬ (false = true) by decide)] at H; exact H
     clear H
     have H := H1
     clear H1
     by_cases c19 : 0 ≤ x7_1
     ·
      rw [if_pos c19] at H
      have c19b0 : decide (0 ≤ x7_1) = true := decide_eq_true c19
      clear c19
      (first | rw [c19b0] | (simp only [i64_w, i32_w]; rw [c19b0]) | skip)
      have H' := Zh H
      clear H
      try go_wp2
      have n0_ := Zh (V_drew HO_153000.out)
      have n1_ := Zh (V_drew HO_154001.out)
      have n2_ := Zh (V_drew HO_154002.out)
      have n3_ := Zh (N_drew HO_156000.out)
      have n4_ := Zh (Zb BK152.out)
      have n5_ := Zh (Zb BK153.out)
      have n6_ := Zh (Zb BK154.out)
      have n7_ := Zh (Zb BK155.out)
      have n8_ := Zh (Ze HB.out)
      clear HO_153000
      clear HO_154001
      clear HO_154002
      clear HO_156000
      clear BK152
      clear BK153
      clear BK154
      clear BK155
      clear HB
      have HO_153000 := n0_
      have HO_154001 := n1_
      have HO_154002 := n2_
      have HO_156000 := n3_
      have BK152 := n4_
      have BK153 := n5_
      have BK154 := n6_
      have BK155 := n7_
      have HB := n8_
      clear n0_ n1_ n2_ n3_ n4_ n5_ n6_ n7_ n8_
      have p165 : 0 ≤ (x7_1 : Int) := Zo
      have q165 : x7_1 < (l0_0.length : Int) := Zo
      obtain ⟨ad165, A165_1, c165_1, A165_2, c165_2, e165, hx165_0, hx165_1, hx165_2, hl165_1, hi165_1, hl165_2, hi165_2⟩ := at_T55 (V_reads' HO_153000.out).2.2 x7_1 p165 q165
      cases e165
      obtain ⟨ce165, hce165, hMe165, hcc165⟩ := V_get HO_153000.out z55 x7_1 p165 (by first | exact q165 | exact Zo | (have e_ := (V_reads' HO_153000.out).1; omega))
      obtain ⟨ua165_1, uc165_1, ua165_2, uc165_2, rfl, ul165_1, ge165_1, ul165_2, ge165_2⟩ := k55_openF hMe165
      have hv165_1 := hcc165 1 _ rfl
      rw [add_field _ _ 1 (by omega)] at hv165_1
      replace hv165_1 := Option.some.inj (hv165_1.symm.trans hx165_1)
      injection hv165_1 with hva_ hvn_ hvc_
      rw [hva_] at ge165_1
      rw [hvc_] at ul165_1
      have HL165_1 := Zh (show Kd.V (Kd.int .u8) 5 _ w.heap.size _ _ ((rd_T55 l0_0 x7_1).f1) from V_mk ul165_1 ge165_1)
      clear hva_ hvn_ hvc_ ge165_1 ul165_1
      have hv165_2 := hcc165 2 _ rfl
      rw [add_field _ _ 2 (by omega)] at hv165_2
      replace hv165_2 := Option.some.inj (hv165_2.symm.trans hx165_2)
      injection hv165_2 with hva_ hvn_ hvc_
      rw [hva_] at ge165_2
      rw [hvc_] at ul165_2
      have HL165_2 := Zh (show Kd.V (Kd.int .u8) 5 _ w.heap.size _ _ ((rd_T55 l0_0 x7_1).f2) from V_mk ul165_2 ge165_2)
      clear hva_ hvn_ hvc_ ge165_2 ul165_2
      clear hcc165 hce165
      have HR165_1 := Zh hi165_1
      have HC165_1 := Zh hl165_1
      clear hi165_1 hl165_1
      have HR165_2 := Zh hi165_2
      have HC165_2 := Zh hl165_2
      clear hi165_2 hl165_2
      replace p165 := eq_true p165
      replace q165 := eq_true q165
      refine start_ (n := 13) (S := fun w' => w'.cell? ⟨gb152, 0, none⟩ = some (.slice (some ad165) l0_0.length c0_0) ∧ w'.cell? ⟨gb153, 0, none⟩ = some (.string a1_0) ∧ w'.cell? ⟨gb153, 1, none⟩ = some (.slice A1_1 l1_1.length c1_1) ∧ w'.cell? ⟨gb153, 2, none⟩ = some (.slice A1_2 l1_2.length c1_2) ∧ w'.cell? (ad165.add ((x7_1).toNat * 3)) = some (.string ((rd_T55 l0_0 x7_1).f0)) ∧ w'.cell? ⟨(ad165.add ((x7_1).toNat * 3)).block, (ad165.add ((x7_1).toNat * 3)).off + 1, none⟩ = some (.slice A165_1 ((rd_T55 l0_0 x7_1).f1).length c165_1) ∧ w'.cell? ⟨(ad165.add ((x7_1).toNat * 3)).block, (ad165.add ((x7_1).toNat * 3)).off + 2, none⟩ = some (.slice A165_2 ((rd_T55 l0_0 x7_1).f2).length c165_2)) (ds := []) #[false, false, false, false, false, false, false, false, false, false, false, false, false] (by kernel_rfl) rfl rfl ⟨(blk_cell BK152.out 0).trans rfl, (blk_cell BK153.out 0).trans rfl, (blk_cell BK153.out 1).trans rfl, (blk_cell BK153.out 2).trans rfl, hx165_0, hx165_1, hx165_2⟩ (fun hHeld => ?_); refine with_tabW spec_l03Put.tab6 spec_l03Put.bits6 (fun HT_ HW_ => ?_)
      generalize wr.drew = w20 at HO_153000 HO_154001 HO_154002 HO_156000 BK152 BK153 BK154 BK155 HB HL165_1 HL165_2 HR165_1 HR165_2 hx165_0 hx165_1 hx165_2 hHeld ⊢
      refine SQ.pu 0 16 HT_ ?_
      refine SQ.pu 1 17 HT_ ?_
      refine SQ.pu 2 18 HT_ ?_
      refine SQ.pu 3 19 HT_ ?_
      refine SQ.pu 5 21 HT_ ?_
      refine SQ.pu 9 25 HT_ ?_
      refine SQ.tk 4 20 HT_ HW_ hHeld ?_
      refine SQ.pu 6 22 HT_ ?_
      refine SQ.pu 7 23 HT_ ?_
      refine SQ.tk 8 24 HT_ HW_ hHeld ?_
      refine SQ.tk 10 26 HT_ HW_ hHeld ?_
      refine SQ.pu 11 27 HT_ ?_
      refine SQ.pu 12 28 HT_ ?_
      refine done_ (done_of HT_.out (by kernel_rfl)) ?_
      try go_wp2
      go_meet
      case rel => exact ⟨_, (!(Op.bytesLess (((rd_T55 l0_0 x7_1).f0).toList) a1_0.toList)), (by first | rfl | (simp; done) | (simp [*]; done)), H', ⟨by have := HK1.out; first | omega | exact Nat.le_refl _⟩, ⟨by (with_reducible repeat (first | apply V_alloc | apply V_drewN | apply V_drew)); exact HO_153000.out⟩, ⟨by (with_reducible repeat (first | apply V_alloc | apply V_drewN | apply V_drew)); exact HO_154001.out⟩, ⟨by (with_reducible repeat (first | apply V_alloc | apply V_drewN | apply V_drew)); exact HO_154002.out⟩, ⟨by (with_reducible repeat (first | apply N_alloc | apply N_drewN | apply N_drew)); exact HO_156000.out⟩, ⟨by (with_reducible repeat (first | refine Za ?_ _ | refine Zb ?_ | refine blk_alloc ?_ _)); exact BK152.out⟩, ⟨by (with_reducible repeat (first | refine Za ?_ _ | refine Zb ?_ | refine blk_alloc ?_ _)); exact BK153.out⟩, ⟨by (with_reducible repeat (first | refine Za ?_ _ | refine Zb ?_ | refine blk_alloc ?_ _)); exact BK154.out⟩, ⟨by (with_reducible repeat (first | refine Za ?_ _ | refine Zb ?_ | refine blk_alloc ?_ _)); exact BK155.out⟩, ⟨by repeat (first | (with_reducible first | exact HB.out | apply Zf | apply Zd | apply Ze | refine Zg ?_ GE152.out | refine Zg ?_ GE153.out | refine Zg ?_ GE154.out | refine Zg ?_ GE155.out) | exact HB.out)⟩⟩
     rw [if_neg c19] at H
     exact absurd H (by simp)
    case rest =>
     clear HC12
     try clear c1
     try clear p1
     try clear q1
     try clear hx1
     try clear p2
     try clear c7
     try clear c8
     try clear c9
     try clear c11
     try clear c11b0
     try clear c13
     try clear c14
     try clear c15
     try clear c16
     try clear p16
     try clear q16
     try clear hx16
     try clear c17
     try clear c19
     try clear c19b0
     try clear hcz10_0
     try clear hcz16_0
     try clear hfz10_0
     try clear hfz16_0
     try clear hx165_0
     try clear hx165_1
     try clear hx165_2
     try clear p165
     try clear p2
     try clear q165
     obtain ⟨kq, x28_11, rfl, HA, HJ11, HO_153000, HO_154001, HO_154002, HO_156000, BK152, BK153, BK154, BK155, HB⟩ := hcut
     cases kq with
     | zero => exact absurd HA.out (by simp [spec_l03Put.j1])
     | succ kj11 =>
      have H := HA.out
      clear HA
      simp only [spec_l03Put.j1] at H
      by_cases c21 : x28_11 = true
      ·
       subst c21
       have H1 : (if x156000_1.length < 2199023255552 then ((some (x156000_1 ++ [(⟨a1_0, l1_1, l1_2⟩ : S55)] : List (S55))).bind fun y166 => (if 0 ≤ x7_1 then (if x7_1 < (l0_0.length : Int) then (if ((rd_T55 l0_0 x7_1).f0).toList = a1_0.toList then (spec_l03Put.l0 kj11 true (wrap64 (x7_1 + 1)) l0_0 a1_0 l1_1 l1_2 y166) else (if y166.length < 2199023255552 then (spec_l03Put.l0 kj11 true (wrap64 (x7_1 + 1)) l0_0 a1_0 l1_1 l1_2 (y166 ++ [(⟨(rd_T55 l0_0 x7_1).f0, (rd_T55 l0_0 x7_1).f1, (rd_T55 l0_0 x7_1).f2⟩ : S55)])) else (none))) else (none)) else (none))) else (none)) = some r := by rw [if_pos rfl] at H; exact H
       clear H
       have H := H1
       clear H1
       by_cases c22 : x156000_1.length < 2199023255552
       ·
        rw [if_pos c22] at H
        have LMc22 := Zh c22
        clear c22
        obtain ⟨y166, hy166⟩ : ∃ y_ : List (S55), y_ = (x156000_1 ++ [(⟨a1_0, l1_1, l1_2⟩ : S55)]) := ⟨_, rfl⟩
        replace H : (if 0 ≤ x7_1 then (if x7_1 < (l0_0.length : Int) then (if ((rd_T55 l0_0 x7_1).f0).toList = a1_0.toList then (spec_l03Put.l0 kj11 true (wrap64 (x7_1 + 1)) l0_0 a1_0 l1_1 l1_2 y166) else (if y166.length < 2199023255552 then (spec_l03Put.l0 kj11 true (wrap64 (x7_1 + 1)) l0_0 a1_0 l1_1 l1_2 (y166 ++ [(⟨(rd_T55 l0_0 x7_1).f0, (rd_T55 l0_0 x7_1).f1, (rd_T55 l0_0 x7_1).f2⟩ : S55)])) else (none))) else (none)) else (none)) = some r := by first | (rw [hy166]; with_reducible exact H) | (have H2_ := (Option.bind_some _ _).symm.trans H; rw [hy166]; with_reducible exact H2_) | (have H2_ := (Option.bind_some _ _).symm.trans H; with_reducible exact H2_) | with_reducible exact H | (rw [hy166]; exact H) | exact H
        have Ny166 := Zh hy166
        clear hy166
        by_cases c23 : 0 ≤ x7_1
        ·
         rw [if_pos c23] at H
         have c23b0 : decide (0 ≤ x7_1) = true := decide_eq_true c23
         clear c23
         by_cases c24 : x7_1 < (l0_0.length : Int)
         ·
          rw [if_pos c24] at H
          have c24b0 : decide (x7_1 < (l0_0.length : Int)) = true := decide_eq_true c24
          clear c24
          by_cases c25 : ((rd_T55 l0_0 x7_1).f0).toList = a1_0.toList
          ·
           rw [if_pos c25] at H
           have c25b0 : (((rd_T55 l0_0 x7_1).f0).toList == a1_0.toList) = true := beq_iff_eq.mpr c25
           have c25b1 : (((rd_T55 l0_0 x7_1).f0).toList != a1_0.toList) = false := bne_eq_false_iff_eq.mpr c25
           clear c25
           have H' := Zh H
           clear H
           have hnb26 := NB155_152.out
           have hnc26 := NB152_155.out
           have hnb27 := NB155_153.out
           have hnc27 := NB153_155.out
           have hnb28 := NB155_154.out
           have hnc28 := NB154_155.out
           have hcz29_0 : wc.cell? ⟨gb155, 0, none⟩ = some (u156000) := (blk_cell BK155.out 0).trans rfl
           have hfz29_0 := Zn BK155.out 0
           have hnb30 := NB153_152.out
           have hnc30 := NB152_153.out
           have hnb31 := NB153_154.out
           have hnc31 := NB154_153.out
           have hcz32_0 : wc.cell? ⟨gb153, 0, none⟩ = some (.string a1_0) := (blk_cell BK153.out 0).trans rfl
           have hcz32_1 : wc.cell? ⟨gb153, 1, none⟩ = some (.slice A1_1 l1_1.length c1_1) := (blk_cell BK153.out 1).trans rfl
           have hcz32_2 : wc.cell? ⟨gb153, 2, none⟩ = some (.slice A1_2 l1_2.length c1_2) := (blk_cell BK153.out 2).trans rfl
           have hfz32_0 := Zn BK153.out 0
           have hfz32_1 := Zn BK153.out 1
           have hfz32_2 := Zn BK153.out 2
           try go_wp2_with (first | ((with_reducible refine gate_builtin (b := .append) (xs := #[.tmp 30, .tmp 32]) rfl ?_); at_builtin; refine N_append k55 (w0 := w) w.heap.size rfl (.tmp 30) (.tmp 32) 26 55 (.agg #[(.string ⟨#[]⟩), (.slice none 0 0), (.slice none 0 0)]) 64 rfl Tryd.underlying26 info55 rfl (by decide) (by omega) u156000 x156000_1 (⟨a1_0, l1_1, l1_2⟩ : S55) [.string a1_0, .slice A1_1 l1_1.length c1_1, .slice A1_2 l1_2.length c1_2] (fun k_ => ((P0_0_ k_ ∨ P1_1_ k_ ∨ P1_2_ k_) ∨ w.heap.size ≤ k_) ∧ k_ ≠ gb152 ∧ k_ ≠ gb153 ∧ k_ ≠ gb154 ∧ k_ ≠ gb155) (fun k_ => ((fun k_ => ((P0_0_ k_ ∨ P1_1_ k_ ∨ P1_2_ k_) ∨ w.heap.size ≤ k_) ∧ k_ ≠ gb152 ∧ k_ ≠ gb153 ∧ k_ ≠ gb154 ∧ k_ ≠ gb155)) k_ ∧ some k_ ≠ (u156000 : Value).ownBlock) rfl rfl ?aP (fun _ hk => hk) ?aF ?aO ?aB ?aS ?aL ?_; (case aP => exact (k55_mkF _ _ (⟨a1_0, l1_1, l1_2⟩ : S55) (V_reads' (V_mono (ok' := (fun k_ => ((fun k_ => ((P0_0_ k_ ∨ P1_1_ k_ ∨ P1_2_ k_) ∨ w.heap.size ≤ k_) ∧ k_ ≠ gb152 ∧ k_ ≠ gb153 ∧ k_ ≠ gb154 ∧ k_ ≠ gb155)) k_ ∧ some k_ ≠ (u156000 : Value).ownBlock)) (HO_154001.out) (fun k_ hk => ⟨⟨hk.1, ⟨hk.2.2.1, ⟨hk.2.2.2.1, ⟨hk.2.2.2.2.1, hk.2.2.2.2.2⟩⟩⟩⟩, hk.2.1⟩))).2.1 (V_F (V_mono (ok' := (fun k_ => ((fun k_ => ((P0_0_ k_ ∨ P1_1_ k_ ∨ P1_2_ k_) ∨ w.heap.size ≤ k_) ∧ k_ ≠ gb152 ∧ k_ ≠ gb153 ∧ k_ ≠ gb154 ∧ k_ ≠ gb155)) k_ ∧ some k_ ≠ (u156000 : Value).ownBlock)) (HO_154001.out) (fun k_ hk => ⟨⟨hk.1, ⟨hk.2.2.1, ⟨hk.2.2.2.1, ⟨hk.2.2.2.2.1, hk.2.2.2.2.2⟩⟩⟩⟩, hk.2.1⟩))) (V_reads' (V_mono (ok' := (fun k_ => ((fun k_ => ((P0_0_ k_ ∨ P1_1_ k_ ∨ P1_2_ k_) ∨ w.heap.size ≤ k_) ∧ k_ ≠ gb152 ∧ k_ ≠ gb153 ∧ k_ ≠ gb154 ∧ k_ ≠ gb155)) k_ ∧ some k_ ≠ (u156000 : Value).ownBlock)) (HO_154002.out) (fun k_ hk => ⟨⟨hk.1, ⟨hk.2.2.1, ⟨hk.2.2.2.1, ⟨hk.2.2.2.2.1, hk.2.2.2.2.2⟩⟩⟩⟩, hk.2.1⟩))).2.1 (V_F (V_mono (ok' := (fun k_ => ((fun k_ => ((P0_0_ k_ ∨ P1_1_ k_ ∨ P1_2_ k_) ∨ w.heap.size ≤ k_) ∧ k_ ≠ gb152 ∧ k_ ≠ gb153 ∧ k_ ≠ gb154 ∧ k_ ≠ gb155)) k_ ∧ some k_ ≠ (u156000 : Value).ownBlock)) (HO_154002.out) (fun k_ hk => ⟨⟨hk.1, ⟨hk.2.2.1, ⟨hk.2.2.2.1, ⟨hk.2.2.2.2.1, hk.2.2.2.2.2⟩⟩⟩⟩, hk.2.1⟩))))); (case aB => exact Zs); (case aF => exact (fun k_ hk => ⟨(.inr (Nat.le_trans (below_size Zs) hk)), Kd.freshB (g := gb152) (o := .cells #[.slice A0_0 l0_0.length c0_0] 28 (0, 0)) Zk k_ hk, Kd.freshB (g := gb153) (o := .cells #[.string a1_0, .slice A1_1 l1_1.length c1_1, .slice A1_2 l1_2.length c1_2] 55 (0, 0)) Zk k_ hk, Kd.freshB (g := gb154) (o := .cells #[.slice none 0 0] 28 (0, 0)) Zk k_ hk, Kd.freshB (g := gb155) (o := .cells #[u156000] 28 (0, 0)) Zk k_ hk⟩)); (case aO => exact (by (with_reducible repeat (first | apply N_alloc | apply N_drewN | apply N_drew)); exact HO_156000.out)); (case aS => exact (below_size Zs)); (case aL => have := LMc22.out; omega); intro v167 w33 ho hb hg hat; rw [← Ny166.out] at ho; have n0_ := Zh (V_afterv (ok := (fun k_ => ((P0_0_ k_ ∨ P1_1_ k_ ∨ P1_2_ k_) ∨ w.heap.size ≤ k_) ∧ k_ ≠ gb152 ∧ k_ ≠ gb153 ∧ k_ ≠ gb154 ∧ k_ ≠ gb155)) (by (with_reducible repeat (first | apply V_alloc | apply V_drewN | apply V_drew)); exact V_mono HO_153000.out (fun _ hk => ⟨⟨hk.1, ⟨hk.2.2.1, ⟨hk.2.2.2.1, ⟨hk.2.2.2.2.1, hk.2.2.2.2.2⟩⟩⟩⟩, hk.2.1⟩)) hg hat); have n1_ := Zh (V_afterv (ok := (fun k_ => ((P0_0_ k_ ∨ P1_1_ k_ ∨ P1_2_ k_) ∨ w.heap.size ≤ k_) ∧ k_ ≠ gb152 ∧ k_ ≠ gb153 ∧ k_ ≠ gb154 ∧ k_ ≠ gb155)) (by (with_reducible repeat (first | apply V_alloc | apply V_drewN | apply V_drew)); exact V_mono HO_154001.out (fun _ hk => ⟨⟨hk.1, ⟨hk.2.2.1, ⟨hk.2.2.2.1, ⟨hk.2.2.2.2.1, hk.2.2.2.2.2⟩⟩⟩⟩, hk.2.1⟩)) hg hat); have n2_ := Zh (V_afterv (ok := (fun k_ => ((P0_0_ k_ ∨ P1_1_ k_ ∨ P1_2_ k_) ∨ w.heap.size ≤ k_) ∧ k_ ≠ gb152 ∧ k_ ≠ gb153 ∧ k_ ≠ gb154 ∧ k_ ≠ gb155)) (by (with_reducible repeat (first | apply V_alloc | apply V_drewN | apply V_drew)); exact V_mono HO_154002.out (fun _ hk => ⟨⟨hk.1, ⟨hk.2.2.1, ⟨hk.2.2.2.1, ⟨hk.2.2.2.2.1, hk.2.2.2.2.2⟩⟩⟩⟩, hk.2.1⟩)) hg hat); have n3_ := Zh (blk_grown (g := gb152) (o := .cells #[.slice A0_0 l0_0.length c0_0] 28 (0, 0)) Zk hg (N_ne HO_156000.out BK152.out (by decide))); have n4_ := Zh (blk_grown (g := gb153) (o := .cells #[.string a1_0, .slice A1_1 l1_1.length c1_1, .slice A1_2 l1_2.length c1_2] 55 (0, 0)) Zk hg (N_away HO_156000.out (fun _ hk => hk.2.2.1))); have n5_ := Zh (blk_grown (g := gb154) (o := .cells #[.slice none 0 0] 28 (0, 0)) Zk hg (N_ne HO_156000.out BK154.out (by decide))); have n6_ := Zh (blk_grown (g := gb155) (o := .cells #[u156000] 28 (0, 0)) Zk hg (N_ne HO_156000.out BK155.out (by decide))); have n7_ := Zh (hb); have n8_ := Zh (ho); clear HO_153000; clear HO_154001; clear HO_154002; clear BK152; clear BK153; clear BK154; clear BK155; clear HB; clear HO_156000; have HO_153000 := n0_; have HO_154001 := n1_; have HO_154002 := n2_; have BK152 := n3_; have BK153 := n4_; have BK154 := n5_; have BK155 := n6_; have HB := n7_; have HO168 := n8_; clear n0_ n1_ n2_ n3_ n4_ n5_ n6_ n7_ n8_; clear ho hb hg hat; obtain ⟨Ao34, co34, eo34⟩ := N_slice HO168.out; subst eo34; have hcz35_0 : w33.cell? ⟨gb155, 0, none⟩ = some (u156000) := (blk_cell BK155.out 0).trans rfl; have hfz35_0 := Zn BK155.out 0))
           have n0_ : Aside0 (Kd.V k55 55 (w33.setCell ⟨gb155, 0, none⟩ (.slice Ao34 y166.length co34)) w.heap.size (fun k_ => ((P0_0_ k_ ∨ P1_1_ k_ ∨ P1_2_ k_) ∨ w.heap.size ≤ k_) ∧ some k_ ≠ (.slice Ao34 y166.length co34 : Value).ownBlock ∧ k_ ≠ gb152 ∧ k_ ≠ gb153 ∧ k_ ≠ gb154 ∧ k_ ≠ gb155) (.slice A0_0 l0_0.length c0_0) l0_0) := ⟨by (with_reducible repeat (first | apply V_alloc | apply V_drewN | apply V_drew)); exact V_mono (V_far (p := ⟨gb155, 0, none⟩) (V_mono HO_153000.out (fun k_ hk => (⟨hk, hk.1.2.2.2.2⟩ : _ ∧ k_ ≠ gb155))) (fun _ hk => hk.2) (.slice Ao34 y166.length co34)) (fun _ hk => ⟨hk.1.1.1, ⟨hk.1.2, ⟨hk.1.1.2.1, ⟨hk.1.1.2.2.1, ⟨hk.1.1.2.2.2.1, hk.1.1.2.2.2.2⟩⟩⟩⟩⟩)⟩
           have n1_ : Aside0 (Kd.V (Kd.int .u8) 5 (w33.setCell ⟨gb155, 0, none⟩ (.slice Ao34 y166.length co34)) w.heap.size (fun k_ => ((P0_0_ k_ ∨ P1_1_ k_ ∨ P1_2_ k_) ∨ w.heap.size ≤ k_) ∧ some k_ ≠ (.slice Ao34 y166.length co34 : Value).ownBlock ∧ k_ ≠ gb152 ∧ k_ ≠ gb153 ∧ k_ ≠ gb154 ∧ k_ ≠ gb155) (.slice A1_1 l1_1.length c1_1) l1_1) := ⟨by (with_reducible repeat (first | apply V_alloc | apply V_drewN | apply V_drew)); exact V_mono (V_far (p := ⟨gb155, 0, none⟩) (V_mono HO_154001.out (fun k_ hk => (⟨hk, hk.1.2.2.2.2⟩ : _ ∧ k_ ≠ gb155))) (fun _ hk => hk.2) (.slice Ao34 y166.length co34)) (fun _ hk => ⟨hk.1.1.1, ⟨hk.1.2, ⟨hk.1.1.2.1, ⟨hk.1.1.2.2.1, ⟨hk.1.1.2.2.2.1, hk.1.1.2.2.2.2⟩⟩⟩⟩⟩)⟩
           have n2_ : Aside0 (Kd.V (Kd.int .u8) 5 (w33.setCell ⟨gb155, 0, none⟩ (.slice Ao34 y166.length co34)) w.heap.size (fun k_ => ((P0_0_ k_ ∨ P1_1_ k_ ∨ P1_2_ k_) ∨ w.heap.size ≤ k_) ∧ some k_ ≠ (.slice Ao34 y166.length co34 : Value).ownBlock ∧ k_ ≠ gb152 ∧ k_ ≠ gb153 ∧ k_ ≠ gb154 ∧ k_ ≠ gb155) (.slice A1_2 l1_2.length c1_2) l1_2) := ⟨by (with_reducible repeat (first | apply V_alloc | apply V_drewN | apply V_drew)); exact V_mono (V_far (p := ⟨gb155, 0, none⟩) (V_mono HO_154002.out (fun k_ hk => (⟨hk, hk.1.2.2.2.2⟩ : _ ∧ k_ ≠ gb155))) (fun _ hk => hk.2) (.slice Ao34 y166.length co34)) (fun _ hk => ⟨hk.1.1.1, ⟨hk.1.2, ⟨hk.1.1.2.1, ⟨hk.1.1.2.2.1, ⟨hk.1.1.2.2.2.1, hk.1.1.2.2.2.2⟩⟩⟩⟩⟩)⟩
           have n3_ : Aside0 (Kd.N k55 55 (w33.setCell ⟨gb155, 0, none⟩ (.slice Ao34 y166.length co34)) w.heap.size (fun k_ => ((P0_0_ k_ ∨ P1_1_ k_ ∨ P1_2_ k_) ∨ w.heap.size ≤ k_) ∧ k_ ≠ gb152 ∧ k_ ≠ gb153 ∧ k_ ≠ gb154 ∧ k_ ≠ gb155) (.slice Ao34 y166.length co34) y166) := ⟨by (with_reducible repeat (first | apply N_alloc | apply N_drewN | apply N_drew)); exact N_mono (N_far (p := ⟨gb155, 0, none⟩) (N_mono HO168.out (fun k_ hk => (⟨hk, hk.2.2.2.2⟩ : _ ∧ k_ ≠ gb155))) (fun _ hk => hk.2) (.slice Ao34 y166.length co34)) (fun _ hk => ⟨hk.1.1, ⟨hk.1.2.1, ⟨hk.1.2.2.1, ⟨hk.1.2.2.2.1, hk.1.2.2.2.2⟩⟩⟩⟩)⟩
           have n4_ : Aside0 ((w33.setCell ⟨gb155, 0, none⟩ (.slice Ao34 y166.length co34)).heap[gb152]? = some (.cells #[.slice A0_0 l0_0.length c0_0] 28 (0, 0))) := ⟨by (with_reducible repeat (first | refine Za ?_ _ | refine Zb ?_ | refine blk_alloc ?_ _)); refine Zp ?_ NB152_155.out _; (with_reducible repeat (first | refine Za ?_ _ | refine Zb ?_ | refine blk_alloc ?_ _)); exact BK152.out⟩
           have n5_ : Aside0 ((w33.setCell ⟨gb155, 0, none⟩ (.slice Ao34 y166.length co34)).heap[gb153]? = some (.cells #[.string a1_0, .slice A1_1 l1_1.length c1_1, .slice A1_2 l1_2.length c1_2] 55 (0, 0))) := ⟨by (with_reducible repeat (first | refine Za ?_ _ | refine Zb ?_ | refine blk_alloc ?_ _)); refine Zp ?_ NB153_155.out _; (with_reducible repeat (first | refine Za ?_ _ | refine Zb ?_ | refine blk_alloc ?_ _)); exact BK153.out⟩
           have n6_ : Aside0 ((w33.setCell ⟨gb155, 0, none⟩ (.slice Ao34 y166.length co34)).heap[gb154]? = some (.cells #[.slice none 0 0] 28 (0, 0))) := ⟨by (with_reducible repeat (first | refine Za ?_ _ | refine Zb ?_ | refine blk_alloc ?_ _)); refine Zp ?_ NB154_155.out _; (with_reducible repeat (first | refine Za ?_ _ | refine Zb ?_ | refine blk_alloc ?_ _)); exact BK154.out⟩
           have n7_ : Aside0 ((w33.setCell ⟨gb155, 0, none⟩ (.slice Ao34 y166.length co34)).heap[gb155]? = some (.cells #[.slice Ao34 y166.length co34] 28 (0, 0))) := ⟨by (with_reducible repeat (first | refine Za ?_ _ | refine Zb ?_ | refine blk_alloc ?_ _)); refine blk_put (cs := #[u156000]) ?_ 0 _ rfl; (with_reducible repeat (first | refine Za ?_ _ | refine Zb ?_ | refine blk_alloc ?_ _)); exact BK155.out⟩
           have n8_ : Aside0 (Below w.heap.size w (w33.setCell ⟨gb155, 0, none⟩ (.slice Ao34 y166.length co34))) := ⟨by repeat (first | (with_reducible first | exact HB.out | apply Zf | apply Zd | apply Ze | refine Zg ?_ GE152.out | refine Zg ?_ GE153.out | refine Zg ?_ GE154.out | refine Zg ?_ GE155.out) | exact HB.out)⟩
           (try clear HO_153000)
           (try clear HO_154001)
           (try clear HO_154002)
           (try clear HO168)
           (try clear BK152)
           (try clear BK153)
           (try clear BK154)
           (try clear BK155)
           (try clear HB)
           generalize (w33.setCell ⟨gb155, 0, none⟩ (.slice Ao34 y166.length co34)) = w36 at n0_ n1_ n2_ n3_ n4_ n5_ n6_ n7_ n8_ ⊢
           have HO_153000 := n0_
           have HO_154001 := n1_
           have HO_154002 := n2_
           have HO168 := n3_
           have BK152 := n4_
           have BK153 := n5_
           have BK154 := n6_
           have BK155 := n7_
           have HB := n8_
           clear n0_ n1_ n2_ n3_ n4_ n5_ n6_ n7_ n8_
           have n0_ := Zh (V_drew HO_153000.out)
           have n1_ := Zh (V_drew HO_154001.out)
           have n2_ := Zh (V_drew HO_154002.out)
           have n3_ := Zh (N_drew HO168.out)
           have n4_ := Zh (Zb BK152.out)
           have n5_ := Zh (Zb BK153.out)
           have n6_ := Zh (Zb BK154.out)
           have n7_ := Zh (Zb BK155.out)
           have n8_ := Zh (Ze HB.out)
           clear HO_153000
           clear HO_154001
           clear HO_154002
           clear HO168
           clear BK152
           clear BK153
           clear BK154
           clear BK155
           clear HB
           have HO_153000 := n0_
           have HO_154001 := n1_
           have HO_154002 := n2_
           have HO168 := n3_
           have BK152 := n4_
           have BK153 := n5_
           have BK154 := n6_
           have BK155 := n7_
           have HB := n8_
           clear n0_ n1_ n2_ n3_ n4_ n5_ n6_ n7_ n8_
           have p169 : 0 ≤ (x7_1 : Int) := Zo
           have q169 : x7_1 < (l0_0.length : Int) := Zo
           obtain ⟨ad169, A169_1, c169_1, A169_2, c169_2, e169, hx169_0, hx169_1, hx169_2, hl169_1, hi169_1, hl169_2, hi169_2⟩ := at_T55 (V_reads' HO_153000.out).2.2 x7_1 p169 q169
           cases e169
           obtain ⟨ce169, hce169, hMe169, hcc169⟩ := V_get HO_153000.out z55 x7_1 p169 (by first | exact q169 | exact Zo | (have e_ := (V_reads' HO_153000.out).1; omega))
           obtain ⟨ua169_1, uc169_1, ua169_2, uc169_2, rfl, ul169_1, ge169_1, ul169_2, ge169_2⟩ := k55_openF hMe169
           have hv169_1 := hcc169 1 _ rfl
           rw [add_field _ _ 1 (by omega)] at hv169_1
           replace hv169_1 := Option.some.inj (hv169_1.symm.trans hx169_1)
           injection hv169_1 with hva_ hvn_ hvc_
           rw [hva_] at ge169_1
           rw [hvc_] at ul169_1
           have HL169_1 := Zh (show Kd.V (Kd.int .u8) 5 _ w.heap.size _ _ ((rd_T55 l0_0 x7_1).f1) from V_mk ul169_1 ge169_1)
           clear hva_ hvn_ hvc_ ge169_1 ul169_1
           have hv169_2 := hcc169 2 _ rfl
           rw [add_field _ _ 2 (by omega)] at hv169_2
           replace hv169_2 := Option.some.inj (hv169_2.symm.trans hx169_2)
           injection hv169_2 with hva_ hvn_ hvc_
           rw [hva_] at ge169_2
           rw [hvc_] at ul169_2
           have HL169_2 := Zh (show Kd.V (Kd.int .u8) 5 _ w.heap.size _ _ ((rd_T55 l0_0 x7_1).f2) from V_mk ul169_2 ge169_2)
           clear hva_ hvn_ hvc_ ge169_2 ul169_2
           clear hcc169 hce169
           have HR169_1 := Zh hi169_1
           have HC169_1 := Zh hl169_1
           clear hi169_1 hl169_1
           have HR169_2 := Zh hi169_2
           have HC169_2 := Zh hl169_2
           clear hi169_2 hl169_2
           replace p169 := eq_true p169
           replace q169 := eq_true q169
           refine start_ (n := 9) (S := fun w' => w'.cell? ⟨gb152, 0, none⟩ = some (.slice (some ad169) l0_0.length c0_0) ∧ w'.cell? ⟨gb153, 0, none⟩ = some (.string a1_0) ∧ w'.cell? ⟨gb153, 1, none⟩ = some (.slice A1_1 l1_1.length c1_1) ∧ w'.cell? ⟨gb153, 2, none⟩ = some (.slice A1_2 l1_2.length c1_2) ∧ w'.cell? (ad169.add ((x7_1).toNat * 3)) = some (.string ((rd_T55 l0_0 x7_1).f0)) ∧ w'.cell? ⟨(ad169.add ((x7_1).toNat * 3)).block, (ad169.add ((x7_1).toNat * 3)).off + 1, none⟩ = some (.slice A169_1 ((rd_T55 l0_0 x7_1).f1).length c169_1) ∧ w'.cell? ⟨(ad169.add ((x7_1).toNat * 3)).block, (ad169.add ((x7_1).toNat * 3)).off + 2, none⟩ = some (.slice A169_2 ((rd_T55 l0_0 x7_1).f2).length c169_2)) (ds := []) #[false, false, false, false, false, false, false, false, false] (by kernel_rfl) rfl rfl ⟨(blk_cell BK152.out 0).trans rfl, (blk_cell BK153.out 0).trans rfl, (blk_cell BK153.out 1).trans rfl, (blk_cell BK153.out 2).trans rfl, hx169_0, hx169_1, hx169_2⟩ (fun hHeld => ?_); refine with_tabW spec_l03Put.tab9 spec_l03Put.bits9 (fun HT_ HW_ => ?_)
           generalize w36.drew = w37 at HO_153000 HO_154001 HO_154002 HO168 BK152 BK153 BK154 BK155 HB HL169_1 HL169_2 HR169_1 HR169_2 hx169_0 hx169_1 hx169_2 hHeld ⊢
           refine SQ.pu 0 35 HT_ ?_
           refine SQ.pu 2 37 HT_ ?_
           refine SQ.pu 6 41 HT_ ?_
           refine SQ.tk 1 36 HT_ HW_ hHeld ?_
           refine SQ.pu 3 38 HT_ ?_
           refine SQ.pu 4 39 HT_ ?_
           refine SQ.tk 5 40 HT_ HW_ hHeld ?_
           refine SQ.tk 7 42 HT_ HW_ hHeld ?_
           refine SQ.pu 8 43 HT_ ?_
           refine done_ (done_of HT_.out (by kernel_rfl)) ?_
           try go_wp2
           go_roundg kj11
           case measure => have := HK1.out; have := HJ11.out; omega
           case rel => exact ⟨(true), (wrap64 (x7_1 + 1)), (y166), (.slice Ao34 y166.length co34), (by first | rfl | (simp; done) | (simp [*]; done)), (by first | rfl | (simp; done) | (simp [*]; done)), H', ⟨by have := HK1.out; have := HJ11.out; omega⟩, ⟨by (with_reducible repeat (first | apply V_alloc | apply V_drewN | apply V_drew)); exact HO_153000.out⟩, ⟨by (with_reducible repeat (first | apply V_alloc | apply V_drewN | apply V_drew)); exact HO_154001.out⟩, ⟨by (with_reducible repeat (first | apply V_alloc | apply V_drewN | apply V_drew)); exact HO_154002.out⟩, ⟨by (with_reducible repeat (first | apply N_alloc | apply N_drewN | apply N_drew)); exact HO168.out⟩, ⟨by (with_reducible repeat (first | refine Za ?_ _ | refine Zb ?_ | refine blk_alloc ?_ _)); exact BK152.out⟩, ⟨by (with_reducible repeat (first | refine Za ?_ _ | refine Zb ?_ | refine blk_alloc ?_ _)); exact BK153.out⟩, ⟨by (with_reducible repeat (first | refine Za ?_ _ | refine Zb ?_ | refine blk_alloc ?_ _)); exact BK154.out⟩, ⟨by (with_reducible repeat (first | refine Za ?_ _ | refine Zb ?_ | refine blk_alloc ?_ _)); exact BK155.out⟩, ⟨by repeat (first | (with_reducible first | exact HB.out | apply Zf | apply Zd | apply Ze | refine Zg ?_ GE152.out | refine Zg ?_ GE153.out | refine Zg ?_ GE154.out | refine Zg ?_ GE155.out) | exact HB.out)⟩⟩
          rw [if_neg c25] at H
          have c25b0 : (((rd_T55 l0_0 x7_1).f0).toList == a1_0.toList) = false := beq_eq_false_iff_ne.mpr c25
          have c25b1 : (((rd_T55 l0_0 x7_1).f0).toList != a1_0.toList) = true := bne_iff_ne.mpr c25
          by_cases c38 : y166.length < 2199023255552
          ·
           rw [if_pos c38] at H
           have LMc38 := Zh c38
           clear c38
           obtain ⟨y171, hy171⟩ : ∃ y_ : List (S55), y_ = (y166 ++ [(⟨(rd_T55 l0_0 x7_1).f0, (rd_T55 l0_0 x7_1).f1, (rd_T55 l0_0 x7_1).f2⟩ : S55)]) := ⟨_, rfl⟩
           replace H : (spec_l03Put.l0 kj11 true (wrap64 (x7_1 + 1)) l0_0 a1_0 l1_1 l1_2 y171) = some r := by first | (rw [hy171]; with_reducible exact H) | (have H2_ := (Option.bind_some _ _).symm.trans H; rw [hy171]; with_reducible exact H2_) | (have H2_ := (Option.bind_some _ _).symm.trans H; with_reducible exact H2_) | with_reducible exact H | (rw [hy171]; exact H) | exact H
           have Ny171 := Zh hy171
           clear hy171
           have H' := Zh H
           clear H
           have hnb39 := NB155_152.out
           have hnc39 := NB152_155.out
           have hnb40 := NB155_153.out
           have hnc40 := NB153_155.out
           have hnb41 := NB155_154.out
           have hnc41 := NB154_155.out
           have hcz42_0 : wc.cell? ⟨gb155, 0, none⟩ = some (u156000) := (blk_cell BK155.out 0).trans rfl
           have hfz42_0 := Zn BK155.out 0
           have hnb43 := NB153_152.out
           have hnc43 := NB152_153.out
           have hnb44 := NB153_154.out
           have hnc44 := NB154_153.out
           have hcz45_0 : wc.cell? ⟨gb153, 0, none⟩ = some (.string a1_0) := (blk_cell BK153.out 0).trans rfl
           have hcz45_1 : wc.cell? ⟨gb153, 1, none⟩ = some (.slice A1_1 l1_1.length c1_1) := (blk_cell BK153.out 1).trans rfl
           have hcz45_2 : wc.cell? ⟨gb153, 2, none⟩ = some (.slice A1_2 l1_2.length c1_2) := (blk_cell BK153.out 2).trans rfl
           have hfz45_0 := Zn BK153.out 0
           have hfz45_1 := Zn BK153.out 1
           have hfz45_2 := Zn BK153.out 2
           try go_wp2_with (first | ((with_reducible refine gate_builtin (b := .append) (xs := #[.tmp 30, .tmp 32]) rfl ?_); at_builtin; refine N_append k55 (w0 := w) w.heap.size rfl (.tmp 30) (.tmp 32) 26 55 (.agg #[(.string ⟨#[]⟩), (.slice none 0 0), (.slice none 0 0)]) 64 rfl Tryd.underlying26 info55 rfl (by decide) (by omega) u156000 x156000_1 (⟨a1_0, l1_1, l1_2⟩ : S55) [.string a1_0, .slice A1_1 l1_1.length c1_1, .slice A1_2 l1_2.length c1_2] (fun k_ => ((P0_0_ k_ ∨ P1_1_ k_ ∨ P1_2_ k_) ∨ w.heap.size ≤ k_) ∧ k_ ≠ gb152 ∧ k_ ≠ gb153 ∧ k_ ≠ gb154 ∧ k_ ≠ gb155) (fun k_ => ((fun k_ => ((P0_0_ k_ ∨ P1_1_ k_ ∨ P1_2_ k_) ∨ w.heap.size ≤ k_) ∧ k_ ≠ gb152 ∧ k_ ≠ gb153 ∧ k_ ≠ gb154 ∧ k_ ≠ gb155)) k_ ∧ some k_ ≠ (u156000 : Value).ownBlock) rfl rfl ?aP (fun _ hk => hk) ?aF ?aO ?aB ?aS ?aL ?_; (case aP => exact (k55_mkF _ _ (⟨a1_0, l1_1, l1_2⟩ : S55) (V_reads' (V_mono (ok' := (fun k_ => ((fun k_ => ((P0_0_ k_ ∨ P1_1_ k_ ∨ P1_2_ k_) ∨ w.heap.size ≤ k_) ∧ k_ ≠ gb152 ∧ k_ ≠ gb153 ∧ k_ ≠ gb154 ∧ k_ ≠ gb155)) k_ ∧ some k_ ≠ (u156000 : Value).ownBlock)) (HO_154001.out) (fun k_ hk => ⟨⟨hk.1, ⟨hk.2.2.1, ⟨hk.2.2.2.1, ⟨hk.2.2.2.2.1, hk.2.2.2.2.2⟩⟩⟩⟩, hk.2.1⟩))).2.1 (V_F (V_mono (ok' := (fun k_ => ((fun k_ => ((P0_0_ k_ ∨ P1_1_ k_ ∨ P1_2_ k_) ∨ w.heap.size ≤ k_) ∧ k_ ≠ gb152 ∧ k_ ≠ gb153 ∧ k_ ≠ gb154 ∧ k_ ≠ gb155)) k_ ∧ some k_ ≠ (u156000 : Value).ownBlock)) (HO_154001.out) (fun k_ hk => ⟨⟨hk.1, ⟨hk.2.2.1, ⟨hk.2.2.2.1, ⟨hk.2.2.2.2.1, hk.2.2.2.2.2⟩⟩⟩⟩, hk.2.1⟩))) (V_reads' (V_mono (ok' := (fun k_ => ((fun k_ => ((P0_0_ k_ ∨ P1_1_ k_ ∨ P1_2_ k_) ∨ w.heap.size ≤ k_) ∧ k_ ≠ gb152 ∧ k_ ≠ gb153 ∧ k_ ≠ gb154 ∧ k_ ≠ gb155)) k_ ∧ some k_ ≠ (u156000 : Value).ownBlock)) (HO_154002.out) (fun k_ hk => ⟨⟨hk.1, ⟨hk.2.2.1, ⟨hk.2.2.2.1, ⟨hk.2.2.2.2.1, hk.2.2.2.2.2⟩⟩⟩⟩, hk.2.1⟩))).2.1 (V_F (V_mono (ok' := (fun k_ => ((fun k_ => ((P0_0_ k_ ∨ P1_1_ k_ ∨ P1_2_ k_) ∨ w.heap.size ≤ k_) ∧ k_ ≠ gb152 ∧ k_ ≠ gb153 ∧ k_ ≠ gb154 ∧ k_ ≠ gb155)) k_ ∧ some k_ ≠ (u156000 : Value).ownBlock)) (HO_154002.out) (fun k_ hk => ⟨⟨hk.1, ⟨hk.2.2.1, ⟨hk.2.2.2.1, ⟨hk.2.2.2.2.1, hk.2.2.2.2.2⟩⟩⟩⟩, hk.2.1⟩))))); (case aB => exact Zs); (case aF => exact (fun k_ hk => ⟨(.inr (Nat.le_trans (below_size Zs) hk)), Kd.freshB (g := gb152) (o := .cells #[.slice A0_0 l0_0.length c0_0] 28 (0, 0)) Zk k_ hk, Kd.freshB (g := gb153) (o := .cells #[.string a1_0, .slice A1_1 l1_1.length c1_1, .slice A1_2 l1_2.length c1_2] 55 (0, 0)) Zk k_ hk, Kd.freshB (g := gb154) (o := .cells #[.slice none 0 0] 28 (0, 0)) Zk k_ hk, Kd.freshB (g := gb155) (o := .cells #[u156000] 28 (0, 0)) Zk k_ hk⟩)); (case aO => exact (by (with_reducible repeat (first | apply N_alloc | apply N_drewN | apply N_drew)); exact HO_156000.out)); (case aS => exact (below_size Zs)); (case aL => have := LMc22.out; omega); intro v167 w46 ho hb hg hat; rw [← Ny166.out] at ho; have n0_ := Zh (V_afterv (ok := (fun k_ => ((P0_0_ k_ ∨ P1_1_ k_ ∨ P1_2_ k_) ∨ w.heap.size ≤ k_) ∧ k_ ≠ gb152 ∧ k_ ≠ gb153 ∧ k_ ≠ gb154 ∧ k_ ≠ gb155)) (by (with_reducible repeat (first | apply V_alloc | apply V_drewN | apply V_drew)); exact V_mono HO_153000.out (fun _ hk => ⟨⟨hk.1, ⟨hk.2.2.1, ⟨hk.2.2.2.1, ⟨hk.2.2.2.2.1, hk.2.2.2.2.2⟩⟩⟩⟩, hk.2.1⟩)) hg hat); have n1_ := Zh (V_afterv (ok := (fun k_ => ((P0_0_ k_ ∨ P1_1_ k_ ∨ P1_2_ k_) ∨ w.heap.size ≤ k_) ∧ k_ ≠ gb152 ∧ k_ ≠ gb153 ∧ k_ ≠ gb154 ∧ k_ ≠ gb155)) (by (with_reducible repeat (first | apply V_alloc | apply V_drewN | apply V_drew)); exact V_mono HO_154001.out (fun _ hk => ⟨⟨hk.1, ⟨hk.2.2.1, ⟨hk.2.2.2.1, ⟨hk.2.2.2.2.1, hk.2.2.2.2.2⟩⟩⟩⟩, hk.2.1⟩)) hg hat); have n2_ := Zh (V_afterv (ok := (fun k_ => ((P0_0_ k_ ∨ P1_1_ k_ ∨ P1_2_ k_) ∨ w.heap.size ≤ k_) ∧ k_ ≠ gb152 ∧ k_ ≠ gb153 ∧ k_ ≠ gb154 ∧ k_ ≠ gb155)) (by (with_reducible repeat (first | apply V_alloc | apply V_drewN | apply V_drew)); exact V_mono HO_154002.out (fun _ hk => ⟨⟨hk.1, ⟨hk.2.2.1, ⟨hk.2.2.2.1, ⟨hk.2.2.2.2.1, hk.2.2.2.2.2⟩⟩⟩⟩, hk.2.1⟩)) hg hat); have n3_ := Zh (blk_grown (g := gb152) (o := .cells #[.slice A0_0 l0_0.length c0_0] 28 (0, 0)) Zk hg (N_ne HO_156000.out BK152.out (by decide))); have n4_ := Zh (blk_grown (g := gb153) (o := .cells #[.string a1_0, .slice A1_1 l1_1.length c1_1, .slice A1_2 l1_2.length c1_2] 55 (0, 0)) Zk hg (N_away HO_156000.out (fun _ hk => hk.2.2.1))); have n5_ := Zh (blk_grown (g := gb154) (o := .cells #[.slice none 0 0] 28 (0, 0)) Zk hg (N_ne HO_156000.out BK154.out (by decide))); have n6_ := Zh (blk_grown (g := gb155) (o := .cells #[u156000] 28 (0, 0)) Zk hg (N_ne HO_156000.out BK155.out (by decide))); have n7_ := Zh (hb); have n8_ := Zh (ho); clear HO_153000; clear HO_154001; clear HO_154002; clear BK152; clear BK153; clear BK154; clear BK155; clear HB; clear HO_156000; have HO_153000 := n0_; have HO_154001 := n1_; have HO_154002 := n2_; have BK152 := n3_; have BK153 := n4_; have BK154 := n5_; have BK155 := n6_; have HB := n7_; have HO168 := n8_; clear n0_ n1_ n2_ n3_ n4_ n5_ n6_ n7_ n8_; clear ho hb hg hat; obtain ⟨Ao47, co47, eo47⟩ := N_slice HO168.out; subst eo47; have hcz48_0 : w46.cell? ⟨gb155, 0, none⟩ = some (u156000) := (blk_cell BK155.out 0).trans rfl; have hfz48_0 := Zn BK155.out 0))
           have n0_ : Aside0 (Kd.V k55 55 (w46.setCell ⟨gb155, 0, none⟩ (.slice Ao47 y166.length co47)) w.heap.size (fun k_ => ((P0_0_ k_ ∨ P1_1_ k_ ∨ P1_2_ k_) ∨ w.heap.size ≤ k_) ∧ some k_ ≠ (.slice Ao47 y166.length co47 : Value).ownBlock ∧ k_ ≠ gb152 ∧ k_ ≠ gb153 ∧ k_ ≠ gb154 ∧ k_ ≠ gb155) (.slice A0_0 l0_0.length c0_0) l0_0) := ⟨by (with_reducible repeat (first | apply V_alloc | apply V_drewN | apply V_drew)); exact V_mono (V_far (p := ⟨gb155, 0, none⟩) (V_mono HO_153000.out (fun k_ hk => (⟨hk, hk.1.2.2.2.2⟩ : _ ∧ k_ ≠ gb155))) (fun _ hk => hk.2) (.slice Ao47 y166.length co47)) (fun _ hk => ⟨hk.1.1.1, ⟨hk.1.2, ⟨hk.1.1.2.1, ⟨hk.1.1.2.2.1, ⟨hk.1.1.2.2.2.1, hk.1.1.2.2.2.2⟩⟩⟩⟩⟩)⟩
           have n1_ : Aside0 (Kd.V (Kd.int .u8) 5 (w46.setCell ⟨gb155, 0, none⟩ (.slice Ao47 y166.length co47)) w.heap.size (fun k_ => ((P0_0_ k_ ∨ P1_1_ k_ ∨ P1_2_ k_) ∨ w.heap.size ≤ k_) ∧ some k_ ≠ (.slice Ao47 y166.length co47 : Value).ownBlock ∧ k_ ≠ gb152 ∧ k_ ≠ gb153 ∧ k_ ≠ gb154 ∧ k_ ≠ gb155) (.slice A1_1 l1_1.length c1_1) l1_1) := ⟨by (with_reducible repeat (first | apply V_alloc | apply V_drewN | apply V_drew)); exact V_mono (V_far (p := ⟨gb155, 0, none⟩) (V_mono HO_154001.out (fun k_ hk => (⟨hk, hk.1.2.2.2.2⟩ : _ ∧ k_ ≠ gb155))) (fun _ hk => hk.2) (.slice Ao47 y166.length co47)) (fun _ hk => ⟨hk.1.1.1, ⟨hk.1.2, ⟨hk.1.1.2.1, ⟨hk.1.1.2.2.1, ⟨hk.1.1.2.2.2.1, hk.1.1.2.2.2.2⟩⟩⟩⟩⟩)⟩
           have n2_ : Aside0 (Kd.V (Kd.int .u8) 5 (w46.setCell ⟨gb155, 0, none⟩ (.slice Ao47 y166.length co47)) w.heap.size (fun k_ => ((P0_0_ k_ ∨ P1_1_ k_ ∨ P1_2_ k_) ∨ w.heap.size ≤ k_) ∧ some k_ ≠ (.slice Ao47 y166.length co47 : Value).ownBlock ∧ k_ ≠ gb152 ∧ k_ ≠ gb153 ∧ k_ ≠ gb154 ∧ k_ ≠ gb155) (.slice A1_2 l1_2.length c1_2) l1_2) := ⟨by (with_reducible repeat (first | apply V_alloc | apply V_drewN | apply V_drew)); exact V_mono (V_far (p := ⟨gb155, 0, none⟩) (V_mono HO_154002.out (fun k_ hk => (⟨hk, hk.1.2.2.2.2⟩ : _ ∧ k_ ≠ gb155))) (fun _ hk => hk.2) (.slice Ao47 y166.length co47)) (fun _ hk => ⟨hk.1.1.1, ⟨hk.1.2, ⟨hk.1.1.2.1, ⟨hk.1.1.2.2.1, ⟨hk.1.1.2.2.2.1, hk.1.1.2.2.2.2⟩⟩⟩⟩⟩)⟩
           have n3_ : Aside0 (Kd.N k55 55 (w46.setCell ⟨gb155, 0, none⟩ (.slice Ao47 y166.length co47)) w.heap.size (fun k_ => ((P0_0_ k_ ∨ P1_1_ k_ ∨ P1_2_ k_) ∨ w.heap.size ≤ k_) ∧ k_ ≠ gb152 ∧ k_ ≠ gb153 ∧ k_ ≠ gb154 ∧ k_ ≠ gb155) (.slice Ao47 y166.length co47) y166) := ⟨by (with_reducible repeat (first | apply N_alloc | apply N_drewN | apply N_drew)); exact N_mono (N_far (p := ⟨gb155, 0, none⟩) (N_mono HO168.out (fun k_ hk => (⟨hk, hk.2.2.2.2⟩ : _ ∧ k_ ≠ gb155))) (fun _ hk => hk.2) (.slice Ao47 y166.length co47)) (fun _ hk => ⟨hk.1.1, ⟨hk.1.2.1, ⟨hk.1.2.2.1, ⟨hk.1.2.2.2.1, hk.1.2.2.2.2⟩⟩⟩⟩)⟩
           have n4_ : Aside0 ((w46.setCell ⟨gb155, 0, none⟩ (.slice Ao47 y166.length co47)).heap[gb152]? = some (.cells #[.slice A0_0 l0_0.length c0_0] 28 (0, 0))) := ⟨by (with_reducible repeat (first | refine Za ?_ _ | refine Zb ?_ | refine blk_alloc ?_ _)); refine Zp ?_ NB152_155.out _; (with_reducible repeat (first | refine Za ?_ _ | refine Zb ?_ | refine blk_alloc ?_ _)); exact BK152.out⟩
           have n5_ : Aside0 ((w46.setCell ⟨gb155, 0, none⟩ (.slice Ao47 y166.length co47)).heap[gb153]? = some (.cells #[.string a1_0, .slice A1_1 l1_1.length c1_1, .slice A1_2 l1_2.length c1_2] 55 (0, 0))) := ⟨by (with_reducible repeat (first | refine Za ?_ _ | refine Zb ?_ | refine blk_alloc ?_ _)); refine Zp ?_ NB153_155.out _; (with_reducible repeat (first | refine Za ?_ _ | refine Zb ?_ | refine blk_alloc ?_ _)); exact BK153.out⟩
           have n6_ : Aside0 ((w46.setCell ⟨gb155, 0, none⟩ (.slice Ao47 y166.length co47)).heap[gb154]? = some (.cells #[.slice none 0 0] 28 (0, 0))) := ⟨by (with_reducible repeat (first | refine Za ?_ _ | refine Zb ?_ | refine blk_alloc ?_ _)); refine Zp ?_ NB154_155.out _; (with_reducible repeat (first | refine Za ?_ _ | refine Zb ?_ | refine blk_alloc ?_ _)); exact BK154.out⟩
           have n7_ : Aside0 ((w46.setCell ⟨gb155, 0, none⟩ (.slice Ao47 y166.length co47)).heap[gb155]? = some (.cells #[.slice Ao47 y166.length co47] 28 (0, 0))) := ⟨by (with_reducible repeat (first | refine Za ?_ _ | refine Zb ?_ | refine blk_alloc ?_ _)); refine blk_put (cs := #[u156000]) ?_ 0 _ rfl; (with_reducible repeat (first | refine Za ?_ _ | refine Zb ?_ | refine blk_alloc ?_ _)); exact BK155.out⟩
           have n8_ : Aside0 (Below w.heap.size w (w46.setCell ⟨gb155, 0, none⟩ (.slice Ao47 y166.length co47))) := ⟨by repeat (first | (with_reducible first | exact HB.out | apply Zf | apply Zd | apply Ze | refine Zg ?_ GE152.out | refine Zg ?_ GE153.out | refine Zg ?_ GE154.out | refine Zg ?_ GE155.out) | exact HB.out)⟩
           (try clear HO_153000)
           (try clear HO_154001)
           (try clear HO_154002)
           (try clear HO168)
           (try clear BK152)
           (try clear BK153)
           (try clear BK154)
           (try clear BK155)
           (try clear HB)
           generalize (w46.setCell ⟨gb155, 0, none⟩ (.slice Ao47 y166.length co47)) = w49 at n0_ n1_ n2_ n3_ n4_ n5_ n6_ n7_ n8_ ⊢
           have HO_153000 := n0_
           have HO_154001 := n1_
           have HO_154002 := n2_
           have HO168 := n3_
           have BK152 := n4_
           have BK153 := n5_
           have BK154 := n6_
           have BK155 := n7_
           have HB := n8_
           clear n0_ n1_ n2_ n3_ n4_ n5_ n6_ n7_ n8_
           have n0_ := Zh (V_drew HO_153000.out)
           have n1_ := Zh (V_drew HO_154001.out)
           have n2_ := Zh (V_drew HO_154002.out)
           have n3_ := Zh (N_drew HO168.out)
           have n4_ := Zh (Zb BK152.out)
           have n5_ := Zh (Zb BK153.out)
           have n6_ := Zh (Zb BK154.out)
           have n7_ := Zh (Zb BK155.out)
           have n8_ := Zh (Ze HB.out)
           clear HO_153000
           clear HO_154001
           clear HO_154002
           clear HO168
           clear BK152
           clear BK153
           clear BK154
           clear BK155
           clear HB
           have HO_153000 := n0_
           have HO_154001 := n1_
           have HO_154002 := n2_
           have HO168 := n3_
           have BK152 := n4_
           have BK153 := n5_
           have BK154 := n6_
           have BK155 := n7_
           have HB := n8_
           clear n0_ n1_ n2_ n3_ n4_ n5_ n6_ n7_ n8_
           have p169 : 0 ≤ (x7_1 : Int) := Zo
           have q169 : x7_1 < (l0_0.length : Int) := Zo
           obtain ⟨ad169, A169_1, c169_1, A169_2, c169_2, e169, hx169_0, hx169_1, hx169_2, hl169_1, hi169_1, hl169_2, hi169_2⟩ := at_T55 (V_reads' HO_153000.out).2.2 x7_1 p169 q169
           cases e169
           obtain ⟨ce169, hce169, hMe169, hcc169⟩ := V_get HO_153000.out z55 x7_1 p169 (by first | exact q169 | exact Zo | (have e_ := (V_reads' HO_153000.out).1; omega))
           obtain ⟨ua169_1, uc169_1, ua169_2, uc169_2, rfl, ul169_1, ge169_1, ul169_2, ge169_2⟩ := k55_openF hMe169
           have hv169_1 := hcc169 1 _ rfl
           rw [add_field _ _ 1 (by omega)] at hv169_1
           replace hv169_1 := Option.some.inj (hv169_1.symm.trans hx169_1)
           injection hv169_1 with hva_ hvn_ hvc_
           rw [hva_] at ge169_1
           rw [hvc_] at ul169_1
           have HL169_1 := Zh (show Kd.V (Kd.int .u8) 5 _ w.heap.size _ _ ((rd_T55 l0_0 x7_1).f1) from V_mk ul169_1 ge169_1)
           clear hva_ hvn_ hvc_ ge169_1 ul169_1
           have hv169_2 := hcc169 2 _ rfl
           rw [add_field _ _ 2 (by omega)] at hv169_2
           replace hv169_2 := Option.some.inj (hv169_2.symm.trans hx169_2)
           injection hv169_2 with hva_ hvn_ hvc_
           rw [hva_] at ge169_2
           rw [hvc_] at ul169_2
           have HL169_2 := Zh (show Kd.V (Kd.int .u8) 5 _ w.heap.size _ _ ((rd_T55 l0_0 x7_1).f2) from V_mk ul169_2 ge169_2)
           clear hva_ hvn_ hvc_ ge169_2 ul169_2
           clear hcc169 hce169
           have HR169_1 := Zh hi169_1
           have HC169_1 := Zh hl169_1
           clear hi169_1 hl169_1
           have HR169_2 := Zh hi169_2
           have HC169_2 := Zh hl169_2
           clear hi169_2 hl169_2
           replace p169 := eq_true p169
           replace q169 := eq_true q169
           refine start_ (n := 9) (S := fun w' => w'.cell? ⟨gb152, 0, none⟩ = some (.slice (some ad169) l0_0.length c0_0) ∧ w'.cell? ⟨gb153, 0, none⟩ = some (.string a1_0) ∧ w'.cell? ⟨gb153, 1, none⟩ = some (.slice A1_1 l1_1.length c1_1) ∧ w'.cell? ⟨gb153, 2, none⟩ = some (.slice A1_2 l1_2.length c1_2) ∧ w'.cell? (ad169.add ((x7_1).toNat * 3)) = some (.string ((rd_T55 l0_0 x7_1).f0)) ∧ w'.cell? ⟨(ad169.add ((x7_1).toNat * 3)).block, (ad169.add ((x7_1).toNat * 3)).off + 1, none⟩ = some (.slice A169_1 ((rd_T55 l0_0 x7_1).f1).length c169_1) ∧ w'.cell? ⟨(ad169.add ((x7_1).toNat * 3)).block, (ad169.add ((x7_1).toNat * 3)).off + 2, none⟩ = some (.slice A169_2 ((rd_T55 l0_0 x7_1).f2).length c169_2)) (ds := []) #[false, false, false, false, false, false, false, false, false] (by kernel_rfl) rfl rfl ⟨(blk_cell BK152.out 0).trans rfl, (blk_cell BK153.out 0).trans rfl, (blk_cell BK153.out 1).trans rfl, (blk_cell BK153.out 2).trans rfl, hx169_0, hx169_1, hx169_2⟩ (fun hHeld => ?_); refine with_tabW spec_l03Put.tab9 spec_l03Put.bits9 (fun HT_ HW_ => ?_)
           generalize w49.drew = w50 at HO_153000 HO_154001 HO_154002 HO168 BK152 BK153 BK154 BK155 HB HL169_1 HL169_2 HR169_1 HR169_2 hx169_0 hx169_1 hx169_2 hHeld ⊢
           refine SQ.pu 0 35 HT_ ?_
           refine SQ.pu 2 37 HT_ ?_
           refine SQ.pu 6 41 HT_ ?_
           refine SQ.tk 1 36 HT_ HW_ hHeld ?_
           refine SQ.pu 3 38 HT_ ?_
           refine SQ.pu 4 39 HT_ ?_
           refine SQ.tk 5 40 HT_ HW_ hHeld ?_
           refine SQ.tk 7 42 HT_ HW_ hHeld ?_
           refine SQ.pu 8 43 HT_ ?_
           refine done_ (done_of HT_.out (by kernel_rfl)) ?_
           try go_wp2
           have n0_ := Zh (V_drew HO_153000.out)
           have n1_ := Zh (V_drew HO_154001.out)
           have n2_ := Zh (V_drew HO_154002.out)
           have n3_ := Zh (N_drew HO168.out)
           have n4_ := Zh (V_drew HL169_1.out)
           have n5_ := Zh (V_drew HL169_2.out)
           have n6_ := Zh (Zb BK152.out)
           have n7_ := Zh (Zb BK153.out)
           have n8_ := Zh (Zb BK154.out)
           have n9_ := Zh (Zb BK155.out)
           have n10_ := Zh (C_drew HR169_1.out)
           have n11_ := Zh (C_drew HR169_2.out)
           have n12_ := Zh (Ze HB.out)
           clear HO_153000
           clear HO_154001
           clear HO_154002
           clear HO168
           clear HL169_1
           clear HL169_2
           clear BK152
           clear BK153
           clear BK154
           clear BK155
           clear HR169_1
           clear HR169_2
           clear HB
           have HO_153000 := n0_
           have HO_154001 := n1_
           have HO_154002 := n2_
           have HO168 := n3_
           have HL169_1 := n4_
           have HL169_2 := n5_
           have BK152 := n6_
           have BK153 := n7_
           have BK154 := n8_
           have BK155 := n9_
           have HR169_1 := n10_
           have HR169_2 := n11_
           have HB := n12_
           clear n0_ n1_ n2_ n3_ n4_ n5_ n6_ n7_ n8_ n9_ n10_ n11_ n12_
           have p170 : 0 ≤ (x7_1 : Int) := Zo
           have q170 : x7_1 < (l0_0.length : Int) := Zo
           obtain ⟨ad170, A170_1, c170_1, A170_2, c170_2, e170, hx170_0, hx170_1, hx170_2, hl170_1, hi170_1, hl170_2, hi170_2⟩ := at_T55 (V_reads' HO_153000.out).2.2 x7_1 p170 q170
           obtain rfl : ad169 = ad170 := (by injection e170)
           obtain ⟨ce170, hce170, hMe170, hcc170⟩ := V_get HO_153000.out z55 x7_1 p170 (by first | exact q170 | exact Zo | (have e_ := (V_reads' HO_153000.out).1; omega))
           obtain ⟨ua170_1, uc170_1, ua170_2, uc170_2, rfl, ul170_1, ge170_1, ul170_2, ge170_2⟩ := k55_openF hMe170
           have hv170_1 := hcc170 1 _ rfl
           rw [add_field _ _ 1 (by omega)] at hv170_1
           replace hv170_1 := Option.some.inj (hv170_1.symm.trans hx170_1)
           injection hv170_1 with hva_ hvn_ hvc_
           rw [hva_] at ge170_1
           rw [hvc_] at ul170_1
           have HL170_1 := Zh (show Kd.V (Kd.int .u8) 5 _ w.heap.size _ _ ((rd_T55 l0_0 x7_1).f1) from V_mk ul170_1 ge170_1)
           clear hva_ hvn_ hvc_ ge170_1 ul170_1
           have hv170_2 := hcc170 2 _ rfl
           rw [add_field _ _ 2 (by omega)] at hv170_2
           replace hv170_2 := Option.some.inj (hv170_2.symm.trans hx170_2)
           injection hv170_2 with hva_ hvn_ hvc_
           rw [hva_] at ge170_2
           rw [hvc_] at ul170_2
           have HL170_2 := Zh (show Kd.V (Kd.int .u8) 5 _ w.heap.size _ _ ((rd_T55 l0_0 x7_1).f2) from V_mk ul170_2 ge170_2)
           clear hva_ hvn_ hvc_ ge170_2 ul170_2
           clear hcc170 hce170
           have HR170_1 := Zh hi170_1
           have HC170_1 := Zh hl170_1
           clear hi170_1 hl170_1
           have HR170_2 := Zh hi170_2
           have HC170_2 := Zh hl170_2
           clear hi170_2 hl170_2
           replace p170 := eq_true p170
           replace q170 := eq_true q170
           refine start_ (n := 11) (S := fun w' => w'.cell? ⟨gb155, 0, none⟩ = some (.slice Ao47 y166.length co47) ∧ w'.cell? ⟨gb152, 0, none⟩ = some (.slice (some ad169) l0_0.length c0_0) ∧ w'.cell? (ad169.add ((x7_1).toNat * 3)) = some (.string ((rd_T55 l0_0 x7_1).f0)) ∧ w'.cell? ⟨(ad169.add ((x7_1).toNat * 3)).block, (ad169.add ((x7_1).toNat * 3)).off + 1, none⟩ = some (.slice A170_1 ((rd_T55 l0_0 x7_1).f1).length c170_1) ∧ w'.cell? ⟨(ad169.add ((x7_1).toNat * 3)).block, (ad169.add ((x7_1).toNat * 3)).off + 2, none⟩ = some (.slice A170_2 ((rd_T55 l0_0 x7_1).f2).length c170_2)) (ds := [8, 10]) #[false, false, false, false, false, false, false, false, false, false, false] (by kernel_rfl) rfl rfl ⟨(blk_cell BK155.out 0).trans rfl, (blk_cell BK152.out 0).trans rfl, hx170_0, hx170_1, hx170_2⟩ (fun hHeld => ?_); refine with_tabW spec_l03Put.tab10 spec_l03Put.bits10 (fun HT_ HW_ => ?_)
           generalize w50.drew = w51 at HO_153000 HO_154001 HO_154002 HO168 HL169_1 HL169_2 BK152 BK153 BK154 BK155 HR169_1 HR169_2 HB HL170_1 HL170_2 HR170_1 HR170_2 hx170_0 hx170_1 hx170_2 hHeld ⊢
           refine SQ.pu 0 44 HT_ ?_
           refine SQ.pu 2 46 HT_ ?_
           refine SQ.pu 4 48 HT_ ?_
           refine SQ.tk 1 45 HT_ HW_ hHeld ?_
           refine SQ.tk 3 47 HT_ HW_ hHeld ?_
           refine SQ.pu 5 49 HT_ ?_
           refine SQ.tk 6 50 HT_ HW_ hHeld ?_
           refine one_ (i := 7) (N := some 51) #[true, true, true, true, true, true, true, true, false, false, false] rfl rfl (one_of HT_.out (by kernel_rfl)) (by decide) (fun K hK => ?_)
           refine value_ (w1 := ?_) (v := ?_) (by rfl) rfl ?_ ?_
           rotate_left 2
           ·
            go_simp
            constructor
            ·
             rfl
            rfl
           refine hK.out _ _ ⟨(blk_cell (blk_alloc BK155.out _) 0).trans rfl, (blk_cell (blk_alloc BK152.out _) 0).trans rfl, (World.cell?_alloc_lt _ _ _ (Zi _ _ (hHeld.2.2.1))).trans (hHeld.2.2.1), (World.cell?_alloc_lt _ _ _ (Zi _ _ (hHeld.2.2.2.1))).trans (hHeld.2.2.2.1), (World.cell?_alloc_lt _ _ _ (Zi _ _ (hHeld.2.2.2.2))).trans (hHeld.2.2.2.2)⟩ (fun hHeld => ?_)
           clear hK K
           refine norm_ (a' := ?_) ?_ ?_
           rotate_left
           ·
            show Act.put _ (some 51) _ = _
            simp only [Act.put, List.setIfInBounds_toArray, List.set_cons_zero, List.set_cons_succ, i64_w, i32_w]
            rfl
           refine last_ (i := 8) (N := some 52) #[true, true, true, true, true, true, true, true, true, false, false] rfl rfl (one_of HT_.out (by kernel_rfl)) (by decide) (fun K hK => ?_)
           refine N_append_step k55 (w0 := w) w.heap.size (by rfl) (.tmp 45) (.tmp 51) 26 55 (.agg #[(.string ⟨#[]⟩), (.slice none 0 0), (.slice none 0 0)]) 64 rfl Tryd.underlying26 info55 rfl (by decide) (by omega) (.slice Ao47 y166.length co47) y166 (⟨(rd_T55 l0_0 x7_1).f0, (rd_T55 l0_0 x7_1).f1, (rd_T55 l0_0 x7_1).f2⟩ : S55) [.string ((rd_T55 l0_0 x7_1).f0), .slice A170_1 ((rd_T55 l0_0 x7_1).f1).length c170_1, .slice A170_2 ((rd_T55 l0_0 x7_1).f2).length c170_2] (fun k_ => ((P0_0_ k_ ∨ P1_1_ k_ ∨ P1_2_ k_) ∨ w.heap.size ≤ k_) ∧ k_ ≠ gb152 ∧ k_ ≠ gb153 ∧ k_ ≠ gb154 ∧ k_ ≠ gb155) (fun k_ => ((fun k_ => ((P0_0_ k_ ∨ P1_1_ k_ ∨ P1_2_ k_) ∨ w.heap.size ≤ k_) ∧ k_ ≠ gb152 ∧ k_ ≠ gb153 ∧ k_ ≠ gb154 ∧ k_ ≠ gb155)) k_ ∧ some k_ ≠ (.slice Ao47 y166.length co47 : Value).ownBlock) rfl rfl ?aP (fun _ hk => hk) ?aF ?aO ?aB ?aS ?aL ?_
           (case aP => exact (k55_mkF _ _ (⟨(rd_T55 l0_0 x7_1).f0, (rd_T55 l0_0 x7_1).f1, (rd_T55 l0_0 x7_1).f2⟩ : S55) (V_reads' (V_mono (ok' := (fun k_ => ((fun k_ => ((P0_0_ k_ ∨ P1_1_ k_ ∨ P1_2_ k_) ∨ w.heap.size ≤ k_) ∧ k_ ≠ gb152 ∧ k_ ≠ gb153 ∧ k_ ≠ gb154 ∧ k_ ≠ gb155)) k_ ∧ some k_ ≠ (.slice Ao47 y166.length co47 : Value).ownBlock)) (HL170_1.out) (fun k_ hk => ⟨⟨hk.1, ⟨hk.2.2.1, ⟨hk.2.2.2.1, ⟨hk.2.2.2.2.1, hk.2.2.2.2.2⟩⟩⟩⟩, hk.2.1⟩))).2.1 (V_F (V_mono (ok' := (fun k_ => ((fun k_ => ((P0_0_ k_ ∨ P1_1_ k_ ∨ P1_2_ k_) ∨ w.heap.size ≤ k_) ∧ k_ ≠ gb152 ∧ k_ ≠ gb153 ∧ k_ ≠ gb154 ∧ k_ ≠ gb155)) k_ ∧ some k_ ≠ (.slice Ao47 y166.length co47 : Value).ownBlock)) (HL170_1.out) (fun k_ hk => ⟨⟨hk.1, ⟨hk.2.2.1, ⟨hk.2.2.2.1, ⟨hk.2.2.2.2.1, hk.2.2.2.2.2⟩⟩⟩⟩, hk.2.1⟩))) (V_reads' (V_mono (ok' := (fun k_ => ((fun k_ => ((P0_0_ k_ ∨ P1_1_ k_ ∨ P1_2_ k_) ∨ w.heap.size ≤ k_) ∧ k_ ≠ gb152 ∧ k_ ≠ gb153 ∧ k_ ≠ gb154 ∧ k_ ≠ gb155)) k_ ∧ some k_ ≠ (.slice Ao47 y166.length co47 : Value).ownBlock)) (HL170_2.out) (fun k_ hk => ⟨⟨hk.1, ⟨hk.2.2.1, ⟨hk.2.2.2.1, ⟨hk.2.2.2.2.1, hk.2.2.2.2.2⟩⟩⟩⟩, hk.2.1⟩))).2.1 (V_F (V_mono (ok' := (fun k_ => ((fun k_ => ((P0_0_ k_ ∨ P1_1_ k_ ∨ P1_2_ k_) ∨ w.heap.size ≤ k_) ∧ k_ ≠ gb152 ∧ k_ ≠ gb153 ∧ k_ ≠ gb154 ∧ k_ ≠ gb155)) k_ ∧ some k_ ≠ (.slice Ao47 y166.length co47 : Value).ownBlock)) (HL170_2.out) (fun k_ hk => ⟨⟨hk.1, ⟨hk.2.2.1, ⟨hk.2.2.2.1, ⟨hk.2.2.2.2.1, hk.2.2.2.2.2⟩⟩⟩⟩, hk.2.1⟩)))))
           (case aB => exact Zs)
           (case aF => exact (fun k_ hk => ⟨(.inr (Nat.le_trans (below_size Zs) hk)), Kd.freshB (g := gb152) (o := .cells #[.slice (some ad169) l0_0.length c0_0] 28 (0, 0)) Zk k_ hk, Kd.freshB (g := gb153) (o := .cells #[.string a1_0, .slice A1_1 l1_1.length c1_1, .slice A1_2 l1_2.length c1_2] 55 (0, 0)) Zk k_ hk, Kd.freshB (g := gb154) (o := .cells #[.slice none 0 0] 28 (0, 0)) Zk k_ hk, Kd.freshB (g := gb155) (o := .cells #[.slice Ao47 y166.length co47] 28 (0, 0)) Zk k_ hk⟩))
           (case aO => exact (by (with_reducible repeat (first | apply N_alloc | apply N_drewN | apply N_drew)); exact HO168.out))
           (case aS => exact (below_size Zs))
           (case aL => have := LMc38.out; omega)
           intro v172 w52 ho hb hg hat
           rw [← Ny171.out] at ho
           have n0_ := Zh (V_afterv (ok := (fun k_ => ((P0_0_ k_ ∨ P1_1_ k_ ∨ P1_2_ k_) ∨ w.heap.size ≤ k_) ∧ k_ ≠ gb152 ∧ k_ ≠ gb153 ∧ k_ ≠ gb154 ∧ k_ ≠ gb155)) (by (with_reducible repeat (first | apply V_alloc | apply V_drewN | apply V_drew)); exact V_mono HO_153000.out (fun _ hk => ⟨⟨hk.1, ⟨hk.2.2.1, ⟨hk.2.2.2.1, ⟨hk.2.2.2.2.1, hk.2.2.2.2.2⟩⟩⟩⟩, hk.2.1⟩)) hg hat)
           have n1_ := Zh (V_afterv (ok := (fun k_ => ((P0_0_ k_ ∨ P1_1_ k_ ∨ P1_2_ k_) ∨ w.heap.size ≤ k_) ∧ k_ ≠ gb152 ∧ k_ ≠ gb153 ∧ k_ ≠ gb154 ∧ k_ ≠ gb155)) (by (with_reducible repeat (first | apply V_alloc | apply V_drewN | apply V_drew)); exact V_mono HO_154001.out (fun _ hk => ⟨⟨hk.1, ⟨hk.2.2.1, ⟨hk.2.2.2.1, ⟨hk.2.2.2.2.1, hk.2.2.2.2.2⟩⟩⟩⟩, hk.2.1⟩)) hg hat)
           have n2_ := Zh (V_afterv (ok := (fun k_ => ((P0_0_ k_ ∨ P1_1_ k_ ∨ P1_2_ k_) ∨ w.heap.size ≤ k_) ∧ k_ ≠ gb152 ∧ k_ ≠ gb153 ∧ k_ ≠ gb154 ∧ k_ ≠ gb155)) (by (with_reducible repeat (first | apply V_alloc | apply V_drewN | apply V_drew)); exact V_mono HO_154002.out (fun _ hk => ⟨⟨hk.1, ⟨hk.2.2.1, ⟨hk.2.2.2.1, ⟨hk.2.2.2.2.1, hk.2.2.2.2.2⟩⟩⟩⟩, hk.2.1⟩)) hg hat)
           have n3_ := Zh (blk_grown (g := gb152) (o := .cells #[.slice (some ad169) l0_0.length c0_0] 28 (0, 0)) Zk hg (N_ne HO168.out BK152.out (by decide)))
           have n4_ := Zh (blk_grown (g := gb153) (o := .cells #[.string a1_0, .slice A1_1 l1_1.length c1_1, .slice A1_2 l1_2.length c1_2] 55 (0, 0)) Zk hg (N_away HO168.out (fun _ hk => hk.2.2.1)))
           have n5_ := Zh (blk_grown (g := gb154) (o := .cells #[.slice none 0 0] 28 (0, 0)) Zk hg (N_ne HO168.out BK154.out (by decide)))
           have n6_ := Zh (blk_grown (g := gb155) (o := .cells #[.slice Ao47 y166.length co47] 28 (0, 0)) Zk hg (N_ne HO168.out BK155.out (by decide)))
           have n7_ := Zh (V_afterv (ok := (fun k_ => ((P0_0_ k_ ∨ P1_1_ k_ ∨ P1_2_ k_) ∨ w.heap.size ≤ k_) ∧ k_ ≠ gb152 ∧ k_ ≠ gb153 ∧ k_ ≠ gb154 ∧ k_ ≠ gb155)) (by (with_reducible repeat (first | apply V_alloc | apply V_drewN | apply V_drew)); exact V_mono HL169_1.out (fun _ hk => ⟨⟨hk.1, ⟨hk.2.2.1, ⟨hk.2.2.2.1, ⟨hk.2.2.2.2.1, hk.2.2.2.2.2⟩⟩⟩⟩, hk.2.1⟩)) hg hat)
           have n8_ := Zh (V_afterv (ok := (fun k_ => ((P0_0_ k_ ∨ P1_1_ k_ ∨ P1_2_ k_) ∨ w.heap.size ≤ k_) ∧ k_ ≠ gb152 ∧ k_ ≠ gb153 ∧ k_ ≠ gb154 ∧ k_ ≠ gb155)) (by (with_reducible repeat (first | apply V_alloc | apply V_drewN | apply V_drew)); exact V_mono HL169_2.out (fun _ hk => ⟨⟨hk.1, ⟨hk.2.2.1, ⟨hk.2.2.2.1, ⟨hk.2.2.2.2.1, hk.2.2.2.2.2⟩⟩⟩⟩, hk.2.1⟩)) hg hat)
           have n9_ := Zh (V_afterv (ok := (fun k_ => ((P0_0_ k_ ∨ P1_1_ k_ ∨ P1_2_ k_) ∨ w.heap.size ≤ k_) ∧ k_ ≠ gb152 ∧ k_ ≠ gb153 ∧ k_ ≠ gb154 ∧ k_ ≠ gb155)) (by (with_reducible repeat (first | apply V_alloc | apply V_drewN | apply V_drew)); exact V_mono HL170_1.out (fun _ hk => ⟨⟨hk.1, ⟨hk.2.2.1, ⟨hk.2.2.2.1, ⟨hk.2.2.2.2.1, hk.2.2.2.2.2⟩⟩⟩⟩, hk.2.1⟩)) hg hat)
           have n10_ := Zh (V_afterv (ok := (fun k_ => ((P0_0_ k_ ∨ P1_1_ k_ ∨ P1_2_ k_) ∨ w.heap.size ≤ k_) ∧ k_ ≠ gb152 ∧ k_ ≠ gb153 ∧ k_ ≠ gb154 ∧ k_ ≠ gb155)) (by (with_reducible repeat (first | apply V_alloc | apply V_drewN | apply V_drew)); exact V_mono HL170_2.out (fun _ hk => ⟨⟨hk.1, ⟨hk.2.2.1, ⟨hk.2.2.2.1, ⟨hk.2.2.2.2.1, hk.2.2.2.2.2⟩⟩⟩⟩, hk.2.1⟩)) hg hat)
           have n11_ := Zh (hb)
           have n12_ := Zh (ho)
           clear HO_153000
           clear HO_154001
           clear HO_154002
           clear BK152
           clear BK153
           clear BK154
           clear BK155
           clear HL169_1
           clear HL169_2
           clear HL170_1
           clear HL170_2
           clear HB
           clear HO168
           have HO_153000 := n0_
           have HO_154001 := n1_
           have HO_154002 := n2_
           have BK152 := n3_
           have BK153 := n4_
           have BK154 := n5_
           have BK155 := n6_
           have HL169_1 := n7_
           have HL169_2 := n8_
           have HL170_1 := n9_
           have HL170_2 := n10_
           have HB := n11_
           have HO173 := n12_
           clear n0_ n1_ n2_ n3_ n4_ n5_ n6_ n7_ n8_ n9_ n10_ n11_ n12_
           clear ho hb hg hat
           obtain ⟨Ao53, co53, eo53⟩ := N_slice HO173.out
           (first | subst eo53 | (injection eo53 with f1_ f2_ f3_; have f4_ := f1_.symm; have f5_ := f3_.symm; clear f1_ f2_ f3_; subst f4_; subst f5_))
           refine hK.out _ _ ?_
           clear hK K
           refine norm_ (a' := ?_) ?_ ?_
           rotate_left
           ·
            show Act.put _ (some 52) _ = _
            simp only [Act.put, List.setIfInBounds_toArray, List.set_cons_zero, List.set_cons_succ, i64_w, i32_w]
            rfl
           refine SQ.pu 9 53 HT_ ?_
           refine last_ (i := 10) (N := none) #[true, true, true, true, true, true, true, true, true, true, true] rfl rfl (one_of HT_.out (by kernel_rfl)) (by decide) (fun K hK => ?_)
           have hs54 : w52.cell? ⟨gb155, 0, none⟩ = some (.slice Ao47 y166.length co47) := (blk_cell BK155.out 0).trans rfl
           have hfs54 := Zn BK155.out 0
           have hns54_0 := NB152_155.out
           have hns54_1 := NB153_155.out
           have hns54_2 := NB154_155.out
           have hms54_0 := NB155_152.out
           have hms54_1 := NB155_153.out
           have hms54_2 := NB155_154.out
           refine skip_ (w1 := ?_) (by rfl) rfl ?_ ?_
           rotate_left
           ·
            go_simp
            rfl
           refine hK.out _ _ ?_
           clear hK K
           refine done_ (done_of HT_.out (by kernel_rfl)) ?_
           try go_wp2
           go_roundg kj11
           case measure => have := HK1.out; have := HJ11.out; omega
           case rel => exact ⟨(true), (wrap64 (x7_1 + 1)), (y171), (.slice Ao53 y171.length co53), (by first | rfl | (simp; done) | (simp [*]; done)), (by first | rfl | (simp; done) | (simp [*]; done)), H', ⟨by have := HK1.out; have := HJ11.out; omega⟩, ⟨by (with_reducible repeat (first | apply V_alloc | apply V_drewN | apply V_drew)); exact V_mono (V_far (p := ⟨gb155, 0, none⟩) (V_mono HO_153000.out (fun k_ hk => (⟨hk, hk.1.2.2.2.2⟩ : _ ∧ k_ ≠ gb155))) (fun _ hk => hk.2) (.slice Ao53 y171.length co53)) (fun _ hk => ⟨hk.1.1.1, ⟨hk.1.2, ⟨hk.1.1.2.1, ⟨hk.1.1.2.2.1, ⟨hk.1.1.2.2.2.1, hk.1.1.2.2.2.2⟩⟩⟩⟩⟩)⟩, ⟨by (with_reducible repeat (first | apply V_alloc | apply V_drewN | apply V_drew)); exact V_mono (V_far (p := ⟨gb155, 0, none⟩) (V_mono HO_154001.out (fun k_ hk => (⟨hk, hk.1.2.2.2.2⟩ : _ ∧ k_ ≠ gb155))) (fun _ hk => hk.2) (.slice Ao53 y171.length co53)) (fun _ hk => ⟨hk.1.1.1, ⟨hk.1.2, ⟨hk.1.1.2.1, ⟨hk.1.1.2.2.1, ⟨hk.1.1.2.2.2.1, hk.1.1.2.2.2.2⟩⟩⟩⟩⟩)⟩, ⟨by (with_reducible repeat (first | apply V_alloc | apply V_drewN | apply V_drew)); exact V_mono (V_far (p := ⟨gb155, 0, none⟩) (V_mono HO_154002.out (fun k_ hk => (⟨hk, hk.1.2.2.2.2⟩ : _ ∧ k_ ≠ gb155))) (fun _ hk => hk.2) (.slice Ao53 y171.length co53)) (fun _ hk => ⟨hk.1.1.1, ⟨hk.1.2, ⟨hk.1.1.2.1, ⟨hk.1.1.2.2.1, ⟨hk.1.1.2.2.2.1, hk.1.1.2.2.2.2⟩⟩⟩⟩⟩)⟩, ⟨by (with_reducible repeat (first | apply N_alloc | apply N_drewN | apply N_drew)); exact N_mono (N_far (p := ⟨gb155, 0, none⟩) (N_mono HO173.out (fun k_ hk => (⟨hk, hk.2.2.2.2⟩ : _ ∧ k_ ≠ gb155))) (fun _ hk => hk.2) (.slice Ao53 y171.length co53)) (fun _ hk => ⟨hk.1.1, ⟨hk.1.2.1, ⟨hk.1.2.2.1, ⟨hk.1.2.2.2.1, hk.1.2.2.2.2⟩⟩⟩⟩)⟩, ⟨by (with_reducible repeat (first | refine Za ?_ _ | refine Zb ?_ | refine blk_alloc ?_ _)); refine Zp ?_ NB152_155.out _; (with_reducible repeat (first | refine Za ?_ _ | refine Zb ?_ | refine blk_alloc ?_ _)); exact BK152.out⟩, ⟨by (with_reducible repeat (first | refine Za ?_ _ | refine Zb ?_ | refine blk_alloc ?_ _)); refine Zp ?_ NB153_155.out _; (with_reducible repeat (first | refine Za ?_ _ | refine Zb ?_ | refine blk_alloc ?_ _)); exact BK153.out⟩, ⟨by (with_reducible repeat (first | refine Za ?_ _ | refine Zb ?_ | refine blk_alloc ?_ _)); refine Zp ?_ NB154_155.out _; (with_reducible repeat (first | refine Za ?_ _ | refine Zb ?_ | refine blk_alloc ?_ _)); exact BK154.out⟩, ⟨by (with_reducible repeat (first | refine Za ?_ _ | refine Zb ?_ | refine blk_alloc ?_ _)); refine blk_put (cs := #[.slice Ao47 y166.length co47]) ?_ 0 _ rfl; (with_reducible repeat (first | refine Za ?_ _ | refine Zb ?_ | refine blk_alloc ?_ _)); exact BK155.out⟩, ⟨by repeat (first | (with_reducible first | exact HB.out | apply Zf | apply Zd | apply Ze | refine Zg ?_ GE152.out | refine Zg ?_ GE153.out | refine Zg ?_ GE154.out | refine Zg ?_ GE155.out) | exact HB.out)⟩⟩
          rw [if_neg c38] at H
          exact absurd H (by simp)
         rw [if_neg c24] at H
         exact absurd H (by simp)
        rw [if_neg c23] at H
        exact absurd H (by simp)
       rw [if_neg c22] at H
       exact absurd H (by simp)
      replace c21 := Bool.eq_false_iff.mpr c21
      subst c21
      have H1 : (if 0 ≤ x7_1 then (if x7_1 < (l0_0.length : Int) then (if ((rd_T55 l0_0 x7_1).f0).toList = a1_0.toList then (spec_l03Put.l0 kj11 x6_1 (wrap64 (x7_1 + 1)) l0_0 a1_0 l1_1 l1_2 x156000_1) else (if x156000_1.length < 2199023255552 then (spec_l03Put.l0 kj11 x6_1 (wrap64 (x7_1 + 1)) l0_0 a1_0 l1_1 l1_2 (x156000_1 ++ [(⟨(rd_T55 l0_0 x7_1).f0, (rd_T55 l0_0 x7_1).f1, (rd_T55 l0_0 x7_1).f2⟩ : S55)])) else (none))) else (none)) else (none)) = some r := by rw [if_neg (show ¬ (false = true) by decide)] at H; exact H
      clear H
      have H := H1
      clear H1
      by_cases c55 : 0 ≤ x7_1
      ·
       rw [if_pos c55] at H
       have c55b0 : decide (0 ≤ x7_1) = true := decide_eq_true c55
       clear c55
       by_cases c56 : x7_1 < (l0_0.length : Int)
       ·
        rw [if_pos c56] at H
        have c56b0 : decide (x7_1 < (l0_0.length : Int)) = true := decide_eq_true c56
        clear c56
        by_cases c57 : ((rd_T55 l0_0 x7_1).f0).toList = a1_0.toList
        ·
         rw [if_pos c57] at H
         have c57b0 : (((rd_T55 l0_0 x7_1).f0).toList == a1_0.toList) = true := beq_iff_eq.mpr c57
         have c57b1 : (((rd_T55 l0_0 x7_1).f0).toList != a1_0.toList) = false := bne_eq_false_iff_eq.mpr c57
         clear c57
         have H' := Zh H
         clear H
         try go_wp2
         have n0_ := Zh (V_drew HO_153000.out)
         have n1_ := Zh (V_drew HO_154001.out)
         have n2_ := Zh (V_drew HO_154002.out)
         have n3_ := Zh (N_drew HO_156000.out)
         have n4_ := Zh (Zb BK152.out)
         have n5_ := Zh (Zb BK153.out)
         have n6_ := Zh (Zb BK154.out)
         have n7_ := Zh (Zb BK155.out)
         have n8_ := Zh (Ze HB.out)
         clear HO_153000
         clear HO_154001
         clear HO_154002
         clear HO_156000
         clear BK152
         clear BK153
         clear BK154
         clear BK155
         clear HB
         have HO_153000 := n0_
         have HO_154001 := n1_
         have HO_154002 := n2_
         have HO_156000 := n3_
         have BK152 := n4_
         have BK153 := n5_
         have BK154 := n6_
         have BK155 := n7_
         have HB := n8_
         clear n0_ n1_ n2_ n3_ n4_ n5_ n6_ n7_ n8_
         have p174 : 0 ≤ (x7_1 : Int) := Zo
         have q174 : x7_1 < (l0_0.length : Int) := Zo
         obtain ⟨ad174, A174_1, c174_1, A174_2, c174_2, e174, hx174_0, hx174_1, hx174_2, hl174_1, hi174_1, hl174_2, hi174_2⟩ := at_T55 (V_reads' HO_153000.out).2.2 x7_1 p174 q174
         cases e174
         obtain ⟨ce174, hce174, hMe174, hcc174⟩ := V_get HO_153000.out z55 x7_1 p174 (by first | exact q174 | exact Zo | (have e_ := (V_reads' HO_153000.out).1; omega))
         obtain ⟨ua174_1, uc174_1, ua174_2, uc174_2, rfl, ul174_1, ge174_1, ul174_2, ge174_2⟩ := k55_openF hMe174
         have hv174_1 := hcc174 1 _ rfl
         rw [add_field _ _ 1 (by omega)] at hv174_1
         replace hv174_1 := Option.some.inj (hv174_1.symm.trans hx174_1)
         injection hv174_1 with hva_ hvn_ hvc_
         rw [hva_] at ge174_1
         rw [hvc_] at ul174_1
         have HL174_1 := Zh (show Kd.V (Kd.int .u8) 5 _ w.heap.size _ _ ((rd_T55 l0_0 x7_1).f1) from V_mk ul174_1 ge174_1)
         clear hva_ hvn_ hvc_ ge174_1 ul174_1
         have hv174_2 := hcc174 2 _ rfl
         rw [add_field _ _ 2 (by omega)] at hv174_2
         replace hv174_2 := Option.some.inj (hv174_2.symm.trans hx174_2)
         injection hv174_2 with hva_ hvn_ hvc_
         rw [hva_] at ge174_2
         rw [hvc_] at ul174_2
         have HL174_2 := Zh (show Kd.V (Kd.int .u8) 5 _ w.heap.size _ _ ((rd_T55 l0_0 x7_1).f2) from V_mk ul174_2 ge174_2)
         clear hva_ hvn_ hvc_ ge174_2 ul174_2
         clear hcc174 hce174
         have HR174_1 := Zh hi174_1
         have HC174_1 := Zh hl174_1
         clear hi174_1 hl174_1
         have HR174_2 := Zh hi174_2
         have HC174_2 := Zh hl174_2
         clear hi174_2 hl174_2
         replace p174 := eq_true p174
         replace q174 := eq_true q174
         refine start_ (n := 9) (S := fun w' => w'.cell? ⟨gb152, 0, none⟩ = some (.slice (some ad174) l0_0.length c0_0) ∧ w'.cell? ⟨gb153, 0, none⟩ = some (.string a1_0) ∧ w'.cell? ⟨gb153, 1, none⟩ = some (.slice A1_1 l1_1.length c1_1) ∧ w'.cell? ⟨gb153, 2, none⟩ = some (.slice A1_2 l1_2.length c1_2) ∧ w'.cell? (ad174.add ((x7_1).toNat * 3)) = some (.string ((rd_T55 l0_0 x7_1).f0)) ∧ w'.cell? ⟨(ad174.add ((x7_1).toNat * 3)).block, (ad174.add ((x7_1).toNat * 3)).off + 1, none⟩ = some (.slice A174_1 ((rd_T55 l0_0 x7_1).f1).length c174_1) ∧ w'.cell? ⟨(ad174.add ((x7_1).toNat * 3)).block, (ad174.add ((x7_1).toNat * 3)).off + 2, none⟩ = some (.slice A174_2 ((rd_T55 l0_0 x7_1).f2).length c174_2)) (ds := []) #[false, false, false, false, false, false, false, false, false] (by kernel_rfl) rfl rfl ⟨(blk_cell BK152.out 0).trans rfl, (blk_cell BK153.out 0).trans rfl, (blk_cell BK153.out 1).trans rfl, (blk_cell BK153.out 2).trans rfl, hx174_0, hx174_1, hx174_2⟩ (fun hHeld => ?_); refine with_tabW spec_l03Put.tab9 spec_l03Put.bits9 (fun HT_ HW_ => ?_)
         generalize wc.drew = w58 at HO_153000 HO_154001 HO_154002 HO_156000 BK152 BK153 BK154 BK155 HB HL174_1 HL174_2 HR174_1 HR174_2 hx174_0 hx174_1 hx174_2 hHeld ⊢
         refine SQ.pu 0 35 HT_ ?_
         refine SQ.pu 2 37 HT_ ?_
         refine SQ.pu 6 41 HT_ ?_
         refine SQ.tk 1 36 HT_ HW_ hHeld ?_
         refine SQ.pu 3 38 HT_ ?_
         refine SQ.pu 4 39 HT_ ?_
         refine SQ.tk 5 40 HT_ HW_ hHeld ?_
         refine SQ.tk 7 42 HT_ HW_ hHeld ?_
         refine SQ.pu 8 43 HT_ ?_
         refine done_ (done_of HT_.out (by kernel_rfl)) ?_
         try go_wp2
         go_roundg kj11
         case measure => have := HK1.out; have := HJ11.out; omega
         case rel => exact ⟨(x6_1), (wrap64 (x7_1 + 1)), (x156000_1), (u156000), (by first | rfl | (simp; done) | (simp [*]; done)), (by first | rfl | (simp; done) | (simp [*]; done)), H', ⟨by have := HK1.out; have := HJ11.out; omega⟩, ⟨by (with_reducible repeat (first | apply V_alloc | apply V_drewN | apply V_drew)); exact HO_153000.out⟩, ⟨by (with_reducible repeat (first | apply V_alloc | apply V_drewN | apply V_drew)); exact HO_154001.out⟩, ⟨by (with_reducible repeat (first | apply V_alloc | apply V_drewN | apply V_drew)); exact HO_154002.out⟩, ⟨by (with_reducible repeat (first | apply N_alloc | apply N_drewN | apply N_drew)); exact HO_156000.out⟩, ⟨by (with_reducible repeat (first | refine Za ?_ _ | refine Zb ?_ | refine blk_alloc ?_ _)); exact BK152.out⟩, ⟨by (with_reducible repeat (first | refine Za ?_ _ | refine Zb ?_ | refine blk_alloc ?_ _)); exact BK153.out⟩, ⟨by (with_reducible repeat (first | refine Za ?_ _ | refine Zb ?_ | refine blk_alloc ?_ _)); exact BK154.out⟩, ⟨by (with_reducible repeat (first | refine Za ?_ _ | refine Zb ?_ | refine blk_alloc ?_ _)); exact BK155.out⟩, ⟨by repeat (first | (with_reducible first | exact HB.out | apply Zf | apply Zd | apply Ze | refine Zg ?_ GE152.out | refine Zg ?_ GE153.out | refine Zg ?_ GE154.out | refine Zg ?_ GE155.out) | exact HB.out)⟩⟩
        rw [if_neg c57] at H
        have c57b0 : (((rd_T55 l0_0 x7_1).f0).toList == a1_0.toList) = false := beq_eq_false_iff_ne.mpr c57
        have c57b1 : (((rd_T55 l0_0 x7_1).f0).toList != a1_0.toList) = true := bne_iff_ne.mpr c57
        by_cases c59 : x156000_1.length < 2199023255552
        ·
         rw [if_pos c59] at H
         have LMc59 := Zh c59
         clear c59
         obtain ⟨y176, hy176⟩ : ∃ y_ : List (S55), y_ = (x156000_1 ++ [(⟨(rd_T55 l0_0 x7_1).f0, (rd_T55 l0_0 x7_1).f1, (rd_T55 l0_0 x7_1).f2⟩ : S55)]) := ⟨_, rfl⟩
         replace H : (spec_l03Put.l0 kj11 x6_1 (wrap64 (x7_1 + 1)) l0_0 a1_0 l1_1 l1_2 y176) = some r := by first | (rw [hy176]; with_reducible exact H) | (have H2_ := (Option.bind_some _ _).symm.trans H; rw [hy176]; with_reducible exact H2_) | (have H2_ := (Option.bind_some _ _).symm.trans H; with_reducible exact H2_) | with_reducible exact H | (rw [hy176]; exact H) | exact H
         have Ny176 := Zh hy176
         clear hy176
         have H' := Zh H
         clear H
         try go_wp2
         have n0_ := Zh (V_drew HO_153000.out)
         have n1_ := Zh (V_drew HO_154001.out)
         have n2_ := Zh (V_drew HO_154002.out)
         have n3_ := Zh (N_drew HO_156000.out)
         have n4_ := Zh (Zb BK152.out)
         have n5_ := Zh (Zb BK153.out)
         have n6_ := Zh (Zb BK154.out)
         have n7_ := Zh (Zb BK155.out)
         have n8_ := Zh (Ze HB.out)
         clear HO_153000
         clear HO_154001
         clear HO_154002
         clear HO_156000
         clear BK152
         clear BK153
         clear BK154
         clear BK155
         clear HB
         have HO_153000 := n0_
         have HO_154001 := n1_
         have HO_154002 := n2_
         have HO_156000 := n3_
         have BK152 := n4_
         have BK153 := n5_
         have BK154 := n6_
         have BK155 := n7_
         have HB := n8_
         clear n0_ n1_ n2_ n3_ n4_ n5_ n6_ n7_ n8_
         have p174 : 0 ≤ (x7_1 : Int) := Zo
         have q174 : x7_1 < (l0_0.length : Int) := Zo
         obtain ⟨ad174, A174_1, c174_1, A174_2, c174_2, e174, hx174_0, hx174_1, hx174_2, hl174_1, hi174_1, hl174_2, hi174_2⟩ := at_T55 (V_reads' HO_153000.out).2.2 x7_1 p174 q174
         cases e174
         obtain ⟨ce174, hce174, hMe174, hcc174⟩ := V_get HO_153000.out z55 x7_1 p174 (by first | exact q174 | exact Zo | (have e_ := (V_reads' HO_153000.out).1; omega))
         obtain ⟨ua174_1, uc174_1, ua174_2, uc174_2, rfl, ul174_1, ge174_1, ul174_2, ge174_2⟩ := k55_openF hMe174
         have hv174_1 := hcc174 1 _ rfl
         rw [add_field _ _ 1 (by omega)] at hv174_1
         replace hv174_1 := Option.some.inj (hv174_1.symm.trans hx174_1)
         injection hv174_1 with hva_ hvn_ hvc_
         rw [hva_] at ge174_1
         rw [hvc_] at ul174_1
         have HL174_1 := Zh (show Kd.V (Kd.int .u8) 5 _ w.heap.size _ _ ((rd_T55 l0_0 x7_1).f1) from V_mk ul174_1 ge174_1)
         clear hva_ hvn_ hvc_ ge174_1 ul174_1
         have hv174_2 := hcc174 2 _ rfl
         rw [add_field _ _ 2 (by omega)] at hv174_2
         replace hv174_2 := Option.some.inj (hv174_2.symm.trans hx174_2)
         injection hv174_2 with hva_ hvn_ hvc_
         rw [hva_] at ge174_2
         rw [hvc_] at ul174_2
         have HL174_2 := Zh (show Kd.V (Kd.int .u8) 5 _ w.heap.size _ _ ((rd_T55 l0_0 x7_1).f2) from V_mk ul174_2 ge174_2)
         clear hva_ hvn_ hvc_ ge174_2 ul174_2
         clear hcc174 hce174
         have HR174_1 := Zh hi174_1
         have HC174_1 := Zh hl174_1
         clear hi174_1 hl174_1
         have HR174_2 := Zh hi174_2
         have HC174_2 := Zh hl174_2
         clear hi174_2 hl174_2
         replace p174 := eq_true p174
         replace q174 := eq_true q174
         refine start_ (n := 9) (S := fun w' => w'.cell? ⟨gb152, 0, none⟩ = some (.slice (some ad174) l0_0.length c0_0) ∧ w'.cell? ⟨gb153, 0, none⟩ = some (.string a1_0) ∧ w'.cell? ⟨gb153, 1, none⟩ = some (.slice A1_1 l1_1.length c1_1) ∧ w'.cell? ⟨gb153, 2, none⟩ = some (.slice A1_2 l1_2.length c1_2) ∧ w'.cell? (ad174.add ((x7_1).toNat * 3)) = some (.string ((rd_T55 l0_0 x7_1).f0)) ∧ w'.cell? ⟨(ad174.add ((x7_1).toNat * 3)).block, (ad174.add ((x7_1).toNat * 3)).off + 1, none⟩ = some (.slice A174_1 ((rd_T55 l0_0 x7_1).f1).length c174_1) ∧ w'.cell? ⟨(ad174.add ((x7_1).toNat * 3)).block, (ad174.add ((x7_1).toNat * 3)).off + 2, none⟩ = some (.slice A174_2 ((rd_T55 l0_0 x7_1).f2).length c174_2)) (ds := []) #[false, false, false, false, false, false, false, false, false] (by kernel_rfl) rfl rfl ⟨(blk_cell BK152.out 0).trans rfl, (blk_cell BK153.out 0).trans rfl, (blk_cell BK153.out 1).trans rfl, (blk_cell BK153.out 2).trans rfl, hx174_0, hx174_1, hx174_2⟩ (fun hHeld => ?_); refine with_tabW spec_l03Put.tab9 spec_l03Put.bits9 (fun HT_ HW_ => ?_)
         generalize wc.drew = w60 at HO_153000 HO_154001 HO_154002 HO_156000 BK152 BK153 BK154 BK155 HB HL174_1 HL174_2 HR174_1 HR174_2 hx174_0 hx174_1 hx174_2 hHeld ⊢
         refine SQ.pu 0 35 HT_ ?_
         refine SQ.pu 2 37 HT_ ?_
         refine SQ.pu 6 41 HT_ ?_
         refine SQ.tk 1 36 HT_ HW_ hHeld ?_
         refine SQ.pu 3 38 HT_ ?_
         refine SQ.pu 4 39 HT_ ?_
         refine SQ.tk 5 40 HT_ HW_ hHeld ?_
         refine SQ.tk 7 42 HT_ HW_ hHeld ?_
         refine SQ.pu 8 43 HT_ ?_
         refine done_ (done_of HT_.out (by kernel_rfl)) ?_
         try go_wp2
         have n0_ := Zh (V_drew HO_153000.out)
         have n1_ := Zh (V_drew HO_154001.out)
         have n2_ := Zh (V_drew HO_154002.out)
         have n3_ := Zh (N_drew HO_156000.out)
         have n4_ := Zh (V_drew HL174_1.out)
         have n5_ := Zh (V_drew HL174_2.out)
         have n6_ := Zh (Zb BK152.out)
         have n7_ := Zh (Zb BK153.out)
         have n8_ := Zh (Zb BK154.out)
         have n9_ := Zh (Zb BK155.out)
         have n10_ := Zh (C_drew HR174_1.out)
         have n11_ := Zh (C_drew HR174_2.out)
         have n12_ := Zh (Ze HB.out)
         clear HO_153000
         clear HO_154001
         clear HO_154002
         clear HO_156000
         clear HL174_1
         clear HL174_2
         clear BK152
         clear BK153
         clear BK154
         clear BK155
         clear HR174_1
         clear HR174_2
         clear HB
         have HO_153000 := n0_
         have HO_154001 := n1_
         have HO_154002 := n2_
         have HO_156000 := n3_
         have HL174_1 := n4_
         have HL174_2 := n5_
         have BK152 := n6_
         have BK153 := n7_
         have BK154 := n8_
         have BK155 := n9_
         have HR174_1 := n10_
         have HR174_2 := n11_
         have HB := n12_
         clear n0_ n1_ n2_ n3_ n4_ n5_ n6_ n7_ n8_ n9_ n10_ n11_ n12_
         have p175 : 0 ≤ (x7_1 : Int) := Zo
         have q175 : x7_1 < (l0_0.length : Int) := Zo
         obtain ⟨ad175, A175_1, c175_1, A175_2, c175_2, e175, hx175_0, hx175_1, hx175_2, hl175_1, hi175_1, hl175_2, hi175_2⟩ := at_T55 (V_reads' HO_153000.out).2.2 x7_1 p175 q175
         obtain rfl : ad174 = ad175 := (by injection e175)
         obtain ⟨ce175, hce175, hMe175, hcc175⟩ := V_get HO_153000.out z55 x7_1 p175 (by first | exact q175 | exact Zo | (have e_ := (V_reads' HO_153000.out).1; omega))
         obtain ⟨ua175_1, uc175_1, ua175_2, uc175_2, rfl, ul175_1, ge175_1, ul175_2, ge175_2⟩ := k55_openF hMe175
         have hv175_1 := hcc175 1 _ rfl
         rw [add_field _ _ 1 (by omega)] at hv175_1
         replace hv175_1 := Option.some.inj (hv175_1.symm.trans hx175_1)
         injection hv175_1 with hva_ hvn_ hvc_
         rw [hva_] at ge175_1
         rw [hvc_] at ul175_1
         have HL175_1 := Zh (show Kd.V (Kd.int .u8) 5 _ w.heap.size _ _ ((rd_T55 l0_0 x7_1).f1) from V_mk ul175_1 ge175_1)
         clear hva_ hvn_ hvc_ ge175_1 ul175_1
         have hv175_2 := hcc175 2 _ rfl
         rw [add_field _ _ 2 (by omega)] at hv175_2
         replace hv175_2 := Option.some.inj (hv175_2.symm.trans hx175_2)
         injection hv175_2 with hva_ hvn_ hvc_
         rw [hva_] at ge175_2
         rw [hvc_] at ul175_2
         have HL175_2 := Zh (show Kd.V (Kd.int .u8) 5 _ w.heap.size _ _ ((rd_T55 l0_0 x7_1).f2) from V_mk ul175_2 ge175_2)
         clear hva_ hvn_ hvc_ ge175_2 ul175_2
         clear hcc175 hce175
         have HR175_1 := Zh hi175_1
         have HC175_1 := Zh hl175_1
         clear hi175_1 hl175_1
         have HR175_2 := Zh hi175_2
         have HC175_2 := Zh hl175_2
         clear hi175_2 hl175_2
         replace p175 := eq_true p175
         replace q175 := eq_true q175
         refine start_ (n := 11) (S := fun w' => w'.cell? ⟨gb155, 0, none⟩ = some (u156000) ∧ w'.cell? ⟨gb152, 0, none⟩ = some (.slice (some ad174) l0_0.length c0_0) ∧ w'.cell? (ad174.add ((x7_1).toNat * 3)) = some (.string ((rd_T55 l0_0 x7_1).f0)) ∧ w'.cell? ⟨(ad174.add ((x7_1).toNat * 3)).block, (ad174.add ((x7_1).toNat * 3)).off + 1, none⟩ = some (.slice A175_1 ((rd_T55 l0_0 x7_1).f1).length c175_1) ∧ w'.cell? ⟨(ad174.add ((x7_1).toNat * 3)).block, (ad174.add ((x7_1).toNat * 3)).off + 2, none⟩ = some (.slice A175_2 ((rd_T55 l0_0 x7_1).f2).length c175_2)) (ds := [8, 10]) #[false, false, false, false, false, false, false, false, false, false, false] (by kernel_rfl) rfl rfl ⟨(blk_cell BK155.out 0).trans rfl, (blk_cell BK152.out 0).trans rfl, hx175_0, hx175_1, hx175_2⟩ (fun hHeld => ?_); refine with_tabW spec_l03Put.tab10 spec_l03Put.bits10 (fun HT_ HW_ => ?_)
         generalize w60.drew = w61 at HO_153000 HO_154001 HO_154002 HO_156000 HL174_1 HL174_2 BK152 BK153 BK154 BK155 HR174_1 HR174_2 HB HL175_1 HL175_2 HR175_1 HR175_2 hx175_0 hx175_1 hx175_2 hHeld ⊢
         refine SQ.pu 0 44 HT_ ?_
         refine SQ.pu 2 46 HT_ ?_
         refine SQ.pu 4 48 HT_ ?_
         refine SQ.tk 1 45 HT_ HW_ hHeld ?_
         refine SQ.tk 3 47 HT_ HW_ hHeld ?_
         refine SQ.pu 5 49 HT_ ?_
         refine SQ.tk 6 50 HT_ HW_ hHeld ?_
         refine one_ (i := 7) (N := some 51) #[true, true, true, true, true, true, true, true, false, false, false] rfl rfl (one_of HT_.out (by kernel_rfl)) (by decide) (fun K hK => ?_)
         refine value_ (w1 := ?_) (v := ?_) (by rfl) rfl ?_ ?_
         rotate_left 2
         ·
          go_simp
          constructor
          ·
           rfl
          rfl
         refine hK.out _ _ ⟨(blk_cell (blk_alloc BK155.out _) 0).trans rfl, (blk_cell (blk_alloc BK152.out _) 0).trans rfl, (World.cell?_alloc_lt _ _ _ (Zi _ _ (hHeld.2.2.1))).trans (hHeld.2.2.1), (World.cell?_alloc_lt _ _ _ (Zi _ _ (hHeld.2.2.2.1))).trans (hHeld.2.2.2.1), (World.cell?_alloc_lt _ _ _ (Zi _ _ (hHeld.2.2.2.2))).trans (hHeld.2.2.2.2)⟩ (fun hHeld => ?_)
         clear hK K
         refine norm_ (a' := ?_) ?_ ?_
         rotate_left
         ·
          show Act.put _ (some 51) _ = _
          simp only [Act.put, List.setIfInBounds_toArray, List.set_cons_zero, List.set_cons_succ, i64_w, i32_w]
          rfl
         refine last_ (i := 8) (N := some 52) #[true, true, true, true, true, true, true, true, true, false, false] rfl rfl (one_of HT_.out (by kernel_rfl)) (by decide) (fun K hK => ?_)
         refine N_append_step k55 (w0 := w) w.heap.size (by rfl) (.tmp 45) (.tmp 51) 26 55 (.agg #[(.string ⟨#[]⟩), (.slice none 0 0), (.slice none 0 0)]) 64 rfl Tryd.underlying26 info55 rfl (by decide) (by omega) u156000 x156000_1 (⟨(rd_T55 l0_0 x7_1).f0, (rd_T55 l0_0 x7_1).f1, (rd_T55 l0_0 x7_1).f2⟩ : S55) [.string ((rd_T55 l0_0 x7_1).f0), .slice A175_1 ((rd_T55 l0_0 x7_1).f1).length c175_1, .slice A175_2 ((rd_T55 l0_0 x7_1).f2).length c175_2] (fun k_ => ((P0_0_ k_ ∨ P1_1_ k_ ∨ P1_2_ k_) ∨ w.heap.size ≤ k_) ∧ k_ ≠ gb152 ∧ k_ ≠ gb153 ∧ k_ ≠ gb154 ∧ k_ ≠ gb155) (fun k_ => ((fun k_ => ((P0_0_ k_ ∨ P1_1_ k_ ∨ P1_2_ k_) ∨ w.heap.size ≤ k_) ∧ k_ ≠ gb152 ∧ k_ ≠ gb153 ∧ k_ ≠ gb154 ∧ k_ ≠ gb155)) k_ ∧ some k_ ≠ (u156000 : Value).ownBlock) rfl rfl ?aP (fun _ hk => hk) ?aF ?aO ?aB ?aS ?aL ?_
         (case aP => exact (k55_mkF _ _ (⟨(rd_T55 l0_0 x7_1).f0, (rd_T55 l0_0 x7_1).f1, (rd_T55 l0_0 x7_1).f2⟩ : S55) (V_reads' (V_mono (ok' := (fun k_ => ((fun k_ => ((P0_0_ k_ ∨ P1_1_ k_ ∨ P1_2_ k_) ∨ w.heap.size ≤ k_) ∧ k_ ≠ gb152 ∧ k_ ≠ gb153 ∧ k_ ≠ gb154 ∧ k_ ≠ gb155)) k_ ∧ some k_ ≠ (u156000 : Value).ownBlock)) (HL175_1.out) (fun k_ hk => ⟨⟨hk.1, ⟨hk.2.2.1, ⟨hk.2.2.2.1, ⟨hk.2.2.2.2.1, hk.2.2.2.2.2⟩⟩⟩⟩, hk.2.1⟩))).2.1 (V_F (V_mono (ok' := (fun k_ => ((fun k_ => ((P0_0_ k_ ∨ P1_1_ k_ ∨ P1_2_ k_) ∨ w.heap.size ≤ k_) ∧ k_ ≠ gb152 ∧ k_ ≠ gb153 ∧ k_ ≠ gb154 ∧ k_ ≠ gb155)) k_ ∧ some k_ ≠ (u156000 : Value).ownBlock)) (HL175_1.out) (fun k_ hk => ⟨⟨hk.1, ⟨hk.2.2.1, ⟨hk.2.2.2.1, ⟨hk.2.2.2.2.1, hk.2.2.2.2.2⟩⟩⟩⟩, hk.2.1⟩))) (V_reads' (V_mono (ok' := (fun k_ => ((fun k_ => ((P0_0_ k_ ∨ P1_1_ k_ ∨ P1_2_ k_) ∨ w.heap.size ≤ k_) ∧ k_ ≠ gb152 ∧ k_ ≠ gb153 ∧ k_ ≠ gb154 ∧ k_ ≠ gb155)) k_ ∧ some k_ ≠ (u156000 : Value).ownBlock)) (HL175_2.out) (fun k_ hk => ⟨⟨hk.1, ⟨hk.2.2.1, ⟨hk.2.2.2.1, ⟨hk.2.2.2.2.1, hk.2.2.2.2.2⟩⟩⟩⟩, hk.2.1⟩))).2.1 (V_F (V_mono (ok' := (fun k_ => ((fun k_ => ((P0_0_ k_ ∨ P1_1_ k_ ∨ P1_2_ k_) ∨ w.heap.size ≤ k_) ∧ k_ ≠ gb152 ∧ k_ ≠ gb153 ∧ k_ ≠ gb154 ∧ k_ ≠ gb155)) k_ ∧ some k_ ≠ (u156000 : Value).ownBlock)) (HL175_2.out) (fun k_ hk => ⟨⟨hk.1, ⟨hk.2.2.1, ⟨hk.2.2.2.1, ⟨hk.2.2.2.2.1, hk.2.2.2.2.2⟩⟩⟩⟩, hk.2.1⟩)))))
         (case aB => exact Zs)
         (case aF => exact (fun k_ hk => ⟨(.inr (Nat.le_trans (below_size Zs) hk)), Kd.freshB (g := gb152) (o := .cells #[.slice (some ad174) l0_0.length c0_0] 28 (0, 0)) Zk k_ hk, Kd.freshB (g := gb153) (o := .cells #[.string a1_0, .slice A1_1 l1_1.length c1_1, .slice A1_2 l1_2.length c1_2] 55 (0, 0)) Zk k_ hk, Kd.freshB (g := gb154) (o := .cells #[.slice none 0 0] 28 (0, 0)) Zk k_ hk, Kd.freshB (g := gb155) (o := .cells #[u156000] 28 (0, 0)) Zk k_ hk⟩))
         (case aO => exact (by (with_reducible repeat (first | apply N_alloc | apply N_drewN | apply N_drew)); exact HO_156000.out))
         (case aS => exact (below_size Zs))
         (case aL => have := LMc59.out; omega)
         intro v177 w62 ho hb hg hat
         rw [← Ny176.out] at ho
         have n0_ := Zh (V_afterv (ok := (fun k_ => ((P0_0_ k_ ∨ P1_1_ k_ ∨ P1_2_ k_) ∨ w.heap.size ≤ k_) ∧ k_ ≠ gb152 ∧ k_ ≠ gb153 ∧ k_ ≠ gb154 ∧ k_ ≠ gb155)) (by (with_reducible repeat (first | apply V_alloc | apply V_drewN | apply V_drew)); exact V_mono HO_153000.out (fun _ hk => ⟨⟨hk.1, ⟨hk.2.2.1, ⟨hk.2.2.2.1, ⟨hk.2.2.2.2.1, hk.2.2.2.2.2⟩⟩⟩⟩, hk.2.1⟩)) hg hat)
         have n1_ := Zh (V_afterv (ok := (fun k_ => ((P0_0_ k_ ∨ P1_1_ k_ ∨ P1_2_ k_) ∨ w.heap.size ≤ k_) ∧ k_ ≠ gb152 ∧ k_ ≠ gb153 ∧ k_ ≠ gb154 ∧ k_ ≠ gb155)) (by (with_reducible repeat (first | apply V_alloc | apply V_drewN | apply V_drew)); exact V_mono HO_154001.out (fun _ hk => ⟨⟨hk.1, ⟨hk.2.2.1, ⟨hk.2.2.2.1, ⟨hk.2.2.2.2.1, hk.2.2.2.2.2⟩⟩⟩⟩, hk.2.1⟩)) hg hat)
         have n2_ := Zh (V_afterv (ok := (fun k_ => ((P0_0_ k_ ∨ P1_1_ k_ ∨ P1_2_ k_) ∨ w.heap.size ≤ k_) ∧ k_ ≠ gb152 ∧ k_ ≠ gb153 ∧ k_ ≠ gb154 ∧ k_ ≠ gb155)) (by (with_reducible repeat (first | apply V_alloc | apply V_drewN | apply V_drew)); exact V_mono HO_154002.out (fun _ hk => ⟨⟨hk.1, ⟨hk.2.2.1, ⟨hk.2.2.2.1, ⟨hk.2.2.2.2.1, hk.2.2.2.2.2⟩⟩⟩⟩, hk.2.1⟩)) hg hat)
         have n3_ := Zh (blk_grown (g := gb152) (o := .cells #[.slice (some ad174) l0_0.length c0_0] 28 (0, 0)) Zk hg (N_ne HO_156000.out BK152.out (by decide)))
         have n4_ := Zh (blk_grown (g := gb153) (o := .cells #[.string a1_0, .slice A1_1 l1_1.length c1_1, .slice A1_2 l1_2.length c1_2] 55 (0, 0)) Zk hg (N_away HO_156000.out (fun _ hk => hk.2.2.1)))
         have n5_ := Zh (blk_grown (g := gb154) (o := .cells #[.slice none 0 0] 28 (0, 0)) Zk hg (N_ne HO_156000.out BK154.out (by decide)))
         have n6_ := Zh (blk_grown (g := gb155) (o := .cells #[u156000] 28 (0, 0)) Zk hg (N_ne HO_156000.out BK155.out (by decide)))
         have n7_ := Zh (V_afterv (ok := (fun k_ => ((P0_0_ k_ ∨ P1_1_ k_ ∨ P1_2_ k_) ∨ w.heap.size ≤ k_) ∧ k_ ≠ gb152 ∧ k_ ≠ gb153 ∧ k_ ≠ gb154 ∧ k_ ≠ gb155)) (by (with_reducible repeat (first | apply V_alloc | apply V_drewN | apply V_drew)); exact V_mono HL174_1.out (fun _ hk => ⟨⟨hk.1, ⟨hk.2.2.1, ⟨hk.2.2.2.1, ⟨hk.2.2.2.2.1, hk.2.2.2.2.2⟩⟩⟩⟩, hk.2.1⟩)) hg hat)
         have n8_ := Zh (V_afterv (ok := (fun k_ => ((P0_0_ k_ ∨ P1_1_ k_ ∨ P1_2_ k_) ∨ w.heap.size ≤ k_) ∧ k_ ≠ gb152 ∧ k_ ≠ gb153 ∧ k_ ≠ gb154 ∧ k_ ≠ gb155)) (by (with_reducible repeat (first | apply V_alloc | apply V_drewN | apply V_drew)); exact V_mono HL174_2.out (fun _ hk => ⟨⟨hk.1, ⟨hk.2.2.1, ⟨hk.2.2.2.1, ⟨hk.2.2.2.2.1, hk.2.2.2.2.2⟩⟩⟩⟩, hk.2.1⟩)) hg hat)
         have n9_ := Zh (V_afterv (ok := (fun k_ => ((P0_0_ k_ ∨ P1_1_ k_ ∨ P1_2_ k_) ∨ w.heap.size ≤ k_) ∧ k_ ≠ gb152 ∧ k_ ≠ gb153 ∧ k_ ≠ gb154 ∧ k_ ≠ gb155)) (by (with_reducible repeat (first | apply V_alloc | apply V_drewN | apply V_drew)); exact V_mono HL175_1.out (fun _ hk => ⟨⟨hk.1, ⟨hk.2.2.1, ⟨hk.2.2.2.1, ⟨hk.2.2.2.2.1, hk.2.2.2.2.2⟩⟩⟩⟩, hk.2.1⟩)) hg hat)
         have n10_ := Zh (V_afterv (ok := (fun k_ => ((P0_0_ k_ ∨ P1_1_ k_ ∨ P1_2_ k_) ∨ w.heap.size ≤ k_) ∧ k_ ≠ gb152 ∧ k_ ≠ gb153 ∧ k_ ≠ gb154 ∧ k_ ≠ gb155)) (by (with_reducible repeat (first | apply V_alloc | apply V_drewN | apply V_drew)); exact V_mono HL175_2.out (fun _ hk => ⟨⟨hk.1, ⟨hk.2.2.1, ⟨hk.2.2.2.1, ⟨hk.2.2.2.2.1, hk.2.2.2.2.2⟩⟩⟩⟩, hk.2.1⟩)) hg hat)
         have n11_ := Zh (hb)
         have n12_ := Zh (ho)
         clear HO_153000
         clear HO_154001
         clear HO_154002
         clear BK152
         clear BK153
         clear BK154
         clear BK155
         clear HL174_1
         clear HL174_2
         clear HL175_1
         clear HL175_2
         clear HB
         clear HO_156000
         have HO_153000 := n0_
         have HO_154001 := n1_
         have HO_154002 := n2_
         have BK152 := n3_
         have BK153 := n4_
         have BK154 := n5_
         have BK155 := n6_
         have HL174_1 := n7_
         have HL174_2 := n8_
         have HL175_1 := n9_
         have HL175_2 := n10_
         have HB := n11_
         have HO178 := n12_
         clear n0_ n1_ n2_ n3_ n4_ n5_ n6_ n7_ n8_ n9_ n10_ n11_ n12_
         clear ho hb hg hat
         obtain ⟨Ao63, co63, eo63⟩ := N_slice HO178.out
         (first | subst eo63 | (injection eo63 with f1_ f2_ f3_; have f4_ := f1_.symm; have f5_ := f3_.symm; clear f1_ f2_ f3_; subst f4_; subst f5_))
         refine hK.out _ _ ?_
         clear hK K
         refine norm_ (a' := ?_) ?_ ?_
         rotate_left
         ·
          show Act.put _ (some 52) _ = _
          simp only [Act.put, List.setIfInBounds_toArray, List.set_cons_zero, List.set_cons_succ, i64_w, i32_w]
          rfl
         refine SQ.pu 9 53 HT_ ?_
         refine last_ (i := 10) (N := none) #[true, true, true, true, true, true, true, true, true, true, true] rfl rfl (one_of HT_.out (by kernel_rfl)) (by decide) (fun K hK => ?_)
         have hs64 : w62.cell? ⟨gb155, 0, none⟩ = some (u156000) := (blk_cell BK155.out 0).trans rfl
         have hfs64 := Zn BK155.out 0
         have hns64_0 := NB152_155.out
         have hns64_1 := NB153_155.out
         have hns64_2 := NB154_155.out
         have hms64_0 := NB155_152.out
         have hms64_1 := NB155_153.out
         have hms64_2 := NB155_154.out
         refine skip_ (w1 := ?_) (by rfl) rfl ?_ ?_
         rotate_left
         ·
          go_simp
          rfl
         refine hK.out _ _ ?_
         clear hK K
         refine done_ (done_of HT_.out (by kernel_rfl)) ?_
         try go_wp2
         go_roundg kj11
         case measure => have := HK1.out; have := HJ11.out; omega
         case rel => exact ⟨(x6_1), (wrap64 (x7_1 + 1)), (y176), (.slice Ao63 y176.length co63), (by first | rfl | (simp; done) | (simp [*]; done)), (by first | rfl | (simp; done) | (simp [*]; done)), H', ⟨by have := HK1.out; have := HJ11.out; omega⟩, ⟨by (with_reducible repeat (first | apply V_alloc | apply V_drewN | apply V_drew)); exact V_mono (V_far (p := ⟨gb155, 0, none⟩) (V_mono HO_153000.out (fun k_ hk => (⟨hk, hk.1.2.2.2.2⟩ : _ ∧ k_ ≠ gb155))) (fun _ hk => hk.2) (.slice Ao63 y176.length co63)) (fun _ hk => ⟨hk.1.1.1, ⟨hk.1.2, ⟨hk.1.1.2.1, ⟨hk.1.1.2.2.1, ⟨hk.1.1.2.2.2.1, hk.1.1.2.2.2.2⟩⟩⟩⟩⟩)⟩, ⟨by (with_reducible repeat (first | apply V_alloc | apply V_drewN | apply V_drew)); exact V_mono (V_far (p := ⟨gb155, 0, none⟩) (V_mono HO_154001.out (fun k_ hk => (⟨hk, hk.1.2.2.2.2⟩ : _ ∧ k_ ≠ gb155))) (fun _ hk => hk.2) (.slice Ao63 y176.length co63)) (fun _ hk => ⟨hk.1.1.1, ⟨hk.1.2, ⟨hk.1.1.2.1, ⟨hk.1.1.2.2.1, ⟨hk.1.1.2.2.2.1, hk.1.1.2.2.2.2⟩⟩⟩⟩⟩)⟩, ⟨by (with_reducible repeat (first | apply V_alloc | apply V_drewN | apply V_drew)); exact V_mono (V_far (p := ⟨gb155, 0, none⟩) (V_mono HO_154002.out (fun k_ hk => (⟨hk, hk.1.2.2.2.2⟩ : _ ∧ k_ ≠ gb155))) (fun _ hk => hk.2) (.slice Ao63 y176.length co63)) (fun _ hk => ⟨hk.1.1.1, ⟨hk.1.2, ⟨hk.1.1.2.1, ⟨hk.1.1.2.2.1, ⟨hk.1.1.2.2.2.1, hk.1.1.2.2.2.2⟩⟩⟩⟩⟩)⟩, ⟨by (with_reducible repeat (first | apply N_alloc | apply N_drewN | apply N_drew)); exact N_mono (N_far (p := ⟨gb155, 0, none⟩) (N_mono HO178.out (fun k_ hk => (⟨hk, hk.2.2.2.2⟩ : _ ∧ k_ ≠ gb155))) (fun _ hk => hk.2) (.slice Ao63 y176.length co63)) (fun _ hk => ⟨hk.1.1, ⟨hk.1.2.1, ⟨hk.1.2.2.1, ⟨hk.1.2.2.2.1, hk.1.2.2.2.2⟩⟩⟩⟩)⟩, ⟨by (with_reducible repeat (first | refine Za ?_ _ | refine Zb ?_ | refine blk_alloc ?_ _)); refine Zp ?_ NB152_155.out _; (with_reducible repeat (first | refine Za ?_ _ | refine Zb ?_ | refine blk_alloc ?_ _)); exact BK152.out⟩, ⟨by (with_reducible repeat (first | refine Za ?_ _ | refine Zb ?_ | refine blk_alloc ?_ _)); refine Zp ?_ NB153_155.out _; (with_reducible repeat (first | refine Za ?_ _ | refine Zb ?_ | refine blk_alloc ?_ _)); exact BK153.out⟩, ⟨by (with_reducible repeat (first | refine Za ?_ _ | refine Zb ?_ | refine blk_alloc ?_ _)); refine Zp ?_ NB154_155.out _; (with_reducible repeat (first | refine Za ?_ _ | refine Zb ?_ | refine blk_alloc ?_ _)); exact BK154.out⟩, ⟨by (with_reducible repeat (first | refine Za ?_ _ | refine Zb ?_ | refine blk_alloc ?_ _)); refine blk_put (cs := #[u156000]) ?_ 0 _ rfl; (with_reducible repeat (first | refine Za ?_ _ | refine Zb ?_ | refine blk_alloc ?_ _)); exact BK155.out⟩, ⟨by repeat (first | (with_reducible first | exact HB.out | apply Zf | apply Zd | apply Ze | refine Zg ?_ GE152.out | refine Zg ?_ GE153.out | refine Zg ?_ GE154.out | refine Zg ?_ GE155.out) | exact HB.out)⟩⟩
        rw [if_neg c59] at H
        exact absurd H (by simp)
       rw [if_neg c56] at H
       exact absurd H (by simp)
      rw [if_neg c55] at H
      exact absurd H (by simp)
   rw [if_neg c11] at H
   have c11b0 : decide (x7_1 < (l0_0.length : Int)) = false := decide_eq_false c11
   clear c11
   by_cases c65 : x6_1 = true
   ·
    subst c65
    have H1 : ((spec_l03Copy.f k1 x156000_1).bind fun t156 => (some t156)) = some r := by rw [if_pos rfl] at H; exact H
    clear H
    have H := H1
    clear H1
    replace H := Option.bind_eq_some_iff.mp H
    obtain ⟨t156, A660, H⟩ := H
    replace H : (some t156) = some r := H
    have A66 := Zh A660
    clear A660
    obtain rfl := Option.some.inj H
    have hnb67 := NB152_153.out
    have hnc67 := NB153_152.out
    have hnb68 := NB152_154.out
    have hnc68 := NB154_152.out
    have hnb69 := NB152_155.out
    have hnc69 := NB155_152.out
    have hcz70_0 : wr.cell? ⟨gb152, 0, none⟩ = some (.slice A0_0 l0_0.length c0_0) := (blk_cell BK152.out 0).trans rfl
    have hfz70_0 := Zn BK152.out 0
    have hnb71 := NB155_153.out
    have hnc71 := NB153_155.out
    have hnb72 := NB155_154.out
    have hnc72 := NB154_155.out
    have hcz73_0 : wr.cell? ⟨gb155, 0, none⟩ = some (u156000) := (blk_cell BK155.out 0).trans rfl
    have hfz73_0 := Zn BK155.out 0
    obtain ⟨Ao74, co74, eo74⟩ := N_slice HO_156000.out
    subst eo74
    go_wp2_with (first | ((with_reducible refine gate_callee (f := 54) rfl ?_); refine goesL_ (some 63) rfl rfl Tryd.func54 (by kernel_rfl) rfl #[.agg #[.slice Ao74 x156000_1.length co74]] rfl (by (try simp only [List.map_toArray, List.map_cons, List.map_nil]); first | done | rfl | (simp only [List.length_drop, List.length_take]; rfl)) ?_; (with_reducible refine (spec_l03Copy.calls k1 _ _ x156000_1 t156 _ ?side1 ?side2 A66.out).mono ?_); (case side1 => repeat (first | exact (N_reads' HO_156000.out).2.2 | (with_reducible refine C_alloc ?_ _) | (with_reducible refine C_drewN ?_ _) | (with_reducible refine C_drew ?_))); (case side2 => exact (N_reads' HO_156000.out).2.1); rintro e w75 ⟨v157, rfl, ho0, hb⟩; refine ⟨_, rfl, ?_⟩; have n0_ := Zh (V_elder' (by (with_reducible repeat (first | apply V_alloc | apply V_drewN | apply V_drew)); exact HO_153000.out) (S_base ho0) hb); have n1_ := Zh (V_elder' (by (with_reducible repeat (first | apply V_alloc | apply V_drewN | apply V_drew)); exact HO_154001.out) (S_base ho0) hb); have n2_ := Zh (V_elder' (by (with_reducible repeat (first | apply V_alloc | apply V_drewN | apply V_drew)); exact HO_154002.out) (S_base ho0) hb); have n3_ := Zh (N_elder' (by (with_reducible repeat (first | apply N_alloc | apply N_drewN | apply N_drew)); exact HO_156000.out) (S_base ho0) hb); have n4_ := Zh (N_lower (N_mono (ok' := fun k_ => ((P0_0_ k_ ∨ P1_1_ k_ ∨ P1_2_ k_) ∨ w.heap.size ≤ k_) ∧ some k_ ≠ (.slice Ao74 x156000_1.length co74 : Value).ownBlock ∧ k_ ≠ gb152 ∧ k_ ≠ gb153 ∧ k_ ≠ gb154 ∧ k_ ≠ gb155) (S_N (S_bound ho0)) (fun k_ hk_ => ⟨(.inr (Nat.le_trans (below_size Zs) hk_.2.1)), (Kd.fresh' (N_lt (by (with_reducible repeat (first | apply N_alloc | apply N_drewN | apply N_drew)); exact HO_156000.out)) k_ hk_.2.1), (Kd.freshB (g := gb152) (o := .cells #[.slice A0_0 l0_0.length c0_0] 28 (0, 0)) Zk k_ hk_.2.1), (Kd.freshB (g := gb153) (o := .cells #[.string a1_0, .slice A1_1 l1_1.length c1_1, .slice A1_2 l1_2.length c1_2] 55 (0, 0)) Zk k_ hk_.2.1), (Kd.freshB (g := gb154) (o := .cells #[.slice none 0 0] 28 (0, 0)) Zk k_ hk_.2.1), (Kd.freshB (g := gb155) (o := .cells #[.slice Ao74 x156000_1.length co74] 28 (0, 0)) Zk k_ hk_.2.1)⟩)) (below_size Zs)); have n5_ := Zh (Zm (g := gb152) (o := .cells #[.slice A0_0 l0_0.length c0_0] 28 (0, 0)) Zk hb); have n6_ := Zh (Zm (g := gb153) (o := .cells #[.string a1_0, .slice A1_1 l1_1.length c1_1, .slice A1_2 l1_2.length c1_2] 55 (0, 0)) Zk hb); have n7_ := Zh (Zm (g := gb154) (o := .cells #[.slice none 0 0] 28 (0, 0)) Zk hb); have n8_ := Zh (Zm (g := gb155) (o := .cells #[.slice Ao74 x156000_1.length co74] 28 (0, 0)) Zk hb); have n9_ := Zh (Zl Zs hb); clear HO_153000; clear HO_154001; clear HO_154002; clear HO_156000; clear BK152; clear BK153; clear BK154; clear BK155; clear HB; have HO_153000 := n0_; have HO_154001 := n1_; have HO_154002 := n2_; have HO_156000 := n3_; have HO158 := n4_; have BK152 := n5_; have BK153 := n6_; have BK154 := n7_; have BK155 := n8_; have HB := n9_; clear n0_ n1_ n2_ n3_ n4_ n5_ n6_ n7_ n8_ n9_; (try clear hb); (try clear hb2); (try clear hk); (try clear hi); (try clear ho0); obtain ⟨Ao76, co76, eo76⟩ := N_slice HO158.out; subst eo76; have hnb77 := NB154_153.out; have hnc77 := NB153_154.out; have hcz78_0 : w75.cell? ⟨gb154, 0, none⟩ = some (.slice none 0 0) := (blk_cell BK154.out 0).trans rfl; have hfz78_0 := Zn BK154.out 0))
    refine bodyPost_ret (results_cell_row rfl _ _ gb154 28 #[.slice Ao76 t156.length co76] (0, 0) _ rfl (by (with_reducible repeat (first | refine Za ?_ _ | refine Zb ?_ | refine blk_alloc ?_ _)); refine blk_put (cs := #[.slice none 0 0]) ?_ 0 _ rfl; (with_reducible repeat (first | refine Za ?_ _ | refine Zb ?_ | refine blk_alloc ?_ _)); exact BK154.out) Tryd.underlying28 rfl (by kernel_rfl)) rfl ?_
    exact ⟨_, by first | rfl | (simp [errW_none, errW_some] <;> rfl) | (simp [*, errW_none, errW_some] <;> rfl), by (with_reducible repeat (first | apply N_alloc | apply N_drewN | apply N_drew)); exact N_mono (N_far (p := ⟨gb154, 0, none⟩) (N_mono HO158.out (fun k_ hk => (⟨hk, hk.2.2.2.2.1⟩ : _ ∧ k_ ≠ gb154))) (fun _ hk => hk.2) (.slice Ao76 t156.length co76)) (fun _ hk => hk.1.1), by repeat (first | (with_reducible first | exact HB.out | apply Zf | apply Zd | apply Ze | refine Zg ?_ GE152.out | refine Zg ?_ GE153.out | refine Zg ?_ GE154.out | refine Zg ?_ GE155.out) | exact HB.out)⟩
   replace c65 := Bool.eq_false_iff.mpr c65
   subst c65
   have H1 : (if x156000_1.length < 2199023255552 then ((spec_l03Copy.f k1 (x156000_1 ++ [(⟨a1_0, l1_1, l1_2⟩ : S55)])).bind fun t162 => (some t162)) else (none)) = some r := by rw [if_neg (show ¬ (false = true) by decide)] at H; exact H
   clear H
   have H := H1
   clear H1
   by_cases c79 : x156000_1.length < 2199023255552
   ·
    rw [if_pos c79] at H
    have LMc79 := Zh c79
    clear c79
    obtain ⟨y159, hy159⟩ : ∃ y_ : List (S55), y_ = (x156000_1 ++ [(⟨a1_0, l1_1, l1_2⟩ : S55)]) := ⟨_, rfl⟩
    replace H : ((spec_l03Copy.f k1 y159).bind fun t162 => (some t162)) = some r := by first | (rw [hy159]; with_reducible exact H) | (have H2_ := (Option.bind_some _ _).symm.trans H; rw [hy159]; with_reducible exact H2_) | (have H2_ := (Option.bind_some _ _).symm.trans H; with_reducible exact H2_) | with_reducible exact H | (rw [hy159]; exact H) | exact H
    have Ny159 := Zh hy159
    clear hy159
    replace H := Option.bind_eq_some_iff.mp H
    obtain ⟨t162, A800, H⟩ := H
    replace H : (some t162) = some r := H
    have A80 := Zh A800
    clear A800
    obtain rfl := Option.some.inj H
    have hnb81 := NB152_153.out
    have hnc81 := NB153_152.out
    have hnb82 := NB152_154.out
    have hnc82 := NB154_152.out
    have hnb83 := NB152_155.out
    have hnc83 := NB155_152.out
    have hcz84_0 : wr.cell? ⟨gb152, 0, none⟩ = some (.slice A0_0 l0_0.length c0_0) := (blk_cell BK152.out 0).trans rfl
    have hfz84_0 := Zn BK152.out 0
    have hnb85 := NB155_153.out
    have hnc85 := NB153_155.out
    have hnb86 := NB155_154.out
    have hnc86 := NB154_155.out
    have hcz87_0 : wr.cell? ⟨gb155, 0, none⟩ = some (u156000) := (blk_cell BK155.out 0).trans rfl
    have hfz87_0 := Zn BK155.out 0
    have hnb88 := NB153_154.out
    have hnc88 := NB154_153.out
    have hcz89_0 : wr.cell? ⟨gb153, 0, none⟩ = some (.string a1_0) := (blk_cell BK153.out 0).trans rfl
    have hcz89_1 : wr.cell? ⟨gb153, 1, none⟩ = some (.slice A1_1 l1_1.length c1_1) := (blk_cell BK153.out 1).trans rfl
    have hcz89_2 : wr.cell? ⟨gb153, 2, none⟩ = some (.slice A1_2 l1_2.length c1_2) := (blk_cell BK153.out 2).trans rfl
    have hfz89_0 := Zn BK153.out 0
    have hfz89_1 := Zn BK153.out 1
    have hfz89_2 := Zn BK153.out 2
    go_wp2_with (first | ((with_reducible refine gate_builtin (b := .append) (xs := #[.tmp 57, .tmp 59]) rfl ?_); at_builtin; refine N_append k55 (w0 := w) w.heap.size rfl (.tmp 57) (.tmp 59) 26 55 (.agg #[(.string ⟨#[]⟩), (.slice none 0 0), (.slice none 0 0)]) 64 rfl Tryd.underlying26 info55 rfl (by decide) (by omega) u156000 x156000_1 (⟨a1_0, l1_1, l1_2⟩ : S55) [.string a1_0, .slice A1_1 l1_1.length c1_1, .slice A1_2 l1_2.length c1_2] (fun k_ => ((P0_0_ k_ ∨ P1_1_ k_ ∨ P1_2_ k_) ∨ w.heap.size ≤ k_) ∧ k_ ≠ gb152 ∧ k_ ≠ gb153 ∧ k_ ≠ gb154 ∧ k_ ≠ gb155) (fun k_ => ((fun k_ => ((P0_0_ k_ ∨ P1_1_ k_ ∨ P1_2_ k_) ∨ w.heap.size ≤ k_) ∧ k_ ≠ gb152 ∧ k_ ≠ gb153 ∧ k_ ≠ gb154 ∧ k_ ≠ gb155)) k_ ∧ some k_ ≠ (u156000 : Value).ownBlock) rfl rfl ?aP (fun _ hk => hk) ?aF ?aO ?aB ?aS ?aL ?_; (case aP => exact (k55_mkF _ _ (⟨a1_0, l1_1, l1_2⟩ : S55) (V_reads' (V_mono (ok' := (fun k_ => ((fun k_ => ((P0_0_ k_ ∨ P1_1_ k_ ∨ P1_2_ k_) ∨ w.heap.size ≤ k_) ∧ k_ ≠ gb152 ∧ k_ ≠ gb153 ∧ k_ ≠ gb154 ∧ k_ ≠ gb155)) k_ ∧ some k_ ≠ (u156000 : Value).ownBlock)) (HO_154001.out) (fun k_ hk => ⟨⟨hk.1, ⟨hk.2.2.1, ⟨hk.2.2.2.1, ⟨hk.2.2.2.2.1, hk.2.2.2.2.2⟩⟩⟩⟩, hk.2.1⟩))).2.1 (V_F (V_mono (ok' := (fun k_ => ((fun k_ => ((P0_0_ k_ ∨ P1_1_ k_ ∨ P1_2_ k_) ∨ w.heap.size ≤ k_) ∧ k_ ≠ gb152 ∧ k_ ≠ gb153 ∧ k_ ≠ gb154 ∧ k_ ≠ gb155)) k_ ∧ some k_ ≠ (u156000 : Value).ownBlock)) (HO_154001.out) (fun k_ hk => ⟨⟨hk.1, ⟨hk.2.2.1, ⟨hk.2.2.2.1, ⟨hk.2.2.2.2.1, hk.2.2.2.2.2⟩⟩⟩⟩, hk.2.1⟩))) (V_reads' (V_mono (ok' := (fun k_ => ((fun k_ => ((P0_0_ k_ ∨ P1_1_ k_ ∨ P1_2_ k_) ∨ w.heap.size ≤ k_) ∧ k_ ≠ gb152 ∧ k_ ≠ gb153 ∧ k_ ≠ gb154 ∧ k_ ≠ gb155)) k_ ∧ some k_ ≠ (u156000 : Value).ownBlock)) (HO_154002.out) (fun k_ hk => ⟨⟨hk.1, ⟨hk.2.2.1, ⟨hk.2.2.2.1, ⟨hk.2.2.2.2.1, hk.2.2.2.2.2⟩⟩⟩⟩, hk.2.1⟩))).2.1 (V_F (V_mono (ok' := (fun k_ => ((fun k_ => ((P0_0_ k_ ∨ P1_1_ k_ ∨ P1_2_ k_) ∨ w.heap.size ≤ k_) ∧ k_ ≠ gb152 ∧ k_ ≠ gb153 ∧ k_ ≠ gb154 ∧ k_ ≠ gb155)) k_ ∧ some k_ ≠ (u156000 : Value).ownBlock)) (HO_154002.out) (fun k_ hk => ⟨⟨hk.1, ⟨hk.2.2.1, ⟨hk.2.2.2.1, ⟨hk.2.2.2.2.1, hk.2.2.2.2.2⟩⟩⟩⟩, hk.2.1⟩))))); (case aB => exact Zs); (case aF => exact (fun k_ hk => ⟨(.inr (Nat.le_trans (below_size Zs) hk)), Kd.freshB (g := gb152) (o := .cells #[.slice A0_0 l0_0.length c0_0] 28 (0, 0)) Zk k_ hk, Kd.freshB (g := gb153) (o := .cells #[.string a1_0, .slice A1_1 l1_1.length c1_1, .slice A1_2 l1_2.length c1_2] 55 (0, 0)) Zk k_ hk, Kd.freshB (g := gb154) (o := .cells #[.slice none 0 0] 28 (0, 0)) Zk k_ hk, Kd.freshB (g := gb155) (o := .cells #[u156000] 28 (0, 0)) Zk k_ hk⟩)); (case aO => exact (by (with_reducible repeat (first | apply N_alloc | apply N_drewN | apply N_drew)); exact HO_156000.out)); (case aS => exact (below_size Zs)); (case aL => have := LMc79.out; omega); intro v160 w90 ho hb hg hat; rw [← Ny159.out] at ho; have n0_ := Zh (V_afterv (ok := (fun k_ => ((P0_0_ k_ ∨ P1_1_ k_ ∨ P1_2_ k_) ∨ w.heap.size ≤ k_) ∧ k_ ≠ gb152 ∧ k_ ≠ gb153 ∧ k_ ≠ gb154 ∧ k_ ≠ gb155)) (by (with_reducible repeat (first | apply V_alloc | apply V_drewN | apply V_drew)); exact V_mono HO_153000.out (fun _ hk => ⟨⟨hk.1, ⟨hk.2.2.1, ⟨hk.2.2.2.1, ⟨hk.2.2.2.2.1, hk.2.2.2.2.2⟩⟩⟩⟩, hk.2.1⟩)) hg hat); have n1_ := Zh (V_afterv (ok := (fun k_ => ((P0_0_ k_ ∨ P1_1_ k_ ∨ P1_2_ k_) ∨ w.heap.size ≤ k_) ∧ k_ ≠ gb152 ∧ k_ ≠ gb153 ∧ k_ ≠ gb154 ∧ k_ ≠ gb155)) (by (with_reducible repeat (first | apply V_alloc | apply V_drewN | apply V_drew)); exact V_mono HO_154001.out (fun _ hk => ⟨⟨hk.1, ⟨hk.2.2.1, ⟨hk.2.2.2.1, ⟨hk.2.2.2.2.1, hk.2.2.2.2.2⟩⟩⟩⟩, hk.2.1⟩)) hg hat); have n2_ := Zh (V_afterv (ok := (fun k_ => ((P0_0_ k_ ∨ P1_1_ k_ ∨ P1_2_ k_) ∨ w.heap.size ≤ k_) ∧ k_ ≠ gb152 ∧ k_ ≠ gb153 ∧ k_ ≠ gb154 ∧ k_ ≠ gb155)) (by (with_reducible repeat (first | apply V_alloc | apply V_drewN | apply V_drew)); exact V_mono HO_154002.out (fun _ hk => ⟨⟨hk.1, ⟨hk.2.2.1, ⟨hk.2.2.2.1, ⟨hk.2.2.2.2.1, hk.2.2.2.2.2⟩⟩⟩⟩, hk.2.1⟩)) hg hat); have n3_ := Zh (blk_grown (g := gb152) (o := .cells #[.slice A0_0 l0_0.length c0_0] 28 (0, 0)) Zk hg (N_ne HO_156000.out BK152.out (by decide))); have n4_ := Zh (blk_grown (g := gb153) (o := .cells #[.string a1_0, .slice A1_1 l1_1.length c1_1, .slice A1_2 l1_2.length c1_2] 55 (0, 0)) Zk hg (N_away HO_156000.out (fun _ hk => hk.2.2.1))); have n5_ := Zh (blk_grown (g := gb154) (o := .cells #[.slice none 0 0] 28 (0, 0)) Zk hg (N_ne HO_156000.out BK154.out (by decide))); have n6_ := Zh (blk_grown (g := gb155) (o := .cells #[u156000] 28 (0, 0)) Zk hg (N_ne HO_156000.out BK155.out (by decide))); have n7_ := Zh (hb); have n8_ := Zh (ho); clear HO_153000; clear HO_154001; clear HO_154002; clear BK152; clear BK153; clear BK154; clear BK155; clear HB; clear HO_156000; have HO_153000 := n0_; have HO_154001 := n1_; have HO_154002 := n2_; have BK152 := n3_; have BK153 := n4_; have BK154 := n5_; have BK155 := n6_; have HB := n7_; have HO161 := n8_; clear n0_ n1_ n2_ n3_ n4_ n5_ n6_ n7_ n8_; clear ho hb hg hat; obtain ⟨Ao91, co91, eo91⟩ := N_slice HO161.out; subst eo91; have hcz92_0 : w90.cell? ⟨gb155, 0, none⟩ = some (u156000) := (blk_cell BK155.out 0).trans rfl; have hfz92_0 := Zn BK155.out 0) | ((with_reducible refine gate_callee (f := 54) rfl ?_); refine goesL_ (some 63) rfl rfl Tryd.func54 (by kernel_rfl) rfl #[.agg #[.slice Ao91 y159.length co91]] rfl (by (try simp only [List.map_toArray, List.map_cons, List.map_nil]); first | done | rfl | (simp only [List.length_drop, List.length_take]; rfl)) ?_; (with_reducible refine (spec_l03Copy.calls k1 _ _ y159 t162 _ ?side1 ?side2 A80.out).mono ?_); (case side1 => refine (N_reads' (e := 55) (base := w.heap.size) (ok := fun k_ => (((P0_0_ k_ ∨ P1_1_ k_ ∨ P1_2_ k_) ∨ w.heap.size ≤ k_) ∧ (k_ ≠ gb152 ∧ (k_ ≠ gb153 ∧ (k_ ≠ gb154 ∧ k_ ≠ gb155))))) (n := y159.length) (c := co91) ?_).2.2; exact (by (with_reducible repeat (first | apply N_alloc | apply N_drewN | apply N_drew)); exact (N_mono (N_far (p := ⟨gb155, 0, none⟩) (N_mono HO161.out (fun k_ hk => (⟨hk, hk.2.2.2.2⟩ : _ ∧ k_ ≠ gb155))) (fun _ hk => hk.2) (.slice Ao91 y159.length co91)) (fun _ h_ => h_.1)))); (case side2 => exact (N_reads' HO161.out).2.1); rintro e w93 ⟨v163, rfl, ho0, hb⟩; refine ⟨_, rfl, ?_⟩; have n0_ := Zh (V_elder' (by (with_reducible repeat (first | apply V_alloc | apply V_drewN | apply V_drew)); exact (V_mono (V_far (p := ⟨gb155, 0, none⟩) (V_mono HO_153000.out (fun k_ hk => (⟨hk, hk.1.2.2.2.2⟩ : _ ∧ k_ ≠ gb155))) (fun _ hk => hk.2) (.slice Ao91 y159.length co91)) (fun _ h_ => h_.1))) (S_base ho0) hb); have n1_ := Zh (V_elder' (by (with_reducible repeat (first | apply V_alloc | apply V_drewN | apply V_drew)); exact (V_mono (V_far (p := ⟨gb155, 0, none⟩) (V_mono HO_154001.out (fun k_ hk => (⟨hk, hk.1.2.2.2.2⟩ : _ ∧ k_ ≠ gb155))) (fun _ hk => hk.2) (.slice Ao91 y159.length co91)) (fun _ h_ => h_.1))) (S_base ho0) hb); have n2_ := Zh (V_elder' (by (with_reducible repeat (first | apply V_alloc | apply V_drewN | apply V_drew)); exact (V_mono (V_far (p := ⟨gb155, 0, none⟩) (V_mono HO_154002.out (fun k_ hk => (⟨hk, hk.1.2.2.2.2⟩ : _ ∧ k_ ≠ gb155))) (fun _ hk => hk.2) (.slice Ao91 y159.length co91)) (fun _ h_ => h_.1))) (S_base ho0) hb); have n3_ := Zh (N_elder' (by (with_reducible repeat (first | apply N_alloc | apply N_drewN | apply N_drew)); exact (N_mono (N_far (p := ⟨gb155, 0, none⟩) (N_mono HO161.out (fun k_ hk => (⟨hk, hk.2.2.2.2⟩ : _ ∧ k_ ≠ gb155))) (fun _ hk => hk.2) (.slice Ao91 y159.length co91)) (fun _ h_ => h_.1))) (S_base ho0) hb); have n4_ := Zh (N_lower (N_mono (ok' := fun k_ => ((P0_0_ k_ ∨ P1_1_ k_ ∨ P1_2_ k_) ∨ w.heap.size ≤ k_) ∧ some k_ ≠ (.slice Ao91 y159.length co91 : Value).ownBlock ∧ k_ ≠ gb152 ∧ k_ ≠ gb153 ∧ k_ ≠ gb154 ∧ k_ ≠ gb155) (S_N (S_bound ho0)) (fun k_ hk_ => ⟨(.inr (Nat.le_trans (below_size Zs) hk_.2.1)), (Kd.fresh' (N_lt (by (with_reducible repeat (first | apply N_alloc | apply N_drewN | apply N_drew)); exact (N_mono (N_far (p := ⟨gb155, 0, none⟩) (N_mono HO161.out (fun k_ hk => (⟨hk, hk.2.2.2.2⟩ : _ ∧ k_ ≠ gb155))) (fun _ hk => hk.2) (.slice Ao91 y159.length co91)) (fun _ h_ => h_.1)))) k_ hk_.2.1), (Kd.freshB (g := gb152) (o := .cells #[.slice A0_0 l0_0.length c0_0] 28 (0, 0)) (by (with_reducible repeat (first | refine Za ?_ _ | refine Zb ?_ | refine blk_alloc ?_ _)); refine Zp ?_ NB152_155.out _; (with_reducible repeat (first | refine Za ?_ _ | refine Zb ?_ | refine blk_alloc ?_ _)); exact BK152.out) k_ hk_.2.1), (Kd.freshB (g := gb153) (o := .cells #[.string a1_0, .slice A1_1 l1_1.length c1_1, .slice A1_2 l1_2.length c1_2] 55 (0, 0)) (by (with_reducible repeat (first | refine Za ?_ _ | refine Zb ?_ | refine blk_alloc ?_ _)); refine Zp ?_ NB153_155.out _; (with_reducible repeat (first | refine Za ?_ _ | refine Zb ?_ | refine blk_alloc ?_ _)); exact BK153.out) k_ hk_.2.1), (Kd.freshB (g := gb154) (o := .cells #[.slice none 0 0] 28 (0, 0)) (by (with_reducible repeat (first | refine Za ?_ _ | refine Zb ?_ | refine blk_alloc ?_ _)); refine Zp ?_ NB154_155.out _; (with_reducible repeat (first | refine Za ?_ _ | refine Zb ?_ | refine blk_alloc ?_ _)); exact BK154.out) k_ hk_.2.1), (Kd.freshB (g := gb155) (o := .cells #[.slice Ao91 y159.length co91] 28 (0, 0)) (by (with_reducible repeat (first | refine Za ?_ _ | refine Zb ?_ | refine blk_alloc ?_ _)); refine blk_put (cs := #[u156000]) ?_ 0 _ rfl; (with_reducible repeat (first | refine Za ?_ _ | refine Zb ?_ | refine blk_alloc ?_ _)); exact BK155.out) k_ hk_.2.1)⟩)) (below_size Zs)); have n5_ := Zh (Zm (g := gb152) (o := .cells #[.slice A0_0 l0_0.length c0_0] 28 (0, 0)) (by (with_reducible repeat (first | refine Za ?_ _ | refine Zb ?_ | refine blk_alloc ?_ _)); refine Zp ?_ NB152_155.out _; (with_reducible repeat (first | refine Za ?_ _ | refine Zb ?_ | refine blk_alloc ?_ _)); exact BK152.out) hb); have n6_ := Zh (Zm (g := gb153) (o := .cells #[.string a1_0, .slice A1_1 l1_1.length c1_1, .slice A1_2 l1_2.length c1_2] 55 (0, 0)) (by (with_reducible repeat (first | refine Za ?_ _ | refine Zb ?_ | refine blk_alloc ?_ _)); refine Zp ?_ NB153_155.out _; (with_reducible repeat (first | refine Za ?_ _ | refine Zb ?_ | refine blk_alloc ?_ _)); exact BK153.out) hb); have n7_ := Zh (Zm (g := gb154) (o := .cells #[.slice none 0 0] 28 (0, 0)) (by (with_reducible repeat (first | refine Za ?_ _ | refine Zb ?_ | refine blk_alloc ?_ _)); refine Zp ?_ NB154_155.out _; (with_reducible repeat (first | refine Za ?_ _ | refine Zb ?_ | refine blk_alloc ?_ _)); exact BK154.out) hb); have n8_ := Zh (Zm (g := gb155) (o := .cells #[.slice Ao91 y159.length co91] 28 (0, 0)) (by (with_reducible repeat (first | refine Za ?_ _ | refine Zb ?_ | refine blk_alloc ?_ _)); refine blk_put (cs := #[u156000]) ?_ 0 _ rfl; (with_reducible repeat (first | refine Za ?_ _ | refine Zb ?_ | refine blk_alloc ?_ _)); exact BK155.out) hb); have n9_ := Zh (Zl Zs hb); clear HO_153000; clear HO_154001; clear HO_154002; clear HO161; clear BK152; clear BK153; clear BK154; clear BK155; clear HB; have HO_153000 := n0_; have HO_154001 := n1_; have HO_154002 := n2_; have HO161 := n3_; have HO164 := n4_; have BK152 := n5_; have BK153 := n6_; have BK154 := n7_; have BK155 := n8_; have HB := n9_; clear n0_ n1_ n2_ n3_ n4_ n5_ n6_ n7_ n8_ n9_; (try clear hb); (try clear hb2); (try clear hk); (try clear hi); (try clear ho0); obtain ⟨Ao94, co94, eo94⟩ := N_slice HO164.out; subst eo94; have hcz95_0 : w93.cell? ⟨gb154, 0, none⟩ = some (.slice none 0 0) := (blk_cell BK154.out 0).trans rfl; have hfz95_0 := Zn BK154.out 0))
    refine bodyPost_ret (results_cell_row rfl _ _ gb154 28 #[.slice Ao94 t162.length co94] (0, 0) _ rfl (by (with_reducible repeat (first | refine Za ?_ _ | refine Zb ?_ | refine blk_alloc ?_ _)); refine blk_put (cs := #[.slice none 0 0]) ?_ 0 _ rfl; (with_reducible repeat (first | refine Za ?_ _ | refine Zb ?_ | refine blk_alloc ?_ _)); exact BK154.out) Tryd.underlying28 rfl (by kernel_rfl)) rfl ?_
    exact ⟨_, by first | rfl | (simp [errW_none, errW_some] <;> rfl) | (simp [*, errW_none, errW_some] <;> rfl), by (with_reducible repeat (first | apply N_alloc | apply N_drewN | apply N_drew)); exact N_mono (N_far (p := ⟨gb154, 0, none⟩) (N_mono HO164.out (fun k_ hk => (⟨hk, hk.2.2.2.2.1⟩ : _ ∧ k_ ≠ gb154))) (fun _ hk => hk.2) (.slice Ao94 t162.length co94)) (fun _ hk => hk.1.1), by repeat (first | (with_reducible first | exact HB.out | apply Zf | apply Zd | apply Ze | refine Zg ?_ GE152.out | refine Zg ?_ GE153.out | refine Zg ?_ GE154.out | refine Zg ?_ GE155.out) | exact HB.out)⟩
   rw [if_neg c79] at H
   exact absurd H (by simp)
end Go.Proofs.YtcgojdhbphocgaaDoor.F

namespace Go.Proofs.YtcgojdhbphocgaaDoor.LW
set_option linter.unusedVariables false
set_option linter.unusedSimpArgs false
open Go.RowKit Go.Proofs.YtcgojdhbphocgaaDoorW.PrintWords Go.Proofs.YtcgojdhbphocgaaDoorW.PrintLast Go.Proofs.YtcgojdhbphocgaaDoorW.PrintMore
structure It where
  P : World → Prop
  F : Nat → Prop
  mv : ∀ w w1 : World, (∀ k, F k → w1.heap[k]? = w.heap[k]?) → P w → P w1
def Its (w : World) (B n : Nat) : List It → Prop
  | [] => True
  | i :: r => (∀ k, i.F k → B ≤ k ∧ k < n) ∧ i.P w ∧ (∀ j, j ∈ r → ∀ k, i.F k → ¬ j.F k) ∧ Its w B n r
variable {w w0 w1 : World} {B B' n m g t e : Nat} {l : List It} {i : It} {cs : Array Value} {α : Type} {d : Kd α} {v : Value} {xs ys : List α} {F S ok : Nat → Prop}
theorem Its.mono (h : Its w B n l) (hB : B' ≤ B) (hn : n ≤ m) : Its w B' m l := by
  induction l with
  | nil => trivial
  | cons i r ih => exact ⟨fun k hk => ⟨Nat.le_trans hB (h.1 k hk).1, Nat.lt_of_lt_of_le (h.1 k hk).2 hn⟩, h.2.1, h.2.2.1, ih h.2.2.2⟩
theorem Its.all (h : Its w B n l) : ∀ j, j ∈ l → j.P w ∧ ∀ k, j.F k → B ≤ k ∧ k < n := by
  induction l with
  | nil => intro j hj; cases hj
  | cons i r ih =>
    intro j hj
    cases hj with
    | head => exact ⟨h.2.1, h.1⟩
    | tail _ hj => exact ih h.2.2.2 j hj
theorem Its.move (h : Its w B n l) (hm : ∀ j, j ∈ l → ∀ k, j.F k → w1.heap[k]? = w.heap[k]?) : Its w1 B n l := by
  induction l with
  | nil => trivial
  | cons i r ih => exact ⟨h.1, i.mv w w1 (hm i List.mem_cons_self) h.2.1, h.2.2.1, ih h.2.2.2 (fun j hj => hm j (List.mem_cons_of_mem _ hj))⟩
theorem Its.app {l' : List It} (h' : Its w B' n l') (h : Its w B B' l) (hB : B ≤ B') (hn : B' ≤ n) : Its w B n (l' ++ l) := by
  induction l' with
  | nil => exact h.mono (Nat.le_refl _) hn
  | cons i r ih =>
    refine ⟨fun k hk => ⟨Nat.le_trans hB (h'.1 k hk).1, (h'.1 k hk).2⟩, h'.2.1, fun j hj k hk => ?_, ih h'.2.2.2⟩
    rcases List.mem_append.1 hj with hj | hj
    · exact h'.2.2.1 j hj k hk
    intro hf
    have h1 := (h'.1 k hk).1
    have h2 := ((h.all j hj).2 k hf).2
    omega
theorem Its.write (h : Its w B n l) (i' : It) (hF : ∀ k, i'.F k → i.F k) (hP : i'.P w1) (hk : ∀ k, k < n → ¬ i.F k → w1.heap[k]? = w.heap[k]?) : ∀ q, l[q]? = some i → Its w1 B n (l.set q i') := by
  induction l with
  | nil => intro q hq; simp at hq
  | cons j r ih =>
    intro q hq
    cases q with
    | zero =>
      simp only [List.getElem?_cons_zero, Option.some.injEq] at hq
      subst hq
      exact ⟨fun k hk' => h.1 k (hF k hk'), hP, fun x hx k hk' => h.2.2.1 x hx k (hF k hk'), h.2.2.2.move (fun x hx k hk' => hk k ((h.2.2.2.all x hx).2 k hk').2 (fun hi => h.2.2.1 x hx k hi hk'))⟩
    | succ q =>
      rw [List.getElem?_cons_succ] at hq
      have hm := List.mem_of_getElem? hq
      refine ⟨h.1, j.mv w w1 (fun k hk' => hk k (h.1 k hk').2 (fun hi => h.2.2.1 i hm k hk' hi)) h.2.1, fun x hx k hk' => ?_, ih h.2.2.2 q hq⟩
      rcases List.mem_or_eq_of_mem_set hx with hx | rfl
      · exact h.2.2.1 x hx k hk'
      exact fun hi => h.2.2.1 i hm k hk' (hF k hi)
def box (g : Nat) (cs : Array Value) (t : Nat) : It := ⟨fun w => w.heap[g]? = some (.cells cs t (0, 0)), fun k => k = g, fun _ _ hk h => (hk g rfl).trans h⟩
def row {α : Type} (d : Kd α) (e B : Nat) (v : Value) (xs : List α) (F : Nat → Prop) : It := ⟨fun w => Kd.S d e w B F v xs, F, fun _ _ hk h => Kd.S_move h hk⟩
structure St (w0 w : World) (l : List It) : Prop where
  b : Below w0.heap.size w0 w
  i : Its w w0.heap.size w.heap.size l
theorem St.start (w : World) : St w w [] := ⟨Below.refl _ _, trivial⟩
theorem St.step (h : St w0 w l) (hb : Below w.heap.size w w1) : St w0 w1 l :=
  ⟨below_step h.b hb, (h.i.move (fun j hj k hk => hb.block k ((h.i.all j hj).2 k hk).2)).mono (Nat.le_refl _) hb.size⟩
theorem St.drew (h : St w0 w l) : St w0 w.drew l := h.step (below_drew (Below.refl _ _))
theorem St.add (h : St w0 w l) (hb : Below w.heap.size w w1) {l' : List It} (hn : Its w1 w.heap.size w1.heap.size l') : St w0 w1 (l' ++ l) :=
  ⟨below_step h.b hb, hn.app (h.i.move (fun j hj k hk => hb.block k ((h.i.all j hj).2 k hk).2)) h.b.size hb.size⟩
theorem St.box (h : St w0 w l) (hg : g = w.heap.size) (hx : w1.heap[g]? = some (.cells cs t (0, 0))) (hb : Below w.heap.size w w1) : St w0 w1 (box g cs t :: l) :=
  h.add hb (l' := [LW.box g cs t]) ⟨fun k hk => by have : k = g := hk; subst this; exact ⟨by omega, blk_lt hx⟩, hx, fun j hj => (List.not_mem_nil hj).elim, trivial⟩
theorem St.alloc (h : St w0 w l) (cs : Array Value) (t : Nat) (hg : g = w.heap.size) : St w0 (w.alloc (.cells cs t)) (LW.box g cs t :: l) := h.box hg (by subst hg; simpa using blk_new w (.cells cs t)) (below_alloc (Below.refl _ _) _)
theorem St.lt (h : St w0 w l) (q : Nat) (hq : l[q]? = some (LW.box g cs t)) : g < w.heap.size := blk_lt (h.i.all _ (List.mem_of_getElem? hq)).1
theorem S_between (h : Kd.S d e w1 w.heap.size ok v xs) (h0 : w0.heap.size ≤ w.heap.size) : Kd.S d e w1 w0.heap.size (fun k => w.heap.size ≤ k ∧ k < w1.heap.size) v xs := Kd.S_lower (Kd.S_mono (Kd.S_bound h) (fun k hk => ⟨hk.2.1, hk.2.2.1⟩)) h0
theorem St.row (h : St w0 w l) (hb : Below w.heap.size w w1) (ho : Kd.S d e w1 w.heap.size ok v xs) : St w0 w1 (row d e w0.heap.size v xs (fun k => w.heap.size ≤ k ∧ k < w1.heap.size) :: l) :=
  h.add hb (l' := [LW.row d e w0.heap.size v xs (fun k => w.heap.size ≤ k ∧ k < w1.heap.size)]) ⟨fun k hk => hk, S_between ho h.b.size, fun j hj => (List.not_mem_nil hj).elim, trivial⟩
theorem S_flat (hE : d.E = []) (h : d.R e w B ok v xs) : Kd.S d e w B ok v xs := by
  obtain ⟨h0, inner, ho, hr⟩ := h
  refine ⟨fun _ => 0, h0, inner, by rw [List.length_zipIdx]; exact ho, by rw [List.length_zipIdx]; exact hr.1, fun j p hj => ?_⟩
  rw [List.getElem?_zipIdx, Nat.zero_add] at hj
  obtain ⟨x, hx, rfl⟩ := Option.map_eq_some_iff.1 hj
  refine d.M_mono (fun k hk => ?_) (d.M_bound (hr.2 j x hx))
  obtain ⟨_, _, _, q, hq, _⟩ := hk
  rw [hE] at hq
  cases hq
theorem St.rowR (h : St w0 w l) (hE : d.E = []) (hb : Below w.heap.size w w1) (ho : d.R e w1 w.heap.size ok v xs) : St w0 w1 (LW.row d e w0.heap.size v xs (fun k => w.heap.size ≤ k ∧ k < w1.heap.size) :: l) := h.row hb (S_flat hE ho)
theorem setCell_size (w : World) (p : Addr) (u : Value) : (w.setCell p u).heap.size = w.heap.size := by simp [World.setCell]
theorem St.set (h : St w0 w l) (q : Nat) (hq : l[q]? = some (LW.box g cs t)) (j : Nat) (u : Value) : St w0 (w.setCell ⟨g, j, none⟩ u) (l.set q (LW.box g (cs.setIfInBounds j u) t)) := by
  have hx := h.i.all _ (List.mem_of_getElem? hq)
  refine ⟨below_set h.b (hx.2 g rfl).1, ?_⟩
  rw [setCell_size]
  exact h.i.write (i := LW.box g cs t) (LW.box g (cs.setIfInBounds j u) t) (fun k hk => hk) (blk_set hx.1 j u) (fun k _ hk => Below.heap_setCell w ⟨g, j, none⟩ u k hk) q hq
theorem St.cell (h : St w0 w l) (q : Nat) (hq : l[q]? = some (LW.box g cs t)) (j : Nat) {u : Value} (hu : cs[j]? = some u) : w.cell? ⟨g, j, none⟩ = some u := (blk_cell (h.i.all _ (List.mem_of_getElem? hq)).1 j).trans hu
theorem St.blk (h : St w0 w l) (q : Nat) (hq : l[q]? = some (LW.box g cs t)) : w.heap[g]? = some (.cells cs t (0, 0)) := (h.i.all _ (List.mem_of_getElem? hq)).1
theorem St.frozen (h : St w0 w l) (q : Nat) (hq : l[q]? = some (LW.box g cs t)) (j : Nat) : w.frozen? ⟨g, j, none⟩ = false := blk_frozen (h.i.all _ (List.mem_of_getElem? hq)).1 j
theorem St.own (h : St w0 w l) (q : Nat) (hq : l[q]? = some (LW.row d e B v xs F)) : Kd.S d e w B F v xs := (h.i.all _ (List.mem_of_getElem? hq)).1
theorem St.reads {A : Option Addr} {m c : Nat} (h : St w0 w l) (q : Nat) (hq : l[q]? = some (LW.row d e B (.slice A m c) xs F)) : m = xs.length ∧ m ≤ c ∧ d.C w A xs.length xs := Kd.S_reads' (h.own q hq)
theorem St.write (h : St w0 w l) (q : Nat) (hq : l[q]? = some (LW.row d e w0.heap.size v xs F)) (hS : Kd.S d e w1 w0.heap.size F v ys) (hB : Below w0.heap.size w0 w1) (hk : Kept w w1 F) : St w0 w1 (l.set q (LW.row d e w0.heap.size v ys F)) := by
  have hx := h.i.all _ (List.mem_of_getElem? hq)
  exact ⟨hB, (h.i.write (i := LW.row d e w0.heap.size v xs F) (LW.row d e w0.heap.size v ys F) (fun k hk => hk) hS (fun k hlt hn => hk.2 k hlt hn) q hq).mono (Nat.le_refl _) hk.1⟩
theorem St.writeR (h : St w0 w l) (hE : d.E = []) (q : Nat) (hq : l[q]? = some (LW.row d e w0.heap.size v xs F)) (hR : d.R e w1 w0.heap.size ok v ys) (hB : Below w0.heap.size w0 w1) (hk : Kept w w1 F) : St w0 w1 (l.set q (LW.row d e w0.heap.size v ys F)) :=
  h.write q hq (S_flat hE (Kd.R_mono (Kd.R_tight hE hR) (fun k hk' => (Kd.S_R (h.own q hq)).1 k hk'.symm))) hB hk
theorem Its.disj : ∀ {l : List It}, Its w B n l → ∀ (p q : Nat) (i j : It), p ≠ q → l[p]? = some i → l[q]? = some j → ∀ k, i.F k → ¬ j.F k
  | [], _, p, q, i, j, _, hi, _ => by simp at hi
  | a :: r, h, 0, 0, i, j, hn, _, _ => absurd rfl hn
  | a :: r, h, 0, q + 1, i, j, hn, hi, hj => by
    rw [List.getElem?_cons_succ] at hj
    simp only [List.getElem?_cons_zero, Option.some.injEq] at hi
    subst hi
    exact h.2.2.1 j (List.mem_of_getElem? hj)
  | a :: r, h, p + 1, 0, i, j, hn, hi, hj => by
    rw [List.getElem?_cons_succ] at hi
    simp only [List.getElem?_cons_zero, Option.some.injEq] at hj
    subst hj
    exact fun k hk hf => h.2.2.1 i (List.mem_of_getElem? hi) k hf hk
  | a :: r, h, p + 1, q + 1, i, j, hn, hi, hj => by
    rw [List.getElem?_cons_succ] at hi hj
    exact Its.disj h.2.2.2 p q i j (by omega) hi hj
theorem St.ne {g' t' : Nat} {cs' : Array Value} (h : St w0 w l) (p q : Nat) (hn : p ≠ q) (hp : l[p]? = some (LW.box g cs t)) (hq : l[q]? = some (LW.box g' cs' t')) : g ≠ g' := fun he => Its.disj h.i p q _ _ hn hp hq g rfl he
def gone : It := ⟨fun _ => True, fun _ => False, fun _ _ _ _ => trivial⟩
theorem Its.of : ∀ {l : List It}, (∀ (q : Nat) (i : It), l[q]? = some i → (∀ k, i.F k → B ≤ k ∧ k < n) ∧ i.P w) → (∀ (p q : Nat) (i j : It), p < q → l[p]? = some i → l[q]? = some j → ∀ k, i.F k → ¬ j.F k) → Its w B n l
  | [], _, _ => trivial
  | a :: r, h1, h2 => ⟨(h1 0 a rfl).1, (h1 0 a rfl).2, fun j hj => by
      obtain ⟨q, hq⟩ := List.mem_iff_getElem?.1 hj
      exact h2 0 (q + 1) a j (by omega) rfl (by rw [List.getElem?_cons_succ]; exact hq), Its.of (fun q i hq => h1 (q + 1) i (by rw [List.getElem?_cons_succ]; exact hq)) (fun p q i j hpq hp hq => h2 (p + 1) (q + 1) i j (by omega) (by rw [List.getElem?_cons_succ]; exact hp) (by rw [List.getElem?_cons_succ]; exact hq))⟩
def view {α : Type} (d : Kd α) (e B : Nat) (v : Value) (xs : List α) (F : Nat → Prop) : It := ⟨fun w => Kd.V d e w B F v xs, F, fun _ _ hk h => Kd.V_step h (fun k hk' _ => hk k hk')⟩
theorem St.viewed (h : St w0 w l) (q : Nat) (hq : l[q]? = some (LW.view d e B v xs F)) : Kd.V d e w B F v xs := (h.i.all _ (List.mem_of_getElem? hq)).1
theorem St.views {A : Option Addr} {m c : Nat} (h : St w0 w l) (q : Nat) (hq : l[q]? = some (LW.view d e B (.slice A m c) xs F)) : m = xs.length ∧ m ≤ c ∧ d.C w A xs.length xs := by
  have hv := Kd.V_reads' (h.viewed q hq)
  exact ⟨hv.1, hv.2.1, hv.1 ▸ hv.2.2⟩
theorem St.seen {β : Type} {d' : Kd β} {e' b' : Nat} {v' : Value} {ys : List β} {ok' : Nat → Prop} {j : It} (h : St w0 w l) (p : Nat) (hp : l[p]? = some j) (hb : Below w.heap.size w w1) (hN : Kd.N d' e' w1 b' ok' v' ys) (hok : ∀ k, ok' k → j.F k ∨ w.heap.size ≤ k) :
    St w0 w1 (LW.view d' e' w0.heap.size v' ys (fun k => ok' k ∧ k < w1.heap.size) :: l.set p gone) := by
  have hJ := h.i.all j (List.mem_of_getElem? hp)
  have hpl : p < l.length := (List.getElem?_eq_some_iff.1 hp).1
  have h1 : Its w1 w0.heap.size w1.heap.size (l.set p gone) := ((h.i.write (i := j) gone (fun k hk => hk.elim) trivial (fun k hlt hn => hb.block k hlt) p hp).mono (Nat.le_refl _) hb.size)
  refine ⟨below_step h.b hb, fun k hk => ⟨?_, hk.2⟩, Kd.V_bound (base := w0.heap.size) (Kd.N_V (base' := w0.heap.size) hN), fun x hx k hk hf => ?_, h1⟩
  · rcases hok k hk.1 with h2 | h2
    · exact (hJ.2 k h2).1
    exact Nat.le_trans h.b.size h2
  obtain ⟨m, hm⟩ := List.mem_iff_getElem?.1 hx
  by_cases e1 : m = p
  · subst e1
    rw [List.getElem?_set_self hpl] at hm
    have := Option.some.inj hm
    subst this
    exact hf
  rw [List.getElem?_set_ne (Ne.symm e1)] at hm
  have hX := h.i.all x (List.mem_of_getElem? hm)
  rcases hok k hk.1 with h2 | h2
  · exact Its.disj h.i m p x j e1 hm hp k hf h2
  have := (hX.2 k hf).2
  omega
end Go.Proofs.YtcgojdhbphocgaaDoor.LW
