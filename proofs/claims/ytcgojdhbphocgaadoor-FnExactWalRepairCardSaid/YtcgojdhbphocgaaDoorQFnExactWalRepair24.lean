/- Merged texts below the law FnExactWalRepair: Go functions as Lean functions, their contracts, and plain lemmas. -/
import Derived.Test.YtcgojdhbphocgaaDoorQFnExactWalRepair23
import Derived.Shelf.Abstract
import Derived.Test.YtcgojdhbphocgaaDoorVFnExactWalRepairMore
import Derived.Test.YtcgojdhbphocgaaDoorVFnExactWalRepairKept
import Derived.Test.YtcgojdhbphocgaaDoorVFnExactWalRepairApart
namespace Go.Proofs.YtcgojdhbphocgaaDoor.F
open Go.Proofs.YtcgojdhbphocgaaDoor
open Go.RowKit Go.Proofs.YtcgojdhbphocgaaDoorW.PrintWords Go.Proofs.YtcgojdhbphocgaaDoorW.PrintWords.Kd Go.Proofs.YtcgojdhbphocgaaDoorW.PrintMore.Kd Go.Proofs.YtcgojdhbphocgaaDoorW.PrintLast Go.Proofs.YtcgojdhbphocgaaDoorW.PrintMore
attribute [local go_sem] max2_int min2_int max_two min_two max_three min_three max_four min_four   -- for this text's walks alone
set_option linter.unusedVariables false
set_option linter.unusedSimpArgs false
def impl_isDisk.l0 : Nat → List (S55) → Int → Int → List (S55) → Option (Bool)
 | 0, _, _, _, _ => none
 | k + 1, x6, x7, x8, x253000 => if x8 < x7 then (if 0 ≤ x8 then (if x8 < (x6.length : Int) then ((impl_isFileName.f ((rd_T55 x6 x8).f0)).bind fun t255 => (if t255 = true then (if (wrap64 ((((rd_T55 x6 x8).f1).length : Int) + (((rd_T55 x6 x8).f2).length : Int))) > 20000 then (some false) else (if x8 > 0 then (if 0 ≤ (wrap64 (x8 - 1)) then (if (wrap64 (x8 - 1)) < (x253000.length : Int) then (if ((Op.bytesLess (((rd_T55 x253000 (wrap64 (x8 - 1))).f0).toList) (((rd_T55 x6 x8).f0).toList)) = true) then (impl_isDisk.l0 k x6 x7 (wrap64 (x8 + 1)) x253000) else (some false)) else (none)) else (none)) else (impl_isDisk.l0 k x6 x7 (wrap64 (x8 + 1)) x253000))) else (some false))) else (none)) else (none)) else (some (decide ((x253000.length : Int) ≤ 8)))
def impl_isDisk.f (k : Nat) (l0_0 : List (S55)) : Option (Bool) := impl_isDisk.l0 k l0_0 (l0_0.length : Int) 0 l0_0
def impl_isDisk.T4 : Bool × List (List Nat × List Nat) := (true, [([], []), ([0], [0]), ([1], [1]), ([2], [2]), ([3, 2], [3]), ([4], [4]), ([5, 4], [4, 5]), ([6, 4], [4, 6]), ([4], [4]), ([8, 4], [4, 8]), ([9, 4], [4, 9]), ([7, 10, 4], [4, 7, 10]), ([11, 4], [4, 11]), ([4, 12], [4, 12]), ([13, 4], [13]), ([14], [14]), ([15, 14], [14, 15]), ([16, 14, 14], [14, 16]), ([17], [17]), ([18, 17], [17, 18]), ([17], [17]), ([20, 17], [17, 20]), ([19, 21, 17], [17, 19, 21]), ([22, 17], [17, 22]), ([23, 17], [17, 23]), ([17], [17]), ([25, 17], [17, 25]), ([24, 26, 17], [17, 24, 26]), ([17, 27, 14], [14, 17, 27]), ([14, 28], [14, 28])])
def impl_isDisk.B4 : List Nat := [0, 1, 3, 7, 15, 31, 63, 127, 31, 287, 799, 2047, 4095, 8191, 16383, 32767, 65535, 131071, 262143, 524287, 262143, 1310719, 4194303, 8388607, 16777215, 262143, 33816575, 134217727, 268435455, 536870911]
theorem impl_isDisk.tab4 : rtab .any (opsOf Tryd.f72 4) = impl_isDisk.T4 := by kernel_rfl
theorem impl_isDisk.bits4 : waitsOk impl_isDisk.T4.2 impl_isDisk.B4 = true := by kernel_rfl
set_option maxHeartbeats 8000000 in
set_option maxRecDepth 100000 in
theorem impl_isDisk.calls (k : Nat) (A0_0 : Option Addr) (c0_0 : Nat) (l0_0 : List (S55)) (r : Bool) (w : World) (hr0_0 : Kd.C k55 w A0_0 l0_0.length l0_0) (hc0_0 : l0_0.length ≤ c0_0) (h : impl_isDisk.f k l0_0 = some r) :
  Calls Tryd.prog 72 #[.agg #[.slice A0_0 l0_0.length c0_0]] w fun e w' => e = .returned (.bool r) ∧ Below w.heap.size w w' := by
 have hu28 := Tryd.underlying28
 have hu55 := Tryd.underlying55
 have HR0_0 := Zh hr0_0
 have HC0_0 := Zh hc0_0
 clear hr0_0 hc0_0
 have HB := Zh (Below.refl w.heap.size w)
 have H : (impl_isDisk.l0 k l0_0 (l0_0.length : Int) 0 l0_0) = some r := h
 clear h
 have H' := Zh H
 clear H
 go_enter Tryd.func72, Tryd.ntmps72
 go_wp2_with (first | ((with_reducible refine gate_dst (N := 1) rfl ?_); (try (refine gate_guard (by rfl) ?_; dsimp only)); refine box_event ?hg (N := 1) ?hd (cs := #[.slice A0_0 l0_0.length c0_0]) (t := 28) ?hr ?_; (case hd => rfl); (case hg => rfl); (case hr => first | (go_simp; done) | (go_simp; rfl)); intro gb252 hg w2 hbox hb; have n0_ := Zh (Zl Zs hb); have n1_ := Zh (hbox); have n2_ := Zh ((by rw [hg]; exact (below_size Zs) : w.heap.size ≤ gb252)); have n3_ := Zh ((by rw [hg]; exact (below_size Zs) : w.heap.size ≤ gb252)); clear HB; have HB := n0_; have BK252 := n1_; have GW252 := n2_; have GE252 := n3_; clear n0_ n1_ n2_ n3_; clear hb hbox hg; have hcz3_0 : w2.cell? ⟨gb252, 0, none⟩ = some (.slice A0_0 l0_0.length c0_0) := (blk_cell BK252.out 0).trans rfl; have hfz3_0 := Zn BK252.out 0))
 go_loopg [8] k (fun kq v8 w' => ∃ (x8_1 : Int), v8 = .int .i64 x8_1 ∧ Aside0 (impl_isDisk.l0 kq l0_0 (l0_0.length : Int) x8_1 l0_0 = some r) ∧ Aside0 (kq ≤ k) ∧ Aside0 (w'.heap[gb252]? = some (.cells #[(.slice A0_0 l0_0.length c0_0)] 28 (0, 0))) ∧ Aside0 (Below w.heap.size w w'))
 case atStart => exact ⟨(0), (by first | rfl | (simp; done) | (simp [*]; done)), H', ⟨Nat.le_refl _⟩, ⟨by (with_reducible repeat (first | refine Za ?_ _ | refine Zb ?_ | refine blk_alloc ?_ _)); exact BK252.out⟩, ⟨by repeat (first | (with_reducible first | exact HB.out | apply Zf | apply Zd | apply Ze | refine Zg ?_ GE252.out) | exact HB.out)⟩⟩
 case round =>
  clear H'
  try clear p2
  try clear hcz3_0
  try clear hfz3_0
  obtain ⟨x8_1, rfl, HA, HK1, BK252, HB⟩ := hrel
  cases gk with
  | zero => exact absurd HA.out (by simp [impl_isDisk.l0])
  | succ k1 =>
   have H := HA.out
   clear HA
   simp only [impl_isDisk.l0] at H
   by_cases c4 : x8_1 < (l0_0.length : Int)
   ·
    rw [if_pos c4] at H
    have c4b0 : decide (x8_1 < (l0_0.length : Int)) = true := decide_eq_true c4
    clear c4
    by_cases c5 : 0 ≤ x8_1
    ·
     rw [if_pos c5] at H
     have c5b0 : decide (0 ≤ x8_1) = true := decide_eq_true c5
     clear c5
     by_cases c6 : x8_1 < (l0_0.length : Int)
     ·
      rw [if_pos c6] at H
      have c6b0 : decide (x8_1 < (l0_0.length : Int)) = true := decide_eq_true c6
      clear c6
      replace H := Option.bind_eq_some_iff.mp H
      obtain ⟨t255, A70, H⟩ := H
      replace H : (if t255 = true then (if (wrap64 ((((rd_T55 l0_0 x8_1).f1).length : Int) + (((rd_T55 l0_0 x8_1).f2).length : Int))) > 20000 then (some false) else (if x8_1 > 0 then (if 0 ≤ (wrap64 (x8_1 - 1)) then (if (wrap64 (x8_1 - 1)) < (l0_0.length : Int) then (if ((Op.bytesLess (((rd_T55 l0_0 (wrap64 (x8_1 - 1))).f0).toList) (((rd_T55 l0_0 x8_1).f0).toList)) = true) then (impl_isDisk.l0 k1 l0_0 (l0_0.length : Int) (wrap64 (x8_1 + 1)) l0_0) else (some false)) else (none)) else (none)) else (impl_isDisk.l0 k1 l0_0 (l0_0.length : Int) (wrap64 (x8_1 + 1)) l0_0))) else (some false)) = some r := H
      have A7 := Zh A70
      clear A70
      by_cases c8 : t255 = true
      ·
       subst c8
       have H1 : (if (wrap64 ((((rd_T55 l0_0 x8_1).f1).length : Int) + (((rd_T55 l0_0 x8_1).f2).length : Int))) > 20000 then (some false) else (if x8_1 > 0 then (if 0 ≤ (wrap64 (x8_1 - 1)) then (if (wrap64 (x8_1 - 1)) < (l0_0.length : Int) then (if ((Op.bytesLess (((rd_T55 l0_0 (wrap64 (x8_1 - 1))).f0).toList) (((rd_T55 l0_0 x8_1).f0).toList)) = true) then (impl_isDisk.l0 k1 l0_0 (l0_0.length : Int) (wrap64 (x8_1 + 1)) l0_0) else (some false)) else (none)) else (none)) else (impl_isDisk.l0 k1 l0_0 (l0_0.length : Int) (wrap64 (x8_1 + 1)) l0_0))) = some r := by rw [if_pos rfl] at H; exact H
       clear H
       have H := H1
       clear H1
       by_cases c9 : (wrap64 ((((rd_T55 l0_0 x8_1).f1).length : Int) + (((rd_T55 l0_0 x8_1).f2).length : Int))) > 20000
       ·
        rw [if_pos c9] at H
        have c9b0 : decide (20000 < (wrap64 ((((rd_T55 l0_0 x8_1).f1).length : Int) + (((rd_T55 l0_0 x8_1).f2).length : Int)))) = true := decide_eq_true c9
        clear c9
        obtain rfl := Option.some.inj H
        have p253 : 0 ≤ (x8_1 : Int) := Zo
        have q253 : x8_1 < (l0_0.length : Int) := Zo
        obtain ⟨ad253, A253_1, c253_1, A253_2, c253_2, e253, hx253_0, hx253_1, hx253_2, hl253_1, hi253_1, hl253_2, hi253_2⟩ := at_T55 HR0_0.out x8_1 p253 q253
        cases e253
        replace hx253_0 := Zc HB.out hx253_0
        replace hx253_1 := Zc HB.out hx253_1
        replace hx253_2 := Zc HB.out hx253_2
        have HR253_1 := Zh hi253_1
        have HC253_1 := Zh hl253_1
        clear hi253_1 hl253_1
        have HR253_2 := Zh hi253_2
        have HC253_2 := Zh hl253_2
        clear hi253_2 hl253_2
        replace p253 := eq_true p253
        replace q253 := eq_true q253
        try go_wp2_with (first | ((with_reducible refine gate_dst (N := 4) rfl ?_); (try (refine gate_guard (by rfl) ?_; dsimp only)); refine box_event ?hg (N := 4) ?hd (cs := #[.string (⟨#[]⟩ : ByteArray), .slice none 0 0, .slice none 0 0]) (t := 55) ?hr ?_; (case hd => rfl); (case hg => rfl); (case hr => first | (go_simp; done) | (go_simp; rfl)); intro gb254 hg w10 hbox hb; have n0_ := Zh (Zm (g := gb252) (o := .cells #[.slice (some ad253) l0_0.length c0_0] 28 (0, 0)) Zk hb); have n1_ := Zh (Zl Zs hb); have n2_ := Zh (hbox); have n3_ := Zh ((by rw [hg]; exact (below_size Zs) : w.heap.size ≤ gb254)); have n4_ := Zh ((by rw [hg]; exact (below_size Zs) : w.heap.size ≤ gb254)); have n5_ := Zh ((by rw [hg]; exact Nat.ne_of_lt (blk_lt (g := gb252) (o := .cells #[.slice (some ad253) l0_0.length c0_0] 28 (0, 0)) Zk) : gb252 ≠ gb254)); have n6_ := Zh ((by rw [hg]; exact Nat.ne_of_gt (blk_lt (g := gb252) (o := .cells #[.slice (some ad253) l0_0.length c0_0] 28 (0, 0)) Zk) : gb254 ≠ gb252)); clear BK252; clear HB; have BK252 := n0_; have HB := n1_; have BK254 := n2_; have GW254 := n3_; have GE254 := n4_; have NB252_254 := n5_; have NB254_252 := n6_; clear n0_ n1_ n2_ n3_ n4_ n5_ n6_; clear hb hbox hg; have hnb11 := NB254_252.out; have hnc11 := NB252_254.out; have hcz12_0 : w10.cell? ⟨gb254, 0, none⟩ = some (.string (⟨#[]⟩ : ByteArray)) := (blk_cell BK254.out 0).trans rfl; have hcz12_1 : w10.cell? ⟨gb254, 1, none⟩ = some (.slice none 0 0) := (blk_cell BK254.out 1).trans rfl; have hcz12_2 : w10.cell? ⟨gb254, 2, none⟩ = some (.slice none 0 0) := (blk_cell BK254.out 2).trans rfl; have hfz12_0 := Zn BK254.out 0; have hfz12_1 := Zn BK254.out 1; have hfz12_2 := Zn BK254.out 2))
        have n0_ : Aside0 ((((w10.setCell ⟨gb254, 0, none⟩ (.string ((rd_T55 l0_0 x8_1).f0))).setCell ⟨gb254, 1, none⟩ (.slice A253_1 ((rd_T55 l0_0 x8_1).f1).length c253_1)).setCell ⟨gb254, 2, none⟩ (.slice A253_2 ((rd_T55 l0_0 x8_1).f2).length c253_2)).heap[gb252]? = some (.cells #[.slice (some ad253) l0_0.length c0_0] 28 (0, 0))) := ⟨by (with_reducible repeat (first | refine Za ?_ _ | refine Zb ?_ | refine blk_alloc ?_ _)); refine Zp ?_ NB252_254.out _; (with_reducible repeat (first | refine Za ?_ _ | refine Zb ?_ | refine blk_alloc ?_ _)); refine Zp ?_ NB252_254.out _; (with_reducible repeat (first | refine Za ?_ _ | refine Zb ?_ | refine blk_alloc ?_ _)); refine Zp ?_ NB252_254.out _; (with_reducible repeat (first | refine Za ?_ _ | refine Zb ?_ | refine blk_alloc ?_ _)); exact BK252.out⟩
        have n1_ : Aside0 ((((w10.setCell ⟨gb254, 0, none⟩ (.string ((rd_T55 l0_0 x8_1).f0))).setCell ⟨gb254, 1, none⟩ (.slice A253_1 ((rd_T55 l0_0 x8_1).f1).length c253_1)).setCell ⟨gb254, 2, none⟩ (.slice A253_2 ((rd_T55 l0_0 x8_1).f2).length c253_2)).heap[gb254]? = some (.cells #[.string ((rd_T55 l0_0 x8_1).f0), .slice A253_1 ((rd_T55 l0_0 x8_1).f1).length c253_1, .slice A253_2 ((rd_T55 l0_0 x8_1).f2).length c253_2] 55 (0, 0))) := ⟨by (with_reducible repeat (first | refine Za ?_ _ | refine Zb ?_ | refine blk_alloc ?_ _)); refine blk_put (cs := #[.string ((rd_T55 l0_0 x8_1).f0), .slice A253_1 ((rd_T55 l0_0 x8_1).f1).length c253_1, .slice none 0 0]) ?_ 2 _ rfl; (with_reducible repeat (first | refine Za ?_ _ | refine Zb ?_ | refine blk_alloc ?_ _)); refine blk_put (cs := #[.string ((rd_T55 l0_0 x8_1).f0), .slice none 0 0, .slice none 0 0]) ?_ 1 _ rfl; (with_reducible repeat (first | refine Za ?_ _ | refine Zb ?_ | refine blk_alloc ?_ _)); refine blk_put (cs := #[.string (⟨#[]⟩ : ByteArray), .slice none 0 0, .slice none 0 0]) ?_ 0 _ rfl; (with_reducible repeat (first | refine Za ?_ _ | refine Zb ?_ | refine blk_alloc ?_ _)); exact BK254.out⟩
        have n2_ : Aside0 (Below w.heap.size w (((w10.setCell ⟨gb254, 0, none⟩ (.string ((rd_T55 l0_0 x8_1).f0))).setCell ⟨gb254, 1, none⟩ (.slice A253_1 ((rd_T55 l0_0 x8_1).f1).length c253_1)).setCell ⟨gb254, 2, none⟩ (.slice A253_2 ((rd_T55 l0_0 x8_1).f2).length c253_2))) := ⟨by repeat (first | (with_reducible first | exact HB.out | apply Zf | apply Zd | apply Ze | refine Zg ?_ GE252.out | refine Zg ?_ GE254.out) | exact HB.out)⟩
        (try clear BK252)
        (try clear BK254)
        (try clear HB)
        generalize (((w10.setCell ⟨gb254, 0, none⟩ (.string ((rd_T55 l0_0 x8_1).f0))).setCell ⟨gb254, 1, none⟩ (.slice A253_1 ((rd_T55 l0_0 x8_1).f1).length c253_1)).setCell ⟨gb254, 2, none⟩ (.slice A253_2 ((rd_T55 l0_0 x8_1).f2).length c253_2)) = w13 at n0_ n1_ n2_ ⊢
        have BK252 := n0_
        have BK254 := n1_
        have HB := n2_
        clear n0_ n1_ n2_
        have n0_ := Zh (Zb BK252.out)
        have n1_ := Zh (Zb BK254.out)
        have n2_ := Zh (Ze HB.out)
        clear BK252
        clear BK254
        clear HB
        have BK252 := n0_
        have BK254 := n1_
        have HB := n2_
        clear n0_ n1_ n2_
        refine start_ (n := 30) (S := fun w' => w'.cell? ⟨gb254, 0, none⟩ = some (.string ((rd_T55 l0_0 x8_1).f0)) ∧ w'.cell? ⟨gb254, 1, none⟩ = some (.slice A253_1 ((rd_T55 l0_0 x8_1).f1).length c253_1) ∧ w'.cell? ⟨gb254, 2, none⟩ = some (.slice A253_2 ((rd_T55 l0_0 x8_1).f2).length c253_2)) (ds := []) #[false, false, false, false, false, false, false, false, false, false, false, false, false, false, false, false, false, false, false, false, false, false, false, false, false, false, false, false, false, false] (by kernel_rfl) rfl rfl ⟨(blk_cell BK254.out 0).trans rfl, (blk_cell BK254.out 1).trans rfl, (blk_cell BK254.out 2).trans rfl⟩ (fun hHeld => ?_); refine with_tabW impl_isDisk.tab4 impl_isDisk.bits4 (fun HT_ HW_ => ?_)
        generalize w13.drew = w14 at BK252 BK254 HB hHeld ⊢
        refine SQ.pu 0 13 HT_ ?_
        refine SQ.tk 1 14 HT_ HW_ hHeld ?_
        refine one_ (i := 2) (N := some 15) #[true, true, true, false, false, false, false, false, false, false, false, false, false, false, false, false, false, false, false, false, false, false, false, false, false, false, false, false, false, false] rfl rfl (one_of HT_.out (by kernel_rfl)) (by decide) (fun K hK => ?_)
        refine goes_ Tryd.func93 (by kernel_rfl) rfl #[.string ((rd_T55 l0_0 x8_1).f0)] (by rfl) rfl rfl (by (try simp only [List.map_toArray, List.map_cons, List.map_nil]); first | done | rfl | (simp only [List.length_drop, List.length_take]; rfl)) ?_
        with_reducible refine (impl_isFileName.calls ((rd_T55 l0_0 x8_1).f0) true _ A7.out).mono ?_
        rintro e w15 ⟨rfl, hb⟩
        refine ⟨_, rfl, ?_⟩
        have n0_ := Zh (Zm (g := gb252) (o := .cells #[.slice (some ad253) l0_0.length c0_0] 28 (0, 0)) Zk hb)
        have n1_ := Zh (Zm (g := gb254) (o := .cells #[.string ((rd_T55 l0_0 x8_1).f0), .slice A253_1 ((rd_T55 l0_0 x8_1).f1).length c253_1, .slice A253_2 ((rd_T55 l0_0 x8_1).f2).length c253_2] 55 (0, 0)) Zk hb)
        have n2_ := Zh (Zl Zs hb)
        clear BK252
        clear BK254
        clear HB
        have BK252 := n0_
        have BK254 := n1_
        have HB := n2_
        clear n0_ n1_ n2_
        (try clear hb)
        (try clear hb2)
        (try clear hk)
        (try clear hi)
        refine hK.out _ _ ⟨(blk_cell BK254.out 0).trans rfl, (blk_cell BK254.out 1).trans rfl, (blk_cell BK254.out 2).trans rfl⟩ (fun hHeld => ?_)
        clear hK K
        refine norm_ (a' := ?_) ?_ ?_
        rotate_left
        ·
         show Act.put _ (some 15) _ = _
         simp only [Act.put, List.setIfInBounds_toArray, List.set_cons_zero, List.set_cons_succ, i64_w, i32_w]
         rfl
        refine SQ.pu 3 16 HT_ ?_
        refine SQ.pu 4 17 HT_ ?_
        refine SQ.pu 5 18 HT_ ?_
        refine SQ.pu 8 21 HT_ ?_
        refine SQ.tk 6 19 HT_ HW_ hHeld ?_
        refine SQ.pu 7 20 HT_ ?_
        refine SQ.tk 9 22 HT_ HW_ hHeld ?_
        refine SQ.pu 10 23 HT_ ?_
        refine SQ.pu 11 24 HT_ ?_
        refine SQ.pu 12 25 HT_ ?_
        refine SQ.pu 13 26 HT_ ?_
        refine SQ.pu 14 27 HT_ ?_
        refine SQ.of 15 28 HT_ ?_
        refine SQ.of 16 29 HT_ ?_
        refine SQ.of 17 30 HT_ ?_
        refine SQ.of 18 31 HT_ ?_
        refine SQ.of 19 32 HT_ ?_
        refine SQ.of 20 33 HT_ ?_
        refine SQ.of 21 34 HT_ ?_
        refine SQ.of 22 35 HT_ ?_
        refine SQ.of 23 36 HT_ ?_
        refine SQ.of 24 37 HT_ ?_
        refine SQ.of 25 38 HT_ ?_
        refine SQ.of 26 39 HT_ ?_
        refine SQ.of 27 40 HT_ ?_
        refine SQ.of 28 41 HT_ ?_
        refine SQ.pu 29 42 HT_ ?_
        refine done_ (done_of HT_.out (by kernel_rfl)) ?_
        try go_wp2
        go_ret
        exact ⟨by first | rfl | (simp [errW_none, errW_some] <;> rfl) | (simp [*, errW_none, errW_some] <;> rfl), by repeat (first | (with_reducible first | exact HB.out | apply Zf | apply Zd | apply Ze | refine Zg ?_ GE252.out | refine Zg ?_ GE254.out) | exact HB.out)⟩
       rw [if_neg c9] at H
       have c9b0 : decide (20000 < (wrap64 ((((rd_T55 l0_0 x8_1).f1).length : Int) + (((rd_T55 l0_0 x8_1).f2).length : Int)))) = false := decide_eq_false c9
       clear c9
       by_cases c16 : x8_1 > 0
       ·
        rw [if_pos c16] at H
        have c16b0 : decide (0 < x8_1) = true := decide_eq_true c16
        clear c16
        obtain ⟨ji17, hji17⟩ : ∃ j_ : Int, (wrap64 (x8_1 - 1)) = j_ := ⟨_, rfl⟩
        replace H : (if 0 ≤ (ji17) then (if (ji17) < (l0_0.length : Int) then (if ((Op.bytesLess (((rd_T55 l0_0 (ji17)).f0).toList) (((rd_T55 l0_0 x8_1).f0).toList)) = true) then (impl_isDisk.l0 k1 l0_0 (l0_0.length : Int) (wrap64 (x8_1 + 1)) l0_0) else (some false)) else (none)) else (none)) = some r := by first | (rw [hji17] at H; exact H) | (simp only [hji17] at H ⊢; exact H)
        (try rw [hji17] at A7)
        have hji17w : (IntKind.i64.wrap (x8_1 - 1)) = ji17 := (i64_w _).trans hji17
        by_cases c18 : 0 ≤ (ji17)
        ·
         rw [if_pos c18] at H
         have c18b0 : decide (0 ≤ (ji17)) = true := decide_eq_true c18
         clear c18
         by_cases c19 : (ji17) < (l0_0.length : Int)
         ·
          rw [if_pos c19] at H
          have c19b0 : decide ((ji17) < (l0_0.length : Int)) = true := decide_eq_true c19
          clear c19
          by_cases c20 : ((Op.bytesLess (((rd_T55 l0_0 (ji17)).f0).toList) (((rd_T55 l0_0 x8_1).f0).toList)) = true)
          ·
           rw [if_pos c20] at H
           have c20b0 : (Op.bytesLess (((rd_T55 l0_0 (ji17)).f0).toList) (((rd_T55 l0_0 x8_1).f0).toList)) = true := c20
           clear c20
           have H' := Zh H
           clear H
           have p253 : 0 ≤ (x8_1 : Int) := Zo
           have q253 : x8_1 < (l0_0.length : Int) := Zo
           obtain ⟨ad253, A253_1, c253_1, A253_2, c253_2, e253, hx253_0, hx253_1, hx253_2, hl253_1, hi253_1, hl253_2, hi253_2⟩ := at_T55 HR0_0.out x8_1 p253 q253
           cases e253
           replace hx253_0 := Zc HB.out hx253_0
           replace hx253_1 := Zc HB.out hx253_1
           replace hx253_2 := Zc HB.out hx253_2
           have HR253_1 := Zh hi253_1
           have HC253_1 := Zh hl253_1
           clear hi253_1 hl253_1
           have HR253_2 := Zh hi253_2
           have HC253_2 := Zh hl253_2
           clear hi253_2 hl253_2
           replace p253 := eq_true p253
           replace q253 := eq_true q253
           try go_wp2_with (first | ((with_reducible refine gate_dst (N := 4) rfl ?_); (try (refine gate_guard (by rfl) ?_; dsimp only)); refine box_event ?hg (N := 4) ?hd (cs := #[.string (⟨#[]⟩ : ByteArray), .slice none 0 0, .slice none 0 0]) (t := 55) ?hr ?_; (case hd => rfl); (case hg => rfl); (case hr => first | (go_simp; done) | (go_simp; rfl)); intro gb254 hg w21 hbox hb; have n0_ := Zh (Zm (g := gb252) (o := .cells #[.slice (some ad253) l0_0.length c0_0] 28 (0, 0)) Zk hb); have n1_ := Zh (Zl Zs hb); have n2_ := Zh (hbox); have n3_ := Zh ((by rw [hg]; exact (below_size Zs) : w.heap.size ≤ gb254)); have n4_ := Zh ((by rw [hg]; exact (below_size Zs) : w.heap.size ≤ gb254)); have n5_ := Zh ((by rw [hg]; exact Nat.ne_of_lt (blk_lt (g := gb252) (o := .cells #[.slice (some ad253) l0_0.length c0_0] 28 (0, 0)) Zk) : gb252 ≠ gb254)); have n6_ := Zh ((by rw [hg]; exact Nat.ne_of_gt (blk_lt (g := gb252) (o := .cells #[.slice (some ad253) l0_0.length c0_0] 28 (0, 0)) Zk) : gb254 ≠ gb252)); clear BK252; clear HB; have BK252 := n0_; have HB := n1_; have BK254 := n2_; have GW254 := n3_; have GE254 := n4_; have NB252_254 := n5_; have NB254_252 := n6_; clear n0_ n1_ n2_ n3_ n4_ n5_ n6_; clear hb hbox hg; have hnb22 := NB254_252.out; have hnc22 := NB252_254.out; have hcz23_0 : w21.cell? ⟨gb254, 0, none⟩ = some (.string (⟨#[]⟩ : ByteArray)) := (blk_cell BK254.out 0).trans rfl; have hcz23_1 : w21.cell? ⟨gb254, 1, none⟩ = some (.slice none 0 0) := (blk_cell BK254.out 1).trans rfl; have hcz23_2 : w21.cell? ⟨gb254, 2, none⟩ = some (.slice none 0 0) := (blk_cell BK254.out 2).trans rfl; have hfz23_0 := Zn BK254.out 0; have hfz23_1 := Zn BK254.out 1; have hfz23_2 := Zn BK254.out 2))
           have n0_ : Aside0 ((((w21.setCell ⟨gb254, 0, none⟩ (.string ((rd_T55 l0_0 x8_1).f0))).setCell ⟨gb254, 1, none⟩ (.slice A253_1 ((rd_T55 l0_0 x8_1).f1).length c253_1)).setCell ⟨gb254, 2, none⟩ (.slice A253_2 ((rd_T55 l0_0 x8_1).f2).length c253_2)).heap[gb252]? = some (.cells #[.slice (some ad253) l0_0.length c0_0] 28 (0, 0))) := ⟨by (with_reducible repeat (first | refine Za ?_ _ | refine Zb ?_ | refine blk_alloc ?_ _)); refine Zp ?_ NB252_254.out _; (with_reducible repeat (first | refine Za ?_ _ | refine Zb ?_ | refine blk_alloc ?_ _)); refine Zp ?_ NB252_254.out _; (with_reducible repeat (first | refine Za ?_ _ | refine Zb ?_ | refine blk_alloc ?_ _)); refine Zp ?_ NB252_254.out _; (with_reducible repeat (first | refine Za ?_ _ | refine Zb ?_ | refine blk_alloc ?_ _)); exact BK252.out⟩
           have n1_ : Aside0 ((((w21.setCell ⟨gb254, 0, none⟩ (.string ((rd_T55 l0_0 x8_1).f0))).setCell ⟨gb254, 1, none⟩ (.slice A253_1 ((rd_T55 l0_0 x8_1).f1).length c253_1)).setCell ⟨gb254, 2, none⟩ (.slice A253_2 ((rd_T55 l0_0 x8_1).f2).length c253_2)).heap[gb254]? = some (.cells #[.string ((rd_T55 l0_0 x8_1).f0), .slice A253_1 ((rd_T55 l0_0 x8_1).f1).length c253_1, .slice A253_2 ((rd_T55 l0_0 x8_1).f2).length c253_2] 55 (0, 0))) := ⟨by (with_reducible repeat (first | refine Za ?_ _ | refine Zb ?_ | refine blk_alloc ?_ _)); refine blk_put (cs := #[.string ((rd_T55 l0_0 x8_1).f0), .slice A253_1 ((rd_T55 l0_0 x8_1).f1).length c253_1, .slice none 0 0]) ?_ 2 _ rfl; (with_reducible repeat (first | refine Za ?_ _ | refine Zb ?_ | refine blk_alloc ?_ _)); refine blk_put (cs := #[.string ((rd_T55 l0_0 x8_1).f0), .slice none 0 0, .slice none 0 0]) ?_ 1 _ rfl; (with_reducible repeat (first | refine Za ?_ _ | refine Zb ?_ | refine blk_alloc ?_ _)); refine blk_put (cs := #[.string (⟨#[]⟩ : ByteArray), .slice none 0 0, .slice none 0 0]) ?_ 0 _ rfl; (with_reducible repeat (first | refine Za ?_ _ | refine Zb ?_ | refine blk_alloc ?_ _)); exact BK254.out⟩
           have n2_ : Aside0 (Below w.heap.size w (((w21.setCell ⟨gb254, 0, none⟩ (.string ((rd_T55 l0_0 x8_1).f0))).setCell ⟨gb254, 1, none⟩ (.slice A253_1 ((rd_T55 l0_0 x8_1).f1).length c253_1)).setCell ⟨gb254, 2, none⟩ (.slice A253_2 ((rd_T55 l0_0 x8_1).f2).length c253_2))) := ⟨by repeat (first | (with_reducible first | exact HB.out | apply Zf | apply Zd | apply Ze | refine Zg ?_ GE252.out | refine Zg ?_ GE254.out) | exact HB.out)⟩
           (try clear BK252)
           (try clear BK254)
           (try clear HB)
           generalize (((w21.setCell ⟨gb254, 0, none⟩ (.string ((rd_T55 l0_0 x8_1).f0))).setCell ⟨gb254, 1, none⟩ (.slice A253_1 ((rd_T55 l0_0 x8_1).f1).length c253_1)).setCell ⟨gb254, 2, none⟩ (.slice A253_2 ((rd_T55 l0_0 x8_1).f2).length c253_2)) = w24 at n0_ n1_ n2_ ⊢
           have BK252 := n0_
           have BK254 := n1_
           have HB := n2_
           clear n0_ n1_ n2_
           have n0_ := Zh (Zb BK252.out)
           have n1_ := Zh (Zb BK254.out)
           have n2_ := Zh (Ze HB.out)
           clear BK252
           clear BK254
           clear HB
           have BK252 := n0_
           have BK254 := n1_
           have HB := n2_
           clear n0_ n1_ n2_
           have p256 : 0 ≤ ((ji17) : Int) := Zo
           have q256 : (ji17) < (l0_0.length : Int) := Zo
           obtain ⟨ad256, A256_1, c256_1, A256_2, c256_2, e256, hx256_0, hx256_1, hx256_2, hl256_1, hi256_1, hl256_2, hi256_2⟩ := at_T55 HR0_0.out (ji17) p256 q256
           have hw256_2 := hx256_2
           have hw256_1 := hx256_1
           have hw256_0 := hx256_0
           obtain rfl : ad253 = ad256 := (by injection e256)
           replace hx256_0 := Zc HB.out hx256_0
           replace hx256_1 := Zc HB.out hx256_1
           replace hx256_2 := Zc HB.out hx256_2
           have HR256_1 := Zh hi256_1
           have HC256_1 := Zh hl256_1
           clear hi256_1 hl256_1
           have HR256_2 := Zh hi256_2
           have HC256_2 := Zh hl256_2
           clear hi256_2 hl256_2
           replace p256 := eq_true p256
           replace q256 := eq_true q256
           refine start_ (n := 30) (S := fun w' => w'.cell? ⟨gb254, 0, none⟩ = some (.string ((rd_T55 l0_0 x8_1).f0)) ∧ w'.cell? ⟨gb254, 1, none⟩ = some (.slice A253_1 ((rd_T55 l0_0 x8_1).f1).length c253_1) ∧ w'.cell? ⟨gb254, 2, none⟩ = some (.slice A253_2 ((rd_T55 l0_0 x8_1).f2).length c253_2) ∧ w'.cell? ⟨gb252, 0, none⟩ = some (.slice (some ad253) l0_0.length c0_0) ∧ w'.cell? (ad253.add (((ji17)).toNat * 3)) = some (.string ((rd_T55 l0_0 (ji17)).f0)) ∧ w'.cell? ⟨(ad253.add (((ji17)).toNat * 3)).block, (ad253.add (((ji17)).toNat * 3)).off + 1, none⟩ = some (.slice A256_1 ((rd_T55 l0_0 (ji17)).f1).length c256_1) ∧ w'.cell? ⟨(ad253.add (((ji17)).toNat * 3)).block, (ad253.add (((ji17)).toNat * 3)).off + 2, none⟩ = some (.slice A256_2 ((rd_T55 l0_0 (ji17)).f2).length c256_2)) (ds := []) #[false, false, false, false, false, false, false, false, false, false, false, false, false, false, false, false, false, false, false, false, false, false, false, false, false, false, false, false, false, false] (by kernel_rfl) rfl rfl ⟨(blk_cell BK254.out 0).trans rfl, (blk_cell BK254.out 1).trans rfl, (blk_cell BK254.out 2).trans rfl, (blk_cell BK252.out 0).trans rfl, ((HB.out.cell (Zi w _ hw256_0)).trans hw256_0), ((HB.out.cell (Zi w _ hw256_1)).trans hw256_1), ((HB.out.cell (Zi w _ hw256_2)).trans hw256_2)⟩ (fun hHeld => ?_); refine with_tabW impl_isDisk.tab4 impl_isDisk.bits4 (fun HT_ HW_ => ?_)
           generalize w24.drew = w25 at BK252 BK254 HB HR256_1 HR256_2 hx256_0 hx256_1 hx256_2 hHeld ⊢
           refine SQ.pu 0 13 HT_ ?_
           refine SQ.tk 1 14 HT_ HW_ hHeld ?_
           refine one_ (i := 2) (N := some 15) #[true, true, true, false, false, false, false, false, false, false, false, false, false, false, false, false, false, false, false, false, false, false, false, false, false, false, false, false, false, false] rfl rfl (one_of HT_.out (by kernel_rfl)) (by decide) (fun K hK => ?_)
           refine goes_ Tryd.func93 (by kernel_rfl) rfl #[.string ((rd_T55 l0_0 x8_1).f0)] (by rfl) rfl rfl (by (try simp only [List.map_toArray, List.map_cons, List.map_nil]); first | done | rfl | (simp only [List.length_drop, List.length_take]; rfl)) ?_
           with_reducible refine (impl_isFileName.calls ((rd_T55 l0_0 x8_1).f0) true _ A7.out).mono ?_
           rintro e w26 ⟨rfl, hb⟩
           refine ⟨_, rfl, ?_⟩
           have n0_ := Zh (Zm (g := gb252) (o := .cells #[.slice (some ad253) l0_0.length c0_0] 28 (0, 0)) Zk hb)
           have n1_ := Zh (Zm (g := gb254) (o := .cells #[.string ((rd_T55 l0_0 x8_1).f0), .slice A253_1 ((rd_T55 l0_0 x8_1).f1).length c253_1, .slice A253_2 ((rd_T55 l0_0 x8_1).f2).length c253_2] 55 (0, 0)) Zk hb)
           have n2_ := Zh (Zl Zs hb)
           clear BK252
           clear BK254
           clear HB
           have BK252 := n0_
           have BK254 := n1_
           have HB := n2_
           clear n0_ n1_ n2_
           (try clear hb)
           (try clear hb2)
           (try clear hk)
           (try clear hi)
           refine hK.out _ _ ⟨(blk_cell BK254.out 0).trans rfl, (blk_cell BK254.out 1).trans rfl, (blk_cell BK254.out 2).trans rfl, (blk_cell BK252.out 0).trans rfl, ((HB.out.cell (Zi w _ hw256_0)).trans hw256_0), ((HB.out.cell (Zi w _ hw256_1)).trans hw256_1), ((HB.out.cell (Zi w _ hw256_2)).trans hw256_2)⟩ (fun hHeld => ?_)
           clear hK K
           refine norm_ (a' := ?_) ?_ ?_
           rotate_left
           ·
            show Act.put _ (some 15) _ = _
            simp only [Act.put, List.setIfInBounds_toArray, List.set_cons_zero, List.set_cons_succ, i64_w, i32_w]
            rfl
           refine SQ.pu 3 16 HT_ ?_
           refine SQ.pu 4 17 HT_ ?_
           refine SQ.pu 5 18 HT_ ?_
           refine SQ.pu 8 21 HT_ ?_
           refine SQ.tk 6 19 HT_ HW_ hHeld ?_
           refine SQ.pu 7 20 HT_ ?_
           refine SQ.tk 9 22 HT_ HW_ hHeld ?_
           refine SQ.pu 10 23 HT_ ?_
           refine SQ.pu 11 24 HT_ ?_
           refine SQ.pu 12 25 HT_ ?_
           refine SQ.pu 13 26 HT_ ?_
           refine SQ.pu 14 27 HT_ ?_
           refine SQ.pu 15 28 HT_ ?_
           refine SQ.pu 16 29 HT_ ?_
           refine SQ.pu 17 30 HT_ ?_
           refine SQ.pu 18 31 HT_ ?_
           refine SQ.pu 20 33 HT_ ?_
           refine SQ.pu 21 34 HT_ ?_
           refine SQ.pu 25 38 HT_ ?_
           refine SQ.tk 19 32 HT_ HW_ hHeld ?_
           refine SQ.pu 22 35 HT_ ?_
           refine SQ.pu 23 36 HT_ ?_
           refine SQ.tk 24 37 HT_ HW_ hHeld ?_
           refine SQ.tk 26 39 HT_ HW_ hHeld ?_
           refine SQ.pu 27 40 HT_ ?_
           refine SQ.pu 28 41 HT_ ?_
           refine SQ.pu 29 42 HT_ ?_
           refine done_ (done_of HT_.out (by kernel_rfl)) ?_
           try go_wp2
           go_roundg k1
           case measure => have := HK1.out; omega
           case rel => exact ⟨(wrap64 (x8_1 + 1)), (by first | rfl | (simp; done) | (simp [*]; done)), H', ⟨by have := HK1.out; omega⟩, ⟨by (with_reducible repeat (first | refine Za ?_ _ | refine Zb ?_ | refine blk_alloc ?_ _)); exact BK252.out⟩, ⟨by repeat (first | (with_reducible first | exact HB.out | apply Zf | apply Zd | apply Ze | refine Zg ?_ GE252.out | refine Zg ?_ GE254.out) | exact HB.out)⟩⟩
          rw [if_neg c20] at H
          have c20b0 : (Op.bytesLess (((rd_T55 l0_0 (ji17)).f0).toList) (((rd_T55 l0_0 x8_1).f0).toList)) = false := by simpa using c20
          clear c20
          obtain rfl := Option.some.inj H
          have p253 : 0 ≤ (x8_1 : Int) := Zo
          have q253 : x8_1 < (l0_0.length : Int) := Zo
          obtain ⟨ad253, A253_1, c253_1, A253_2, c253_2, e253, hx253_0, hx253_1, hx253_2, hl253_1, hi253_1, hl253_2, hi253_2⟩ := at_T55 HR0_0.out x8_1 p253 q253
          cases e253
          replace hx253_0 := Zc HB.out hx253_0
          replace hx253_1 := Zc HB.out hx253_1
          replace hx253_2 := Zc HB.out hx253_2
          have HR253_1 := Zh hi253_1
          have HC253_1 := Zh hl253_1
          clear hi253_1 hl253_1
          have HR253_2 := Zh hi253_2
          have HC253_2 := Zh hl253_2
          clear hi253_2 hl253_2
          replace p253 := eq_true p253
          replace q253 := eq_true q253
          try go_wp2_with (first | ((with_reducible refine gate_dst (N := 4) rfl ?_); (try (refine gate_guard (by rfl) ?_; dsimp only)); refine box_event ?hg (N := 4) ?hd (cs := #[.string (⟨#[]⟩ : ByteArray), .slice none 0 0, .slice none 0 0]) (t := 55) ?hr ?_; (case hd => rfl); (case hg => rfl); (case hr => first | (go_simp; done) | (go_simp; rfl)); intro gb254 hg w27 hbox hb; have n0_ := Zh (Zm (g := gb252) (o := .cells #[.slice (some ad253) l0_0.length c0_0] 28 (0, 0)) Zk hb); have n1_ := Zh (Zl Zs hb); have n2_ := Zh (hbox); have n3_ := Zh ((by rw [hg]; exact (below_size Zs) : w.heap.size ≤ gb254)); have n4_ := Zh ((by rw [hg]; exact (below_size Zs) : w.heap.size ≤ gb254)); have n5_ := Zh ((by rw [hg]; exact Nat.ne_of_lt (blk_lt (g := gb252) (o := .cells #[.slice (some ad253) l0_0.length c0_0] 28 (0, 0)) Zk) : gb252 ≠ gb254)); have n6_ := Zh ((by rw [hg]; exact Nat.ne_of_gt (blk_lt (g := gb252) (o := .cells #[.slice (some ad253) l0_0.length c0_0] 28 (0, 0)) Zk) : gb254 ≠ gb252)); clear BK252; clear HB; have BK252 := n0_; have HB := n1_; have BK254 := n2_; have GW254 := n3_; have GE254 := n4_; have NB252_254 := n5_; have NB254_252 := n6_; clear n0_ n1_ n2_ n3_ n4_ n5_ n6_; clear hb hbox hg; have hnb28 := NB254_252.out; have hnc28 := NB252_254.out; have hcz29_0 : w27.cell? ⟨gb254, 0, none⟩ = some (.string (⟨#[]⟩ : ByteArray)) := (blk_cell BK254.out 0).trans rfl; have hcz29_1 : w27.cell? ⟨gb254, 1, none⟩ = some (.slice none 0 0) := (blk_cell BK254.out 1).trans rfl; have hcz29_2 : w27.cell? ⟨gb254, 2, none⟩ = some (.slice none 0 0) := (blk_cell BK254.out 2).trans rfl; have hfz29_0 := Zn BK254.out 0; have hfz29_1 := Zn BK254.out 1; have hfz29_2 := Zn BK254.out 2))
          have n0_ : Aside0 ((((w27.setCell ⟨gb254, 0, none⟩ (.string ((rd_T55 l0_0 x8_1).f0))).setCell ⟨gb254, 1, none⟩ (.slice A253_1 ((rd_T55 l0_0 x8_1).f1).length c253_1)).setCell ⟨gb254, 2, none⟩ (.slice A253_2 ((rd_T55 l0_0 x8_1).f2).length c253_2)).heap[gb252]? = some (.cells #[.slice (some ad253) l0_0.length c0_0] 28 (0, 0))) := ⟨by (with_reducible repeat (first | refine Za ?_ _ | refine Zb ?_ | refine blk_alloc ?_ _)); refine Zp ?_ NB252_254.out _; (with_reducible repeat (first | refine Za ?_ _ | refine Zb ?_ | refine blk_alloc ?_ _)); refine Zp ?_ NB252_254.out _; (with_reducible repeat (first | refine Za ?_ _ | refine Zb ?_ | refine blk_alloc ?_ _)); refine Zp ?_ NB252_254.out _; (with_reducible repeat (first | refine Za ?_ _ | refine Zb ?_ | refine blk_alloc ?_ _)); exact BK252.out⟩
          have n1_ : Aside0 ((((w27.setCell ⟨gb254, 0, none⟩ (.string ((rd_T55 l0_0 x8_1).f0))).setCell ⟨gb254, 1, none⟩ (.slice A253_1 ((rd_T55 l0_0 x8_1).f1).length c253_1)).setCell ⟨gb254, 2, none⟩ (.slice A253_2 ((rd_T55 l0_0 x8_1).f2).length c253_2)).heap[gb254]? = some (.cells #[.string ((rd_T55 l0_0 x8_1).f0), .slice A253_1 ((rd_T55 l0_0 x8_1).f1).length c253_1, .slice A253_2 ((rd_T55 l0_0 x8_1).f2).length c253_2] 55 (0, 0))) := ⟨by (with_reducible repeat (first | refine Za ?_ _ | refine Zb ?_ | refine blk_alloc ?_ _)); refine blk_put (cs := #[.string ((rd_T55 l0_0 x8_1).f0), .slice A253_1 ((rd_T55 l0_0 x8_1).f1).length c253_1, .slice none 0 0]) ?_ 2 _ rfl; (with_reducible repeat (first | refine Za ?_ _ | refine Zb ?_ | refine blk_alloc ?_ _)); refine blk_put (cs := #[.string ((rd_T55 l0_0 x8_1).f0), .slice none 0 0, .slice none 0 0]) ?_ 1 _ rfl; (with_reducible repeat (first | refine Za ?_ _ | refine Zb ?_ | refine blk_alloc ?_ _)); refine blk_put (cs := #[.string (⟨#[]⟩ : ByteArray), .slice none 0 0, .slice none 0 0]) ?_ 0 _ rfl; (with_reducible repeat (first | refine Za ?_ _ | refine Zb ?_ | refine blk_alloc ?_ _)); exact BK254.out⟩
          have n2_ : Aside0 (Below w.heap.size w (((w27.setCell ⟨gb254, 0, none⟩ (.string ((rd_T55 l0_0 x8_1).f0))).setCell ⟨gb254, 1, none⟩ (.slice A253_1 ((rd_T55 l0_0 x8_1).f1).length c253_1)).setCell ⟨gb254, 2, none⟩ (.slice A253_2 ((rd_T55 l0_0 x8_1).f2).length c253_2))) := ⟨by repeat (first | (with_reducible first | exact HB.out | apply Zf | apply Zd | apply Ze | refine Zg ?_ GE252.out | refine Zg ?_ GE254.out) | exact HB.out)⟩
          (try clear BK252)
          (try clear BK254)
          (try clear HB)
          generalize (((w27.setCell ⟨gb254, 0, none⟩ (.string ((rd_T55 l0_0 x8_1).f0))).setCell ⟨gb254, 1, none⟩ (.slice A253_1 ((rd_T55 l0_0 x8_1).f1).length c253_1)).setCell ⟨gb254, 2, none⟩ (.slice A253_2 ((rd_T55 l0_0 x8_1).f2).length c253_2)) = w30 at n0_ n1_ n2_ ⊢
          have BK252 := n0_
          have BK254 := n1_
          have HB := n2_
          clear n0_ n1_ n2_
          have n0_ := Zh (Zb BK252.out)
          have n1_ := Zh (Zb BK254.out)
          have n2_ := Zh (Ze HB.out)
          clear BK252
          clear BK254
          clear HB
          have BK252 := n0_
          have BK254 := n1_
          have HB := n2_
          clear n0_ n1_ n2_
          have p256 : 0 ≤ ((ji17) : Int) := Zo
          have q256 : (ji17) < (l0_0.length : Int) := Zo
          obtain ⟨ad256, A256_1, c256_1, A256_2, c256_2, e256, hx256_0, hx256_1, hx256_2, hl256_1, hi256_1, hl256_2, hi256_2⟩ := at_T55 HR0_0.out (ji17) p256 q256
          have hw256_2 := hx256_2
          have hw256_1 := hx256_1
          have hw256_0 := hx256_0
          obtain rfl : ad253 = ad256 := (by injection e256)
          replace hx256_0 := Zc HB.out hx256_0
          replace hx256_1 := Zc HB.out hx256_1
          replace hx256_2 := Zc HB.out hx256_2
          have HR256_1 := Zh hi256_1
          have HC256_1 := Zh hl256_1
          clear hi256_1 hl256_1
          have HR256_2 := Zh hi256_2
          have HC256_2 := Zh hl256_2
          clear hi256_2 hl256_2
          replace p256 := eq_true p256
          replace q256 := eq_true q256
          refine start_ (n := 30) (S := fun w' => w'.cell? ⟨gb254, 0, none⟩ = some (.string ((rd_T55 l0_0 x8_1).f0)) ∧ w'.cell? ⟨gb254, 1, none⟩ = some (.slice A253_1 ((rd_T55 l0_0 x8_1).f1).length c253_1) ∧ w'.cell? ⟨gb254, 2, none⟩ = some (.slice A253_2 ((rd_T55 l0_0 x8_1).f2).length c253_2) ∧ w'.cell? ⟨gb252, 0, none⟩ = some (.slice (some ad253) l0_0.length c0_0) ∧ w'.cell? (ad253.add (((ji17)).toNat * 3)) = some (.string ((rd_T55 l0_0 (ji17)).f0)) ∧ w'.cell? ⟨(ad253.add (((ji17)).toNat * 3)).block, (ad253.add (((ji17)).toNat * 3)).off + 1, none⟩ = some (.slice A256_1 ((rd_T55 l0_0 (ji17)).f1).length c256_1) ∧ w'.cell? ⟨(ad253.add (((ji17)).toNat * 3)).block, (ad253.add (((ji17)).toNat * 3)).off + 2, none⟩ = some (.slice A256_2 ((rd_T55 l0_0 (ji17)).f2).length c256_2)) (ds := []) #[false, false, false, false, false, false, false, false, false, false, false, false, false, false, false, false, false, false, false, false, false, false, false, false, false, false, false, false, false, false] (by kernel_rfl) rfl rfl ⟨(blk_cell BK254.out 0).trans rfl, (blk_cell BK254.out 1).trans rfl, (blk_cell BK254.out 2).trans rfl, (blk_cell BK252.out 0).trans rfl, ((HB.out.cell (Zi w _ hw256_0)).trans hw256_0), ((HB.out.cell (Zi w _ hw256_1)).trans hw256_1), ((HB.out.cell (Zi w _ hw256_2)).trans hw256_2)⟩ (fun hHeld => ?_); refine with_tabW impl_isDisk.tab4 impl_isDisk.bits4 (fun HT_ HW_ => ?_)
          generalize w30.drew = w31 at BK252 BK254 HB HR256_1 HR256_2 hx256_0 hx256_1 hx256_2 hHeld ⊢
          refine SQ.pu 0 13 HT_ ?_
          refine SQ.tk 1 14 HT_ HW_ hHeld ?_
          refine one_ (i := 2) (N := some 15) #[true, true, true, false, false, false, false, false, false, false, false, false, false, false, false, false, false, false, false, false, false, false, false, false, false, false, false, false, false, false] rfl rfl (one_of HT_.out (by kernel_rfl)) (by decide) (fun K hK => ?_)
          refine goes_ Tryd.func93 (by kernel_rfl) rfl #[.string ((rd_T55 l0_0 x8_1).f0)] (by rfl) rfl rfl (by (try simp only [List.map_toArray, List.map_cons, List.map_nil]); first | done | rfl | (simp only [List.length_drop, List.length_take]; rfl)) ?_
          with_reducible refine (impl_isFileName.calls ((rd_T55 l0_0 x8_1).f0) true _ A7.out).mono ?_
          rintro e w32 ⟨rfl, hb⟩
          refine ⟨_, rfl, ?_⟩
          have n0_ := Zh (Zm (g := gb252) (o := .cells #[.slice (some ad253) l0_0.length c0_0] 28 (0, 0)) Zk hb)
          have n1_ := Zh (Zm (g := gb254) (o := .cells #[.string ((rd_T55 l0_0 x8_1).f0), .slice A253_1 ((rd_T55 l0_0 x8_1).f1).length c253_1, .slice A253_2 ((rd_T55 l0_0 x8_1).f2).length c253_2] 55 (0, 0)) Zk hb)
          have n2_ := Zh (Zl Zs hb)
          clear BK252
          clear BK254
          clear HB
          have BK252 := n0_
          have BK254 := n1_
          have HB := n2_
          clear n0_ n1_ n2_
          (try clear hb)
          (try clear hb2)
          (try clear hk)
          (try clear hi)
          refine hK.out _ _ ⟨(blk_cell BK254.out 0).trans rfl, (blk_cell BK254.out 1).trans rfl, (blk_cell BK254.out 2).trans rfl, (blk_cell BK252.out 0).trans rfl, ((HB.out.cell (Zi w _ hw256_0)).trans hw256_0), ((HB.out.cell (Zi w _ hw256_1)).trans hw256_1), ((HB.out.cell (Zi w _ hw256_2)).trans hw256_2)⟩ (fun hHeld => ?_)
          clear hK K
          refine norm_ (a' := ?_) ?_ ?_
          rotate_left
          ·
           show Act.put _ (some 15) _ = _
           simp only [Act.put, List.setIfInBounds_toArray, List.set_cons_zero, List.set_cons_succ, i64_w, i32_w]
           rfl
          refine SQ.pu 3 16 HT_ ?_
          refine SQ.pu 4 17 HT_ ?_
          refine SQ.pu 5 18 HT_ ?_
          refine SQ.pu 8 21 HT_ ?_
          refine SQ.tk 6 19 HT_ HW_ hHeld ?_
          refine SQ.pu 7 20 HT_ ?_
          refine SQ.tk 9 22 HT_ HW_ hHeld ?_
          refine SQ.pu 10 23 HT_ ?_
          refine SQ.pu 11 24 HT_ ?_
          refine SQ.pu 12 25 HT_ ?_
          refine SQ.pu 13 26 HT_ ?_
          refine SQ.pu 14 27 HT_ ?_
          refine SQ.pu 15 28 HT_ ?_
          refine SQ.pu 16 29 HT_ ?_
          refine SQ.pu 17 30 HT_ ?_
          refine SQ.pu 18 31 HT_ ?_
          refine SQ.pu 20 33 HT_ ?_
          refine SQ.pu 21 34 HT_ ?_
          refine SQ.pu 25 38 HT_ ?_
          refine SQ.tk 19 32 HT_ HW_ hHeld ?_
          refine SQ.pu 22 35 HT_ ?_
          refine SQ.pu 23 36 HT_ ?_
          refine SQ.tk 24 37 HT_ HW_ hHeld ?_
          refine SQ.tk 26 39 HT_ HW_ hHeld ?_
          refine SQ.pu 27 40 HT_ ?_
          refine SQ.pu 28 41 HT_ ?_
          refine SQ.pu 29 42 HT_ ?_
          refine done_ (done_of HT_.out (by kernel_rfl)) ?_
          try go_wp2
          go_ret
          exact ⟨by first | rfl | (simp [errW_none, errW_some] <;> rfl) | (simp only [← hji17]; first | rfl | (simp [errW_none, errW_some] <;> rfl)) | (simp [*, errW_none, errW_some] <;> rfl), by repeat (first | (with_reducible first | exact HB.out | apply Zf | apply Zd | apply Ze | refine Zg ?_ GE252.out | refine Zg ?_ GE254.out) | exact HB.out)⟩
         rw [if_neg c19] at H
         exact absurd H (by simp)
        rw [if_neg c18] at H
        exact absurd H (by simp)
       rw [if_neg c16] at H
       have c16b0 : decide (0 < x8_1) = false := decide_eq_false c16
       clear c16
       have H' := Zh H
       clear H
       have p253 : 0 ≤ (x8_1 : Int) := Zo
       have q253 : x8_1 < (l0_0.length : Int) := Zo
       obtain ⟨ad253, A253_1, c253_1, A253_2, c253_2, e253, hx253_0, hx253_1, hx253_2, hl253_1, hi253_1, hl253_2, hi253_2⟩ := at_T55 HR0_0.out x8_1 p253 q253
       cases e253
       replace hx253_0 := Zc HB.out hx253_0
       replace hx253_1 := Zc HB.out hx253_1
       replace hx253_2 := Zc HB.out hx253_2
       have HR253_1 := Zh hi253_1
       have HC253_1 := Zh hl253_1
       clear hi253_1 hl253_1
       have HR253_2 := Zh hi253_2
       have HC253_2 := Zh hl253_2
       clear hi253_2 hl253_2
       replace p253 := eq_true p253
       replace q253 := eq_true q253
       try go_wp2_with (first | ((with_reducible refine gate_dst (N := 4) rfl ?_); (try (refine gate_guard (by rfl) ?_; dsimp only)); refine box_event ?hg (N := 4) ?hd (cs := #[.string (⟨#[]⟩ : ByteArray), .slice none 0 0, .slice none 0 0]) (t := 55) ?hr ?_; (case hd => rfl); (case hg => rfl); (case hr => first | (go_simp; done) | (go_simp; rfl)); intro gb254 hg w33 hbox hb; have n0_ := Zh (Zm (g := gb252) (o := .cells #[.slice (some ad253) l0_0.length c0_0] 28 (0, 0)) Zk hb); have n1_ := Zh (Zl Zs hb); have n2_ := Zh (hbox); have n3_ := Zh ((by rw [hg]; exact (below_size Zs) : w.heap.size ≤ gb254)); have n4_ := Zh ((by rw [hg]; exact (below_size Zs) : w.heap.size ≤ gb254)); have n5_ := Zh ((by rw [hg]; exact Nat.ne_of_lt (blk_lt (g := gb252) (o := .cells #[.slice (some ad253) l0_0.length c0_0] 28 (0, 0)) Zk) : gb252 ≠ gb254)); have n6_ := Zh ((by rw [hg]; exact Nat.ne_of_gt (blk_lt (g := gb252) (o := .cells #[.slice (some ad253) l0_0.length c0_0] 28 (0, 0)) Zk) : gb254 ≠ gb252)); clear BK252; clear HB; have BK252 := n0_; have HB := n1_; have BK254 := n2_; have GW254 := n3_; have GE254 := n4_; have NB252_254 := n5_; have NB254_252 := n6_; clear n0_ n1_ n2_ n3_ n4_ n5_ n6_; clear hb hbox hg; have hnb34 := NB254_252.out; have hnc34 := NB252_254.out; have hcz35_0 : w33.cell? ⟨gb254, 0, none⟩ = some (.string (⟨#[]⟩ : ByteArray)) := (blk_cell BK254.out 0).trans rfl; have hcz35_1 : w33.cell? ⟨gb254, 1, none⟩ = some (.slice none 0 0) := (blk_cell BK254.out 1).trans rfl; have hcz35_2 : w33.cell? ⟨gb254, 2, none⟩ = some (.slice none 0 0) := (blk_cell BK254.out 2).trans rfl; have hfz35_0 := Zn BK254.out 0; have hfz35_1 := Zn BK254.out 1; have hfz35_2 := Zn BK254.out 2))
       have n0_ : Aside0 ((((w33.setCell ⟨gb254, 0, none⟩ (.string ((rd_T55 l0_0 x8_1).f0))).setCell ⟨gb254, 1, none⟩ (.slice A253_1 ((rd_T55 l0_0 x8_1).f1).length c253_1)).setCell ⟨gb254, 2, none⟩ (.slice A253_2 ((rd_T55 l0_0 x8_1).f2).length c253_2)).heap[gb252]? = some (.cells #[.slice (some ad253) l0_0.length c0_0] 28 (0, 0))) := ⟨by (with_reducible repeat (first | refine Za ?_ _ | refine Zb ?_ | refine blk_alloc ?_ _)); refine Zp ?_ NB252_254.out _; (with_reducible repeat (first | refine Za ?_ _ | refine Zb ?_ | refine blk_alloc ?_ _)); refine Zp ?_ NB252_254.out _; (with_reducible repeat (first | refine Za ?_ _ | refine Zb ?_ | refine blk_alloc ?_ _)); refine Zp ?_ NB252_254.out _; (with_reducible repeat (first | refine Za ?_ _ | refine Zb ?_ | refine blk_alloc ?_ _)); exact BK252.out⟩
       have n1_ : Aside0 ((((w33.setCell ⟨gb254, 0, none⟩ (.string ((rd_T55 l0_0 x8_1).f0))).setCell ⟨gb254, 1, none⟩ (.slice A253_1 ((rd_T55 l0_0 x8_1).f1).length c253_1)).setCell ⟨gb254, 2, none⟩ (.slice A253_2 ((rd_T55 l0_0 x8_1).f2).length c253_2)).heap[gb254]? = some (.cells #[.string ((rd_T55 l0_0 x8_1).f0), .slice A253_1 ((rd_T55 l0_0 x8_1).f1).length c253_1, .slice A253_2 ((rd_T55 l0_0 x8_1).f2).length c253_2] 55 (0, 0))) := ⟨by (with_reducible repeat (first | refine Za ?_ _ | refine Zb ?_ | refine blk_alloc ?_ _)); refine blk_put (cs := #[.string ((rd_T55 l0_0 x8_1).f0), .slice A253_1 ((rd_T55 l0_0 x8_1).f1).length c253_1, .slice none 0 0]) ?_ 2 _ rfl; (with_reducible repeat (first | refine Za ?_ _ | refine Zb ?_ | refine blk_alloc ?_ _)); refine blk_put (cs := #[.string ((rd_T55 l0_0 x8_1).f0), .slice none 0 0, .slice none 0 0]) ?_ 1 _ rfl; (with_reducible repeat (first | refine Za ?_ _ | refine Zb ?_ | refine blk_alloc ?_ _)); refine blk_put (cs := #[.string (⟨#[]⟩ : ByteArray), .slice none 0 0, .slice none 0 0]) ?_ 0 _ rfl; (with_reducible repeat (first | refine Za ?_ _ | refine Zb ?_ | refine blk_alloc ?_ _)); exact BK254.out⟩
       have n2_ : Aside0 (Below w.heap.size w (((w33.setCell ⟨gb254, 0, none⟩ (.string ((rd_T55 l0_0 x8_1).f0))).setCell ⟨gb254, 1, none⟩ (.slice A253_1 ((rd_T55 l0_0 x8_1).f1).length c253_1)).setCell ⟨gb254, 2, none⟩ (.slice A253_2 ((rd_T55 l0_0 x8_1).f2).length c253_2))) := ⟨by repeat (first | (with_reducible first | exact HB.out | apply Zf | apply Zd | apply Ze | refine Zg ?_ GE252.out | refine Zg ?_ GE254.out) | exact HB.out)⟩
       (try clear BK252)
       (try clear BK254)
       (try clear HB)
       generalize (((w33.setCell ⟨gb254, 0, none⟩ (.string ((rd_T55 l0_0 x8_1).f0))).setCell ⟨gb254, 1, none⟩ (.slice A253_1 ((rd_T55 l0_0 x8_1).f1).length c253_1)).setCell ⟨gb254, 2, none⟩ (.slice A253_2 ((rd_T55 l0_0 x8_1).f2).length c253_2)) = w36 at n0_ n1_ n2_ ⊢
       have BK252 := n0_
       have BK254 := n1_
       have HB := n2_
       clear n0_ n1_ n2_
       have n0_ := Zh (Zb BK252.out)
       have n1_ := Zh (Zb BK254.out)
       have n2_ := Zh (Ze HB.out)
       clear BK252
       clear BK254
       clear HB
       have BK252 := n0_
       have BK254 := n1_
       have HB := n2_
       clear n0_ n1_ n2_
       refine start_ (n := 30) (S := fun w' => w'.cell? ⟨gb254, 0, none⟩ = some (.string ((rd_T55 l0_0 x8_1).f0)) ∧ w'.cell? ⟨gb254, 1, none⟩ = some (.slice A253_1 ((rd_T55 l0_0 x8_1).f1).length c253_1) ∧ w'.cell? ⟨gb254, 2, none⟩ = some (.slice A253_2 ((rd_T55 l0_0 x8_1).f2).length c253_2)) (ds := []) #[false, false, false, false, false, false, false, false, false, false, false, false, false, false, false, false, false, false, false, false, false, false, false, false, false, false, false, false, false, false] (by kernel_rfl) rfl rfl ⟨(blk_cell BK254.out 0).trans rfl, (blk_cell BK254.out 1).trans rfl, (blk_cell BK254.out 2).trans rfl⟩ (fun hHeld => ?_); refine with_tabW impl_isDisk.tab4 impl_isDisk.bits4 (fun HT_ HW_ => ?_)
       generalize w36.drew = w37 at BK252 BK254 HB hHeld ⊢
       refine SQ.pu 0 13 HT_ ?_
       refine SQ.tk 1 14 HT_ HW_ hHeld ?_
       refine one_ (i := 2) (N := some 15) #[true, true, true, false, false, false, false, false, false, false, false, false, false, false, false, false, false, false, false, false, false, false, false, false, false, false, false, false, false, false] rfl rfl (one_of HT_.out (by kernel_rfl)) (by decide) (fun K hK => ?_)
       refine goes_ Tryd.func93 (by kernel_rfl) rfl #[.string ((rd_T55 l0_0 x8_1).f0)] (by rfl) rfl rfl (by (try simp only [List.map_toArray, List.map_cons, List.map_nil]); first | done | rfl | (simp only [List.length_drop, List.length_take]; rfl)) ?_
       with_reducible refine (impl_isFileName.calls ((rd_T55 l0_0 x8_1).f0) true _ A7.out).mono ?_
       rintro e w38 ⟨rfl, hb⟩
       refine ⟨_, rfl, ?_⟩
       have n0_ := Zh (Zm (g := gb252) (o := .cells #[.slice (some ad253) l0_0.length c0_0] 28 (0, 0)) Zk hb)
       have n1_ := Zh (Zm (g := gb254) (o := .cells #[.string ((rd_T55 l0_0 x8_1).f0), .slice A253_1 ((rd_T55 l0_0 x8_1).f1).length c253_1, .slice A253_2 ((rd_T55 l0_0 x8_1).f2).length c253_2] 55 (0, 0)) Zk hb)
       have n2_ := Zh (Zl Zs hb)
       clear BK252
       clear BK254
       clear HB
       have BK252 := n0_
       have BK254 := n1_
       have HB := n2_
       clear n0_ n1_ n2_
       (try clear hb)
       (try clear hb2)
       (try clear hk)
       (try clear hi)
       refine hK.out _ _ ⟨(blk_cell BK254.out 0).trans rfl, (blk_cell BK254.out 1).trans rfl, (blk_cell BK254.out 2).trans rfl⟩ (fun hHeld => ?_)
       clear hK K
       refine norm_ (a' := ?_) ?_ ?_
       rotate_left
       ·
        show Act.put _ (some 15) _ = _
        simp only [Act.put, List.setIfInBounds_toArray, List.set_cons_zero, List.set_cons_succ, i64_w, i32_w]
        rfl
       refine SQ.pu 3 16 HT_ ?_
       refine SQ.pu 4 17 HT_ ?_
       refine SQ.pu 5 18 HT_ ?_
       refine SQ.pu 8 21 HT_ ?_
       refine SQ.tk 6 19 HT_ HW_ hHeld ?_
       refine SQ.pu 7 20 HT_ ?_
       refine SQ.tk 9 22 HT_ HW_ hHeld ?_
       refine SQ.pu 10 23 HT_ ?_
       refine SQ.pu 11 24 HT_ ?_
       refine SQ.pu 12 25 HT_ ?_
       refine SQ.pu 13 26 HT_ ?_
       refine SQ.pu 14 27 HT_ ?_
       refine SQ.pu 15 28 HT_ ?_
       refine SQ.pu 16 29 HT_ ?_
       refine SQ.pu 17 30 HT_ ?_
       refine SQ.of 18 31 HT_ ?_
       refine SQ.of 19 32 HT_ ?_
       refine SQ.of 20 33 HT_ ?_
       refine SQ.of 21 34 HT_ ?_
       refine SQ.of 22 35 HT_ ?_
       refine SQ.of 23 36 HT_ ?_
       refine SQ.of 24 37 HT_ ?_
       refine SQ.of 25 38 HT_ ?_
       refine SQ.of 26 39 HT_ ?_
       refine SQ.of 27 40 HT_ ?_
       refine SQ.pu 28 41 HT_ ?_
       refine SQ.pu 29 42 HT_ ?_
       refine done_ (done_of HT_.out (by kernel_rfl)) ?_
       try go_wp2
       go_roundg k1
       case measure => have := HK1.out; omega
       case rel => exact ⟨(wrap64 (x8_1 + 1)), (by first | rfl | (simp; done) | (simp [*]; done)), H', ⟨by have := HK1.out; omega⟩, ⟨by (with_reducible repeat (first | refine Za ?_ _ | refine Zb ?_ | refine blk_alloc ?_ _)); exact BK252.out⟩, ⟨by repeat (first | (with_reducible first | exact HB.out | apply Zf | apply Zd | apply Ze | refine Zg ?_ GE252.out | refine Zg ?_ GE254.out) | exact HB.out)⟩⟩
      replace c8 := Bool.eq_false_iff.mpr c8
      subst c8
      have H1 : (some false) = some r := by rw [if_neg (show ¬ (false = true) by decide)] at H; exact H
      clear H
      have H := H1
      clear H1
      obtain rfl := Option.some.inj H
      have p253 : 0 ≤ (x8_1 : Int) := Zo
      have q253 : x8_1 < (l0_0.length : Int) := Zo
      obtain ⟨ad253, A253_1, c253_1, A253_2, c253_2, e253, hx253_0, hx253_1, hx253_2, hl253_1, hi253_1, hl253_2, hi253_2⟩ := at_T55 HR0_0.out x8_1 p253 q253
      cases e253
      replace hx253_0 := Zc HB.out hx253_0
      replace hx253_1 := Zc HB.out hx253_1
      replace hx253_2 := Zc HB.out hx253_2
      have HR253_1 := Zh hi253_1
      have HC253_1 := Zh hl253_1
      clear hi253_1 hl253_1
      have HR253_2 := Zh hi253_2
      have HC253_2 := Zh hl253_2
      clear hi253_2 hl253_2
      replace p253 := eq_true p253
      replace q253 := eq_true q253
      try go_wp2_with (first | ((with_reducible refine gate_dst (N := 4) rfl ?_); (try (refine gate_guard (by rfl) ?_; dsimp only)); refine box_event ?hg (N := 4) ?hd (cs := #[.string (⟨#[]⟩ : ByteArray), .slice none 0 0, .slice none 0 0]) (t := 55) ?hr ?_; (case hd => rfl); (case hg => rfl); (case hr => first | (go_simp; done) | (go_simp; rfl)); intro gb254 hg w39 hbox hb; have n0_ := Zh (Zm (g := gb252) (o := .cells #[.slice (some ad253) l0_0.length c0_0] 28 (0, 0)) Zk hb); have n1_ := Zh (Zl Zs hb); have n2_ := Zh (hbox); have n3_ := Zh ((by rw [hg]; exact (below_size Zs) : w.heap.size ≤ gb254)); have n4_ := Zh ((by rw [hg]; exact (below_size Zs) : w.heap.size ≤ gb254)); have n5_ := Zh ((by rw [hg]; exact Nat.ne_of_lt (blk_lt (g := gb252) (o := .cells #[.slice (some ad253) l0_0.length c0_0] 28 (0, 0)) Zk) : gb252 ≠ gb254)); have n6_ := Zh ((by rw [hg]; exact Nat.ne_of_gt (blk_lt (g := gb252) (o := .cells #[.slice (some ad253) l0_0.length c0_0] 28 (0, 0)) Zk) : gb254 ≠ gb252)); clear BK252; clear HB; have BK252 := n0_; have HB := n1_; have BK254 := n2_; have GW254 := n3_; have GE254 := n4_; have NB252_254 := n5_; have NB254_252 := n6_; clear n0_ n1_ n2_ n3_ n4_ n5_ n6_; clear hb hbox hg; have hnb40 := NB254_252.out; have hnc40 := NB252_254.out; have hcz41_0 : w39.cell? ⟨gb254, 0, none⟩ = some (.string (⟨#[]⟩ : ByteArray)) := (blk_cell BK254.out 0).trans rfl; have hcz41_1 : w39.cell? ⟨gb254, 1, none⟩ = some (.slice none 0 0) := (blk_cell BK254.out 1).trans rfl; have hcz41_2 : w39.cell? ⟨gb254, 2, none⟩ = some (.slice none 0 0) := (blk_cell BK254.out 2).trans rfl; have hfz41_0 := Zn BK254.out 0; have hfz41_1 := Zn BK254.out 1; have hfz41_2 := Zn BK254.out 2))
      have n0_ : Aside0 ((((w39.setCell ⟨gb254, 0, none⟩ (.string ((rd_T55 l0_0 x8_1).f0))).setCell ⟨gb254, 1, none⟩ (.slice A253_1 ((rd_T55 l0_0 x8_1).f1).length c253_1)).setCell ⟨gb254, 2, none⟩ (.slice A253_2 ((rd_T55 l0_0 x8_1).f2).length c253_2)).heap[gb252]? = some (.cells #[.slice (some ad253) l0_0.length c0_0] 28 (0, 0))) := ⟨by (with_reducible repeat (first | refine Za ?_ _ | refine Zb ?_ | refine blk_alloc ?_ _)); refine Zp ?_ NB252_254.out _; (with_reducible repeat (first | refine Za ?_ _ | refine Zb ?_ | refine blk_alloc ?_ _)); refine Zp ?_ NB252_254.out _; (with_reducible repeat (first | refine Za ?_ _ | refine Zb ?_ | refine blk_alloc ?_ _)); refine Zp ?_ NB252_254.out _; (with_reducible repeat (first | refine Za ?_ _ | refine Zb ?_ | refine blk_alloc ?_ _)); exact BK252.out⟩
      have n1_ : Aside0 ((((w39.setCell ⟨gb254, 0, none⟩ (.string ((rd_T55 l0_0 x8_1).f0))).setCell ⟨gb254, 1, none⟩ (.slice A253_1 ((rd_T55 l0_0 x8_1).f1).length c253_1)).setCell ⟨gb254, 2, none⟩ (.slice A253_2 ((rd_T55 l0_0 x8_1).f2).length c253_2)).heap[gb254]? = some (.cells #[.string ((rd_T55 l0_0 x8_1).f0), .slice A253_1 ((rd_T55 l0_0 x8_1).f1).length c253_1, .slice A253_2 ((rd_T55 l0_0 x8_1).f2).length c253_2] 55 (0, 0))) := ⟨by (with_reducible repeat (first | refine Za ?_ _ | refine Zb ?_ | refine blk_alloc ?_ _)); refine blk_put (cs := #[.string ((rd_T55 l0_0 x8_1).f0), .slice A253_1 ((rd_T55 l0_0 x8_1).f1).length c253_1, .slice none 0 0]) ?_ 2 _ rfl; (with_reducible repeat (first | refine Za ?_ _ | refine Zb ?_ | refine blk_alloc ?_ _)); refine blk_put (cs := #[.string ((rd_T55 l0_0 x8_1).f0), .slice none 0 0, .slice none 0 0]) ?_ 1 _ rfl; (with_reducible repeat (first | refine Za ?_ _ | refine Zb ?_ | refine blk_alloc ?_ _)); refine blk_put (cs := #[.string (⟨#[]⟩ : ByteArray), .slice none 0 0, .slice none 0 0]) ?_ 0 _ rfl; (with_reducible repeat (first | refine Za ?_ _ | refine Zb ?_ | refine blk_alloc ?_ _)); exact BK254.out⟩
      have n2_ : Aside0 (Below w.heap.size w (((w39.setCell ⟨gb254, 0, none⟩ (.string ((rd_T55 l0_0 x8_1).f0))).setCell ⟨gb254, 1, none⟩ (.slice A253_1 ((rd_T55 l0_0 x8_1).f1).length c253_1)).setCell ⟨gb254, 2, none⟩ (.slice A253_2 ((rd_T55 l0_0 x8_1).f2).length c253_2))) := ⟨by repeat (first | (with_reducible first | exact HB.out | apply Zf | apply Zd | apply Ze | refine Zg ?_ GE252.out | refine Zg ?_ GE254.out) | exact HB.out)⟩
      (try clear BK252)
      (try clear BK254)
      (try clear HB)
      generalize (((w39.setCell ⟨gb254, 0, none⟩ (.string ((rd_T55 l0_0 x8_1).f0))).setCell ⟨gb254, 1, none⟩ (.slice A253_1 ((rd_T55 l0_0 x8_1).f1).length c253_1)).setCell ⟨gb254, 2, none⟩ (.slice A253_2 ((rd_T55 l0_0 x8_1).f2).length c253_2)) = w42 at n0_ n1_ n2_ ⊢
      have BK252 := n0_
      have BK254 := n1_
      have HB := n2_
      clear n0_ n1_ n2_
      have n0_ := Zh (Zb BK252.out)
      have n1_ := Zh (Zb BK254.out)
      have n2_ := Zh (Ze HB.out)
      clear BK252
      clear BK254
      clear HB
      have BK252 := n0_
      have BK254 := n1_
      have HB := n2_
      clear n0_ n1_ n2_
      refine start_ (n := 30) (S := fun w' => w'.cell? ⟨gb254, 0, none⟩ = some (.string ((rd_T55 l0_0 x8_1).f0)) ∧ w'.cell? ⟨gb254, 1, none⟩ = some (.slice A253_1 ((rd_T55 l0_0 x8_1).f1).length c253_1) ∧ w'.cell? ⟨gb254, 2, none⟩ = some (.slice A253_2 ((rd_T55 l0_0 x8_1).f2).length c253_2)) (ds := []) #[false, false, false, false, false, false, false, false, false, false, false, false, false, false, false, false, false, false, false, false, false, false, false, false, false, false, false, false, false, false] (by kernel_rfl) rfl rfl ⟨(blk_cell BK254.out 0).trans rfl, (blk_cell BK254.out 1).trans rfl, (blk_cell BK254.out 2).trans rfl⟩ (fun hHeld => ?_); refine with_tabW impl_isDisk.tab4 impl_isDisk.bits4 (fun HT_ HW_ => ?_)
      generalize w42.drew = w43 at BK252 BK254 HB hHeld ⊢
      refine SQ.pu 0 13 HT_ ?_
      refine SQ.tk 1 14 HT_ HW_ hHeld ?_
      refine one_ (i := 2) (N := some 15) #[true, true, true, false, false, false, false, false, false, false, false, false, false, false, false, false, false, false, false, false, false, false, false, false, false, false, false, false, false, false] rfl rfl (one_of HT_.out (by kernel_rfl)) (by decide) (fun K hK => ?_)
      refine goes_ Tryd.func93 (by kernel_rfl) rfl #[.string ((rd_T55 l0_0 x8_1).f0)] (by rfl) rfl rfl (by (try simp only [List.map_toArray, List.map_cons, List.map_nil]); first | done | rfl | (simp only [List.length_drop, List.length_take]; rfl)) ?_
      with_reducible refine (impl_isFileName.calls ((rd_T55 l0_0 x8_1).f0) false _ A7.out).mono ?_
      rintro e w44 ⟨rfl, hb⟩
      refine ⟨_, rfl, ?_⟩
      have n0_ := Zh (Zm (g := gb252) (o := .cells #[.slice (some ad253) l0_0.length c0_0] 28 (0, 0)) Zk hb)
      have n1_ := Zh (Zm (g := gb254) (o := .cells #[.string ((rd_T55 l0_0 x8_1).f0), .slice A253_1 ((rd_T55 l0_0 x8_1).f1).length c253_1, .slice A253_2 ((rd_T55 l0_0 x8_1).f2).length c253_2] 55 (0, 0)) Zk hb)
      have n2_ := Zh (Zl Zs hb)
      clear BK252
      clear BK254
      clear HB
      have BK252 := n0_
      have BK254 := n1_
      have HB := n2_
      clear n0_ n1_ n2_
      (try clear hb)
      (try clear hb2)
      (try clear hk)
      (try clear hi)
      refine hK.out _ _ ⟨(blk_cell BK254.out 0).trans rfl, (blk_cell BK254.out 1).trans rfl, (blk_cell BK254.out 2).trans rfl⟩ (fun hHeld => ?_)
      clear hK K
      refine norm_ (a' := ?_) ?_ ?_
      rotate_left
      ·
       show Act.put _ (some 15) _ = _
       simp only [Act.put, List.setIfInBounds_toArray, List.set_cons_zero, List.set_cons_succ, i64_w, i32_w]
       rfl
      refine SQ.pu 3 16 HT_ ?_
      refine SQ.pu 4 17 HT_ ?_
      refine SQ.of 5 18 HT_ ?_
      refine SQ.of 6 19 HT_ ?_
      refine SQ.of 7 20 HT_ ?_
      refine SQ.of 8 21 HT_ ?_
      refine SQ.of 9 22 HT_ ?_
      refine SQ.of 10 23 HT_ ?_
      refine SQ.of 11 24 HT_ ?_
      refine SQ.of 12 25 HT_ ?_
      refine SQ.pu 13 26 HT_ ?_
      refine SQ.pu 14 27 HT_ ?_
      refine SQ.of 15 28 HT_ ?_
      refine SQ.of 16 29 HT_ ?_
      refine SQ.of 17 30 HT_ ?_
      refine SQ.of 18 31 HT_ ?_
      refine SQ.of 19 32 HT_ ?_
      refine SQ.of 20 33 HT_ ?_
      refine SQ.of 21 34 HT_ ?_
      refine SQ.of 22 35 HT_ ?_
      refine SQ.of 23 36 HT_ ?_
      refine SQ.of 24 37 HT_ ?_
      refine SQ.of 25 38 HT_ ?_
      refine SQ.of 26 39 HT_ ?_
      refine SQ.of 27 40 HT_ ?_
      refine SQ.of 28 41 HT_ ?_
      refine SQ.pu 29 42 HT_ ?_
      refine done_ (done_of HT_.out (by kernel_rfl)) ?_
      try go_wp2
      go_ret
      exact ⟨by first | rfl | (simp [errW_none, errW_some] <;> rfl) | (simp [*, errW_none, errW_some] <;> rfl), by repeat (first | (with_reducible first | exact HB.out | apply Zf | apply Zd | apply Ze | refine Zg ?_ GE252.out | refine Zg ?_ GE254.out) | exact HB.out)⟩
     rw [if_neg c6] at H
     exact absurd H (by simp)
    rw [if_neg c5] at H
    exact absurd H (by simp)
   rw [if_neg c4] at H
   have c4b0 : decide (x8_1 < (l0_0.length : Int)) = false := decide_eq_false c4
   clear c4
   obtain rfl := Option.some.inj H
   have hcz45_0 : wr.cell? ⟨gb252, 0, none⟩ = some (.slice A0_0 l0_0.length c0_0) := (blk_cell BK252.out 0).trans rfl
   have hfz45_0 := Zn BK252.out 0
   go_wp2
   go_ret
   exact ⟨by first | rfl | (simp [errW_none, errW_some] <;> rfl) | (simp [*, errW_none, errW_some] <;> rfl), by repeat (first | (with_reducible first | exact HB.out | apply Zf | apply Zd | apply Ze | refine Zg ?_ GE252.out) | exact HB.out)⟩
def impl_File_content.f (a0_0 : ByteArray) (l0_1 : List Int) (l0_2 : List Int) : Option (List Int) := (some (([] : List Int) : List Int)).bind fun y258 => (if y258.length + l0_1.length < 140737488355328 then ((some (y258 ++ l0_1 : List Int)).bind fun y261 => (if y261.length + l0_2.length < 140737488355328 then (some (y261 ++ l0_2)) else (none))) else (none))
def impl_File_content.T1 : Bool × List (List Nat × List Nat) := (true, [([], []), ([], []), ([1], [1]), ([0, 2], [0, 2]), ([], []), ([4], [4]), ([3, 5, 3], [3, 5]), ([6, 6, 0, 1, 2, 3, 4, 5, 6], [6])])
def impl_File_content.B1 : List Nat := [0, 0, 2, 7, 0, 16, 63, 127]
theorem impl_File_content.tab1 : rtab .any (opsOf Tryd.f75 1) = impl_File_content.T1 := by kernel_rfl
theorem impl_File_content.bits1 : waitsOk impl_File_content.T1.2 impl_File_content.B1 = true := by kernel_rfl
set_option maxHeartbeats 8000000 in
set_option maxRecDepth 100000 in
theorem impl_File_content.calls (a0_0 : ByteArray) (A0_1 : Option Addr) (c0_1 : Nat) (l0_1 : List Int) (A0_2 : Option Addr) (c0_2 : Nat) (l0_2 : List Int) (r : List Int) (w : World) (hr0_1 : Kd.C (Kd.int .u8) w A0_1 l0_1.length l0_1) (hc0_1 : l0_1.length ≤ c0_1) (hr0_2 : Kd.C (Kd.int .u8) w A0_2 l0_2.length l0_2) (hc0_2 : l0_2.length ≤ c0_2) (h : impl_File_content.f a0_0 l0_1 l0_2 = some r) :
  Calls Tryd.prog 75 #[.agg #[.string a0_0, .slice A0_1 l0_1.length c0_1, .slice A0_2 l0_2.length c0_2]] w fun e w' => ∃ v0_ : Value, e = .returned (v0_) ∧ Kd.R (Kd.int .u8) 5 w' w.heap.size (fun _ => True) v0_ r ∧ Below w.heap.size w w' := by
 have hu55 := Tryd.underlying55
 have HR0_1 := Zh hr0_1
 have HC0_1 := Zh hc0_1
 clear hr0_1 hc0_1
 have HR0_2 := Zh hr0_2
 have HC0_2 := Zh hc0_2
 clear hr0_2 hc0_2
 have HB := Zh (Below.refl w.heap.size w)
 have H : ((some (([] : List Int) : List Int)).bind fun y258 => (if y258.length + l0_1.length < 140737488355328 then ((some (y258 ++ l0_1 : List Int)).bind fun y261 => (if y261.length + l0_2.length < 140737488355328 then (some (y261 ++ l0_2)) else (none))) else (none))) = some r := h
 clear h
 obtain ⟨y258, hy258⟩ : ∃ y_ : List Int, y_ = (([] : List Int)) := ⟨_, rfl⟩
 replace H : (if y258.length + l0_1.length < 140737488355328 then ((some (y258 ++ l0_1 : List Int)).bind fun y261 => (if y261.length + l0_2.length < 140737488355328 then (some (y261 ++ l0_2)) else (none))) else (none)) = some r := by first | (rw [hy258]; with_reducible exact H) | (have H2_ := (Option.bind_some _ _).symm.trans H; rw [hy258]; with_reducible exact H2_) | (have H2_ := (Option.bind_some _ _).symm.trans H; with_reducible exact H2_) | with_reducible exact H | (rw [hy258]; exact H) | exact H
 have Ny258 := Zh hy258
 clear hy258
 by_cases c2 : y258.length + l0_1.length < 140737488355328
 ·
  rw [if_pos c2] at H
  have LMc2 := Zh c2
  clear c2
  obtain ⟨y261, hy261⟩ : ∃ y_ : List Int, y_ = (y258 ++ l0_1) := ⟨_, rfl⟩
  replace H : (if y261.length + l0_2.length < 140737488355328 then (some (y261 ++ l0_2)) else (none)) = some r := by first | (rw [hy261]; with_reducible exact H) | (have H2_ := (Option.bind_some _ _).symm.trans H; rw [hy261]; with_reducible exact H2_) | (have H2_ := (Option.bind_some _ _).symm.trans H; with_reducible exact H2_) | with_reducible exact H | (rw [hy261]; exact H) | exact H
  have Ny261 := Zh hy261
  clear hy261
  by_cases c3 : y261.length + l0_2.length < 140737488355328
  ·
   rw [if_pos c3] at H
   have LMc3 := Zh c3
   clear c3
   obtain ⟨y264, hy264⟩ : ∃ y_ : List Int, y_ = (y261 ++ l0_2) := ⟨_, rfl⟩
   replace H : (some y264) = some r := by first | (rw [hy264]; with_reducible exact H) | (have H2_ := (Option.bind_some _ _).symm.trans H; rw [hy264]; with_reducible exact H2_) | (have H2_ := (Option.bind_some _ _).symm.trans H; with_reducible exact H2_) | with_reducible exact H | (rw [hy264]; exact H) | exact H
   have Ny264 := Zh hy264
   clear hy264
   obtain rfl := Option.some.inj H
   go_enter Tryd.func75, Tryd.ntmps75
   try go_wp2_with (first | ((with_reducible refine gate_dst (N := 1) rfl ?_); refine box_event ?hg (N := 1) ?hd (cs := #[.string a0_0, .slice A0_1 l0_1.length c0_1, .slice A0_2 l0_2.length c0_2]) (t := 55) ?hr ?_; (case hd => rfl); (case hg => rfl); (case hr => first | (go_simp; done) | (go_simp; rfl)); intro gb257 hg w4 hbox hb; have n0_ := Zh (Zl Zs hb); have n1_ := Zh (hbox); have n2_ := Zh ((by rw [hg]; exact (below_size Zs) : w.heap.size ≤ gb257)); have n3_ := Zh ((by rw [hg]; exact (below_size Zs) : w.heap.size ≤ gb257)); clear HB; have HB := n0_; have BK257 := n1_; have GW257 := n2_; have GE257 := n3_; clear n0_ n1_ n2_ n3_; clear hb hbox hg))
   have n0_ := Zh (Zb BK257.out)
   have n1_ := Zh (Ze HB.out)
   clear BK257
   clear HB
   have BK257 := n0_
   have HB := n1_
   clear n0_ n1_
   refine start_ (n := 8) (S := fun w' => w'.cell? ⟨gb257, 0, none⟩ = some (.string a0_0) ∧ w'.cell? ⟨gb257, 1, none⟩ = some (.slice A0_1 l0_1.length c0_1) ∧ w'.cell? ⟨gb257, 2, none⟩ = some (.slice A0_2 l0_2.length c0_2)) (ds := []) #[false, false, false, false, false, false, false, false] (by kernel_rfl) rfl rfl ⟨(blk_cell BK257.out 0).trans rfl, (blk_cell BK257.out 1).trans rfl, (blk_cell BK257.out 2).trans rfl⟩ (fun hHeld => ?_); refine with_tabW impl_File_content.tab1 impl_File_content.bits1 (fun HT_ HW_ => ?_)
   generalize w4.drew = w5 at BK257 HB hHeld ⊢
   refine SQ.pu 1 4 HT_ ?_
   refine SQ.pu 4 7 HT_ ?_
   refine SQ.tk 2 5 HT_ HW_ hHeld ?_
   refine SQ.tk 5 8 HT_ HW_ hHeld ?_
   refine one_ (i := 0) (N := some 3) #[true, true, true, false, true, true, false, false] rfl rfl (one_of HT_.out (by kernel_rfl)) (by decide) (fun K hK => ?_)
   refine R_lit_step (Kd.int .u8) _ 5 ?hg (N := 3) ?hd (xs := ([] : List Int)) (inner := []) (ok := fun _ => True) (okp := fun _ => True) ?hr ?hp (fun _ hk => hk) trivial (Below.refl _ _) (Nat.le_refl _) (by simp) ?_; (case hd => rfl); (case hg => rfl); (case hr => first | (go_simp; done) | (go_simp; rfl)); (case hp => exact (Reps.none _ _))
   intro v259 w6 ho7 hb hg_ hnew_
   clear hg_ hnew_
   (first | rw [← Ny258.out] at ho7 | (simp only [Int.reduceToNat] at ho7; rw [← Ny258.out] at ho7))
   have n0_ := Zh (R_lower ho7 (below_size Zs))
   have n1_ := Zh (Zm (g := gb257) (o := .cells #[.string a0_0, .slice A0_1 l0_1.length c0_1, .slice A0_2 l0_2.length c0_2] 55 (0, 0)) Zk hb)
   have n2_ := Zh (Zl Zs hb)
   clear BK257
   clear HB
   have HO260 := n0_
   have BK257 := n1_
   have HB := n2_
   clear n0_ n1_ n2_
   clear hb ho7
   refine hK.out _ _ ⟨(blk_cell BK257.out 0).trans rfl, (blk_cell BK257.out 1).trans rfl, (blk_cell BK257.out 2).trans rfl⟩ (fun hHeld => ?_)
   clear hK K
   refine norm_ (a' := ?_) ?_ ?_
   rotate_left
   ·
    show Act.put _ (some 3) _ = _
    simp only [Act.put, List.setIfInBounds_toArray, List.set_cons_zero, List.set_cons_succ, i64_w, i32_w]
    rfl
   refine one_ (i := 3) (N := some 6) #[true, true, true, true, true, true, false, false] rfl rfl (one_of HT_.out (by kernel_rfl)) (by decide) (fun K hK => ?_)
   refine R_append_rows_step (Kd.int .u8) (w0 := w) w.heap.size (by rfl) (.tmp 3) (.tmp 5) 41 5 (.int .u8 0) 1 rfl Tryd.underlying41 info5 rfl (by decide) (by omega) v259 y258 l0_1 _ _ _ (fun _ => True) (fun _ => False) rfl rfl ?aO ?aR (fun _ _ h => h) (fun _ h => h.elim) ?aF ?aB ?aS ?aL ?_
   (case aR => repeat (first | exact (C_below HR0_1.out HB.out) | (with_reducible refine C_alloc ?_ _) | (with_reducible refine C_drewN ?_ _) | (with_reducible refine C_drew ?_)))
   (case aB => exact Zs)
   (case aF => exact (fun _ _ => trivial))
   (case aO => exact (by (with_reducible repeat (first | apply R_alloc | apply R_drewN | apply R_drew)); exact HO260.out))
   (case aS => exact (below_size Zs))
   (case aL => have := LMc2.out; omega)
   intro v262 w8 ho hb hg hat
   rw [← Ny261.out] at ho
   have n0_ := Zh (blk_grown (g := gb257) (o := .cells #[.string a0_0, .slice A0_1 l0_1.length c0_1, .slice A0_2 l0_2.length c0_2] 55 (0, 0)) Zk hg (R_ne HO260.out BK257.out (by decide)))
   have n1_ := Zh (hb)
   have n2_ := Zh (ho)
   clear BK257
   clear HB
   clear HO260
   have BK257 := n0_
   have HB := n1_
   have HO263 := n2_
   clear n0_ n1_ n2_
   clear ho hb hg hat
   refine hK.out _ _ ⟨(blk_cell BK257.out 0).trans rfl, (blk_cell BK257.out 1).trans rfl, (blk_cell BK257.out 2).trans rfl⟩ (fun hHeld => ?_)
   clear hK K
   refine norm_ (a' := ?_) ?_ ?_
   rotate_left
   ·
    show Act.put _ (some 6) _ = _
    simp only [Act.put, List.setIfInBounds_toArray, List.set_cons_zero, List.set_cons_succ, i64_w, i32_w]
    rfl
   refine one_ (i := 6) (N := some 9) #[true, true, true, true, true, true, true, false] rfl rfl (one_of HT_.out (by kernel_rfl)) (by decide) (fun K hK => ?_)
   refine R_append_rows_step (Kd.int .u8) (w0 := w) w.heap.size (by rfl) (.tmp 6) (.tmp 8) 41 5 (.int .u8 0) 1 rfl Tryd.underlying41 info5 rfl (by decide) (by omega) v262 y261 l0_2 _ _ _ (fun _ => True) (fun _ => False) rfl rfl ?aO ?aR (fun _ _ h => h) (fun _ h => h.elim) ?aF ?aB ?aS ?aL ?_
   (case aR => repeat (first | exact (C_below HR0_2.out HB.out) | (with_reducible refine C_alloc ?_ _) | (with_reducible refine C_drewN ?_ _) | (with_reducible refine C_drew ?_)))
   (case aB => exact Zs)
   (case aF => exact (fun _ _ => trivial))
   (case aO => exact (by (with_reducible repeat (first | apply R_alloc | apply R_drewN | apply R_drew)); exact HO263.out))
   (case aS => exact (below_size Zs))
   (case aL => have := LMc3.out; omega)
   intro v265 w9 ho hb hg hat
   rw [← Ny264.out] at ho
   have n0_ := Zh (blk_grown (g := gb257) (o := .cells #[.string a0_0, .slice A0_1 l0_1.length c0_1, .slice A0_2 l0_2.length c0_2] 55 (0, 0)) Zk hg (R_ne HO263.out BK257.out (by decide)))
   have n1_ := Zh (hb)
   have n2_ := Zh (ho)
   clear BK257
   clear HB
   clear HO263
   have BK257 := n0_
   have HB := n1_
   have HO266 := n2_
   clear n0_ n1_ n2_
   clear ho hb hg hat
   refine hK.out _ _ ⟨(blk_cell BK257.out 0).trans rfl, (blk_cell BK257.out 1).trans rfl, (blk_cell BK257.out 2).trans rfl⟩ (fun hHeld => ?_)
   clear hK K
   refine norm_ (a' := ?_) ?_ ?_
   rotate_left
   ·
    show Act.put _ (some 9) _ = _
    simp only [Act.put, List.setIfInBounds_toArray, List.set_cons_zero, List.set_cons_succ, i64_w, i32_w]
    rfl
   refine SQ.pu 7 2 HT_ ?_
   refine done_ (done_of HT_.out (by kernel_rfl)) ?_
   try go_wp2
   go_ret
   exact ⟨_, by first | rfl | (simp [errW_none, errW_some] <;> rfl) | (simp [*, errW_none, errW_some] <;> rfl), by (with_reducible repeat (first | apply R_alloc | apply R_drewN | apply R_drew)); exact HO266.out, by repeat (first | (with_reducible first | exact HB.out | apply Zf | apply Zd | apply Ze | refine Zg ?_ GE257.out) | exact HB.out)⟩
  rw [if_neg c3] at H
  exact absurd H (by simp)
 rw [if_neg c2] at H
 exact absurd H (by simp)
end Go.Proofs.YtcgojdhbphocgaaDoor.F

namespace Go.Proofs.YtcgojdhbphocgaaDoor.F
open Go.RowKit Go.Proofs.YtcgojdhbphocgaaDoorW.PrintWords Go.Proofs.YtcgojdhbphocgaaDoorW.PrintLast Go.Proofs.YtcgojdhbphocgaaDoorW.PrintMore
set_option linter.unusedVariables false
set_option linter.unusedSimpArgs false
def PredF (g : Nat) (lb : Array Value) (p : ByteArray → Bool) (w : World) : Prop := ∀ w1 : World, Below w.heap.size w w1 → ∀ (s : ByteArray) (v1 v2 : Value), Calls Tryd.prog g (#[.agg #[.string s, v1, v2]] ++ lb) w1 fun e w' => e = .returned (.bool (p s)) ∧ Below w1.heap.size w1 w'
def idxF (p : ByteArray → Bool) : List S55 → Int → Int
  | [], _ => -1
  | x :: t, i => if p x.f0 = true then i else idxF p t (i + 1)
set_option maxHeartbeats 4000000 in
theorem indexFile.calls (g : Nat) (lb : Array Value) (p : ByteArray → Bool) (eg : ∀ args w, (callFunc g args).run Tryd.prog w = .ok (.enter g args) w) (A : Option Addr) (c : Nat) (l : List S55) (w : World) (hr : Kd.C k55 w A l.length l) (hl : l.length ≤ 9223372036854775807) (hp : PredF g lb p w) :
    Calls Tryd.prog 102 #[.slice A l.length c, .func (.func g) #[] lb] w fun e w' => e = .returned (.int .i64 (idxF p l 0)) ∧ Below w.heap.size w w' := by
  have HR0 := Zh hr
  clear hr
  have HP := Zh hp
  clear hp
  have hu55 := Tryd.underlying55
  go_enter Tryd.func102, Tryd.ntmps102
  go_wp2
  go_loopg [5, 8] l.length (fun gg _ v8 w' => ∃ kk : Nat, kk ≤ l.length ∧ l.length - kk ≤ gg ∧ v8 = .int .i64 kk ∧ Aside0 (Below w.heap.size w w') ∧ Aside0 (idxF p (l.drop kk) kk = idxF p l 0))
  case atStart => exact ⟨0, Nat.zero_le _, by omega, rfl, ⟨Below.refl _ _⟩, ⟨rfl⟩⟩
  case round =>
    obtain ⟨kk, hkk, hg, rfl, HB, HA⟩ := hrel
    by_cases hlt : kk < l.length
    · have hltz : (kk : Int) < (l.length : Int) := by omega
      obtain ⟨ad, A1, c1, A2, c2, e, hx0, hx1, hx2, _, _, _, _⟩ := at_T55 HR0.out (kk : Int) (by omega) (by omega)
      cases e
      replace hx0 := (HB.out.cell (Zi w _ hx0)).trans hx0
      replace hx1 := (HB.out.cell (Zi w _ hx1)).trans hx1
      replace hx2 := (HB.out.cell (Zi w _ hx2)).trans hx2
      rw [Int.toNat_natCast] at hx0 hx1 hx2
      have hrd : rd_T55 l (kk : Int) = l[kk] := by simp [rd_T55, List.getD_eq_getElem?_getD, List.getElem?_eq_getElem hlt]
      have hA := HA.out
      rw [List.drop_eq_getElem_cons hlt] at hA
      rw [hrd] at hx0 hx1 hx2
      clear HA hrd
      generalize l[kk] = y at hx0 hx1 hx2 hA
      have hcall := HP.out wr HB.out y.f0 (.slice A1 y.f1.length c1) (.slice A2 y.f2.length c2)
      cases hq : p y.f0 with
      | true =>
        simp only [idxF, hq, if_true] at hA
        rw [hq] at hcall
        have HA := Zh hA
        clear hA
        go_wp2_with (go_at_fn g; refine hcall.mono ?_; rintro e w' ⟨rfl, hb⟩; replace HB := Zh (Zl HB.out hb); clear hb)
        go_ret
        exact ⟨by rw [← HA.out]; rfl, HB.out⟩
      | false =>
        simp only [idxF, hq, Bool.false_eq_true, if_false] at hA
        rw [hq] at hcall
        have HA := Zh hA
        clear hA
        go_wp2_with (go_at_fn g; refine hcall.mono ?_; rintro e w' ⟨rfl, hb⟩; replace HB := Zh (Zl HB.out hb); clear hb)
        go_roundg (l.length - (kk + 1))
        case measure => omega
        case rel => exact ⟨kk + 1, by omega, by omega, by go_num, HB, ⟨by have := HA.out; simpa using this⟩⟩
    have hltz : ¬ (kk : Int) < (l.length : Int) := by omega
    have : kk = l.length := by omega
    subst this
    go_wp2
    go_ret
    refine ⟨?_, HB.out⟩
    rw [← HA.out, List.drop_length]
    rfl
set_option maxHeartbeats 4000000 in
theorem fileOf1.pred (B : Nat) (name : ByteArray) (w : World) (hb : w.cell? ⟨B, 0, none⟩ = some (.string name)) : PredF 103 #[.pointer (some ⟨B, 0, none⟩)] (fun s => s.toList == name.toList) w := by
  intro w1 hB s v1 v2
  have hlt := Nat.lt_of_lt_of_le (Zi w _ hb) hB.size
  have hx := (hB.cell (Zi w _ hb)).trans hb
  clear hb hB
  have hu55 := Tryd.underlying55
  have hlt2 : B < w1.heap.size := hlt
  clear hlt
  go_enter Tryd.func103, Tryd.ntmps103
  go_wp2
  go_ret
  exact ⟨rfl, Zf (Below.refl _ _) _⟩
def impl_fileOf.f (l0_0 : List S55) (a1 : ByteArray) : Option Int := if l0_0.length ≤ 9223372036854775807 then some (idxF (fun s => s.toList == a1.toList) l0_0 0) else none
set_option maxHeartbeats 4000000 in
theorem impl_fileOf.calls (A0_0 : Option Addr) (c0_0 : Nat) (l0_0 : List S55) (a1 : ByteArray) (r : Int) (w : World) (hr0_0 : Kd.C k55 w A0_0 l0_0.length l0_0) (hc0_0 : l0_0.length ≤ c0_0) (h : impl_fileOf.f l0_0 a1 = some r) :
    Calls Tryd.prog 74 #[.agg #[.slice A0_0 l0_0.length c0_0], .string a1] w fun e w' => e = .returned (.int .i64 r) ∧ Below w.heap.size w w' := by
  unfold impl_fileOf.f at h
  split at h
  · rename_i hl
    have h := Option.some.inj h
    subst h
    have HR := Zh hr0_0
    have HL := Zh hl
    clear hr0_0 hl
    have e6 : ∀ args w, (callFunc 102 args).run Tryd.prog w = .ok (.enter 102 args) w := enters_of Tryd.func102 (by kernel_rfl) rfl
    have e7 : ∀ args w, (callFunc 103 args).run Tryd.prog w = .ok (.enter 103 args) w := enters_of Tryd.func103 (by kernel_rfl) rfl
    have hmf : ∀ (fn : Fn) (first cap : Array Value) (w : World), (Instr.makeFunc fn first cap).run Tryd.prog w = .ok (.func fn first cap) w := fun _ _ _ _ => rfl
    have hcall := indexFile.calls 103 #[.pointer (some ⟨w.heap.size + 1, 0, none⟩)] (fun s => s.toList == a1.toList) e7 A0_0 c0_0 l0_0 ((w.alloc (.cells #[.slice A0_0 l0_0.length c0_0] 28)).alloc (.cells #[.string a1] 9)) (Kd.C_alloc (Kd.C_alloc HR.out _) _) HL.out (fileOf1.pred _ _ _ (by simp))
    go_enter Tryd.func74, Tryd.ntmps74
    go_wp2_with (go_at_fn 102; refine hcall.mono ?_; rintro e w' ⟨rfl, hb⟩)
    go_ret
    exact ⟨rfl, Zl (Zf (Zf (Below.refl _ _) _) _) hb⟩
  cases h
end Go.Proofs.YtcgojdhbphocgaaDoor.F

namespace Go.Proofs.YtcgojdhbphocgaaDoor.LW
set_option linter.unusedVariables false
set_option linter.unusedSimpArgs false
open Go.RowKit Go.Proofs.YtcgojdhbphocgaaDoorW.PrintWords Go.Proofs.YtcgojdhbphocgaaDoorW.PrintLast Go.Proofs.YtcgojdhbphocgaaDoorW.PrintMore
structure It where
  P : World → Prop
  F : Nat → Prop
  mv : ∀ w w1 : World, (∀ k, F k → w1.heap[k]? = w.heap[k]?) → P w → P w1
def Its (w : World) (B n : Nat) : List It → Prop
  | [] => True
  | i :: r => (∀ k, i.F k → B ≤ k ∧ k < n) ∧ i.P w ∧ (∀ j, j ∈ r → ∀ k, i.F k → ¬ j.F k) ∧ Its w B n r
variable {w w0 w1 : World} {B B' n m g t e : Nat} {l : List It} {i : It} {cs : Array Value} {α : Type} {d : Kd α} {v : Value} {xs ys : List α} {F S ok : Nat → Prop}
theorem Its.mono (h : Its w B n l) (hB : B' ≤ B) (hn : n ≤ m) : Its w B' m l := by
  induction l with
  | nil => trivial
  | cons i r ih => exact ⟨fun k hk => ⟨Nat.le_trans hB (h.1 k hk).1, Nat.lt_of_lt_of_le (h.1 k hk).2 hn⟩, h.2.1, h.2.2.1, ih h.2.2.2⟩
theorem Its.all (h : Its w B n l) : ∀ j, j ∈ l → j.P w ∧ ∀ k, j.F k → B ≤ k ∧ k < n := by
  induction l with
  | nil => intro j hj; cases hj
  | cons i r ih =>
    intro j hj
    cases hj with
    | head => exact ⟨h.2.1, h.1⟩
    | tail _ hj => exact ih h.2.2.2 j hj
theorem Its.move (h : Its w B n l) (hm : ∀ j, j ∈ l → ∀ k, j.F k → w1.heap[k]? = w.heap[k]?) : Its w1 B n l := by
  induction l with
  | nil => trivial
  | cons i r ih => exact ⟨h.1, i.mv w w1 (hm i List.mem_cons_self) h.2.1, h.2.2.1, ih h.2.2.2 (fun j hj => hm j (List.mem_cons_of_mem _ hj))⟩
theorem Its.app {l' : List It} (h' : Its w B' n l') (h : Its w B B' l) (hB : B ≤ B') (hn : B' ≤ n) : Its w B n (l' ++ l) := by
  induction l' with
  | nil => exact h.mono (Nat.le_refl _) hn
  | cons i r ih =>
    refine ⟨fun k hk => ⟨Nat.le_trans hB (h'.1 k hk).1, (h'.1 k hk).2⟩, h'.2.1, fun j hj k hk => ?_, ih h'.2.2.2⟩
    rcases List.mem_append.1 hj with hj | hj
    · exact h'.2.2.1 j hj k hk
    intro hf
    have h1 := (h'.1 k hk).1
    have h2 := ((h.all j hj).2 k hf).2
    omega
theorem Its.write (h : Its w B n l) (i' : It) (hF : ∀ k, i'.F k → i.F k) (hP : i'.P w1) (hk : ∀ k, k < n → ¬ i.F k → w1.heap[k]? = w.heap[k]?) : ∀ q, l[q]? = some i → Its w1 B n (l.set q i') := by
  induction l with
  | nil => intro q hq; simp at hq
  | cons j r ih =>
    intro q hq
    cases q with
    | zero =>
      simp only [List.getElem?_cons_zero, Option.some.injEq] at hq
      subst hq
      exact ⟨fun k hk' => h.1 k (hF k hk'), hP, fun x hx k hk' => h.2.2.1 x hx k (hF k hk'), h.2.2.2.move (fun x hx k hk' => hk k ((h.2.2.2.all x hx).2 k hk').2 (fun hi => h.2.2.1 x hx k hi hk'))⟩
    | succ q =>
      rw [List.getElem?_cons_succ] at hq
      have hm := List.mem_of_getElem? hq
      refine ⟨h.1, j.mv w w1 (fun k hk' => hk k (h.1 k hk').2 (fun hi => h.2.2.1 i hm k hk' hi)) h.2.1, fun x hx k hk' => ?_, ih h.2.2.2 q hq⟩
      rcases List.mem_or_eq_of_mem_set hx with hx | rfl
      · exact h.2.2.1 x hx k hk'
      exact fun hi => h.2.2.1 i hm k hk' (hF k hi)
def box (g : Nat) (cs : Array Value) (t : Nat) : It := ⟨fun w => w.heap[g]? = some (.cells cs t (0, 0)), fun k => k = g, fun _ _ hk h => (hk g rfl).trans h⟩
def row {α : Type} (d : Kd α) (e B : Nat) (v : Value) (xs : List α) (F : Nat → Prop) : It := ⟨fun w => Kd.S d e w B F v xs, F, fun _ _ hk h => Kd.S_move h hk⟩
structure St (w0 w : World) (l : List It) : Prop where
  b : Below w0.heap.size w0 w
  i : Its w w0.heap.size w.heap.size l
theorem St.start (w : World) : St w w [] := ⟨Below.refl _ _, trivial⟩
theorem St.step (h : St w0 w l) (hb : Below w.heap.size w w1) : St w0 w1 l :=
  ⟨below_step h.b hb, (h.i.move (fun j hj k hk => hb.block k ((h.i.all j hj).2 k hk).2)).mono (Nat.le_refl _) hb.size⟩
theorem St.drew (h : St w0 w l) : St w0 w.drew l := h.step (below_drew (Below.refl _ _))
theorem St.add (h : St w0 w l) (hb : Below w.heap.size w w1) {l' : List It} (hn : Its w1 w.heap.size w1.heap.size l') : St w0 w1 (l' ++ l) :=
  ⟨below_step h.b hb, hn.app (h.i.move (fun j hj k hk => hb.block k ((h.i.all j hj).2 k hk).2)) h.b.size hb.size⟩
theorem St.box (h : St w0 w l) (hg : g = w.heap.size) (hx : w1.heap[g]? = some (.cells cs t (0, 0))) (hb : Below w.heap.size w w1) : St w0 w1 (box g cs t :: l) :=
  h.add hb (l' := [LW.box g cs t]) ⟨fun k hk => by have : k = g := hk; subst this; exact ⟨by omega, blk_lt hx⟩, hx, fun j hj => (List.not_mem_nil hj).elim, trivial⟩
theorem St.alloc (h : St w0 w l) (cs : Array Value) (t : Nat) (hg : g = w.heap.size) : St w0 (w.alloc (.cells cs t)) (LW.box g cs t :: l) := h.box hg (by subst hg; simpa using blk_new w (.cells cs t)) (below_alloc (Below.refl _ _) _)
theorem St.lt (h : St w0 w l) (q : Nat) (hq : l[q]? = some (LW.box g cs t)) : g < w.heap.size := blk_lt (h.i.all _ (List.mem_of_getElem? hq)).1
theorem S_between (h : Kd.S d e w1 w.heap.size ok v xs) (h0 : w0.heap.size ≤ w.heap.size) : Kd.S d e w1 w0.heap.size (fun k => w.heap.size ≤ k ∧ k < w1.heap.size) v xs := Kd.S_lower (Kd.S_mono (Kd.S_bound h) (fun k hk => ⟨hk.2.1, hk.2.2.1⟩)) h0
theorem St.row (h : St w0 w l) (hb : Below w.heap.size w w1) (ho : Kd.S d e w1 w.heap.size ok v xs) : St w0 w1 (row d e w0.heap.size v xs (fun k => w.heap.size ≤ k ∧ k < w1.heap.size) :: l) :=
  h.add hb (l' := [LW.row d e w0.heap.size v xs (fun k => w.heap.size ≤ k ∧ k < w1.heap.size)]) ⟨fun k hk => hk, S_between ho h.b.size, fun j hj => (List.not_mem_nil hj).elim, trivial⟩
theorem S_flat (hE : d.E = []) (h : d.R e w B ok v xs) : Kd.S d e w B ok v xs := by
  obtain ⟨h0, inner, ho, hr⟩ := h
  refine ⟨fun _ => 0, h0, inner, by rw [List.length_zipIdx]; exact ho, by rw [List.length_zipIdx]; exact hr.1, fun j p hj => ?_⟩
  rw [List.getElem?_zipIdx, Nat.zero_add] at hj
  obtain ⟨x, hx, rfl⟩ := Option.map_eq_some_iff.1 hj
  refine d.M_mono (fun k hk => ?_) (d.M_bound (hr.2 j x hx))
  obtain ⟨_, _, _, q, hq, _⟩ := hk
  rw [hE] at hq
  cases hq
theorem St.rowR (h : St w0 w l) (hE : d.E = []) (hb : Below w.heap.size w w1) (ho : d.R e w1 w.heap.size ok v xs) : St w0 w1 (LW.row d e w0.heap.size v xs (fun k => w.heap.size ≤ k ∧ k < w1.heap.size) :: l) := h.row hb (S_flat hE ho)
theorem setCell_size (w : World) (p : Addr) (u : Value) : (w.setCell p u).heap.size = w.heap.size := by simp [World.setCell]
theorem St.set (h : St w0 w l) (q : Nat) (hq : l[q]? = some (LW.box g cs t)) (j : Nat) (u : Value) : St w0 (w.setCell ⟨g, j, none⟩ u) (l.set q (LW.box g (cs.setIfInBounds j u) t)) := by
  have hx := h.i.all _ (List.mem_of_getElem? hq)
  refine ⟨below_set h.b (hx.2 g rfl).1, ?_⟩
  rw [setCell_size]
  exact h.i.write (i := LW.box g cs t) (LW.box g (cs.setIfInBounds j u) t) (fun k hk => hk) (blk_set hx.1 j u) (fun k _ hk => Below.heap_setCell w ⟨g, j, none⟩ u k hk) q hq
theorem St.cell (h : St w0 w l) (q : Nat) (hq : l[q]? = some (LW.box g cs t)) (j : Nat) {u : Value} (hu : cs[j]? = some u) : w.cell? ⟨g, j, none⟩ = some u := (blk_cell (h.i.all _ (List.mem_of_getElem? hq)).1 j).trans hu
theorem St.blk (h : St w0 w l) (q : Nat) (hq : l[q]? = some (LW.box g cs t)) : w.heap[g]? = some (.cells cs t (0, 0)) := (h.i.all _ (List.mem_of_getElem? hq)).1
theorem St.frozen (h : St w0 w l) (q : Nat) (hq : l[q]? = some (LW.box g cs t)) (j : Nat) : w.frozen? ⟨g, j, none⟩ = false := blk_frozen (h.i.all _ (List.mem_of_getElem? hq)).1 j
theorem St.own (h : St w0 w l) (q : Nat) (hq : l[q]? = some (LW.row d e B v xs F)) : Kd.S d e w B F v xs := (h.i.all _ (List.mem_of_getElem? hq)).1
theorem St.reads {A : Option Addr} {m c : Nat} (h : St w0 w l) (q : Nat) (hq : l[q]? = some (LW.row d e B (.slice A m c) xs F)) : m = xs.length ∧ m ≤ c ∧ d.C w A xs.length xs := Kd.S_reads' (h.own q hq)
theorem St.write (h : St w0 w l) (q : Nat) (hq : l[q]? = some (LW.row d e w0.heap.size v xs F)) (hS : Kd.S d e w1 w0.heap.size F v ys) (hB : Below w0.heap.size w0 w1) (hk : Kept w w1 F) : St w0 w1 (l.set q (LW.row d e w0.heap.size v ys F)) := by
  have hx := h.i.all _ (List.mem_of_getElem? hq)
  exact ⟨hB, (h.i.write (i := LW.row d e w0.heap.size v xs F) (LW.row d e w0.heap.size v ys F) (fun k hk => hk) hS (fun k hlt hn => hk.2 k hlt hn) q hq).mono (Nat.le_refl _) hk.1⟩
theorem Its.disj : ∀ {l : List It}, Its w B n l → ∀ (p q : Nat) (i j : It), p ≠ q → l[p]? = some i → l[q]? = some j → ∀ k, i.F k → ¬ j.F k
  | [], _, p, q, i, j, _, hi, _ => by simp at hi
  | a :: r, h, 0, 0, i, j, hn, _, _ => absurd rfl hn
  | a :: r, h, 0, q + 1, i, j, hn, hi, hj => by
    rw [List.getElem?_cons_succ] at hj
    simp only [List.getElem?_cons_zero, Option.some.injEq] at hi
    subst hi
    exact h.2.2.1 j (List.mem_of_getElem? hj)
  | a :: r, h, p + 1, 0, i, j, hn, hi, hj => by
    rw [List.getElem?_cons_succ] at hi
    simp only [List.getElem?_cons_zero, Option.some.injEq] at hj
    subst hj
    exact fun k hk hf => h.2.2.1 i (List.mem_of_getElem? hi) k hf hk
  | a :: r, h, p + 1, q + 1, i, j, hn, hi, hj => by
    rw [List.getElem?_cons_succ] at hi hj
    exact Its.disj h.2.2.2 p q i j (by omega) hi hj
def gone : It := ⟨fun _ => True, fun _ => False, fun _ _ _ _ => trivial⟩
theorem Its.of : ∀ {l : List It}, (∀ (q : Nat) (i : It), l[q]? = some i → (∀ k, i.F k → B ≤ k ∧ k < n) ∧ i.P w) → (∀ (p q : Nat) (i j : It), p < q → l[p]? = some i → l[q]? = some j → ∀ k, i.F k → ¬ j.F k) → Its w B n l
  | [], _, _ => trivial
  | a :: r, h1, h2 => ⟨(h1 0 a rfl).1, (h1 0 a rfl).2, fun j hj => by
      obtain ⟨q, hq⟩ := List.mem_iff_getElem?.1 hj
      exact h2 0 (q + 1) a j (by omega) rfl (by rw [List.getElem?_cons_succ]; exact hq), Its.of (fun q i hq => h1 (q + 1) i (by rw [List.getElem?_cons_succ]; exact hq)) (fun p q i j hpq hp hq => h2 (p + 1) (q + 1) i j (by omega) (by rw [List.getElem?_cons_succ]; exact hp) (by rw [List.getElem?_cons_succ]; exact hq))⟩
theorem St.merge (h : St w0 w l) (q p : Nat) (hn : q ≠ p) {i j : It} (hq : l[q]? = some i) (hp : l[p]? = some j) (i' : It) (hF : ∀ k, i'.F k → i.F k ∨ j.F k) (hP : i'.P w1) (hB : Below w0.heap.size w0 w1) (hkp : Kept w w1 i.F) : St w0 w1 ((l.set q i').set p gone) := by
  have hql : q < l.length := (List.getElem?_eq_some_iff.1 hq).1
  have hpl : p < l.length := (List.getElem?_eq_some_iff.1 hp).1
  have hI := h.i.all i (List.mem_of_getElem? hq)
  have hJ := h.i.all j (List.mem_of_getElem? hp)
  have look : ∀ (m : Nat) (x : It), ((l.set q i').set p gone)[m]? = some x → (m = p ∧ x = gone) ∨ (m ≠ p ∧ m = q ∧ x = i') ∨ (m ≠ p ∧ m ≠ q ∧ l[m]? = some x) := by
    intro m x hm
    by_cases e1 : m = p
    · subst e1
      rw [List.getElem?_set_self (by simpa using hpl)] at hm
      exact .inl ⟨rfl, (Option.some.inj hm).symm⟩
    rw [List.getElem?_set_ne (Ne.symm e1)] at hm
    by_cases e2 : m = q
    · subst e2
      rw [List.getElem?_set_self hql] at hm
      exact .inr (.inl ⟨e1, rfl, (Option.some.inj hm).symm⟩)
    rw [List.getElem?_set_ne (Ne.symm e2)] at hm
    exact .inr (.inr ⟨e1, e2, hm⟩)
  have apart : ∀ (m : Nat) (x : It), m ≠ p → m ≠ q → l[m]? = some x → ∀ k, x.F k → ¬ i.F k ∧ ¬ j.F k := fun m x e1 e2 hm k hk => ⟨Its.disj h.i m q x i e2 hm hq k hk, Its.disj h.i m p x j e1 hm hp k hk⟩
  refine ⟨hB, Its.of (fun m x hm0 => ?_) (fun m m' x y hlt hm0 hm0' => ?_)⟩
  · rcases look m x hm0 with ⟨_, rfl⟩ | ⟨_, _, rfl⟩ | ⟨e1, e2, hm⟩
    · exact ⟨fun k hk => hk.elim, trivial⟩
    · refine ⟨fun k hk => ?_, hP⟩
      rcases hF k hk with h2 | h2
      · exact ⟨(hI.2 k h2).1, Nat.lt_of_lt_of_le (hI.2 k h2).2 hkp.1⟩
      exact ⟨(hJ.2 k h2).1, Nat.lt_of_lt_of_le (hJ.2 k h2).2 hkp.1⟩
    have hX := h.i.all x (List.mem_of_getElem? hm)
    exact ⟨fun k hkx => ⟨(hX.2 k hkx).1, Nat.lt_of_lt_of_le (hX.2 k hkx).2 hkp.1⟩, x.mv w w1 (fun k hkx => hkp.2 k (hX.2 k hkx).2 (apart m x e1 e2 hm k hkx).1) hX.1⟩
  intro k hx hy
  rcases look m x hm0 with ⟨_, rfl⟩ | ⟨_, e, rfl⟩ | ⟨e1, e2, hm⟩
  · exact hx
  · rcases look m' y hm0' with ⟨_, rfl⟩ | ⟨_, e', rfl⟩ | ⟨e1', e2', hm'⟩
    · exact hy
    · omega
    rcases hF k hx with h2 | h2
    · exact (apart m' y e1' e2' hm' k hy).1 h2
    exact (apart m' y e1' e2' hm' k hy).2 h2
  rcases look m' y hm0' with ⟨_, rfl⟩ | ⟨_, e', rfl⟩ | ⟨e1', e2', hm'⟩
  · exact hy
  · rcases hF k hy with h2 | h2
    · exact (apart m x e1 e2 hm k hx).1 h2
    exact (apart m x e1 e2 hm k hx).2 h2
  exact Its.disj h.i m m' x y (by omega) hm hm' k hx hy
def view {α : Type} (d : Kd α) (e B : Nat) (v : Value) (xs : List α) (F : Nat → Prop) : It := ⟨fun w => Kd.V d e w B F v xs, F, fun _ _ hk h => Kd.V_step h (fun k hk' _ => hk k hk')⟩
theorem St.viewed (h : St w0 w l) (q : Nat) (hq : l[q]? = some (LW.view d e B v xs F)) : Kd.V d e w B F v xs := (h.i.all _ (List.mem_of_getElem? hq)).1
theorem St.views {A : Option Addr} {m c : Nat} (h : St w0 w l) (q : Nat) (hq : l[q]? = some (LW.view d e B (.slice A m c) xs F)) : m = xs.length ∧ m ≤ c ∧ d.C w A xs.length xs := by
  have hv := Kd.V_reads' (h.viewed q hq)
  exact ⟨hv.1, hv.2.1, hv.1 ▸ hv.2.2⟩
theorem St.seen {β : Type} {d' : Kd β} {e' b' : Nat} {v' : Value} {ys : List β} {ok' : Nat → Prop} {j : It} (h : St w0 w l) (p : Nat) (hp : l[p]? = some j) (hb : Below w.heap.size w w1) (hN : Kd.N d' e' w1 b' ok' v' ys) (hok : ∀ k, ok' k → j.F k ∨ w.heap.size ≤ k) :
    St w0 w1 (LW.view d' e' w0.heap.size v' ys (fun k => ok' k ∧ k < w1.heap.size) :: l.set p gone) := by
  have hJ := h.i.all j (List.mem_of_getElem? hp)
  have hpl : p < l.length := (List.getElem?_eq_some_iff.1 hp).1
  have h1 : Its w1 w0.heap.size w1.heap.size (l.set p gone) := ((h.i.write (i := j) gone (fun k hk => hk.elim) trivial (fun k hlt hn => hb.block k hlt) p hp).mono (Nat.le_refl _) hb.size)
  refine ⟨below_step h.b hb, fun k hk => ⟨?_, hk.2⟩, Kd.V_bound (base := w0.heap.size) (Kd.N_V (base' := w0.heap.size) hN), fun x hx k hk hf => ?_, h1⟩
  · rcases hok k hk.1 with h2 | h2
    · exact (hJ.2 k h2).1
    exact Nat.le_trans h.b.size h2
  obtain ⟨m, hm⟩ := List.mem_iff_getElem?.1 hx
  by_cases e1 : m = p
  · subst e1
    rw [List.getElem?_set_self hpl] at hm
    have := Option.some.inj hm
    subst this
    exact hf
  rw [List.getElem?_set_ne (Ne.symm e1)] at hm
  have hX := h.i.all x (List.mem_of_getElem? hm)
  rcases hok k hk.1 with h2 | h2
  · exact Its.disj h.i m p x j e1 hm hp k hf h2
  have := (hX.2 k hf).2
  omega
end Go.Proofs.YtcgojdhbphocgaaDoor.LW

namespace Go.Proofs.YtcgojdhbphocgaaDoor.F
open Go.RowKit Go.Proofs.YtcgojdhbphocgaaDoorW.PrintWords Go.Proofs.YtcgojdhbphocgaaDoorW.PrintWords.Kd Go.Proofs.YtcgojdhbphocgaaDoorW.PrintMore.Kd Go.Proofs.YtcgojdhbphocgaaDoorW.PrintLast Go.Proofs.YtcgojdhbphocgaaDoorW.PrintMore
attribute [local go_sem] max2_int min2_int max_two min_two max_three min_three max_four min_four   -- for this text's walks alone
set_option linter.unusedVariables false
set_option linter.unusedSimpArgs false
def laws_markByteS.l0 : Nat → List Int → Int → Int → Option (Int × List Int)
 | 0, _, _, _ => none
 | k + 1, x0, x1, x5 => if x5 < (x0.length : Int) then (if 0 ≤ x5 then (laws_markByteS.l0 k (x0.set (x5 : Int).toNat ((x1) % 256)) (wrap64 (x1 + 1)) (wrap64 (x5 + 1))) else (none)) else (some (x1, x0))
def laws_markByteS.f (k : Nat) (l0 : List Int) (a1 : Int) : Option (Int × List Int) := laws_markByteS.l0 k l0 a1 0
set_option maxHeartbeats 8000000 in
set_option maxRecDepth 100000 in
theorem laws_markByteS.calls (k : Nat) (P0_ : Nat → Prop) (u9000_ : Value) (l0 : List Int) (a1 : Int) (r1 : Int) (r2 : List Int) (w0 w : World) (hB : Below w0.heap.size w0 w) (ho0 : Kd.R (Kd.int .u8) 5 w w0.heap.size P0_ u9000_ l0) (h : laws_markByteS.f k l0 a1 = some (r1, r2)) :
  Calls Tryd.prog 31 #[u9000_, .int .i64 a1] w fun e w' => e = .returned (.int .i64 r1) ∧ Kd.R (Kd.int .u8) 5 w' w0.heap.size (fun k_ => (P0_ k_ ∨ w.heap.size ≤ k_)) u9000_ r2 ∧ Below w0.heap.size w0 w' ∧ Kept w w' (fun k_ => P0_ k_) := by
 have HO0 := Zh (show Kd.R (Kd.int .u8) 5 w w0.heap.size (fun k_ => (P0_ k_ ∨ w.heap.size ≤ k_)) u9000_ l0 from R_mono ho0 (fun k_ hk => (.inl hk)))
 have HK := Zh (Kept.refl w (fun k_ => P0_ k_))
 have HW0 := Zh hB.size
 have HB := Zh hB
 clear hB
 have H : (laws_markByteS.l0 k l0 a1 0) = some (r1, r2) := h
 clear h
 have H' := Zh H
 clear H
 go_enter Tryd.func31, Tryd.ntmps31
 go_wp2
 go_loopg [1, 5] k (fun kq v1 v5 w' => ∃ (x0_1 : List Int) (x1_1 : Int) (x5_1 : Int), v1 = .int .i64 x1_1 ∧ v5 = .int .i64 x5_1 ∧ Aside0 (laws_markByteS.l0 kq x0_1 x1_1 x5_1 = some (r1, r2)) ∧ Aside0 (kq ≤ k) ∧ Aside0 (Kd.R (Kd.int .u8) 5 w' w0.heap.size (fun k_ => (P0_ k_ ∨ w.heap.size ≤ k_)) u9000_ x0_1) ∧ Aside0 (Kept w w' (fun k_ => P0_ k_)) ∧ Aside0 (Below w0.heap.size w0 w'))
 case atStart => exact ⟨(l0), (a1), (0), (by first | rfl | (simp; done) | (simp [*]; done)), (by first | rfl | (simp; done) | (simp [*]; done)), H', ⟨Nat.le_refl _⟩, ⟨by (with_reducible repeat (first | apply R_alloc | apply R_drewN | apply R_drew)); exact HO0.out⟩, ⟨by repeat (first | (with_reducible first | exact HK.out | apply Kept.alloc | apply Kept.drewN | apply Kept.drew) | exact HK.out)⟩, ⟨by repeat (first | (with_reducible first | exact HB.out | apply Zf | apply Zd | apply Ze) | exact HB.out)⟩⟩
 case round =>
  clear H'
  try clear p2
  obtain ⟨x0_1, x1_1, x5_1, rfl, rfl, HA, HK1, HO_0, HK, HB⟩ := hrel
  cases gk with
  | zero => exact absurd HA.out (by simp [laws_markByteS.l0])
  | succ k1 =>
   have H := HA.out
   clear HA
   simp only [laws_markByteS.l0] at H
   by_cases c3 : x5_1 < (x0_1.length : Int)
   ·
    rw [if_pos c3] at H
    have c3b0 : decide (x5_1 < (x0_1.length : Int)) = true := decide_eq_true c3
    clear c3
    by_cases c4 : 0 ≤ x5_1
    ·
     rw [if_pos c4] at H
     have c4b0 : decide (0 ≤ x5_1) = true := decide_eq_true c4
     clear c4
     obtain ⟨y285, hy285⟩ : ∃ y_ : List Int, y_ = (x0_1.set (x5_1 : Int).toNat ((x1_1) % 256)) := ⟨_, rfl⟩
     replace H : (laws_markByteS.l0 k1 y285 (wrap64 (x1_1 + 1)) (wrap64 (x5_1 + 1))) = some (r1, r2) := by first | (rw [hy285]; with_reducible exact H) | (have H2_ := (Option.bind_some _ _).symm.trans H; rw [hy285]; with_reducible exact H2_) | (have H2_ := (Option.bind_some _ _).symm.trans H; with_reducible exact H2_) | with_reducible exact H | (rw [hy285]; exact H) | exact H
     have Ny285 := Zh hy285
     clear hy285
     have H' := Zh H
     clear H
     obtain ⟨Ao6, co6, eo6⟩ := R_slice HO_0.out
     subst eo6
     have p5 : 0 ≤ (x5_1 : Int) := Zo
     have q5 : (x5_1 : Int) < ((x0_1.length : Int) : Int) := Zo
     obtain ⟨go5, co5, eo5, gb5, gl5, cl5, HG5⟩ := R_form HO_0.out (by omega)
     (first | cases eo5 | (injection eo5 with ea_ en_ ec_; (first | subst ea_ | (injection ea_ with ea_; subst ea_)); subst ec_; clear en_))
     have GB5 := Zh gb5
     have GG5 := Zh HG5
     clear gb5 gl5 HG5
     have HMgo5 := Zh (show (P0_ go5 ∨ w.heap.size ≤ go5) from (HO_0.out.1 _ rfl))
     obtain ⟨hx5_0, hf5_0⟩ := R_celln 0 HO_0.out (x5_1 : Int) p5 q5
     replace p5 := eq_true p5
     replace q5 := eq_true q5
     have HP7 := R_putg HO_0.out (x5_1 : Int) ((x1_1) % 256)
     go_wp2_with (first | ((with_reducible refine gate_store (t := 5) (p := 16) rfl ?_); refine store_event (t := 5) (p := 16) (v := ?vo_w8) (w1 := (wr.setCell ⟨go5, (x5_1 : Int).toNat, none⟩ (.int .u8 ((x1_1) % 256)))) ?hg ?ho ?hn ?hr ?_; (case ho => rfl); (case hg => rfl); (case hn => rfl); (case hr => first | (go_simp; done) | (go_simp; rfl)); intro w8 hw; have hg : wr.grownBy w8 (some go5) := (by rw [hw]; exact HP7.2); have hp_ : Kd.R (Kd.int .u8) 5 w8 w0.heap.size (fun k_ => (P0_ k_ ∨ w.heap.size ≤ k_)) (.slice (some ⟨go5, 0, none⟩) x0_1.length co6) y285 := (by rw [hw, Ny285.out]; exact HP7.1); clear HP7; have n0_ := Zh (hp_); have n1_ := Zh ((by rw [hw]; exact Zg (HB.out) GB5.out : Below w0.heap.size w0 w8)); have n2_ := Zh (Kept.of_grown (S := (fun k_ => P0_ k_)) hg (by repeat (first | (with_reducible first | exact HK.out | apply Kept.alloc | apply Kept.drewN | apply Kept.drew) | exact HK.out)) (fun k_ e_ => (HO_0.out.1 k_ e_))); clear HO_0; clear HB; clear HK; have HO_0 := n0_; have HB := n1_; have HK := n2_; clear n0_ n1_ n2_; clear hg hw hp_))
     go_roundg k1
     case measure => have := HK1.out; omega
     case rel => exact ⟨(y285), (wrap64 (x1_1 + 1)), (wrap64 (x5_1 + 1)), (by first | rfl | (simp; done) | (simp [*]; done)), (by first | rfl | (simp; done) | (simp [*]; done)), H', ⟨by have := HK1.out; omega⟩, ⟨by (with_reducible repeat (first | apply R_alloc | apply R_drewN | apply R_drew)); exact HO_0.out⟩, ⟨by repeat (first | (with_reducible first | exact HK.out | apply Kept.alloc | apply Kept.drewN | apply Kept.drew) | exact HK.out)⟩, ⟨by repeat (first | (with_reducible first | exact HB.out | apply Zf | apply Zd | apply Ze) | exact HB.out)⟩⟩
    rw [if_neg c4] at H
    exact absurd H (by simp)
   rw [if_neg c3] at H
   have c3b0 : decide (x5_1 < (x0_1.length : Int)) = false := decide_eq_false c3
   clear c3
   simp only [Option.some.injEq, Prod.mk.injEq] at H
   obtain ⟨rfl, rfl⟩ := H
   obtain ⟨Ao9, co9, eo9⟩ := R_slice HO_0.out
   subst eo9
   go_wp2
   go_ret
   exact ⟨by first | rfl | (simp [errW_none, errW_some] <;> rfl) | (simp [*, errW_none, errW_some] <;> rfl), by (with_reducible repeat (first | apply R_alloc | apply R_drewN | apply R_drew)); exact HO_0.out, by repeat (first | (with_reducible first | exact HB.out | apply Zf | apply Zd | apply Ze) | exact HB.out), by repeat (first | (with_reducible first | exact HK.out | apply Kept.alloc | apply Kept.drewN | apply Kept.drew) | exact HK.out)⟩
end Go.Proofs.YtcgojdhbphocgaaDoor.F

namespace Go.Proofs.YtcgojdhbphocgaaDoor.F
open Go.RowKit Go.Proofs.YtcgojdhbphocgaaDoorW.PrintWords Go.Proofs.YtcgojdhbphocgaaDoorW.PrintLast Go.Proofs.YtcgojdhbphocgaaDoorW.PrintMore
set_option linter.unusedVariables false
set_option linter.unusedSimpArgs false
def cutv (v u : Value) : Prop := ∃ A n c c', v = .slice A n c ∧ u = .slice A n c' ∧ n ≤ c ∧ c ≤ c'
theorem cutv_refl {A : Option Addr} {n c : Nat} (h : n ≤ c) : cutv (.slice A n c) (.slice A n c) := ⟨A, n, c, c, rfl, rfl, h, Nat.le_refl _⟩
def cslice {α : Type} (e : Nat) (d : Kd α) : Kd (List α) where
  sz := 1
  E := e :: d.E
  K := (Kd.slice e d).K
  M := fun w base ok xs cs => ∃ v u, cs = [v] ∧ cutv v u ∧ d.R e w base ok u xs
  K_len := (Kd.slice e d).K_len
  K_one := (Kd.slice e d).K_one
  K_below := (Kd.slice e d).K_below
  K_of_M := by
    rintro w base ok x cs ⟨v, u, rfl, ⟨A, n, c, c', rfl, rfl, h1, h2⟩, h⟩
    obtain ⟨rfl, _, hC⟩ := Kd.R_reads' h
    exact ⟨A, c, rfl, h1, hC⟩
  M_mono := by
    rintro w base ok ok' x cs hok ⟨v, u, rfl, hc, h⟩
    exact ⟨v, u, rfl, hc, Kd.R_mono h hok⟩
  M_bound := by
    rintro w base ok x cs ⟨v, u, rfl, hc, h⟩
    exact ⟨v, u, rfl, hc, Kd.R_bound h⟩
  M_move := by
    rintro w w1 base ok x cs hm ⟨v, u, rfl, hc, h⟩
    exact ⟨v, u, rfl, hc, Kd.R_move h hm⟩
  M_lower := by
    rintro w base base' ok x cs hb ⟨v, u, rfl, hc, h⟩
    exact ⟨v, u, rfl, hc, Kd.R_lower h hb⟩
def k55c : Kd S55 := Kd.iso (Kd.pair Kd.string (AP.apair (cslice 5 (Kd.int .u8)) (cslice 5 (Kd.int .u8)))) (fun x : S55 => (x.f0, x.f1, x.f2))
theorem k55c_C {w : World} {A : Option Addr} {n : Nat} {xs : List S55} (h : k55c.C w A n xs) : k55.C w A n xs := h
theorem k55c_openA {w : World} {base : Nat} {ok : Nat → Prop} {x : S55} {cs : List Value} (h : k55c.M w base ok x cs) : ∃ p : Nat → Prop, ∃ v1 v2 u1 u2, cs = [.string x.f0, v1, v2] ∧ cutv v1 u1 ∧ cutv v2 u2 ∧ (Kd.int .u8).R 5 w base (fun k => ok k ∧ p k) u1 x.f1 ∧ (Kd.int .u8).R 5 w base (fun k => ok k ∧ ¬ p k) u2 x.f2 := by
  obtain ⟨c0, c1, rfl, h0, d0, d1, rfl, p, ⟨v1, u1, rfl, hc1, h1⟩, ⟨v2, u2, rfl, hc2, h2⟩⟩ := h
  obtain rfl : c0 = [.string x.f0] := h0
  exact ⟨p, v1, v2, u1, u2, rfl, hc1, hc2, h1, h2⟩
theorem k55c_mkM (w : World) (base : Nat) (ok : Nat → Prop) (x : S55) {v1 u1 v2 u2 : Value} (hc1 : cutv v1 u1) (hc2 : cutv v2 u2) (g1 : (Kd.int .u8).R 5 w base ok u1 x.f1) (g2 : (Kd.int .u8).R 5 w base ok u2 x.f2) (hne : ∀ k, some k = u1.ownBlock → ¬ some k = u2.ownBlock) : k55c.M w base ok x [.string x.f0, v1, v2] :=
  ⟨[.string x.f0], [v1, v2], rfl, rfl, [v1], [v2], rfl, _, ⟨v1, u1, rfl, hc1, (AP.split_of rfl rfl g1 g2 hne).1⟩, ⟨v2, u2, rfl, hc2, (AP.split_of rfl rfl g1 g2 hne).2⟩⟩
theorem k55c_of {w : World} {base : Nat} {ok : Nat → Prop} {x : S55} {cs : List Value} (h : k55.M w base ok x cs) : k55c.M w base ok x cs := by
  obtain ⟨c0, c1, rfl, h0, d0, d1, rfl, p, ⟨v1, rfl, h1⟩, ⟨v2, rfl, h2⟩⟩ := h
  obtain ⟨A1, c1, rfl, l1, _⟩ := Kd.R_reads h1
  obtain ⟨A2, c2, rfl, l2, _⟩ := Kd.R_reads h2
  exact ⟨c0, _, rfl, h0, _, _, rfl, p, ⟨_, _, rfl, cutv_refl l1, h1⟩, ⟨_, _, rfl, cutv_refl l2, h2⟩⟩
theorem S_c {e base : Nat} {w : World} {ok : Nat → Prop} {v : Value} {xs : List S55} (h : Kd.S k55 e w base ok v xs) : Kd.S k55c e w base ok v xs := by
  obtain ⟨f, h0, ho⟩ := h
  exact ⟨f, h0, ho.imp_ (fun p c hp => k55c_of hp)⟩
set_option maxHeartbeats 4000000 in
set_option maxRecDepth 100000 in
theorem laws_markByteS.callsC (k : Nat) (P0_ : Nat → Prop) (v u : Value) (l0 : List Int) (a1 : Int) (r1 : Int) (r2 : List Int) (w0 w : World) (hB : Below w0.heap.size w0 w) (hcut : cutv v u) (ho0 : Kd.R (Kd.int .u8) 5 w w0.heap.size P0_ u l0) (h : laws_markByteS.f k l0 a1 = some (r1, r2)) :
    Calls Tryd.prog 31 #[v, .int .i64 a1] w fun e w' => e = .returned (.int .i64 r1) ∧ Kd.R (Kd.int .u8) 5 w' w0.heap.size P0_ u r2 ∧ Below w0.heap.size w0 w' ∧ Kept w w' (fun k_ => P0_ k_) := by
  obtain ⟨A, n, c, c', rfl, rfl, hnc, hcc⟩ := hcut
  have HO0 := Zh ho0
  have HN := Zh (Kd.R_reads' ho0).1
  have HK := Zh (Kept.refl w (fun k_ => P0_ k_))
  have HB := Zh hB
  clear hB ho0
  have H' := Zh (show (laws_markByteS.l0 k l0 a1 0) = some (r1, r2) from h)
  clear h
  go_enter Tryd.func31, Tryd.ntmps31
  go_wp2
  go_loopg [1, 5] k (fun kq v1 v5 w' => ∃ (x0 : List Int) (x1 : Int) (x5 : Int), v1 = .int .i64 x1 ∧ v5 = .int .i64 x5 ∧ Aside0 (laws_markByteS.l0 kq x0 x1 x5 = some (r1, r2)) ∧ Aside0 (kq ≤ k) ∧ Aside0 (Kd.R (Kd.int .u8) 5 w' w0.heap.size P0_ (.slice A n c') x0) ∧ Aside0 (Kept w w' (fun k_ => P0_ k_)) ∧ Aside0 (Below w0.heap.size w0 w'))
  case atStart => exact ⟨l0, a1, 0, by first | rfl | (simp; done), by first | rfl | (simp; done), H', ⟨Nat.le_refl _⟩, HO0, HK, HB⟩
  case round =>
    clear H' HO0 HK HB HN
    obtain ⟨x0, x1, x5, rfl, rfl, HA, HK1, HO, HK, HB⟩ := hrel
    cases gk with
    | zero => exact absurd HA.out (by simp [laws_markByteS.l0])
    | succ k1 =>
      have H := HA.out
      clear HA
      have hl : n = x0.length := (Kd.R_reads' HO.out).1
      simp only [laws_markByteS.l0, ← hl] at H
      by_cases c3 : x5 < (n : Int)
      · rw [if_pos c3] at H
        by_cases c4 : 0 ≤ x5
        · rw [if_pos c4] at H
          have H' := Zh H
          clear H
          obtain ⟨g, cg, hv, hbg, hgw, _⟩ := Kd.R_form HO.out (by omega)
          injection hv with hv1 hv2 hv3
          subst hv1
          clear hv2 hv3
          have hPg := HO.out.1 g (by simp [Value.ownBlock])
          obtain ⟨hx, hf⟩ := Kd.R_celln 0 HO.out x5 c4 c3
          have HP := Zh (Kd.R_putg HO.out x5 (x1 % 256)).1
          have HB2 := Zh (Zg (g := g) (j := x5.toNat) (v := .int .u8 (x1 % 256)) HB.out hbg)
          have HK2 := Zh (Kept.setCell (p := ⟨g, x5.toNat, none⟩) HK.out (.inl hPg) (.int .u8 (x1 % 256)))
          have c3b := decide_eq_true c3
          have c4b := eq_true c4
          have c3e := eq_true c3
          have C3 := Zh c3
          clear hbg hgw hPg HB HK HO hl c3 c4
          go_wp2
          go_roundg k1
          case measure => have := HK1.out; omega
          case rel => exact ⟨_, wrap64 (x1 + 1), wrap64 (x5 + 1), by first | rfl | (simp; done), by first | rfl | (simp; done), H', ⟨by have := HK1.out; omega⟩, HP, HK2, HB2⟩
        rw [if_neg c4] at H
        exact absurd H (by simp)
      rw [if_neg c3] at H
      have q5 := decide_eq_false c3
      simp only [Option.some.injEq, Prod.mk.injEq] at H
      obtain ⟨rfl, rfl⟩ := H
      clear hl c3
      go_wp2
      go_ret
      exact ⟨rfl, HO.out, HB.out, HK.out⟩
end Go.Proofs.YtcgojdhbphocgaaDoor.F

namespace Go.Proofs.YtcgojdhbphocgaaDoor.F
open Go.RowKit Go.Proofs.YtcgojdhbphocgaaDoorW.PrintWords Go.Proofs.YtcgojdhbphocgaaDoorW.PrintLast Go.Proofs.YtcgojdhbphocgaaDoorW.PrintMore
open Go.Proofs.YtcgojdhbphocgaaDoor
set_option linter.unusedVariables false
set_option linter.unusedSimpArgs false
theorem setFileC {A : Option Addr} {cA m : Nat} {w0 w : World} {l : List LW.It} {g n c : Nat} {xs : List S55} {F G : Nat → Prop} {ys : List Int} (h : LW.St w0 w l) (q p : Nat) (hn : q ≠ p)
    (hq : l[q]? = some (LW.row k55 55 w0.heap.size (.slice (some ⟨g, 0, none⟩) n c) xs F)) (hp : l[p]? = some (LW.row (Kd.int .u8) 5 w0.heap.size (.slice A ys.length cA) ys G)) (i : Int) (h0 : 0 ≤ i) (h1 : i < n) (a : ByteArray) (hm : m ≤ ys.length) :
    LW.St w0 (((w.setCell ⟨g, i.toNat * 3, none⟩ (.string a)).setCell ⟨g, i.toNat * 3 + 1, none⟩ (.slice A m m)).setCell ⟨g, i.toNat * 3 + 2, none⟩ (.slice none 0 0))
      ((l.set q (LW.row k55c 55 w0.heap.size (.slice (some ⟨g, 0, none⟩) n c) (xs.set i.toNat ⟨a, ys.take m, []⟩) (fun k => F k ∨ G k))).set p LW.gone) := by
  have hS := h.own q hq
  have hR := Kd.R_take (Kd.S_R (h.own p hp)) hm
  have hcA := (Kd.S_reads' (h.own p hp)).2.1
  have hd := LW.Its.disj h.i q p _ _ hn hq hp
  have hFg : F g := (Kd.S_R hS).1 g (by simp [Value.ownBlock])
  have hbg := (h.i.all _ (List.mem_of_getElem? hq)).2 g hFg
  have hS2 : Kd.S k55c 55 w w0.heap.size (fun k => (F k ∨ G k) ∧ ¬ G k) (.slice (some ⟨g, 0, none⟩) n c) xs := Kd.S_mono (S_c hS) (fun k hk => ⟨.inl hk, fun h2 => hd k hk h2⟩)
  obtain ⟨oki, cs, hcl, hM, hcc, hfr, hoki, hH⟩ := Kd.S_elem hS2 z55 i h0 h1
  obtain ⟨pp, v1, v2, u1, u2, rfl, hc1, hc2, hA1, hA2⟩ := k55c_openA hM
  have hP := (Kd.S_seg (okg := G) (seg := [.string a, .slice A m m, .slice none 0 0]) (j := 0) hH h0 h1 (show 0 + 3 ≤ 3 by decide) (x' := (⟨a, ys.take m, []⟩ : S55)) (k55c_mkM _ _ _ (⟨a, ys.take m, []⟩ : S55) (u1 := .slice A m cA) (u2 := .slice none 0 0) ⟨A, m, m, cA, rfl, rfl, Nat.le_refl _, by omega⟩ ⟨none, 0, 0, 0, rfl, rfl, Nat.le_refl _, Nat.le_refl _⟩ hR (Kd.R_nil _ _ _ _ _) AP.nil_ne) (fun k hk => .inr hk) (fun k hk => ⟨.inr hk, fun he => hd k (he ▸ hFg) hk⟩))
  refine h.merge q p hn hq hp (LW.row k55c 55 w0.heap.size (.slice (some ⟨g, 0, none⟩) n c) (xs.set i.toNat ⟨a, ys.take m, []⟩) (fun k => F k ∨ G k)) (fun k hk => hk) hP.1 (Zg (Zg (Zg h.b hbg.1) hbg.1) hbg.1) ⟨?_, fun k hk hne => ?_⟩
  · simp [World.setCell]
  have hkg : k ≠ g := fun he => hne (he ▸ hFg)
  rw [Below.heap_setCell _ _ _ k hkg, Below.heap_setCell _ _ _ k hkg, Below.heap_setCell _ _ _ k hkg]
def impl_cutFile.f (k : Nat) (l0_0 : List S55) (a1 : ByteArray) (a2 : Int) : Option (List S55 × Bool) := (impl_copyDisk.f k l0_0).bind fun o => (impl_fileOf.f l0_0 a1).bind fun i => (impl_isDisk.f k l0_0).bind fun t => if t = true then (if i < 0 then some (o, false) else (if i < (l0_0.length : Int) then (if i < (o.length : Int) then (impl_File_content.f (rd_T55 l0_0 i).f0 (rd_T55 l0_0 i).f1 (rd_T55 l0_0 i).f2).bind fun b => if a2 < 0 then some (o, false) else (if a2 > (b.length : Int) then some (o, false) else some (o.set i.toNat (⟨a1, b.take a2.toNat, []⟩ : S55), true)) else none) else none)) else some (o, false)
set_option maxHeartbeats 8000000 in
set_option maxRecDepth 100000 in
theorem impl_cutFile.calls (k : Nat) (A0_0 : Option Addr) (c0_0 : Nat) (l0_0 : List S55) (a1 : ByteArray) (a2 : Int) (r1 : List S55) (r2 : Bool) (w : World) (hr0_0 : Kd.C k55 w A0_0 l0_0.length l0_0) (hc0_0 : l0_0.length ≤ c0_0) (h : impl_cutFile.f k l0_0 a1 a2 = some (r1, r2)) :
    Calls Tryd.prog 57 #[.agg #[.slice A0_0 l0_0.length c0_0], .string a1, .int .i64 a2] w fun e w' => ∃ v0_ : Value, e = .returned (.tuple #[.agg #[v0_], .bool r2]) ∧ Kd.S k55c 55 w' w.heap.size (fun _ => True) v0_ r1 ∧ Below w.heap.size w w' := by
  have HR := Zh hr0_0
  have HC := Zh hc0_0
  clear hr0_0 hc0_0
  have ST := Zh (LW.St.start w)
  unfold impl_cutFile.f at h
  replace h := Option.bind_eq_some_iff.mp h
  obtain ⟨o, HA1, h⟩ := h
  replace h := Option.bind_eq_some_iff.mp h
  obtain ⟨i, HA2, h⟩ := h
  replace h := Option.bind_eq_some_iff.mp h
  obtain ⟨t, HA3, h⟩ := h
  replace HA1 := Zh HA1
  replace HA2 := Zh HA2
  replace HA3 := Zh HA3
  have H := Zh h
  clear h
  go_enter Tryd.func57, Tryd.ntmps57
  go_wp2_with fail
  replace ST := Zh (ST.out.alloc #[.slice A0_0 l0_0.length c0_0] 28 (g := w.heap.size) rfl)
  replace ST := Zh (ST.out.alloc #[.slice none 0 0] 28 (g := w.heap.size + 1) (by simp))
  with_reducible refine (impl_copyDisk.calls k _ _ l0_0 o _ (Kd.C_below HR.out ST.out.b) HC.out HA1.out).mono ?_
  rintro e w1 ⟨v1, rfl, ho, hb⟩
  obtain ⟨A1, c1, rfl⟩ := Kd.S_slice ho
  replace ST := Zh (ST.out.row hb ho)
  clear hb ho
  have hc1 := ST.out.cell 1 rfl 0 (u := .slice none 0 0) rfl
  have hl1 := ST.out.lt 1 rfl
  have hc2 := ST.out.cell 2 rfl 0 (u := .slice A0_0 l0_0.length c0_0) rfl
  have hl2 := ST.out.lt 2 rfl
  go_wp2_with fail
  replace ST := Zh (ST.out.alloc #[.slice A1 o.length c1] 28 (g := w1.heap.size) rfl)
  with_reducible refine (impl_fileOf.calls _ _ l0_0 a1 i _ (Kd.C_below HR.out ST.out.b) HC.out HA2.out).mono ?_
  rintro e w2 ⟨rfl, hb⟩
  replace ST := Zh (ST.out.step hb)
  clear hb
  clear hc1 hl1 hc2 hl2
  have hc1 := ST.out.cell 0 rfl 0 (u := .slice A1 o.length c1) rfl
  have hl1 := ST.out.lt 0 rfl
  have hc2 := ST.out.cell 3 rfl 0 (u := .slice A0_0 l0_0.length c0_0) rfl
  have hl2 := ST.out.lt 3 rfl
  go_wp2_with fail
  with_reducible refine (impl_isDisk.calls k _ _ l0_0 t _ (Kd.C_below HR.out ST.out.b) HC.out HA3.out).mono ?_
  rintro e w3 ⟨rfl, hb⟩
  replace ST := Zh (ST.out.step hb)
  clear hb
  clear hc1 hl1 hc2 hl2
  have hc1 := ST.out.cell 0 rfl 0 (u := .slice A1 o.length c1) rfl
  have hl1 := ST.out.lt 0 rfl
  have hc2 := ST.out.cell 2 rfl 0 (u := .slice none 0 0) rfl
  have hl2 := ST.out.lt 2 rfl
  have h := H.out
  clear H
  by_cases ct : t = true
  · subst ct
    rw [if_pos rfl] at h
    by_cases ci : i < 0
    · rw [if_pos ci] at h
      obtain ⟨rfl, rfl⟩ := Prod.mk.inj (Option.some.inj h)
      clear h
      have cib : decide (i < 0) = true := decide_eq_true ci
      clear ci
      have hf2 := ST.out.frozen 2 rfl 0
      go_wp2_with fail
      replace ST := Zh (ST.out.set 2 rfl 0 (.slice A1 o.length c1))
      refine bodyPost_ret (results_ct rfl _ _ (w.heap.size + 1) 28 #[.slice A1 o.length c1] (0, 0) _ rfl (ST.out.blk 2 rfl) Tryd.underlying28 rfl (by kernel_rfl)) rfl ?_
      exact ⟨_, rfl, Kd.S_mono (S_c (ST.out.own 1 rfl)) (fun _ _ => trivial), ST.out.b⟩
    rw [if_neg ci] at h
    by_cases cl : i < (l0_0.length : Int)
    · rw [if_pos cl] at h
      by_cases cj : i < (o.length : Int)
      · rw [if_pos cj] at h
        replace h := Option.bind_eq_some_iff.mp h
        obtain ⟨b, HA4, h⟩ := h
        replace HA4 := Zh HA4
        have H := Zh h
        clear h
        have cib : decide (i < 0) = false := decide_eq_false ci
        have ci0 : 0 ≤ i := by omega
        obtain ⟨g, cg, hv, _, _, _⟩ := Kd.S_form (ST.out.own 1 rfl) (by omega)
        injection hv with hv1 hv2 hv3
        subst hv1
        have HI0 := Zh ci0
        have HIL := Zh cl
        have HIO := Zh cj
        have ci0b := eq_true ci0
        have clb := eq_true cl
        have cjb := eq_true cj
        clear ci cl cj ci0 hv2 hv3
        obtain ⟨ad, B1, d1, B2, d2, e, hx0, hx1, hx2, hl1', hi1, hl2', hi2⟩ := at_T55 HR.out i HI0.out HIL.out
        cases e
        replace hx0 := (ST.out.b.cell (Zi w _ hx0)).trans hx0
        replace hx1 := (ST.out.b.cell (Zi w _ hx1)).trans hx1
        replace hx2 := (ST.out.b.cell (Zi w _ hx2)).trans hx2
        clear hc2 hl2
        have hc2 := ST.out.cell 3 rfl 0 (u := .slice (some ad) l0_0.length c0_0) rfl
        have hl2 := ST.out.lt 3 rfl
        go_wp2_with fail
        clear hc1 hl1 hc2 hl2
        have HI1 := Zh hi1
        have HL1 := Zh hl1'
        have HI2 := Zh hi2
        have HL2 := Zh hl2'
        clear hx0 hx1 hx2 hl1' hi1 hl2' hi2
        with_reducible refine (impl_File_content.calls (rd_T55 l0_0 i).f0 _ _ (rd_T55 l0_0 i).f1 _ _ (rd_T55 l0_0 i).f2 b _ (Kd.C_below HI1.out ST.out.b) HL1.out (Kd.C_below HI2.out ST.out.b) HL2.out HA4.out).mono ?_
        rintro e w5 ⟨v5, rfl, ho, hb⟩
        obtain ⟨A5, c5, rfl⟩ := Kd.R_slice ho
        replace ST := Zh (ST.out.rowR rfl hb ho)
        clear hb ho
        have hc1 := ST.out.cell 1 rfl 0 (u := .slice (some ⟨g, 0, none⟩) o.length c1) rfl
        have hl1 := ST.out.lt 1 rfl
        have hc2 := ST.out.cell 3 rfl 0 (u := .slice none 0 0) rfl
        have hl2 := ST.out.lt 3 rfl
        have hf2 := ST.out.frozen 3 rfl 0
        have h := H.out
        clear H
        by_cases d1 : a2 < 0
        · rw [if_pos d1] at h
          obtain ⟨rfl, rfl⟩ := Prod.mk.inj (Option.some.inj h)
          clear h
          have d1b : decide (a2 < 0) = true := decide_eq_true d1
          clear d1
          go_wp2
          replace ST := Zh (ST.out.set 3 rfl 0 (.slice (some ⟨g, 0, none⟩) o.length c1))
          refine bodyPost_ret (results_ct rfl _ _ (w.heap.size + 1) 28 #[.slice (some ⟨g, 0, none⟩) o.length c1] (0, 0) _ rfl (ST.out.blk 3 rfl) Tryd.underlying28 rfl (by kernel_rfl)) rfl ?_
          exact ⟨_, rfl, Kd.S_mono (S_c (ST.out.own 2 rfl)) (fun _ _ => trivial), ST.out.b⟩
        rw [if_neg d1] at h
        have d1b : decide (a2 < 0) = false := decide_eq_false d1
        by_cases d2 : a2 > (b.length : Int)
        · rw [if_pos d2] at h
          obtain ⟨rfl, rfl⟩ := Prod.mk.inj (Option.some.inj h)
          clear h
          have d2b : decide (a2 > (b.length : Int)) = true := decide_eq_true d2
          clear d1 d2
          go_wp2
          replace ST := Zh (ST.out.set 3 rfl 0 (.slice (some ⟨g, 0, none⟩) o.length c1))
          refine bodyPost_ret (results_ct rfl _ _ (w.heap.size + 1) 28 #[.slice (some ⟨g, 0, none⟩) o.length c1] (0, 0) _ rfl (ST.out.blk 3 rfl) Tryd.underlying28 rfl (by kernel_rfl)) rfl ?_
          exact ⟨_, rfl, Kd.S_mono (S_c (ST.out.own 2 rfl)) (fun _ _ => trivial), ST.out.b⟩
        rw [if_neg d2] at h
        obtain ⟨rfl, rfl⟩ := Prod.mk.inj (Option.some.inj h)
        clear h
        have d2b : decide (a2 > (b.length : Int)) = false := decide_eq_false d2
        obtain ⟨m, rfl⟩ := Int.eq_ofNat_of_zero_le (show 0 ≤ a2 by omega)
        have hm : m ≤ b.length := by omega
        have hm5 : m ≤ c5 := by have := (ST.out.reads 0 rfl).2.1; omega
        have HM := Zh hm
        clear d1 d2
        go_wp2_with fail
        clear hc1 hl1 hc2 hl2 hf2
        replace ST := Zh ST.out.drew
        refine start_ (n := 11) (S := fun w' => w'.cell? ⟨w1.heap.size, 0, none⟩ = some (.slice (some ⟨g, 0, none⟩) o.length c1)) (ds := [10]) #[false, false, false, false, false, false, false, false, false, false, false] (by kernel_rfl) rfl rfl (ST.out.cell 1 rfl 0 rfl) (fun hHeld => ?_)
        generalize w5.drew = w6 at ST hHeld ⊢
        refine pure_ (i := 0) (N := some 39) (v := ?_) (a' := ?_) #[true, false, false, false, false, false, false, false, false, false, false] rfl rfl (by kernel_rfl) (fun _ _ _ h => h) (Or.inl ⟨by rfl, ?_⟩) ?_ ?_
        rotate_left
        · intro w'
          go_simp
          with_reducible rfl
        rotate_left
        · simp only [Act.put, List.setIfInBounds_toArray, List.set_cons_zero, List.set_cons_succ, i64_w, i32_w]
          rfl
        refine pure_ (i := 2) (N := some 41) (v := ?_) (a' := ?_) #[true, false, true, false, false, false, false, false, false, false, false] rfl rfl (by kernel_rfl) (fun _ _ _ h => h) (Or.inl ⟨by rfl, ?_⟩) ?_ ?_
        rotate_left
        · intro w'
          go_simp
          with_reducible rfl
        rotate_left
        · simp only [Act.put, List.setIfInBounds_toArray, List.set_cons_zero, List.set_cons_succ, i64_w, i32_w]
          rfl
        refine pure_ (i := 3) (N := some 42) (v := ?_) (a' := ?_) #[true, false, true, true, false, false, false, false, false, false, false] rfl rfl (by kernel_rfl) (fun _ _ _ h => h) (Or.inl ⟨by rfl, ?_⟩) ?_ ?_
        rotate_left
        · intro w'
          go_simp
          with_reducible rfl
        rotate_left
        · simp only [Act.put, List.setIfInBounds_toArray, List.set_cons_zero, List.set_cons_succ, i64_w, i32_w]
          rfl
        refine pure_ (i := 4) (N := some 43) (v := ?_) (a' := ?_) #[true, false, true, true, true, false, false, false, false, false, false] rfl rfl (by kernel_rfl) (fun _ _ _ h => h) (Or.inl ⟨by rfl, ?_⟩) ?_ ?_
        rotate_left
        · intro w'
          go_simp
          with_reducible rfl
        rotate_left
        · simp only [Act.put, List.setIfInBounds_toArray, List.set_cons_zero, List.set_cons_succ, i64_w, i32_w]
          rfl
        refine pure_ (i := 5) (N := some 44) (v := ?_) (a' := ?_) #[true, false, true, true, true, true, false, false, false, false, false] rfl rfl (by kernel_rfl) (fun _ _ _ h => h) (Or.inl ⟨by rfl, ?_⟩) ?_ ?_
        rotate_left
        · intro w'
          go_simp
          with_reducible rfl
        rotate_left
        · simp only [Act.put, List.setIfInBounds_toArray, List.set_cons_zero, List.set_cons_succ, i64_w, i32_w]
          rfl
        refine pure_ (i := 6) (N := some 45) (v := ?_) (a' := ?_) #[true, false, true, true, true, true, true, false, false, false, false] rfl rfl (by kernel_rfl) (fun _ _ _ h => h) (Or.inl ⟨by rfl, ?_⟩) ?_ ?_
        rotate_left
        · intro w'
          go_simp
          with_reducible rfl
        rotate_left
        · simp only [Act.put, List.setIfInBounds_toArray, List.set_cons_zero, List.set_cons_succ, i64_w, i32_w]
          rfl
        refine take_ (i := 1) (N := some 40) (v := ?_) (a' := ?_) #[true, true, true, true, true, true, true, false, false, false, false] rfl rfl (by kernel_rfl) (fun _ _ _ h => h) (Or.inl ⟨by rfl, ?_⟩) hHeld ?_ ?_
        rotate_left
        · rintro w' s0
          go_simp
          with_reducible rfl
        rotate_left
        · simp only [Act.put, List.setIfInBounds_toArray, List.set_cons_zero, List.set_cons_succ, i64_w, i32_w]
          rfl
        refine pure_ (i := 7) (N := some 46) (v := ?_) (a' := ?_) #[true, true, true, true, true, true, true, true, false, false, false] rfl rfl (by kernel_rfl) (fun _ _ _ h => h) (Or.inl ⟨by rfl, ?_⟩) ?_ ?_
        rotate_left
        · intro w'
          go_simp
          with_reducible rfl
        rotate_left
        · simp only [Act.put, List.setIfInBounds_toArray, List.set_cons_zero, List.set_cons_succ, i64_w, i32_w]
          rfl
        obtain ⟨oki, cs, hcl, hM, hcc, hfr, hoki, hH⟩ := Kd.S_elem (ST.out.own 2 rfl) z55 i HI0.out HIO.out
        obtain ⟨pp, u1, u2, rfl, hA1, hA2⟩ := k55_openA hM
        have hy0 : w6.cell? ⟨g, i.toNat * 3, none⟩ = some (.string (o.getD i.toNat z55).f0) := hcc 0 _ rfl
        have hy1 : w6.cell? ⟨g, i.toNat * 3 + 1, none⟩ = some u1 := hcc 1 _ rfl
        have hy2 : w6.cell? ⟨g, i.toNat * 3 + 2, none⟩ = some u2 := hcc 2 _ rfl
        have hf0 : w6.frozen? ⟨g, i.toNat * 3, none⟩ = false := hfr 0
        have hf1 : w6.frozen? ⟨g, i.toNat * 3 + 1, none⟩ = false := hfr 1
        have hf2 : w6.frozen? ⟨g, i.toNat * 3 + 2, none⟩ = false := hfr 2
        clear hcl hM hcc hfr hoki hH hA1 hA2
        refine pure_ (i := 8) (N := some 47) (v := ?_) (a' := ?_) #[true, true, true, true, true, true, true, true, true, false, false] rfl rfl (by kernel_rfl) (fun _ _ _ h => h) (Or.inl ⟨by rfl, ?_⟩) ?_ ?_
        rotate_left
        · intro w'
          go_simp
          with_reducible rfl
        rotate_left
        · simp only [Act.put, List.setIfInBounds_toArray, List.set_cons_zero, List.set_cons_succ, i64_w, i32_w]
          rfl
        refine pure_ (i := 9) (N := some 48) (v := ?_) (a' := ?_) #[true, true, true, true, true, true, true, true, true, true, false] rfl rfl (by kernel_rfl) (fun _ _ _ h => h) (Or.inl ⟨by rfl, ?_⟩) ?_ ?_
        rotate_left
        · intro w'
          go_simp
          with_reducible rfl
        rotate_left
        · simp only [Act.put, List.setIfInBounds_toArray, List.set_cons_zero, List.set_cons_succ, i64_w, i32_w]
          rfl
        refine last_ (i := 10) (N := none) #[true, true, true, true, true, true, true, true, true, true, true] rfl rfl (by kernel_rfl) (by decide) (fun K hK => ?_)
        refine skip_ (w1 := ?_) (by rfl) rfl ?_ ?_
        rotate_left
        · go_simp
          rfl
        refine hK.out _ _ ?_
        clear hK K
        refine done_ (by kernel_rfl) ?_
        clear hy0 hy1 hy2 hf0 hf1 hf2 hHeld
        replace ST := Zh (setFileC (m := m) ST.out 2 0 (by decide) rfl rfl i HI0.out HIO.out a1 HM.out)
        generalize (((w6.setCell ⟨g, i.toNat * 3, none⟩ (.string a1)).setCell ⟨g, i.toNat * 3 + 1, none⟩ (.slice A5 m m)).setCell ⟨g, i.toNat * 3 + 2, none⟩ (.slice none 0 0)) = w7 at ST ⊢
        have hc1 := ST.out.cell 1 rfl 0 (u := .slice (some ⟨g, 0, none⟩) o.length c1) rfl
        have hl1 := ST.out.lt 1 rfl
        have hc2 := ST.out.cell 3 rfl 0 (u := .slice none 0 0) rfl
        have hl2 := ST.out.lt 3 rfl
        have hf2 := ST.out.frozen 3 rfl 0
        go_wp2
        replace ST := Zh (ST.out.set 3 rfl 0 (.slice (some ⟨g, 0, none⟩) o.length c1))
        refine bodyPost_ret (results_ct rfl _ _ (w.heap.size + 1) 28 #[.slice (some ⟨g, 0, none⟩) o.length c1] (0, 0) _ rfl (ST.out.blk 3 rfl) Tryd.underlying28 rfl (by kernel_rfl)) rfl ?_
        exact ⟨_, rfl, Kd.S_mono (ST.out.own 2 rfl) (fun _ _ => trivial), ST.out.b⟩
      rw [if_neg cj] at h
      exact absurd h (by simp)
    rw [if_neg cl] at h
    exact absurd h (by simp)
  rw [if_neg ct] at h
  obtain rfl : t = false := by simpa using ct
  obtain ⟨rfl, rfl⟩ := Prod.mk.inj (Option.some.inj h)
  clear h ct
  have hf2 := ST.out.frozen 2 rfl 0
  go_wp2_with fail
  replace ST := Zh (ST.out.set 2 rfl 0 (.slice A1 o.length c1))
  refine bodyPost_ret (results_ct rfl _ _ (w.heap.size + 1) 28 #[.slice A1 o.length c1] (0, 0) _ rfl (ST.out.blk 2 rfl) Tryd.underlying28 rfl (by kernel_rfl)) rfl ?_
  exact ⟨_, rfl, Kd.S_mono (S_c (ST.out.own 1 rfl)) (fun _ _ => trivial), ST.out.b⟩
end Go.Proofs.YtcgojdhbphocgaaDoor.F

namespace Go.Proofs.YtcgojdhbphocgaaDoor.F
open Go.RowKit Go.Proofs.YtcgojdhbphocgaaDoorW.PrintWords Go.Proofs.YtcgojdhbphocgaaDoorW.PrintWords.Kd Go.Proofs.YtcgojdhbphocgaaDoorW.PrintMore.Kd Go.Proofs.YtcgojdhbphocgaaDoorW.PrintLast Go.Proofs.YtcgojdhbphocgaaDoorW.PrintMore
attribute [local go_sem] max2_int min2_int max_two min_two max_three min_three max_four min_four   -- for this text's walks alone
set_option linter.unusedVariables false
set_option linter.unusedSimpArgs false
def binary_littleEndian_Uint32.f  (l1 : List Int) : Option (Int) := if 3 < (l1.length : Int) then (if 0 < (l1.length : Int) then (if 1 < (l1.length : Int) then (if 2 < (l1.length : Int) then (some (Go.bits .or .u32 (Go.bits .or .u32 (Go.bits .or .u32 ((rd l1 0) % 4294967296) ((((rd l1 1) % 4294967296) * 256) % 4294967296)) ((((rd l1 2) % 4294967296) * 65536) % 4294967296)) ((((rd l1 3) % 4294967296) * 16777216) % 4294967296))) else (none)) else (none)) else (none)) else (none)
set_option maxHeartbeats 8000000 in
set_option maxRecDepth 100000 in
theorem binary_littleEndian_Uint32.calls  (A1 : Option Addr) (c1 : Nat) (l1 : List Int) (r : Int) (w : World) (hr1 : Kd.C (Kd.int .u8) w A1 l1.length l1) (hc1 : l1.length ≤ c1) (h : binary_littleEndian_Uint32.f l1 = some r) :
  Calls Tryd.prog 105 #[.agg #[], .slice A1 l1.length c1] w fun e w' => e = .returned (.int .u32 r) ∧ Below w.heap.size w w' := by
 have hu94 := Tryd.underlying94
 have HR1 := Zh hr1
 have HC1 := Zh hc1
 clear hr1 hc1
 have HB := Zh (Below.refl w.heap.size w)
 have H : (if 3 < (l1.length : Int) then (if 0 < (l1.length : Int) then (if 1 < (l1.length : Int) then (if 2 < (l1.length : Int) then (some (Go.bits .or .u32 (Go.bits .or .u32 (Go.bits .or .u32 ((rd l1 0) % 4294967296) ((((rd l1 1) % 4294967296) * 256) % 4294967296)) ((((rd l1 2) % 4294967296) * 65536) % 4294967296)) ((((rd l1 3) % 4294967296) * 16777216) % 4294967296))) else (none)) else (none)) else (none)) else (none)) = some r := h
 clear h
 by_cases c3 : 3 < (l1.length : Int)
 ·
  rw [if_pos c3] at H
  have c3b0 : decide (3 < (l1.length : Int)) = true := decide_eq_true c3
  have c3b1 : decide (3 < l1.length) = true := decide_eq_true (by omega)
  clear c3
  by_cases c4 : 0 < (l1.length : Int)
  ·
   rw [if_pos c4] at H
   have c4b0 : decide (0 < (l1.length : Int)) = true := decide_eq_true c4
   have c4b1 : decide (0 < l1.length) = true := decide_eq_true (by omega)
   clear c4
   by_cases c5 : 1 < (l1.length : Int)
   ·
    rw [if_pos c5] at H
    have c5b0 : decide (1 < (l1.length : Int)) = true := decide_eq_true c5
    have c5b1 : decide (1 < l1.length) = true := decide_eq_true (by omega)
    clear c5
    by_cases c6 : 2 < (l1.length : Int)
    ·
     rw [if_pos c6] at H
     have c6b0 : decide (2 < (l1.length : Int)) = true := decide_eq_true c6
     have c6b1 : decide (2 < l1.length) = true := decide_eq_true (by omega)
     clear c6
     obtain rfl := Option.some.inj H
     go_enter Tryd.func105, Tryd.ntmps105
     go_wp2_with (first | ((with_reducible refine gate_dst (N := 2) rfl ?_); refine box_event ?hg (N := 2) ?hd (cs := #[]) (t := 94) ?hr ?_; (case hd => rfl); (case hg => rfl); (case hr => first | (go_simp; done) | (go_simp; rfl)); intro gb365 hg w7 hbox hb; have n0_ := Zh (Zl Zs hb); have n1_ := Zh (hbox); have n2_ := Zh ((by rw [hg]; exact (below_size Zs) : w.heap.size ≤ gb365)); have n3_ := Zh ((by rw [hg]; exact (below_size Zs) : w.heap.size ≤ gb365)); clear HB; have HB := n0_; have BK365 := n1_; have GW365 := n2_; have GE365 := n3_; clear n0_ n1_ n2_ n3_; clear hb hbox hg; have p366 : 0 ≤ (3 : Int) := (by omega); have q366 : 3 < (l1.length : Int) := Zo; obtain ⟨ad366, e366, hx366_0⟩ := Kd.at_int HR1.out 3 p366 q366; cases e366; (try simp only [show (3 : Int).toNat = 3 from rfl, Nat.reduceMul, Nat.reduceEqDiff, Go.Addr.add, ↓reduceIte] at hx366_0); have qi366 : (3 < l1.length) = True := eq_true (by omega); (try rw [show ((3 : Int)).toNat = 3 from rfl] at hx366_0); replace hx366_0 := Zc HB.out hx366_0; replace p366 := eq_true p366; replace q366 := eq_true q366; have p367 : 0 ≤ (0 : Int) := (by omega); have q367 : 0 < (l1.length : Int) := Zo; obtain ⟨ad367, e367, hx367_0⟩ := Kd.at_int HR1.out 0 p367 q367; obtain rfl : ad366 = ad367 := (by injection e367); have qi367 : (0 < l1.length) = True := eq_true (by omega); (try rw [show ((0 : Int)).toNat = 0 from rfl] at hx367_0); (try rw [Addr.add_zero'] at hx367_0); replace hx367_0 := Zc HB.out hx367_0; replace p367 := eq_true p367; replace q367 := eq_true q367; have p368 : 0 ≤ (1 : Int) := (by omega); have q368 : 1 < (l1.length : Int) := Zo; obtain ⟨ad368, e368, hx368_0⟩ := Kd.at_int HR1.out 1 p368 q368; obtain rfl : ad366 = ad368 := (by injection e368); (try simp only [show (1 : Int).toNat = 1 from rfl, Nat.reduceMul, Nat.reduceEqDiff, Go.Addr.add, ↓reduceIte] at hx368_0); have qi368 : (1 < l1.length) = True := eq_true (by omega); (try rw [show ((1 : Int)).toNat = 1 from rfl] at hx368_0); replace hx368_0 := Zc HB.out hx368_0; replace p368 := eq_true p368; replace q368 := eq_true q368; have p369 : 0 ≤ (2 : Int) := (by omega); have q369 : 2 < (l1.length : Int) := Zo; obtain ⟨ad369, e369, hx369_0⟩ := Kd.at_int HR1.out 2 p369 q369; obtain rfl : ad366 = ad369 := (by injection e369); (try simp only [show (2 : Int).toNat = 2 from rfl, Nat.reduceMul, Nat.reduceEqDiff, Go.Addr.add, ↓reduceIte] at hx369_0); have qi369 : (2 < l1.length) = True := eq_true (by omega); (try rw [show ((2 : Int)).toNat = 2 from rfl] at hx369_0); replace hx369_0 := Zc HB.out hx369_0; replace p369 := eq_true p369; replace q369 := eq_true q369; have p370 : 0 ≤ (3 : Int) := (by omega); have q370 : 3 < (l1.length : Int) := Zo; obtain ⟨ad370, e370, hx370_0⟩ := Kd.at_int HR1.out 3 p370 q370; obtain rfl : ad366 = ad370 := (by injection e370); (try simp only [show (3 : Int).toNat = 3 from rfl, Nat.reduceMul, Nat.reduceEqDiff, Go.Addr.add, ↓reduceIte] at hx370_0); have qi370 : (3 < l1.length) = True := eq_true (by omega); (try rw [show ((3 : Int)).toNat = 3 from rfl] at hx370_0); replace hx370_0 := Zc HB.out hx370_0; replace p370 := eq_true p370; replace q370 := eq_true q370))
     repeat (go_quiet (first | ((with_reducible refine gate_dst (N := 2) rfl ?_); refine box_event ?hg (N := 2) ?hd (cs := #[]) (t := 94) ?hr ?_; (case hd => rfl); (case hg => rfl); (case hr => first | (go_simp; done) | (go_simp; rfl)); intro gb365 hg w7 hbox hb; have n0_ := Zh (Zl Zs hb); have n1_ := Zh (hbox); have n2_ := Zh ((by rw [hg]; exact (below_size Zs) : w.heap.size ≤ gb365)); have n3_ := Zh ((by rw [hg]; exact (below_size Zs) : w.heap.size ≤ gb365)); clear HB; have HB := n0_; have BK365 := n1_; have GW365 := n2_; have GE365 := n3_; clear n0_ n1_ n2_ n3_; clear hb hbox hg; have p366 : 0 ≤ (3 : Int) := (by omega); have q366 : 3 < (l1.length : Int) := Zo; obtain ⟨ad366, e366, hx366_0⟩ := Kd.at_int HR1.out 3 p366 q366; cases e366; (try simp only [show (3 : Int).toNat = 3 from rfl, Nat.reduceMul, Nat.reduceEqDiff, Go.Addr.add, ↓reduceIte] at hx366_0); have qi366 : (3 < l1.length) = True := eq_true (by omega); (try rw [show ((3 : Int)).toNat = 3 from rfl] at hx366_0); replace hx366_0 := Zc HB.out hx366_0; replace p366 := eq_true p366; replace q366 := eq_true q366; have p367 : 0 ≤ (0 : Int) := (by omega); have q367 : 0 < (l1.length : Int) := Zo; obtain ⟨ad367, e367, hx367_0⟩ := Kd.at_int HR1.out 0 p367 q367; obtain rfl : ad366 = ad367 := (by injection e367); have qi367 : (0 < l1.length) = True := eq_true (by omega); (try rw [show ((0 : Int)).toNat = 0 from rfl] at hx367_0); (try rw [Addr.add_zero'] at hx367_0); replace hx367_0 := Zc HB.out hx367_0; replace p367 := eq_true p367; replace q367 := eq_true q367; have p368 : 0 ≤ (1 : Int) := (by omega); have q368 : 1 < (l1.length : Int) := Zo; obtain ⟨ad368, e368, hx368_0⟩ := Kd.at_int HR1.out 1 p368 q368; obtain rfl : ad366 = ad368 := (by injection e368); (try simp only [show (1 : Int).toNat = 1 from rfl, Nat.reduceMul, Nat.reduceEqDiff, Go.Addr.add, ↓reduceIte] at hx368_0); have qi368 : (1 < l1.length) = True := eq_true (by omega); (try rw [show ((1 : Int)).toNat = 1 from rfl] at hx368_0); replace hx368_0 := Zc HB.out hx368_0; replace p368 := eq_true p368; replace q368 := eq_true q368; have p369 : 0 ≤ (2 : Int) := (by omega); have q369 : 2 < (l1.length : Int) := Zo; obtain ⟨ad369, e369, hx369_0⟩ := Kd.at_int HR1.out 2 p369 q369; obtain rfl : ad366 = ad369 := (by injection e369); (try simp only [show (2 : Int).toNat = 2 from rfl, Nat.reduceMul, Nat.reduceEqDiff, Go.Addr.add, ↓reduceIte] at hx369_0); have qi369 : (2 < l1.length) = True := eq_true (by omega); (try rw [show ((2 : Int)).toNat = 2 from rfl] at hx369_0); replace hx369_0 := Zc HB.out hx369_0; replace p369 := eq_true p369; replace q369 := eq_true q369; have p370 : 0 ≤ (3 : Int) := (by omega); have q370 : 3 < (l1.length : Int) := Zo; obtain ⟨ad370, e370, hx370_0⟩ := Kd.at_int HR1.out 3 p370 q370; obtain rfl : ad366 = ad370 := (by injection e370); (try simp only [show (3 : Int).toNat = 3 from rfl, Nat.reduceMul, Nat.reduceEqDiff, Go.Addr.add, ↓reduceIte] at hx370_0); have qi370 : (3 < l1.length) = True := eq_true (by omega); (try rw [show ((3 : Int)).toNat = 3 from rfl] at hx370_0); replace hx370_0 := Zc HB.out hx370_0; replace p370 := eq_true p370; replace q370 := eq_true q370)); try go_wp2_with (first | ((with_reducible refine gate_dst (N := 2) rfl ?_); refine box_event ?hg (N := 2) ?hd (cs := #[]) (t := 94) ?hr ?_; (case hd => rfl); (case hg => rfl); (case hr => first | (go_simp; done) | (go_simp; rfl)); intro gb365 hg w7 hbox hb; have n0_ := Zh (Zl Zs hb); have n1_ := Zh (hbox); have n2_ := Zh ((by rw [hg]; exact (below_size Zs) : w.heap.size ≤ gb365)); have n3_ := Zh ((by rw [hg]; exact (below_size Zs) : w.heap.size ≤ gb365)); clear HB; have HB := n0_; have BK365 := n1_; have GW365 := n2_; have GE365 := n3_; clear n0_ n1_ n2_ n3_; clear hb hbox hg; have p366 : 0 ≤ (3 : Int) := (by omega); have q366 : 3 < (l1.length : Int) := Zo; obtain ⟨ad366, e366, hx366_0⟩ := Kd.at_int HR1.out 3 p366 q366; cases e366; (try simp only [show (3 : Int).toNat = 3 from rfl, Nat.reduceMul, Nat.reduceEqDiff, Go.Addr.add, ↓reduceIte] at hx366_0); have qi366 : (3 < l1.length) = True := eq_true (by omega); (try rw [show ((3 : Int)).toNat = 3 from rfl] at hx366_0); replace hx366_0 := Zc HB.out hx366_0; replace p366 := eq_true p366; replace q366 := eq_true q366; have p367 : 0 ≤ (0 : Int) := (by omega); have q367 : 0 < (l1.length : Int) := Zo; obtain ⟨ad367, e367, hx367_0⟩ := Kd.at_int HR1.out 0 p367 q367; obtain rfl : ad366 = ad367 := (by injection e367); have qi367 : (0 < l1.length) = True := eq_true (by omega); (try rw [show ((0 : Int)).toNat = 0 from rfl] at hx367_0); (try rw [Addr.add_zero'] at hx367_0); replace hx367_0 := Zc HB.out hx367_0; replace p367 := eq_true p367; replace q367 := eq_true q367; have p368 : 0 ≤ (1 : Int) := (by omega); have q368 : 1 < (l1.length : Int) := Zo; obtain ⟨ad368, e368, hx368_0⟩ := Kd.at_int HR1.out 1 p368 q368; obtain rfl : ad366 = ad368 := (by injection e368); (try simp only [show (1 : Int).toNat = 1 from rfl, Nat.reduceMul, Nat.reduceEqDiff, Go.Addr.add, ↓reduceIte] at hx368_0); have qi368 : (1 < l1.length) = True := eq_true (by omega); (try rw [show ((1 : Int)).toNat = 1 from rfl] at hx368_0); replace hx368_0 := Zc HB.out hx368_0; replace p368 := eq_true p368; replace q368 := eq_true q368; have p369 : 0 ≤ (2 : Int) := (by omega); have q369 : 2 < (l1.length : Int) := Zo; obtain ⟨ad369, e369, hx369_0⟩ := Kd.at_int HR1.out 2 p369 q369; obtain rfl : ad366 = ad369 := (by injection e369); (try simp only [show (2 : Int).toNat = 2 from rfl, Nat.reduceMul, Nat.reduceEqDiff, Go.Addr.add, ↓reduceIte] at hx369_0); have qi369 : (2 < l1.length) = True := eq_true (by omega); (try rw [show ((2 : Int)).toNat = 2 from rfl] at hx369_0); replace hx369_0 := Zc HB.out hx369_0; replace p369 := eq_true p369; replace q369 := eq_true q369; have p370 : 0 ≤ (3 : Int) := (by omega); have q370 : 3 < (l1.length : Int) := Zo; obtain ⟨ad370, e370, hx370_0⟩ := Kd.at_int HR1.out 3 p370 q370; obtain rfl : ad366 = ad370 := (by injection e370); (try simp only [show (3 : Int).toNat = 3 from rfl, Nat.reduceMul, Nat.reduceEqDiff, Go.Addr.add, ↓reduceIte] at hx370_0); have qi370 : (3 < l1.length) = True := eq_true (by omega); (try rw [show ((3 : Int)).toNat = 3 from rfl] at hx370_0); replace hx370_0 := Zc HB.out hx370_0; replace p370 := eq_true p370; replace q370 := eq_true q370)))
     go_ret
     exact ⟨by first | rfl | (simp [errW_none, errW_some] <;> rfl) | (simp [*, errW_none, errW_some] <;> rfl), by repeat (first | (with_reducible first | exact HB.out | apply Zf | apply Zd | apply Ze | refine Zg ?_ GE365.out) | exact HB.out)⟩
    rw [if_neg c6] at H
    exact absurd H (by simp)
   rw [if_neg c5] at H
   exact absurd H (by simp)
  rw [if_neg c4] at H
  exact absurd H (by simp)
 rw [if_neg c3] at H
 exact absurd H (by simp)
mutual
def impl_crc32.l0 : Nat → Int → List Int → Int → Int → Option (Int)
 | 0, _, _, _, _ => none
 | k + 1, x3, x7, x8, x9 => if x9 < x8 then (if 0 ≤ x9 then (if x9 < (x7.length : Int) then (impl_crc32.l1 k (Go.bits .xor .u32 x3 ((rd x7 x9) % 4294967296)) x7 x8 x9 0) else (none)) else (none)) else (some (Go.bits .xor .u32 4294967295 x3))
def impl_crc32.l1 : Nat → Int → List Int → Int → Int → Int → Option (Int)
 | 0, _, _, _, _, _ => none
 | k + 1, x3, x7, x8, x9, x17 => if x17 < 8 then (if (Go.bits .and .u32 x3 1) = 1 then (impl_crc32.l1 k (Go.bits .xor .u32 (x3 / 2) 3988292384) x7 x8 x9 (wrap64 (x17 + 1))) else (impl_crc32.l1 k (x3 / 2) x7 x8 x9 (wrap64 (x17 + 1)))) else (impl_crc32.l0 k x3 x7 x8 (wrap64 (x9 + 1)))
end
def impl_crc32.f (k : Nat) (l0 : List Int) : Option (Int) := impl_crc32.l0 k 4294967295 l0 (l0.length : Int) 0
set_option maxHeartbeats 8000000 in
set_option maxRecDepth 100000 in
theorem impl_crc32.calls (k : Nat) (A0 : Option Addr) (c0 : Nat) (l0 : List Int) (r : Int) (w : World) (hr0 : Kd.C (Kd.int .u8) w A0 l0.length l0) (hc0 : l0.length ≤ c0) (h : impl_crc32.f k l0 = some r) :
  Calls Tryd.prog 92 #[.slice A0 l0.length c0] w fun e w' => e = .returned (.int .u32 r) ∧ Drawn0 w w' := by
 have HR0 := Zh hr0
 have HC0 := Zh hc0
 clear hr0 hc0
 have H : (impl_crc32.l0 k 4294967295 l0 (l0.length : Int) 0) = some r := h
 clear h
 have H' := Zh H
 clear H
 go_enter Tryd.func92, Tryd.ntmps92
 go_wp2
 go_loopg [3, 9] k (fun kq v3 v9 w' => ∃ (x3_1 : Int) (x9_1 : Int), v3 = .int .u32 x3_1 ∧ v9 = .int .i64 x9_1 ∧ Aside0 (impl_crc32.l0 kq x3_1 l0 (l0.length : Int) x9_1 = some r) ∧ Aside0 (kq ≤ k) ∧ Drawn0 w w')
 case atStart => exact ⟨(4294967295), (0), (by first | rfl | (simp; done) | (simp [*]; done)), (by first | rfl | (simp; done) | (simp [*]; done)), H', ⟨Nat.le_refl _⟩, by repeat (first | exact Drawn0.refl _ | apply Drawn0.step)⟩
 case round =>
  clear H'
  obtain ⟨x3_1, x9_1, rfl, rfl, HA, HK1, ⟨m1, rfl⟩⟩ := hrel
  cases gk with
  | zero => exact absurd HA.out (by simp [impl_crc32.l0])
  | succ k1 =>
   have H := HA.out
   clear HA
   simp only [impl_crc32.l0] at H
   by_cases c2 : x9_1 < (l0.length : Int)
   ·
    rw [if_pos c2] at H
    have c2b0 : decide (x9_1 < (l0.length : Int)) = true := decide_eq_true c2
    clear c2
    by_cases c3 : 0 ≤ x9_1
    ·
     rw [if_pos c3] at H
     have c3b0 : decide (0 ≤ x9_1) = true := decide_eq_true c3
     clear c3
     by_cases c4 : x9_1 < (l0.length : Int)
     ·
      rw [if_pos c4] at H
      have c4b0 : decide (x9_1 < (l0.length : Int)) = true := decide_eq_true c4
      clear c4
      have H' := Zh H
      clear H
      have p364 : 0 ≤ (x9_1 : Int) := Zo
      have q364 : x9_1 < (l0.length : Int) := Zo
      obtain ⟨ad364, e364, hx364_0⟩ := Kd.at_int HR0.out x9_1 p364 q364
      cases e364
      replace p364 := eq_true p364
      replace q364 := eq_true q364
      go_wp2
      go_loopg [3, 17] k1 (fun kq v3 v17 w' => ∃ (x3_2 : Int) (x17_2 : Int), v3 = .int .u32 x3_2 ∧ v17 = .int .i64 x17_2 ∧ Aside0 (impl_crc32.l1 kq x3_2 l0 (l0.length : Int) x9_1 x17_2 = some r) ∧ Aside0 (kq ≤ k1) ∧ Drawn0 w w')
      case atStart => exact ⟨(Go.bits .xor .u32 x3_1 ((rd l0 x9_1) % 4294967296)), (0), (by first | rfl | (simp; done) | (simp [*]; done)), (by first | rfl | (simp; done) | (simp [*]; done)), H', ⟨Nat.le_refl _⟩, by repeat (first | exact Drawn0.refl _ | apply Drawn0.step)⟩
      case round =>
       clear H'
       try clear c2
       try clear c2b0
       try clear p2
       try clear c3
       try clear c3b0
       try clear p3
       try clear q3
       try clear hx3
       try clear c4
       try clear c4b0
       try clear hx364_0
       try clear p364
       try clear q364
       obtain ⟨x3_2, x17_2, rfl, rfl, HA, HK2, ⟨m2, rfl⟩⟩ := hrel
       cases gk with
       | zero => exact absurd HA.out (by simp [impl_crc32.l1])
       | succ k2 =>
        have H := HA.out
        clear HA
        simp only [impl_crc32.l1] at H
        by_cases c5 : x17_2 < 8
        ·
         rw [if_pos c5] at H
         have c5b0 : decide (x17_2 < 8) = true := decide_eq_true c5
         clear c5
         by_cases c6 : (Go.bits .and .u32 x3_2 1) = 1
         ·
          rw [if_pos c6] at H
          have c6b0 : ((Go.bits .and .u32 x3_2 1) == 1) = true := beq_iff_eq.mpr c6
          have c6b1 : ((Go.bits .and .u32 x3_2 1) != 1) = false := bne_eq_false_iff_eq.mpr c6
          clear c6
          have H' := Zh H
          clear H
          go_wp2
          go_roundg k2
          case measure => have := HK1.out; have := HK2.out; omega
          case rel => exact ⟨(Go.bits .xor .u32 (x3_2 / 2) 3988292384), (wrap64 (x17_2 + 1)), (by first | rfl | (simp; done) | (simp [*]; done)), (by first | rfl | (simp; done) | (simp [*]; done)), H', ⟨by have := HK1.out; have := HK2.out; omega⟩, by repeat (first | exact Drawn0.refl _ | apply Drawn0.step)⟩
         rw [if_neg c6] at H
         have c6b0 : ((Go.bits .and .u32 x3_2 1) == 1) = false := beq_eq_false_iff_ne.mpr c6
         have c6b1 : ((Go.bits .and .u32 x3_2 1) != 1) = true := bne_iff_ne.mpr c6
         have H' := Zh H
         clear H
         go_wp2
         go_roundg k2
         case measure => have := HK1.out; have := HK2.out; omega
         case rel => exact ⟨(x3_2 / 2), (wrap64 (x17_2 + 1)), (by first | rfl | (simp; done) | (simp [*]; done)), (by first | rfl | (simp; done) | (simp [*]; done)), H', ⟨by have := HK1.out; have := HK2.out; omega⟩, by repeat (first | exact Drawn0.refl _ | apply Drawn0.step)⟩
        rw [if_neg c5] at H
        have c5b0 : decide (x17_2 < 8) = false := decide_eq_false c5
        clear c5
        have H' := Zh H
        clear H
        go_wp2
        go_roundg k2
        case measure => have := HK1.out; have := HK2.out; omega
        case rel => exact ⟨(x3_2), (wrap64 (x9_1 + 1)), (by first | rfl | (simp; done) | (simp [*]; done)), (by first | rfl | (simp; done) | (simp [*]; done)), H', ⟨by have := HK1.out; have := HK2.out; omega⟩, by repeat (first | exact Drawn0.refl _ | apply Drawn0.step)⟩
     rw [if_neg c4] at H
     exact absurd H (by simp)
    rw [if_neg c3] at H
    exact absurd H (by simp)
   rw [if_neg c2] at H
   have c2b0 : decide (x9_1 < (l0.length : Int)) = false := decide_eq_false c2
   clear c2
   obtain rfl := Option.some.inj H
   go_wp2
   go_ret
   exact ⟨by first | rfl | (simp; done) | (simp [*]; done), by repeat (first | exact Drawn0.refl _ | apply Drawn0.step)⟩
mutual
def impl_scanFrames.l0 : Nat → List Int → List (List Int) → Int → Option ((List (List Int)) × Int)
 | 0, _, _, _ => none
 | k + 1, x0, x4, x5 => if 0 ≤ x5 then (if x5 ≤ (x0.length : Int) then (if ((x0.drop (x5 : Int).toNat).length : Int) < 8 then (some (x4, x5)) else ((binary_littleEndian_Uint32.f (x0.drop (x5 : Int).toNat)).bind fun t375 => (if t375 < 1 then (impl_scanFrames.j1 k x0 x4 x5 (x0.drop (x5 : Int).toNat) t375 true) else (if t375 > 600 then (impl_scanFrames.j1 k x0 x4 x5 (x0.drop (x5 : Int).toNat) t375 true) else (impl_scanFrames.j1 k x0 x4 x5 (x0.drop (x5 : Int).toNat) t375 (decide (((x0.drop (x5 : Int).toNat).length : Int) < (wrap64 (8 + (wrap64 (t375))))))))))) else (none)) else (none)
def impl_scanFrames.j1 : Nat → List Int → List (List Int) → Int → List Int → Int → Bool → Option ((List (List Int)) × Int)
 | 0, _, _, _, _, _, _ => none
 | k + 1, x0, x4, x5, x6, x7, x34 => if x34 = true then (some (x4, x5)) else (if 8 ≤ ((8 + x7) % 4294967296) then (if ((8 + x7) % 4294967296) ≤ (x6.length : Int) then (if 4 ≤ (x6.length : Int) then ((binary_littleEndian_Uint32.f (x6.drop 4)).bind fun t378 => ((impl_crc32.f k ((x6.take (((8 + x7) % 4294967296) : Int).toNat).drop 8)).bind fun t379 => (if t378 = t379 then ((some (([] : List Int) : List Int)).bind fun y380 => (if y380.length + ((x6.take (((8 + x7) % 4294967296) : Int).toNat).drop 8).length < 140737488355328 then (if x4.length < 5864062014805 then (impl_scanFrames.l0 k x0 (x4 ++ [(y380 ++ ((x6.take (((8 + x7) % 4294967296) : Int).toNat).drop 8))]) (wrap64 (x5 + (wrap64 (8 + (wrap64 (x7))))))) else (none)) else (none))) else (some (x4, x5))))) else (none)) else (none)) else (none))
end
def impl_scanFrames.f (k : Nat) (l0 : List Int) : Option ((List (List Int)) × Int) := impl_scanFrames.l0 k l0 (([] : List (List Int))) 0
set_option maxHeartbeats 8000000 in
set_option maxRecDepth 100000 in
theorem impl_scanFrames.calls (k : Nat) (A0 : Option Addr) (c0 : Nat) (l0 : List Int) (r1 : List (List Int)) (r2 : Int) (w : World) (hr0 : Kd.C (Kd.int .u8) w A0 l0.length l0) (hc0 : l0.length ≤ c0) (h : impl_scanFrames.f k l0 = some (r1, r2)) :
  Calls Tryd.prog 81 #[.slice A0 l0.length c0] w fun e w' => ∃ v0_ : Value, e = .returned (.tuple #[v0_, .int .i64 r2]) ∧ Kd.S (Kd.slice 5 (Kd.int .u8)) 41 w' w.heap.size (fun _ => True) v0_ r1 ∧ Below w.heap.size w w' := by
 have hu94 := Tryd.underlying94
 have HR0 := Zh hr0
 have HC0 := Zh hc0
 clear hr0 hc0
 have HB := Zh (Below.refl w.heap.size w)
 have H : (impl_scanFrames.l0 k l0 (([] : List (List Int))) 0) = some (r1, r2) := h
 clear h
 obtain ⟨y371, hy371⟩ : ∃ y_ : List (List Int), y_ = (([] : List (List Int))) := ⟨_, rfl⟩
 replace H : (impl_scanFrames.l0 k l0 y371 0) = some (r1, r2) := by first | (rw [hy371]; with_reducible exact H) | (have H2_ := (Option.bind_some _ _).symm.trans H; rw [hy371]; with_reducible exact H2_) | (have H2_ := (Option.bind_some _ _).symm.trans H; with_reducible exact H2_) | with_reducible exact H | (rw [hy371]; exact H) | exact H
 have Ny371 := Zh hy371
 clear hy371
 have H' := Zh H
 clear H
 go_enter Tryd.func81, Tryd.ntmps81
 go_wp2_with (first | ((with_reducible refine gate_dst (N := 9) rfl ?_); (try (refine gate_guard (by rfl) ?_; dsimp only)); refine S_lit (Kd.slice 5 (Kd.int .u8)) _ 41 ?hg (N := 9) ?hd (xs := ([] : List (List Int))) (inner := []) (ok := fun _ => True) (okp := fun _ => True) ?hr ?hp (fun _ hk => hk) trivial (Below.refl _ _) (Nat.le_refl _) (by simp) ?_; (case hd => rfl); (case hg => rfl); (case hr => first | (go_simp; done) | (go_simp; rfl)); (case hp => exact (Reps.none _ _)); intro v372 w2 ho3 hb hg_ hnew_; clear hg_ hnew_; (first | rw [← Ny371.out] at ho3 | (simp only [Int.reduceToNat] at ho3; rw [← Ny371.out] at ho3)); have n0_ := Zh (S_lower ho3 (below_size Zs)); have n1_ := Zh (Zl Zs hb); clear HB; have HO373 := n0_; have HB := n1_; clear n0_ n1_; clear hb ho3))
 go_loopg [4, 5] k (fun kq v4 v5 w' => ∃ (x4_1 : List (List Int)) (x5_1 : Int), v5 = .int .i64 x5_1 ∧ Aside0 (impl_scanFrames.l0 kq l0 x4_1 x5_1 = some (r1, r2)) ∧ Aside0 (kq ≤ k) ∧ Aside0 (Kd.S (Kd.slice 5 (Kd.int .u8)) 41 w' w.heap.size (fun _ => True) v4 x4_1) ∧ Aside0 (Below w.heap.size w w'))
 case atStart => exact ⟨(y371), (0), (by first | rfl | (simp; done) | (simp [*]; done)), H', ⟨Nat.le_refl _⟩, ⟨by (with_reducible repeat (first | apply S_alloc | apply S_drewN | apply S_drew)); exact HO373.out⟩, ⟨by repeat (first | (with_reducible first | exact HB.out | apply Zf | apply Zd | apply Ze) | exact HB.out)⟩⟩
 case round =>
  clear H'
  try clear p2
  obtain ⟨x4_1, x5_1, rfl, HA, HK1, HO_4, HB⟩ := hrel
  cases gk with
  | zero => exact absurd HA.out (by simp [impl_scanFrames.l0])
  | succ k1 =>
   have H := HA.out
   clear HA
   simp only [impl_scanFrames.l0] at H
   by_cases c4 : 0 ≤ x5_1
   ·
    rw [if_pos c4] at H
    have c4b0 := eq_true c4
    have c4b1 : decide (0 ≤ x5_1) = true := decide_eq_true c4
    clear c4
    by_cases c5 : x5_1 ≤ (l0.length : Int)
    ·
     rw [if_pos c5] at H
     have c5b0 := eq_true c5
     have c5b1 : decide (x5_1 ≤ (l0.length : Int)) = true := decide_eq_true c5
     clear c5
     by_cases c6 : ((l0.drop (x5_1 : Int).toNat).length : Int) < 8
     ·
      rw [if_pos c6] at H
      have c6b0 : decide (((l0.drop (x5_1 : Int).toNat).length : Int) < 8) = true := decide_eq_true c6
      have c6b0x : decide (((l0.length - x5_1.toNat : Nat) : Int) < 8) = true := by have h_ := c6b0; rw [List.length_drop] at h_; exact h_
      have c6b1 : decide ((l0.drop (x5_1 : Int).toNat).length < 8) = true := decide_eq_true (by omega)
      have c6b1x : decide ((l0.length - x5_1.toNat) < 8) = true := by have h_ := c6b1; rw [List.length_drop] at h_; exact h_
      clear c6
      simp only [Option.some.injEq, Prod.mk.injEq] at H
      obtain ⟨rfl, rfl⟩ := H
      obtain ⟨i07, hi07, _, hsz7, _⟩ := info_parts info5
      obtain ⟨A7, hcut7, hA7, hC7⟩ := print_drop_of (P := Tryd.prog) (Value.int .u8) 0 41 5 .i64 Tryd.underlying41 hi07 hsz7 A0 c0 l0 x5_1 (Zo) (Zo) HC0.out
      have HR374 := Zh (C_of_reads (h1 := fun _ => rfl) (hA7 _ (Kd.reads_of_C HR0.out)))
      have HC374 := Zh hC7
      clear hA7 hC7 hi07 hsz7
      go_wp2
      go_ret2
      exact ⟨_, by first | rfl | (simp [errW_none, errW_some] <;> rfl) | (simp [*, errW_none, errW_some] <;> rfl), by (with_reducible repeat (first | apply S_alloc | apply S_drewN | apply S_drew)); exact HO_4.out, by repeat (first | (with_reducible first | exact HB.out | apply Zf | apply Zd | apply Ze) | exact HB.out)⟩
     rw [if_neg c6] at H
     have c6b0 : decide (((l0.drop (x5_1 : Int).toNat).length : Int) < 8) = false := decide_eq_false c6
     have c6b0x : decide (((l0.length - x5_1.toNat : Nat) : Int) < 8) = false := by have h_ := c6b0; rw [List.length_drop] at h_; exact h_
     have c6b1 : decide ((l0.drop (x5_1 : Int).toNat).length < 8) = false := decide_eq_false (by omega)
     have c6b1x : decide ((l0.length - x5_1.toNat) < 8) = false := by have h_ := c6b1; rw [List.length_drop] at h_; exact h_
     clear c6
     replace H := Option.bind_eq_some_iff.mp H
     obtain ⟨t375, A80, H⟩ := H
     replace H : (if t375 < 1 then (impl_scanFrames.j1 k1 l0 x4_1 x5_1 (l0.drop (x5_1 : Int).toNat) t375 true) else (if t375 > 600 then (impl_scanFrames.j1 k1 l0 x4_1 x5_1 (l0.drop (x5_1 : Int).toNat) t375 true) else (impl_scanFrames.j1 k1 l0 x4_1 x5_1 (l0.drop (x5_1 : Int).toNat) t375 (decide (((l0.drop (x5_1 : Int).toNat).length : Int) < (wrap64 (8 + (wrap64 (t375))))))))) = some (r1, r2) := H
     have A8 := Zh A80
     clear A80
     have HC9 := Zh H
     clear H
     obtain ⟨i010, hi010, _, hsz10, _⟩ := info_parts info5
     obtain ⟨A10, hcut10, hA10, hC10⟩ := print_drop_of (P := Tryd.prog) (Value.int .u8) 0 41 5 .i64 Tryd.underlying41 hi010 hsz10 A0 c0 l0 x5_1 (Zo) (Zo) HC0.out
     have HR374 := Zh (C_of_reads (h1 := fun _ => rfl) (hA10 _ (Kd.reads_of_C HR0.out)))
     have HC374 := Zh hC10
     clear hA10 hC10 hi010 hsz10
     go_upto_region 7 with (first | ((with_reducible refine gate_callee (f := 105) rfl ?_); refine goesL_ (some 20) rfl rfl Tryd.func105 (by kernel_rfl) rfl #[.agg #[], .slice A10 (l0.drop (x5_1 : Int).toNat).length (c0 - x5_1.toNat)] rfl (by (try simp only [List.map_toArray, List.map_cons, List.map_nil]); first | done | (rw [show (l0.drop (x5_1 : Int).toNat).length = (l0.length - x5_1.toNat) from List.length_drop] <;> rfl) | rfl | (simp only [List.length_drop, List.length_take]; rfl)) ?_; (with_reducible refine (binary_littleEndian_Uint32.calls  _ _ (l0.drop (x5_1 : Int).toNat) t375 _ ?side1 ?side2 A8.out).mono ?_); (case side1 => repeat (first | exact (C_below HR374.out HB.out) | (with_reducible refine C_alloc ?_ _) | (with_reducible refine C_drewN ?_ _) | (with_reducible refine C_drew ?_))); (case side2 => exact HC374.out); rintro e w11 ⟨rfl, hb⟩; refine ⟨_, rfl, ?_⟩; have n0_ := Zh (S_below (by (with_reducible repeat (first | apply S_alloc | apply S_drewN | apply S_drew)); exact HO_4.out) hb); have n1_ := Zh (Zl Zs hb); clear HO_4; clear HB; have HO_4 := n0_; have HB := n1_; clear n0_ n1_; (try clear hb); (try clear hb2); (try clear hk); (try clear hi)))
     (try simp only [Act.put, List.setIfInBounds_toArray, List.set_cons_zero, List.set_cons_succ])
     go_cut [34] (fun v34 wc => ∃ (kq : Nat) (x34_8 : Bool), v34 = .bool x34_8 ∧ Aside0 (impl_scanFrames.j1 kq l0 x4_1 x5_1 (l0.drop (x5_1 : Int).toNat) t375 x34_8 = some (r1, r2)) ∧ Aside0 (kq ≤ k1) ∧ Aside0 (Kd.S (Kd.slice 5 (Kd.int .u8)) 41 wc w.heap.size (fun _ => True) u4 x4_1) ∧ Aside0 (Below w.heap.size w wc))
     case first =>
      have H := HC9.out
      clear HC9
      by_cases c12 : t375 < 1
      ·
       rw [if_pos c12] at H
       have c12b0 : decide (t375 < 1) = true := decide_eq_true c12
       clear c12
       (first | rw [c12b0] | (simp only [i64_w, i32_w]; rw [c12b0]) | skip)
       have H' := Zh H
       clear H
       go_wp2
       go_meet
       case rel => exact ⟨_, (true), (by first | rfl | (simp; done) | (simp [*]; done)), H', ⟨by have := HK1.out; first | omega | exact Nat.le_refl _⟩, ⟨by (with_reducible repeat (first | apply S_alloc | apply S_drewN | apply S_drew)); exact HO_4.out⟩, ⟨by repeat (first | (with_reducible first | exact HB.out | apply Zf | apply Zd | apply Ze) | exact HB.out)⟩⟩
      rw [if_neg c12] at H
      have c12b0 : decide (t375 < 1) = false := decide_eq_false c12
      clear c12
      (first | rw [c12b0] | (simp only [i64_w, i32_w]; rw [c12b0]) | skip)
      by_cases c13 : t375 > 600
      ·
       rw [if_pos c13] at H
       have c13b0 : decide (600 < t375) = true := decide_eq_true c13
       clear c13
       have H' := Zh H
       clear H
       go_wp2
       go_meet
       case rel => exact ⟨_, (true), (by first | rfl | (simp; done) | (simp [*]; done)), H', ⟨by have := HK1.out; first | omega | exact Nat.le_refl _⟩, ⟨by (with_reducible repeat (first | apply S_alloc | apply S_drewN | apply S_drew)); exact HO_4.out⟩, ⟨by repeat (first | (with_reducible first | exact HB.out | apply Zf | apply Zd | apply Ze) | exact HB.out)⟩⟩
      rw [if_neg c13] at H
      have c13b0 : decide (600 < t375) = false := decide_eq_false c13
      clear c13
      have H' := Zh H
      clear H
      go_wp2
      go_meet
      case rel => exact ⟨_, (decide (((l0.drop (x5_1 : Int).toNat).length : Int) < (wrap64 (8 + (wrap64 (t375)))))), (by first | rfl | (simp; done) | (simp [*]; done)), H', ⟨by have := HK1.out; first | omega | exact Nat.le_refl _⟩, ⟨by (with_reducible repeat (first | apply S_alloc | apply S_drewN | apply S_drew)); exact HO_4.out⟩, ⟨by repeat (first | (with_reducible first | exact HB.out | apply Zf | apply Zd | apply Ze) | exact HB.out)⟩⟩
     case rest =>
      clear HC9
      try clear c1
      try clear p2
      try clear c4
      try clear c4b0
      try clear c4b1
      try clear c5
      try clear c5b0
      try clear c5b1
      try clear c6
      try clear c6b0
      try clear c6b1
      try clear p6
      try clear c8
      try clear c10
      try clear c12
      try clear c12b0
      try clear c13
      try clear c13b0
      try clear p2
      obtain ⟨kq, x34_8, rfl, HA, HJ8, HO_4, HB⟩ := hcut
      cases kq with
      | zero => exact absurd HA.out (by simp [impl_scanFrames.j1])
      | succ kj8 =>
       have H := HA.out
       clear HA
       simp only [impl_scanFrames.j1] at H
       by_cases c14 : x34_8 = true
       ·
        subst c14
        have H1 : (some (x4_1, x5_1)) = some (r1, r2) := by rw [if_pos rfl] at H; exact H
        clear H
        have H := H1
        clear H1
        simp only [Option.some.injEq, Prod.mk.injEq] at H
        obtain ⟨rfl, rfl⟩ := H
        go_wp2
        go_ret2
        exact ⟨_, by first | rfl | (simp [errW_none, errW_some] <;> rfl) | (simp [*, errW_none, errW_some] <;> rfl), by (with_reducible repeat (first | apply S_alloc | apply S_drewN | apply S_drew)); exact HO_4.out, by repeat (first | (with_reducible first | exact HB.out | apply Zf | apply Zd | apply Ze) | exact HB.out)⟩
       replace c14 := Bool.eq_false_iff.mpr c14
       subst c14
       have H1 : (if 8 ≤ ((8 + t375) % 4294967296) then (if ((8 + t375) % 4294967296) ≤ ((l0.drop (x5_1 : Int).toNat).length : Int) then (if 4 ≤ ((l0.drop (x5_1 : Int).toNat).length : Int) then ((binary_littleEndian_Uint32.f ((l0.drop (x5_1 : Int).toNat).drop 4)).bind fun t378 => ((impl_crc32.f kj8 (((l0.drop (x5_1 : Int).toNat).take (((8 + t375) % 4294967296) : Int).toNat).drop 8)).bind fun t379 => (if t378 = t379 then ((some (([] : List Int) : List Int)).bind fun y380 => (if y380.length + (((l0.drop (x5_1 : Int).toNat).take (((8 + t375) % 4294967296) : Int).toNat).drop 8).length < 140737488355328 then (if x4_1.length < 5864062014805 then (impl_scanFrames.l0 kj8 l0 (x4_1 ++ [(y380 ++ (((l0.drop (x5_1 : Int).toNat).take (((8 + t375) % 4294967296) : Int).toNat).drop 8))]) (wrap64 (x5_1 + (wrap64 (8 + (wrap64 (t375))))))) else (none)) else (none))) else (some (x4_1, x5_1))))) else (none)) else (none)) else (none)) = some (r1, r2) := by rw [if_neg (show ¬ (false = true) by decide)] at H; exact H
       clear H
       have H := H1
       clear H1
       by_cases c15 : 8 ≤ ((8 + t375) % 4294967296)
       ·
        rw [if_pos c15] at H
        have c15b0 := eq_true c15
        have c15b1 : decide (8 ≤ ((8 + t375) % 4294967296)) = true := decide_eq_true c15
        by_cases c16 : ((8 + t375) % 4294967296) ≤ ((l0.drop (x5_1 : Int).toNat).length : Int)
        ·
         rw [if_pos c16] at H
         have c16b0 := eq_true c16
         have c16b0x := eq_true (show ((8 + t375) % 4294967296) ≤ ((l0.length - x5_1.toNat : Nat) : Int) from by have h_ := c16; rw [List.length_drop] at h_; exact h_)
         have c16b1 : decide (((8 + t375) % 4294967296) ≤ ((l0.drop (x5_1 : Int).toNat).length : Int)) = true := decide_eq_true c16
         have c16b1x : decide (((8 + t375) % 4294967296) ≤ ((l0.length - x5_1.toNat : Nat) : Int)) = true := by have h_ := c16b1; rw [List.length_drop] at h_; exact h_
         by_cases c17 : 4 ≤ ((l0.drop (x5_1 : Int).toNat).length : Int)
         ·
          rw [if_pos c17] at H
          have c17b0 := eq_true c17
          have c17b0x := eq_true (show 4 ≤ ((l0.length - x5_1.toNat : Nat) : Int) from by have h_ := c17; rw [List.length_drop] at h_; exact h_)
          have c17b1 : decide (4 ≤ ((l0.drop (x5_1 : Int).toNat).length : Int)) = true := decide_eq_true c17
          have c17b1x : decide (4 ≤ ((l0.length - x5_1.toNat : Nat) : Int)) = true := by have h_ := c17b1; rw [List.length_drop] at h_; exact h_
          clear c17
          replace H := Option.bind_eq_some_iff.mp H
          obtain ⟨t378, A180, H⟩ := H
          replace H : ((impl_crc32.f kj8 (((l0.drop (x5_1 : Int).toNat).take (((8 + t375) % 4294967296) : Int).toNat).drop 8)).bind fun t379 => (if t378 = t379 then ((some (([] : List Int) : List Int)).bind fun y380 => (if y380.length + (((l0.drop (x5_1 : Int).toNat).take (((8 + t375) % 4294967296) : Int).toNat).drop 8).length < 140737488355328 then (if x4_1.length < 5864062014805 then (impl_scanFrames.l0 kj8 l0 (x4_1 ++ [(y380 ++ (((l0.drop (x5_1 : Int).toNat).take (((8 + t375) % 4294967296) : Int).toNat).drop 8))]) (wrap64 (x5_1 + (wrap64 (8 + (wrap64 (t375))))))) else (none)) else (none))) else (some (x4_1, x5_1)))) = some (r1, r2) := H
          have A18 := Zh A180
          clear A180
          replace H := Option.bind_eq_some_iff.mp H
          obtain ⟨t379, A190, H⟩ := H
          replace H : (if t378 = t379 then ((some (([] : List Int) : List Int)).bind fun y380 => (if y380.length + (((l0.drop (x5_1 : Int).toNat).take (((8 + t375) % 4294967296) : Int).toNat).drop 8).length < 140737488355328 then (if x4_1.length < 5864062014805 then (impl_scanFrames.l0 kj8 l0 (x4_1 ++ [(y380 ++ (((l0.drop (x5_1 : Int).toNat).take (((8 + t375) % 4294967296) : Int).toNat).drop 8))]) (wrap64 (x5_1 + (wrap64 (8 + (wrap64 (t375))))))) else (none)) else (none))) else (some (x4_1, x5_1))) = some (r1, r2) := H
          have A19 := Zh A190
          clear A190
          by_cases c20 : t378 = t379
          ·
           rw [if_pos c20] at H
           have c20b0 : (t378 == t379) = true := beq_iff_eq.mpr c20
           have c20b1 : (t378 != t379) = false := bne_eq_false_iff_eq.mpr c20
           clear c20
           obtain ⟨y380, hy380⟩ : ∃ y_ : List Int, y_ = (([] : List Int)) := ⟨_, rfl⟩
           replace H : (if y380.length + (((l0.drop (x5_1 : Int).toNat).take (((8 + t375) % 4294967296) : Int).toNat).drop 8).length < 140737488355328 then (if x4_1.length < 5864062014805 then (impl_scanFrames.l0 kj8 l0 (x4_1 ++ [(y380 ++ (((l0.drop (x5_1 : Int).toNat).take (((8 + t375) % 4294967296) : Int).toNat).drop 8))]) (wrap64 (x5_1 + (wrap64 (8 + (wrap64 (t375))))))) else (none)) else (none)) = some (r1, r2) := by first | (rw [hy380]; with_reducible exact H) | (have H2_ := (Option.bind_some _ _).symm.trans H; rw [hy380]; with_reducible exact H2_) | (have H2_ := (Option.bind_some _ _).symm.trans H; with_reducible exact H2_) | with_reducible exact H | (rw [hy380]; exact H) | exact H
           have Ny380 := Zh hy380
           clear hy380
           by_cases c21 : y380.length + (((l0.drop (x5_1 : Int).toNat).take (((8 + t375) % 4294967296) : Int).toNat).drop 8).length < 140737488355328
           ·
            rw [if_pos c21] at H
            have LMc21 := Zh c21
            clear c21
            obtain ⟨y383, hy383⟩ : ∃ y_ : List Int, y_ = (y380 ++ (((l0.drop (x5_1 : Int).toNat).take (((8 + t375) % 4294967296) : Int).toNat).drop 8)) := ⟨_, rfl⟩
            replace H : (if x4_1.length < 5864062014805 then (impl_scanFrames.l0 kj8 l0 (x4_1 ++ [y383]) (wrap64 (x5_1 + (wrap64 (8 + (wrap64 (t375))))))) else (none)) = some (r1, r2) := by first | (rw [hy383]; with_reducible exact H) | (have H2_ := (Option.bind_some _ _).symm.trans H; rw [hy383]; with_reducible exact H2_) | (have H2_ := (Option.bind_some _ _).symm.trans H; with_reducible exact H2_) | with_reducible exact H | (rw [hy383]; exact H) | exact H
            have Ny383 := Zh hy383
            clear hy383
            by_cases c22 : x4_1.length < 5864062014805
            ·
             rw [if_pos c22] at H
             have LMc22 := Zh c22
             clear c22
             obtain ⟨y386, hy386⟩ : ∃ y_ : List (List Int), y_ = (x4_1 ++ [y383]) := ⟨_, rfl⟩
             replace H : (impl_scanFrames.l0 kj8 l0 y386 (wrap64 (x5_1 + (wrap64 (8 + (wrap64 (t375))))))) = some (r1, r2) := by first | (rw [hy386]; with_reducible exact H) | (have H2_ := (Option.bind_some _ _).symm.trans H; rw [hy386]; with_reducible exact H2_) | (have H2_ := (Option.bind_some _ _).symm.trans H; with_reducible exact H2_) | with_reducible exact H | (rw [hy386]; exact H) | exact H
             have Ny386 := Zh hy386
             clear hy386
             have H' := Zh H
             clear H
             obtain ⟨i023, hi023, _, hsz23, _⟩ := info_parts info5
             obtain ⟨A23, hcut23, hA23, hC23⟩ := print_mid_of (P := Tryd.prog) (Value.int .u8) 0 41 5 .i64 .u32 Tryd.underlying41 hi023 hsz23 A10 (c0 - x5_1.toNat) (l0.drop (x5_1 : Int).toNat) 8 ((8 + t375) % 4294967296) (by omega) (by first | omega | exact Zo) (Zo) HC374.out
             have HR376 := Zh (C_of_reads (h1 := fun _ => rfl) (hA23 _ (Kd.reads_of_C HR374.out)))
             have HC376 := Zh hC23
             clear hA23 hC23 hi023 hsz23
             try simp only [List.length_drop] at hcut23
             try go_wp2
             have n0_ := Zh (S_drew HO_4.out)
             have n1_ := Zh (Ze HB.out)
             clear HO_4
             clear HB
             have HO_4 := n0_
             have HB := n1_
             clear n0_ n1_
             obtain ⟨i025, hi025, _, hsz25, _⟩ := info_parts info5
             obtain ⟨A25, hcut25, hA25, hC25⟩ := print_drop_of (P := Tryd.prog) (Value.int .u8) 0 41 5 .i64 Tryd.underlying41 hi025 hsz25 A10 (c0 - x5_1.toNat) (l0.drop (x5_1 : Int).toNat) 4 (by omega) (Zo) HC374.out
             have HR377 := Zh (C_of_reads (h1 := fun _ => rfl) (hA25 _ (Kd.reads_of_C HR374.out)))
             have HC377 := Zh hC25
             clear hA25 hC25 hi025 hsz25
             try simp only [List.length_drop] at hcut25
             refine start_ (n := 7) (S := fun w' => True) (ds := []) #[false, false, false, false, false, false, false] (by kernel_rfl) rfl rfl trivial (fun hHeld => ?_)
             generalize wc.drew = w24 at HO_4 HB HR377 hHeld ⊢
             refine pure_ (i := 1) (N := some 42) (v := ?_) (a' := ?_) #[false, true, false, false, false, false, false] rfl rfl (by kernel_rfl) (fun _ _ _ h => h) (Or.inl ⟨by rfl, ?_⟩) ?_ ?_
             rotate_left
             ·
              intro w'
              go_simp
              with_reducible rfl
             rotate_left
             ·
              simp only [Act.put, List.setIfInBounds_toArray, List.set_cons_zero, List.set_cons_succ, i64_w, i32_w]
              rfl
             refine pure_ (i := 2) (N := some 43) (v := ?_) (a' := ?_) #[false, true, true, false, false, false, false] rfl rfl (by kernel_rfl) (fun _ _ _ h => h) (Or.inl ⟨by rfl, ?_⟩) ?_ ?_
             rotate_left
             ·
              intro w'
              go_simp
              with_reducible rfl
             rotate_left
             ·
              simp only [Act.put, List.setIfInBounds_toArray, List.set_cons_zero, List.set_cons_succ, i64_w, i32_w]
              rfl
             refine pure_ (i := 4) (N := some 45) (v := ?_) (a' := ?_) #[false, true, true, false, true, false, false] rfl rfl (by kernel_rfl) (fun _ _ _ h => h) (Or.inl ⟨by rfl, ?_⟩) ?_ ?_
             rotate_left
             ·
              intro w'
              go_simp
              with_reducible rfl
             rotate_left
             ·
              simp only [Act.put, List.setIfInBounds_toArray, List.set_cons_zero, List.set_cons_succ, i64_w, i32_w]
              rfl
             refine take_ (i := 0) (N := some 41) (v := ?_) (a' := ?_) #[true, true, true, false, true, false, false] rfl rfl (by kernel_rfl) (fun _ _ _ h => h) (Or.inl ⟨by rfl, ?_⟩) hHeld ?_ ?_
             rotate_left
             ·
              intro w' _
              go_simp
              with_reducible rfl
             rotate_left
             ·
              simp only [Act.put, List.setIfInBounds_toArray, List.set_cons_zero, List.set_cons_succ, i64_w, i32_w]
              rfl
             refine one_ (i := 3) (N := some 44) #[true, true, true, true, true, false, false] rfl rfl (by kernel_rfl) (by decide) (fun K hK => ?_)
             refine goes_ Tryd.func105 (by kernel_rfl) rfl #[.agg #[], .slice A25 ((l0.drop (x5_1 : Int).toNat).drop 4).length ((c0 - x5_1.toNat) - 4)] (by rfl) rfl rfl (by (try simp only [List.map_toArray, List.map_cons, List.map_nil]); first | done | (rw [show ((l0.drop (x5_1 : Int).toNat).drop 4).length = ((l0.drop (x5_1 : Int).toNat).length - 4) from List.length_drop] <;> rfl) | rfl | (simp only [List.length_drop, List.length_take]; rfl)) ?_
             with_reducible refine (binary_littleEndian_Uint32.calls  _ _ ((l0.drop (x5_1 : Int).toNat).drop 4) t378 _ ?side1 ?side2 A18.out).mono ?_
             (case side1 => repeat (first | exact (C_below HR377.out HB.out) | (with_reducible refine C_alloc ?_ _) | (with_reducible refine C_drewN ?_ _) | (with_reducible refine C_drew ?_)))
             (case side2 => exact HC377.out)
             rintro e w26 ⟨rfl, hb⟩
             refine ⟨_, rfl, ?_⟩
             have n0_ := Zh (S_below (by (with_reducible repeat (first | apply S_alloc | apply S_drewN | apply S_drew)); exact HO_4.out) hb)
             have n1_ := Zh (Zl Zs hb)
             clear HO_4
             clear HB
             have HO_4 := n0_
             have HB := n1_
             clear n0_ n1_
             (try clear hb)
             (try clear hb2)
             (try clear hk)
             (try clear hi)
             refine hK.out _ _ trivial (fun hHeld => ?_)
             clear hK K
             refine norm_ (a' := ?_) ?_ ?_
             rotate_left
             ·
              show Act.put _ (some 44) _ = _
              simp only [Act.put, List.setIfInBounds_toArray, List.set_cons_zero, List.set_cons_succ, i64_w, i32_w]
              rfl
             refine one_ (i := 5) (N := some 46) #[true, true, true, true, true, true, false] rfl rfl (by kernel_rfl) (by decide) (fun K hK => ?_)
             refine goes_ Tryd.func92 (by kernel_rfl) rfl #[.slice A23 (((l0.drop (x5_1 : Int).toNat).take (((8 + t375) % 4294967296) : Int).toNat).drop 8).length ((c0 - x5_1.toNat) - 8)] (by rfl) rfl rfl (by (try simp only [List.map_toArray, List.map_cons, List.map_nil]); first | done | (rw [show (((l0.drop (x5_1 : Int).toNat).take (((8 + t375) % 4294967296) : Int).toNat).drop 8).length = (((8 + t375) % 4294967296).toNat - 8) from (by rw [List.length_drop, List.length_take]; have h_ : (((8 + t375) % 4294967296) : Int) ≤ ((l0.drop (x5_1 : Int).toNat).length : Int) := Zo; omega)] <;> rfl) | rfl | (simp only [List.length_drop, List.length_take]; rfl)) ?_
             with_reducible refine (impl_crc32.calls kj8 _ _ (((l0.drop (x5_1 : Int).toNat).take (((8 + t375) % 4294967296) : Int).toNat).drop 8) t379 _ ?side1 ?side2 A19.out).mono ?_
             (case side1 => repeat (first | exact (C_below HR376.out HB.out) | (with_reducible refine C_alloc ?_ _) | (with_reducible refine C_drewN ?_ _) | (with_reducible refine C_drew ?_)))
             (case side2 => exact HC376.out)
             rintro e w' ⟨rfl, ⟨nd, rfl⟩⟩
             refine ⟨_, rfl, ?_⟩
             refine hK.out _ _ trivial (fun hHeld => ?_)
             clear hK K
             refine norm_ (a' := ?_) ?_ ?_
             rotate_left
             ·
              show Act.put _ (some 46) _ = _
              simp only [Act.put, List.setIfInBounds_toArray, List.set_cons_zero, List.set_cons_succ, i64_w, i32_w]
              rfl
             refine pure_ (i := 6) (N := some 47) (v := ?_) (a' := ?_) #[true, true, true, true, true, true, true] rfl rfl (by kernel_rfl) (fun _ _ _ h => h) (Or.inl ⟨by rfl, ?_⟩) ?_ ?_
             rotate_left
             ·
              intro w'
              go_simp
              with_reducible rfl
             rotate_left
             ·
              simp only [Act.put, List.setIfInBounds_toArray, List.set_cons_zero, List.set_cons_succ, i64_w, i32_w]
              rfl
             refine done_ (by kernel_rfl) ?_
             try go_wp2_with (first | ((with_reducible refine gate_dst (N := 51) rfl ?_); (try (refine gate_guard (by rfl) ?_; dsimp only)); refine R_lit (Kd.int .u8) _ 5 ?hg (N := 51) ?hd (xs := ([] : List Int)) (inner := []) (ok := fun _ => True) (okp := fun _ => True) ?hr ?hp (fun _ hk => hk) trivial (Below.refl _ _) (Nat.le_refl _) (by simp) ?_; (case hd => rfl); (case hg => rfl); (case hr => first | (go_simp; done) | (go_simp; rfl)); (case hp => exact (Reps.none _ _)); intro v381 w27 ho28 hb hg_ hnew_; clear hg_ hnew_; (first | rw [← Ny380.out] at ho28 | (simp only [Int.reduceToNat] at ho28; rw [← Ny380.out] at ho28)); have n0_ := Zh (S_elder' (by (with_reducible repeat (first | apply S_alloc | apply S_drewN | apply S_drew)); exact HO_4.out) (R_base ho28) hb); have n1_ := Zh (R_lower ho28 (below_size Zs)); have n2_ := Zh (Zl Zs hb); clear HO_4; clear HB; have HO_4 := n0_; have HO382 := n1_; have HB := n2_; clear n0_ n1_ n2_; clear hb ho28) | ((with_reducible refine gate_builtin (b := .append) (xs := #[.tmp 51, .tmp 52]) rfl ?_); (try (refine gate_guard (by rfl) ?_; dsimp only)); at_builtin; refine R_append_rows (Kd.int .u8) (w0 := w) w.heap.size rfl (.tmp 51) (.tmp 52) 41 5 (.int .u8 0) 1 rfl Tryd.underlying41 info5 rfl (by decide) (by omega) v381 y380 (((l0.drop (x5_1 : Int).toNat).take (((8 + t375) % 4294967296) : Int).toNat).drop 8) _ _ _ (fun _ => True) (fun _ => False) rfl rfl ?aO ?aR (fun _ _ h => h) (fun _ h => h.elim) ?aF ?aB ?aS ?aL ?_; (case aR => first | ((conv => arg 5; rw [← show (((l0.drop (x5_1 : Int).toNat).take (((8 + t375) % 4294967296) : Int).toNat).drop 8).length = (((8 + t375) % 4294967296).toNat - 8) from (by rw [List.length_drop, List.length_take]; have h_ : (((8 + t375) % 4294967296) : Int) ≤ ((l0.drop (x5_1 : Int).toNat).length : Int) := Zo; omega)]); (repeat (first | exact (C_below HR376.out HB.out) | (with_reducible refine C_alloc ?_ _) | (with_reducible refine C_drewN ?_ _) | (with_reducible refine C_drew ?_)))) | (rw [← show (((l0.drop (x5_1 : Int).toNat).take (((8 + t375) % 4294967296) : Int).toNat).drop 8).length = (((8 + t375) % 4294967296).toNat - 8) from (by rw [List.length_drop, List.length_take]; have h_ : (((8 + t375) % 4294967296) : Int) ≤ ((l0.drop (x5_1 : Int).toNat).length : Int) := Zo; omega)]; repeat (first | exact (C_below HR376.out HB.out) | (with_reducible refine C_alloc ?_ _) | (with_reducible refine C_drewN ?_ _) | (with_reducible refine C_drew ?_))) | (repeat (first | exact (C_below HR376.out HB.out) | (with_reducible refine C_alloc ?_ _) | (with_reducible refine C_drewN ?_ _) | (with_reducible refine C_drew ?_)))); (case aB => exact Zs); (case aF => exact (fun _ _ => trivial)); (case aO => exact (by (with_reducible repeat (first | apply R_alloc | apply R_drewN | apply R_drew)); exact HO382.out)); (case aS => exact (below_size Zs)); (case aL => have := LMc21.out; have hlx_ := (show (((l0.drop (x5_1 : Int).toNat).take (((8 + t375) % 4294967296) : Int).toNat).drop 8).length = (((8 + t375) % 4294967296).toNat - 8) from (by rw [List.length_drop, List.length_take]; have h_ : (((8 + t375) % 4294967296) : Int) ≤ ((l0.drop (x5_1 : Int).toNat).length : Int) := Zo; omega)); omega); intro v384 w29 ho hb hg hat; rw [← Ny383.out] at ho; have n0_ := Zh (S_after (ok := (fun _ => True)) (by (with_reducible repeat (first | apply S_alloc | apply S_drewN | apply S_drew)); exact HO_4.out) hg hat); have n1_ := Zh (hb); have n2_ := Zh (ho); clear HO_4; clear HB; clear HO382; have HO_4 := n0_; have HB := n1_; have HO385 := n2_; clear n0_ n1_ n2_; clear ho hb hg hat; obtain ⟨Ao31, co31, eo31⟩ := R_slice HO385.out; subst eo31) | ((with_reducible refine gate_builtin (b := .append) (xs := #[.tmp 50, .tmp 54]) rfl ?_); (try (refine gate_guard (by rfl) ?_; dsimp only)); at_builtin; refine S_append (Kd.slice 5 (Kd.int .u8)) (w0 := w) w.heap.size rfl (.tmp 50) (.tmp 54) 36 41 (.slice none 0 0) 24 rfl Tryd.underlying36 info41 rfl (by decide) (by omega) u4 x4_1 y383 [.slice Ao31 y383.length co31] (fun _ => True) (fun k_ => some k_ = (.slice Ao31 y383.length co31 : Value).ownBlock) rfl rfl ?aP (fun k_ hk_ => ((R_mono (ok' := fun k_ => ((fun _ => True)) k_ ∧ some k_ ≠ (u4 : Value).ownBlock) (R_apart' (HO385.out) (S_typed HO_4.out) (by decide)) (fun k_ hk => ⟨trivial, hk.2⟩))).1 k_ hk_.symm) ?aF ?aO ?aB ?aS ?aL ?_; (case aP => exact M_row (R_mono (R_tight rfl (R_mono (ok' := fun k_ => ((fun _ => True)) k_ ∧ some k_ ≠ (u4 : Value).ownBlock) (R_apart' (HO385.out) (S_typed HO_4.out) (by decide)) (fun k_ hk => ⟨trivial, hk.2⟩))) (fun _ h_ => h_))); (case aB => exact Zs); (case aF => exact (fun _ _ => trivial)); (case aO => exact (by (with_reducible repeat (first | apply S_alloc | apply S_drewN | apply S_drew)); exact S_mono HO_4.out (fun k_ hk => ⟨trivial, fun e_ => hk.2 e_⟩))); (case aS => exact (below_size Zs)); (case aL => have := LMc22.out; omega); intro v387 w30 ho hb hg hat; rw [← Ny386.out] at ho; have n0_ := Zh (hb); have n1_ := Zh (ho); clear HB; clear HO_4; clear HO385; have HB := n0_; have HO388 := n1_; clear n0_ n1_; clear ho hb hg hat))
             go_roundg kj8
             case measure => have := HK1.out; have := HJ8.out; omega
             case rel => exact ⟨(y386), (wrap64 (x5_1 + (wrap64 (8 + (wrap64 (t375)))))), (by first | rfl | (simp; done) | (simp [*]; done)), H', ⟨by have := HK1.out; have := HJ8.out; omega⟩, ⟨by (with_reducible repeat (first | apply S_alloc | apply S_drewN | apply S_drew)); exact HO388.out⟩, ⟨by repeat (first | (with_reducible first | exact HB.out | apply Zf | apply Zd | apply Ze) | exact HB.out)⟩⟩
            rw [if_neg c22] at H
            exact absurd H (by simp)
           rw [if_neg c21] at H
           exact absurd H (by simp)
          rw [if_neg c20] at H
          have c20b0 : (t378 == t379) = false := beq_eq_false_iff_ne.mpr c20
          have c20b1 : (t378 != t379) = true := bne_iff_ne.mpr c20
          simp only [Option.some.injEq, Prod.mk.injEq] at H
          obtain ⟨rfl, rfl⟩ := H
          obtain ⟨i032, hi032, _, hsz32, _⟩ := info_parts info5
          obtain ⟨A32, hcut32, hA32, hC32⟩ := print_mid_of (P := Tryd.prog) (Value.int .u8) 0 41 5 .i64 .u32 Tryd.underlying41 hi032 hsz32 A10 (c0 - x5_1.toNat) (l0.drop (x5_1 : Int).toNat) 8 ((8 + t375) % 4294967296) (by omega) (by first | omega | exact Zo) (Zo) HC374.out
          have HR376 := Zh (C_of_reads (h1 := fun _ => rfl) (hA32 _ (Kd.reads_of_C HR374.out)))
          have HC376 := Zh hC32
          clear hA32 hC32 hi032 hsz32
          try simp only [List.length_drop] at hcut32
          try go_wp2
          have n0_ := Zh (S_drew HO_4.out)
          have n1_ := Zh (Ze HB.out)
          clear HO_4
          clear HB
          have HO_4 := n0_
          have HB := n1_
          clear n0_ n1_
          obtain ⟨i034, hi034, _, hsz34, _⟩ := info_parts info5
          obtain ⟨A34, hcut34, hA34, hC34⟩ := print_drop_of (P := Tryd.prog) (Value.int .u8) 0 41 5 .i64 Tryd.underlying41 hi034 hsz34 A10 (c0 - x5_1.toNat) (l0.drop (x5_1 : Int).toNat) 4 (by omega) (Zo) HC374.out
          have HR377 := Zh (C_of_reads (h1 := fun _ => rfl) (hA34 _ (Kd.reads_of_C HR374.out)))
          have HC377 := Zh hC34
          clear hA34 hC34 hi034 hsz34
          try simp only [List.length_drop] at hcut34
          refine start_ (n := 7) (S := fun w' => True) (ds := []) #[false, false, false, false, false, false, false] (by kernel_rfl) rfl rfl trivial (fun hHeld => ?_)
          generalize wc.drew = w33 at HO_4 HB HR377 hHeld ⊢
          refine pure_ (i := 1) (N := some 42) (v := ?_) (a' := ?_) #[false, true, false, false, false, false, false] rfl rfl (by kernel_rfl) (fun _ _ _ h => h) (Or.inl ⟨by rfl, ?_⟩) ?_ ?_
          rotate_left
          ·
           intro w'
           go_simp
           with_reducible rfl
          rotate_left
          ·
           simp only [Act.put, List.setIfInBounds_toArray, List.set_cons_zero, List.set_cons_succ, i64_w, i32_w]
           rfl
          refine pure_ (i := 2) (N := some 43) (v := ?_) (a' := ?_) #[false, true, true, false, false, false, false] rfl rfl (by kernel_rfl) (fun _ _ _ h => h) (Or.inl ⟨by rfl, ?_⟩) ?_ ?_
          rotate_left
          ·
           intro w'
           go_simp
           with_reducible rfl
          rotate_left
          ·
           simp only [Act.put, List.setIfInBounds_toArray, List.set_cons_zero, List.set_cons_succ, i64_w, i32_w]
           rfl
          refine pure_ (i := 4) (N := some 45) (v := ?_) (a' := ?_) #[false, true, true, false, true, false, false] rfl rfl (by kernel_rfl) (fun _ _ _ h => h) (Or.inl ⟨by rfl, ?_⟩) ?_ ?_
          rotate_left
          ·
           intro w'
           go_simp
           with_reducible rfl
          rotate_left
          ·
           simp only [Act.put, List.setIfInBounds_toArray, List.set_cons_zero, List.set_cons_succ, i64_w, i32_w]
           rfl
          refine take_ (i := 0) (N := some 41) (v := ?_) (a' := ?_) #[true, true, true, false, true, false, false] rfl rfl (by kernel_rfl) (fun _ _ _ h => h) (Or.inl ⟨by rfl, ?_⟩) hHeld ?_ ?_
          rotate_left
          ·
           intro w' _
           go_simp
           with_reducible rfl
          rotate_left
          ·
           simp only [Act.put, List.setIfInBounds_toArray, List.set_cons_zero, List.set_cons_succ, i64_w, i32_w]
           rfl
          refine one_ (i := 3) (N := some 44) #[true, true, true, true, true, false, false] rfl rfl (by kernel_rfl) (by decide) (fun K hK => ?_)
          refine goes_ Tryd.func105 (by kernel_rfl) rfl #[.agg #[], .slice A34 ((l0.drop (x5_1 : Int).toNat).drop 4).length ((c0 - x5_1.toNat) - 4)] (by rfl) rfl rfl (by (try simp only [List.map_toArray, List.map_cons, List.map_nil]); first | done | (rw [show ((l0.drop (x5_1 : Int).toNat).drop 4).length = ((l0.drop (x5_1 : Int).toNat).length - 4) from List.length_drop] <;> rfl) | rfl | (simp only [List.length_drop, List.length_take]; rfl)) ?_
          with_reducible refine (binary_littleEndian_Uint32.calls  _ _ ((l0.drop (x5_1 : Int).toNat).drop 4) t378 _ ?side1 ?side2 A18.out).mono ?_
          (case side1 => repeat (first | exact (C_below HR377.out HB.out) | (with_reducible refine C_alloc ?_ _) | (with_reducible refine C_drewN ?_ _) | (with_reducible refine C_drew ?_)))
          (case side2 => exact HC377.out)
          rintro e w35 ⟨rfl, hb⟩
          refine ⟨_, rfl, ?_⟩
          have n0_ := Zh (S_below (by (with_reducible repeat (first | apply S_alloc | apply S_drewN | apply S_drew)); exact HO_4.out) hb)
          have n1_ := Zh (Zl Zs hb)
          clear HO_4
          clear HB
          have HO_4 := n0_
          have HB := n1_
          clear n0_ n1_
          (try clear hb)
          (try clear hb2)
          (try clear hk)
          (try clear hi)
          refine hK.out _ _ trivial (fun hHeld => ?_)
          clear hK K
          refine norm_ (a' := ?_) ?_ ?_
          rotate_left
          ·
           show Act.put _ (some 44) _ = _
           simp only [Act.put, List.setIfInBounds_toArray, List.set_cons_zero, List.set_cons_succ, i64_w, i32_w]
           rfl
          refine one_ (i := 5) (N := some 46) #[true, true, true, true, true, true, false] rfl rfl (by kernel_rfl) (by decide) (fun K hK => ?_)
          refine goes_ Tryd.func92 (by kernel_rfl) rfl #[.slice A32 (((l0.drop (x5_1 : Int).toNat).take (((8 + t375) % 4294967296) : Int).toNat).drop 8).length ((c0 - x5_1.toNat) - 8)] (by rfl) rfl rfl (by (try simp only [List.map_toArray, List.map_cons, List.map_nil]); first | done | (rw [show (((l0.drop (x5_1 : Int).toNat).take (((8 + t375) % 4294967296) : Int).toNat).drop 8).length = (((8 + t375) % 4294967296).toNat - 8) from (by rw [List.length_drop, List.length_take]; have h_ : (((8 + t375) % 4294967296) : Int) ≤ ((l0.drop (x5_1 : Int).toNat).length : Int) := Zo; omega)] <;> rfl) | rfl | (simp only [List.length_drop, List.length_take]; rfl)) ?_
          with_reducible refine (impl_crc32.calls kj8 _ _ (((l0.drop (x5_1 : Int).toNat).take (((8 + t375) % 4294967296) : Int).toNat).drop 8) t379 _ ?side1 ?side2 A19.out).mono ?_
          (case side1 => repeat (first | exact (C_below HR376.out HB.out) | (with_reducible refine C_alloc ?_ _) | (with_reducible refine C_drewN ?_ _) | (with_reducible refine C_drew ?_)))
          (case side2 => exact HC376.out)
          rintro e w' ⟨rfl, ⟨nd, rfl⟩⟩
          refine ⟨_, rfl, ?_⟩
          refine hK.out _ _ trivial (fun hHeld => ?_)
          clear hK K
          refine norm_ (a' := ?_) ?_ ?_
          rotate_left
          ·
           show Act.put _ (some 46) _ = _
           simp only [Act.put, List.setIfInBounds_toArray, List.set_cons_zero, List.set_cons_succ, i64_w, i32_w]
           rfl
          refine pure_ (i := 6) (N := some 47) (v := ?_) (a' := ?_) #[true, true, true, true, true, true, true] rfl rfl (by kernel_rfl) (fun _ _ _ h => h) (Or.inl ⟨by rfl, ?_⟩) ?_ ?_
          rotate_left
          ·
           intro w'
           go_simp
           with_reducible rfl
          rotate_left
          ·
           simp only [Act.put, List.setIfInBounds_toArray, List.set_cons_zero, List.set_cons_succ, i64_w, i32_w]
           rfl
          refine done_ (by kernel_rfl) ?_
          try go_wp2
          go_ret2
          exact ⟨_, by first | rfl | (simp [errW_none, errW_some] <;> rfl) | (simp [*, errW_none, errW_some] <;> rfl), by (with_reducible repeat (first | apply S_alloc | apply S_drewN | apply S_drew)); exact HO_4.out, by repeat (first | (with_reducible first | exact HB.out | apply Zf | apply Zd | apply Ze) | exact HB.out)⟩
         rw [if_neg c17] at H
         exact absurd H (by simp)
        rw [if_neg c16] at H
        exact absurd H (by simp)
       rw [if_neg c15] at H
       exact absurd H (by simp)
    rw [if_neg c5] at H
    exact absurd H (by simp)
   rw [if_neg c4] at H
   exact absurd H (by simp)
def bytes_Equal.f (l0 : List Int) (l1 : List Int) : Option (Bool) := some ((strOfNums l0).toList == (strOfNums l1).toList)
set_option maxHeartbeats 8000000 in
set_option maxRecDepth 100000 in
theorem bytes_Equal.calls (A0 : Option Addr) (c0 : Nat) (l0 : List Int) (A1 : Option Addr) (c1 : Nat) (l1 : List Int) (r : Bool) (w : World) (hr0 : Kd.C (Kd.int .u8) w A0 l0.length l0) (hc0 : l0.length ≤ c0) (hr1 : Kd.C (Kd.int .u8) w A1 l1.length l1) (hc1 : l1.length ≤ c1) (h : bytes_Equal.f l0 l1 = some r) :
  Calls Tryd.prog 106 #[.slice A0 l0.length c0, .slice A1 l1.length c1] w fun e w' => e = .returned (.bool r) ∧ Drawn0 w w' := by
 have HR0 := Zh hr0
 have HC0 := Zh hc0
 clear hr0 hc0
 have HR1 := Zh hr1
 have HC1 := Zh hc1
 clear hr1 hc1
 have H : (some ((strOfNums l0).toList == (strOfNums l1).toList)) = some r := h
 clear h
 obtain rfl := Option.some.inj H
 have hcv3 := C_string (P := Tryd.prog) (A := A0) (c := c0) Tryd.underlying41 Tryd.underlying5 Tryd.underlying9 HR0.out
 have hcv4 := fun (nq_ : Nat) => C_string (P := Tryd.prog) (A := A0) (c := c0) Tryd.underlying41 Tryd.underlying5 Tryd.underlying9 (C_drewN HR0.out nq_)
 have hcv5 := C_string (P := Tryd.prog) (A := A1) (c := c1) Tryd.underlying41 Tryd.underlying5 Tryd.underlying9 HR1.out
 have hcv6 := fun (nq_ : Nat) => C_string (P := Tryd.prog) (A := A1) (c := c1) Tryd.underlying41 Tryd.underlying5 Tryd.underlying9 (C_drewN HR1.out nq_)
 go_enter Tryd.func106, Tryd.ntmps106
 go_wp2
 go_ret
 exact ⟨by first | rfl | (simp; done) | (simp [*]; done), by repeat (first | exact Drawn0.refl _ | apply Drawn0.step)⟩
def binary_littleEndian_AppendUint32.f  (l1 : List Int) (a2 : Int) : Option (List Int) := (some (([(a2) % 256, (a2 / 256) % 256, (a2 / 65536) % 256, (a2 / 16777216) % 256] : List Int) : List Int)).bind fun y390 => (if l1.length + y390.length < 140737488355328 then (some (l1 ++ y390)) else (none))
set_option maxHeartbeats 8000000 in
set_option maxRecDepth 100000 in
theorem binary_littleEndian_AppendUint32.calls  (P1_ : Nat → Prop) (u9000_ : Value) (l1 : List Int) (a2 : Int) (r : List Int) (w0 w : World) (hB : Below w0.heap.size w0 w) (ho1 : Kd.R (Kd.int .u8) 5 w w0.heap.size P1_ u9000_ l1) (h : binary_littleEndian_AppendUint32.f l1 a2 = some r) :
  Calls Tryd.prog 91 #[.agg #[], u9000_, .int .u32 a2] w fun e w' => ∃ v0_ : Value, e = .returned (v0_) ∧ Kd.R (Kd.int .u8) 5 w' w0.heap.size (fun k_ => (P1_ k_ ∨ w.heap.size ≤ k_)) v0_ r ∧ Below w0.heap.size w0 w' ∧ Kept w w' (fun k_ => P1_ k_) := by
 have hu94 := Tryd.underlying94
 have HO1 := Zh (show Kd.R (Kd.int .u8) 5 w w0.heap.size (fun k_ => (P1_ k_ ∨ w.heap.size ≤ k_)) u9000_ l1 from R_mono ho1 (fun k_ hk => (.inl hk)))
 have HK := Zh (Kept.refl w (fun k_ => P1_ k_))
 have HW0 := Zh hB.size
 have HB := Zh hB
 clear hB
 have H : ((some (([(a2) % 256, (a2 / 256) % 256, (a2 / 65536) % 256, (a2 / 16777216) % 256] : List Int) : List Int)).bind fun y390 => (if l1.length + y390.length < 140737488355328 then (some (l1 ++ y390)) else (none))) = some r := h
 clear h
 obtain ⟨y390, hy390⟩ : ∃ y_ : List Int, y_ = (([(a2) % 256, (a2 / 256) % 256, (a2 / 65536) % 256, (a2 / 16777216) % 256] : List Int)) := ⟨_, rfl⟩
 replace H : (if l1.length + y390.length < 140737488355328 then (some (l1 ++ y390)) else (none)) = some r := by first | (rw [hy390]; with_reducible exact H) | (have H2_ := (Option.bind_some _ _).symm.trans H; rw [hy390]; with_reducible exact H2_) | (have H2_ := (Option.bind_some _ _).symm.trans H; with_reducible exact H2_) | with_reducible exact H | (rw [hy390]; exact H) | exact H
 have Ny390 := Zh hy390
 clear hy390
 by_cases c4 : l1.length + y390.length < 140737488355328
 ·
  rw [if_pos c4] at H
  have LMc4 := Zh c4
  clear c4
  obtain ⟨y393, hy393⟩ : ∃ y_ : List Int, y_ = (l1 ++ y390) := ⟨_, rfl⟩
  replace H : (some y393) = some r := by first | (rw [hy393]; with_reducible exact H) | (have H2_ := (Option.bind_some _ _).symm.trans H; rw [hy393]; with_reducible exact H2_) | (have H2_ := (Option.bind_some _ _).symm.trans H; with_reducible exact H2_) | with_reducible exact H | (rw [hy393]; exact H) | exact H
  have Ny393 := Zh hy393
  clear hy393
  obtain rfl := Option.some.inj H
  go_enter Tryd.func91, Tryd.ntmps91
  go_wp2_with (first | ((with_reducible refine gate_dst (N := 3) rfl ?_); refine box_event ?hg (N := 3) ?hd (cs := #[]) (t := 94) ?hr ?_; (case hd => rfl); (case hg => rfl); (case hr => first | (go_simp; done) | (go_simp; rfl)); intro gb389 hg w5 hbox hb; have n0_ := Zh (R_below (by (with_reducible repeat (first | apply R_alloc | apply R_drewN | apply R_drew)); exact HO1.out) hb); have n1_ := Zh (Kept.below (S := (fun k_ => P1_ k_)) (by repeat (first | (with_reducible first | exact HK.out | apply Kept.alloc | apply Kept.drewN | apply Kept.drew) | exact HK.out)) hb); have n2_ := Zh (Zl Zs hb); have n3_ := Zh (hbox); have n4_ := Zh ((by rw [hg]; exact (by first | exact HK.out.1 | exact (show Kept w _ (fun k_ => P1_ k_) from by repeat (first | (with_reducible first | exact HK.out | apply Kept.alloc | apply Kept.drewN | apply Kept.drew) | exact HK.out)).1) : w.heap.size ≤ gb389)); have n5_ := Zh ((by rw [hg]; exact (below_size Zs) : w0.heap.size ≤ gb389)); clear HO1; clear HK; clear HB; have HO1 := n0_; have HK := n1_; have HB := n2_; have BK389 := n3_; have GW389 := n4_; have GE389 := n5_; clear n0_ n1_ n2_ n3_ n4_ n5_; clear hb hbox hg) | ((with_reducible refine gate_dst (N := 19) rfl ?_); refine R_lit (Kd.int .u8) _ 5 ?hg (N := 19) ?hd (xs := ([(a2) % 256, (a2 / 256) % 256, (a2 / 65536) % 256, (a2 / 16777216) % 256] : List Int)) (inner := [.int .u8 ((a2) % 256), .int .u8 ((a2 / 256) % 256), .int .u8 ((a2 / 65536) % 256), .int .u8 ((a2 / 16777216) % 256)]) (ok := fun _ => True) (okp := fun _ => True) ?hr ?hp (fun _ hk => hk) trivial (Below.refl _ _) (Nat.le_refl _) (by simp) ?_; (case hd => rfl); (case hg => rfl); (case hr => first | (go_simp; done) | (go_simp; rfl)); (case hp => exact (Reps.one (show Kd.M (Kd.int .u8) _ _ _ ((a2) % 256) [.int .u8 ((a2) % 256)] from rfl) (Reps.one (show Kd.M (Kd.int .u8) _ _ _ ((a2 / 256) % 256) [.int .u8 ((a2 / 256) % 256)] from rfl) (Reps.one (show Kd.M (Kd.int .u8) _ _ _ ((a2 / 65536) % 256) [.int .u8 ((a2 / 65536) % 256)] from rfl) (Reps.one (show Kd.M (Kd.int .u8) _ _ _ ((a2 / 16777216) % 256) [.int .u8 ((a2 / 16777216) % 256)] from rfl) (Reps.none _ _)))))); intro v391 w6 ho7 hb hg_ hnew_; clear hg_ hnew_; (first | rw [← Ny390.out] at ho7 | (simp only [Int.reduceToNat] at ho7; rw [← Ny390.out] at ho7)); have n0_ := Zh (R_elder' (by (with_reducible repeat (first | apply R_alloc | apply R_drewN | apply R_drew)); exact HO1.out) (R_base ho7) hb); have n1_ := Zh (R_lower (R_new' (R_newM (M := fun k_ => (P1_ k_ ∨ w.heap.size ≤ k_)) ho7 (by first | exact HK.out.1 | exact (show Kept w _ (fun k_ => P1_ k_) from by repeat (first | (with_reducible first | exact HK.out | apply Kept.alloc | apply Kept.drewN | apply Kept.drew | refine Kept.setCell ?_ (.inr GW389.out) _) | exact HK.out)).1) (fun k_ h_ => .inr h_)) (R_lt (by (with_reducible repeat (first | apply R_alloc | apply R_drewN | apply R_drew)); exact HO1.out))) (below_size Zs)); have n2_ := Zh (Zm (g := gb389) (o := .cells #[] 94 (0, 0)) Zk hb); have n3_ := Zh (Kept.below (S := (fun k_ => P1_ k_)) (by repeat (first | (with_reducible first | exact HK.out | apply Kept.alloc | apply Kept.drewN | apply Kept.drew | refine Kept.setCell ?_ (.inr GW389.out) _) | exact HK.out)) hb); have n4_ := Zh (Zl Zs hb); clear HO1; clear BK389; clear HK; clear HB; have HO1 := n0_; have HO392 := n1_; have BK389 := n2_; have HK := n3_; have HB := n4_; clear n0_ n1_ n2_ n3_ n4_; clear hb ho7; obtain ⟨Ao9, co9, eo9⟩ := R_slice HO392.out; subst eo9) | ((with_reducible refine gate_builtin (b := .append) (xs := #[.tmp 7, .tmp 19]) rfl ?_); at_builtin; refine R_append_rows (Kd.int .u8) (w0 := w0) w0.heap.size rfl (.tmp 7) (.tmp 19) 41 5 (.int .u8 0) 1 rfl Tryd.underlying41 info5 rfl (by decide) (by omega) u9000_ l1 y390 _ _ _ (fun k_ => (P1_ k_ ∨ w.heap.size ≤ k_) ∧ some k_ ≠ (.slice Ao9 y390.length co9 : Value).ownBlock) (fun _ => False) rfl rfl ?aO ?aR (fun _ _ h => h) (fun _ h => h.elim) ?aF ?aB ?aS ?aL ?_; (case aR => repeat (first | exact (R_reads' HO392.out).2.2 | (with_reducible refine C_alloc ?_ _) | (with_reducible refine C_drewN ?_ _) | (with_reducible refine C_drew ?_))); (case aB => exact Zs); (case aF => exact (fun k_ hk => ⟨(.inr (Nat.le_trans (by first | exact HK.out.1 | exact (show Kept w _ (fun k_ => P1_ k_) from by repeat (first | (with_reducible first | exact HK.out | apply Kept.alloc | apply Kept.drewN | apply Kept.drew | refine Kept.setCell ?_ (.inr GW389.out) _) | exact HK.out)).1) hk)), Kd.fresh' (R_lt (by (with_reducible repeat (first | apply R_alloc | apply R_drewN | apply R_drew)); exact HO392.out)) k_ hk⟩)); (case aO => exact (by (with_reducible repeat (first | apply R_alloc | apply R_drewN | apply R_drew)); exact HO1.out)); (case aS => exact (below_size Zs)); (case aL => have := LMc4.out; omega); intro v394 w8 ho hb hg hat; rw [← Ny393.out] at ho; have n0_ := Zh (blk_grown (g := gb389) (o := .cells #[] 94 (0, 0)) Zk hg (R_ne HO1.out BK389.out (by decide))); have n1_ := Zh (R_after (ok := (fun k_ => (P1_ k_ ∨ w.heap.size ≤ k_))) (by (with_reducible repeat (first | apply R_alloc | apply R_drewN | apply R_drew)); exact R_mono HO392.out (fun _ hk => ⟨hk.1.1, hk.2⟩)) hg hat); have n2_ := Zh (hb); have n3_ := Zh (Kept.of_grown (S := (fun k_ => P1_ k_)) hg (by repeat (first | (with_reducible first | exact HK.out | apply Kept.alloc | apply Kept.drewN | apply Kept.drew | refine Kept.setCell ?_ (.inr GW389.out) _) | exact HK.out)) (fun k_ e_ => (HO1.out.1 k_ e_).1)); have n4_ := Zh (ho); clear BK389; clear HO392; clear HB; clear HK; clear HO1; have BK389 := n0_; have HO392 := n1_; have HB := n2_; have HK := n3_; have HO395 := n4_; clear n0_ n1_ n2_ n3_ n4_; clear ho hb hg hat))
  go_ret
  exact ⟨_, by first | rfl | (simp [errW_none, errW_some] <;> rfl) | (simp [*, errW_none, errW_some] <;> rfl), by (with_reducible repeat (first | apply R_alloc | apply R_drewN | apply R_drew)); exact R_mono HO395.out (fun _ hk => hk.1), by repeat (first | (with_reducible first | exact HB.out | apply Zf | apply Zd | apply Ze | refine Zg ?_ GE389.out) | exact HB.out), by repeat (first | (with_reducible first | exact HK.out | apply Kept.alloc | apply Kept.drewN | apply Kept.drew | refine Kept.setCell ?_ (.inr GW389.out) _) | exact HK.out)⟩
 rw [if_neg c4] at H
 exact absurd H (by simp)
def impl_frame.j0 : Nat → List Int → Bool → Option (List Int)
 | 0, _, _ => none
 | k + 1, x0, x11 => if x11 = true then (some ([] : List Int)) else ((binary_littleEndian_AppendUint32.f ([] : List Int) (((x0.length : Int)) % 4294967296)).bind fun t396 => ((impl_crc32.f k x0).bind fun t399 => ((binary_littleEndian_AppendUint32.f t396 t399).bind fun t400 => (if t400.length + x0.length < 140737488355328 then (some (t400 ++ x0)) else (none)))))
def impl_frame.f (k : Nat) (l0 : List Int) : Option (List Int) := if (l0.length : Int) < 1 then (impl_frame.j0 k l0 true) else (impl_frame.j0 k l0 (decide ((l0.length : Int) > 600)))
set_option maxHeartbeats 8000000 in
set_option maxRecDepth 100000 in
theorem impl_frame.calls (k : Nat) (A0 : Option Addr) (c0 : Nat) (l0 : List Int) (r : List Int) (w : World) (hr0 : Kd.C (Kd.int .u8) w A0 l0.length l0) (hc0 : l0.length ≤ c0) (h : impl_frame.f k l0 = some r) :
  Calls Tryd.prog 60 #[.slice A0 l0.length c0] w fun e w' => ∃ v0_ : Value, e = .returned (v0_) ∧ Kd.R (Kd.int .u8) 5 w' w.heap.size (fun _ => True) v0_ r ∧ Below w.heap.size w w' := by
 have hu94 := Tryd.underlying94
 have HR0 := Zh hr0
 have HC0 := Zh hc0
 clear hr0 hc0
 have HB := Zh (Below.refl w.heap.size w)
 have H : (if (l0.length : Int) < 1 then (impl_frame.j0 k l0 true) else (impl_frame.j0 k l0 (decide ((l0.length : Int) > 600)))) = some r := h
 clear h
 have HC2 := Zh H
 clear H
 go_enter Tryd.func60, Tryd.ntmps60
 go_upto_region 1 with (fail)
 go_cut [11] (fun v11 wc => ∃ (kq : Nat) (x11_1 : Bool), v11 = .bool x11_1 ∧ Aside0 (impl_frame.j0 kq l0 x11_1 = some r) ∧ Aside0 (kq ≤ k) ∧ Aside0 (Below w.heap.size w wc))
 case first =>
  have H := HC2.out
  clear HC2
  by_cases c3 : (l0.length : Int) < 1
  ·
   rw [if_pos c3] at H
   have c3b0 : decide ((l0.length : Int) < 1) = true := decide_eq_true c3
   have c3b1 : decide (l0.length < 1) = true := decide_eq_true (by omega)
   clear c3
   (first | rw [c3b0] | (simp only [i64_w, i32_w]; rw [c3b0]) | skip)
   have H' := Zh H
   clear H
   go_wp2
   go_meet
   case rel => exact ⟨_, (true), (by first | rfl | (simp; done) | (simp [*]; done)), H', ⟨by first | omega | exact Nat.le_refl _⟩, ⟨by repeat (first | (with_reducible first | exact HB.out | apply Zf | apply Zd | apply Ze) | exact HB.out)⟩⟩
  rw [if_neg c3] at H
  have c3b0 : decide ((l0.length : Int) < 1) = false := decide_eq_false c3
  have c3b1 : decide (l0.length < 1) = false := decide_eq_false (by omega)
  clear c3
  (first | rw [c3b0] | (simp only [i64_w, i32_w]; rw [c3b0]) | skip)
  have H' := Zh H
  clear H
  go_wp2
  go_meet
  case rel => exact ⟨_, (decide ((l0.length : Int) > 600)), (by first | rfl | (simp; done) | (simp [*]; done)), H', ⟨by first | omega | exact Nat.le_refl _⟩, ⟨by repeat (first | (with_reducible first | exact HB.out | apply Zf | apply Zd | apply Ze) | exact HB.out)⟩⟩
 case rest =>
  clear HC2
  try clear p2
  try clear c3
  try clear c3b0
  try clear c3b1
  obtain ⟨kq, x11_1, rfl, HA, HJ1, HB⟩ := hcut
  cases kq with
  | zero => exact absurd HA.out (by simp [impl_frame.j0])
  | succ kj1 =>
   have H := HA.out
   clear HA
   simp only [impl_frame.j0] at H
   by_cases c4 : x11_1 = true
   ·
    subst c4
    have H1 : (some ([] : List Int)) = some r := by rw [if_pos rfl] at H; exact H
    clear H
    have H := H1
    clear H1
    obtain rfl := Option.some.inj H
    go_wp2
    go_ret
    exact ⟨_, by first | rfl | (simp [errW_none, errW_some] <;> rfl) | (simp [*, errW_none, errW_some] <;> rfl), by first | exact R_nil _ _ _ _ _ | exact N_nil _ _ _ _ _ | exact V_nil _ _ _ _ _ | exact Q_nil _ _ _ _ _ | exact S_nil _ _ _ _ _, by repeat (first | (with_reducible first | exact HB.out | apply Zf | apply Zd | apply Ze) | exact HB.out)⟩
   replace c4 := Bool.eq_false_iff.mpr c4
   subst c4
   have H1 : ((binary_littleEndian_AppendUint32.f ([] : List Int) (((l0.length : Int)) % 4294967296)).bind fun t396 => ((impl_crc32.f kj1 l0).bind fun t399 => ((binary_littleEndian_AppendUint32.f t396 t399).bind fun t400 => (if t400.length + l0.length < 140737488355328 then (some (t400 ++ l0)) else (none))))) = some r := by rw [if_neg (show ¬ (false = true) by decide)] at H; exact H
   clear H
   have H := H1
   clear H1
   replace H := Option.bind_eq_some_iff.mp H
   obtain ⟨t396, A50, H⟩ := H
   replace H : ((impl_crc32.f kj1 l0).bind fun t399 => ((binary_littleEndian_AppendUint32.f t396 t399).bind fun t400 => (if t400.length + l0.length < 140737488355328 then (some (t400 ++ l0)) else (none)))) = some r := H
   have A5 := Zh A50
   clear A50
   replace H := Option.bind_eq_some_iff.mp H
   obtain ⟨t399, A60, H⟩ := H
   replace H : ((binary_littleEndian_AppendUint32.f t396 t399).bind fun t400 => (if t400.length + l0.length < 140737488355328 then (some (t400 ++ l0)) else (none))) = some r := H
   have A6 := Zh A60
   clear A60
   replace H := Option.bind_eq_some_iff.mp H
   obtain ⟨t400, A70, H⟩ := H
   replace H : (if t400.length + l0.length < 140737488355328 then (some (t400 ++ l0)) else (none)) = some r := H
   have A7 := Zh A70
   clear A70
   by_cases c8 : t400.length + l0.length < 140737488355328
   ·
    rw [if_pos c8] at H
    have LMc8 := Zh c8
    clear c8
    obtain ⟨y403, hy403⟩ : ∃ y_ : List Int, y_ = (t400 ++ l0) := ⟨_, rfl⟩
    replace H : (some y403) = some r := by first | (rw [hy403]; with_reducible exact H) | (have H2_ := (Option.bind_some _ _).symm.trans H; rw [hy403]; with_reducible exact H2_) | (have H2_ := (Option.bind_some _ _).symm.trans H; with_reducible exact H2_) | with_reducible exact H | (rw [hy403]; exact H) | exact H
    have Ny403 := Zh hy403
    clear hy403
    obtain rfl := Option.some.inj H
    try go_wp2_with (first | ((with_reducible refine gate_callee (f := 91) rfl ?_); refine goesL_ (some 16) rfl rfl Tryd.func91 (by kernel_rfl) rfl #[.agg #[], .slice none 0 0, .int .u32 (((l0.length : Int)) % 4294967296)] rfl (by (try simp only [List.map_toArray, List.map_cons, List.map_nil]); first | done | rfl | (simp only [List.length_drop, List.length_take]; rfl)) ?_; (refine (binary_littleEndian_AppendUint32.calls  (fun k_ => some k_ = (.slice none 0 0 : Value).ownBlock) (.slice none 0 0) ([] : List Int) (((l0.length : Int)) % 4294967296) t396 w _ ?side1 ?side2 A5.out).mono ?_); (case side1 => repeat (first | (with_reducible first | exact HB.out | apply Zf | apply Zd | apply Ze) | exact HB.out)); (case side2 => exact R_nil _ _ _ _ _); rintro e w9 ⟨v397, rfl, ho0, hb, hkp⟩; refine ⟨_, rfl, ?_⟩; have n0_ := Zh (R_mono (ok' := fun k_ => True) ho0 (fun k_ hk_ => trivial)); have n1_ := Zh (hb); clear HB; have HO398 := n0_; have HB := n1_; clear n0_ n1_; (try clear hb); (try clear hkp); (try clear ho0)))
    have n0_ := Zh (R_drew HO398.out)
    have n1_ := Zh (Ze HB.out)
    clear HO398
    clear HB
    have HO398 := n0_
    have HB := n1_
    clear n0_ n1_
    refine start_ (n := 6) (S := fun w' => True) (ds := []) #[false, false, false, false, false, false] (by kernel_rfl) rfl rfl trivial (fun hHeld => ?_)
    generalize w9.drew = w10 at HO398 HB hHeld ⊢
    refine pure_ (i := 1) (N := some 18) (v := ?_) (a' := ?_) #[false, true, false, false, false, false] rfl rfl (by kernel_rfl) (fun _ _ _ h => h) (Or.inl ⟨by rfl, ?_⟩) ?_ ?_
    rotate_left
    ·
     intro w'
     go_simp
     with_reducible rfl
    rotate_left
    ·
     simp only [Act.put, List.setIfInBounds_toArray, List.set_cons_zero, List.set_cons_succ, i64_w, i32_w]
     rfl
    refine pure_ (i := 2) (N := some 19) (v := ?_) (a' := ?_) #[false, true, true, false, false, false] rfl rfl (by kernel_rfl) (fun _ _ _ h => h) (Or.inl ⟨by rfl, ?_⟩) ?_ ?_
    rotate_left
    ·
     intro w'
     go_simp
     with_reducible rfl
    rotate_left
    ·
     simp only [Act.put, List.setIfInBounds_toArray, List.set_cons_zero, List.set_cons_succ, i64_w, i32_w]
     rfl
    refine take_ (i := 0) (N := some 17) (v := ?_) (a' := ?_) #[true, true, true, false, false, false] rfl rfl (by kernel_rfl) (fun _ _ _ h => h) (Or.inl ⟨by rfl, ?_⟩) hHeld ?_ ?_
    rotate_left
    ·
     intro w' _
     go_simp
     with_reducible rfl
    rotate_left
    ·
     simp only [Act.put, List.setIfInBounds_toArray, List.set_cons_zero, List.set_cons_succ, i64_w, i32_w]
     rfl
    refine one_ (i := 3) (N := some 20) #[true, true, true, true, false, false] rfl rfl (by kernel_rfl) (by decide) (fun K hK => ?_)
    refine goes_ Tryd.func92 (by kernel_rfl) rfl #[.slice A0 l0.length c0] (by rfl) rfl rfl (by (try simp only [List.map_toArray, List.map_cons, List.map_nil]); first | done | rfl | (simp only [List.length_drop, List.length_take]; rfl)) ?_
    with_reducible refine (impl_crc32.calls kj1 _ _ l0 t399 _ ?side1 ?side2 A6.out).mono ?_
    (case side1 => repeat (first | exact (C_below HR0.out HB.out) | (with_reducible refine C_alloc ?_ _) | (with_reducible refine C_drewN ?_ _) | (with_reducible refine C_drew ?_)))
    (case side2 => exact HC0.out)
    rintro e w' ⟨rfl, ⟨nd, rfl⟩⟩
    refine ⟨_, rfl, ?_⟩
    obtain ⟨Ao11, co11, eo11⟩ := R_slice HO398.out
    (first | subst eo11 | (injection eo11 with f1_ f2_ f3_; have f4_ := f1_.symm; have f5_ := f3_.symm; clear f1_ f2_ f3_; subst f4_; subst f5_))
    refine hK.out _ _ trivial (fun hHeld => ?_)
    clear hK K
    refine norm_ (a' := ?_) ?_ ?_
    rotate_left
    ·
     show Act.put _ (some 20) _ = _
     simp only [Act.put, List.setIfInBounds_toArray, List.set_cons_zero, List.set_cons_succ, i64_w, i32_w]
     rfl
    refine one_ (i := 4) (N := some 21) #[true, true, true, true, true, false] rfl rfl (by kernel_rfl) (by decide) (fun K hK => ?_)
    refine goes_ Tryd.func91 (by kernel_rfl) rfl #[.agg #[], .slice Ao11 t396.length co11, .int .u32 t399] (by rfl) rfl rfl (by (try simp only [List.map_toArray, List.map_cons, List.map_nil]); first | done | rfl | (simp only [List.length_drop, List.length_take]; rfl)) ?_
    with_reducible refine (binary_littleEndian_AppendUint32.calls  (fun k_ => some k_ = (.slice Ao11 t396.length co11 : Value).ownBlock) (.slice Ao11 t396.length co11) t396 t399 t400 w _ ?side1 ?side2 A7.out).mono ?_
    (case side1 => repeat (first | (with_reducible first | exact HB.out | apply Zf | apply Zd | apply Ze) | exact HB.out))
    (case side2 => exact R_tight rfl HO398.out)
    rintro e w12 ⟨v401, rfl, ho0, hb, hkp⟩
    refine ⟨_, rfl, ?_⟩
    have n0_ := Zh (R_mono (ok' := fun k_ => True) ho0 (fun k_ hk_ => trivial))
    have n1_ := Zh (hb)
    clear HB
    clear HO398
    have HO402 := n0_
    have HB := n1_
    clear n0_ n1_
    (try clear hb)
    (try clear hkp)
    (try clear ho0)
    refine hK.out _ _ trivial (fun hHeld => ?_)
    clear hK K
    refine norm_ (a' := ?_) ?_ ?_
    rotate_left
    ·
     show Act.put _ (some 21) _ = _
     simp only [Act.put, List.setIfInBounds_toArray, List.set_cons_zero, List.set_cons_succ, i64_w, i32_w]
     rfl
    refine pure_ (i := 5) (N := some 3) (v := ?_) (a' := ?_) #[true, true, true, true, true, true] rfl rfl (by kernel_rfl) (fun _ _ _ h => h) (Or.inl ⟨by rfl, ?_⟩) ?_ ?_
    rotate_left
    ·
     intro w'
     go_simp
     with_reducible rfl
    rotate_left
    ·
     simp only [Act.put, List.setIfInBounds_toArray, List.set_cons_zero, List.set_cons_succ, i64_w, i32_w]
     rfl
    refine done_ (by kernel_rfl) ?_
    try go_wp2_with (first | ((with_reducible refine gate_builtin (b := .append) (xs := #[.tmp 22, .tmp 23]) rfl ?_); (try (refine gate_guard (by rfl) ?_; dsimp only)); at_builtin; refine R_append_rows (Kd.int .u8) (w0 := w) w.heap.size rfl (.tmp 22) (.tmp 23) 41 5 (.int .u8 0) 1 rfl Tryd.underlying41 info5 rfl (by decide) (by omega) v401 t400 l0 _ _ _ (fun _ => True) (fun _ => False) rfl rfl ?aO ?aR (fun _ _ h => h) (fun _ h => h.elim) ?aF ?aB ?aS ?aL ?_; (case aR => repeat (first | exact (C_below HR0.out HB.out) | (with_reducible refine C_alloc ?_ _) | (with_reducible refine C_drewN ?_ _) | (with_reducible refine C_drew ?_))); (case aB => exact Zs); (case aF => exact (fun _ _ => trivial)); (case aO => exact (by (with_reducible repeat (first | apply R_alloc | apply R_drewN | apply R_drew)); exact HO402.out)); (case aS => exact (below_size Zs)); (case aL => have := LMc8.out; omega); intro v404 w13 ho hb hg hat; rw [← Ny403.out] at ho; have n0_ := Zh (hb); have n1_ := Zh (ho); clear HB; clear HO402; have HB := n0_; have HO405 := n1_; clear n0_ n1_; clear ho hb hg hat))
    go_ret
    exact ⟨_, by first | rfl | (simp [errW_none, errW_some] <;> rfl) | (simp [*, errW_none, errW_some] <;> rfl), by (with_reducible repeat (first | apply R_alloc | apply R_drewN | apply R_drew)); exact HO405.out, by repeat (first | (with_reducible first | exact HB.out | apply Zf | apply Zd | apply Ze) | exact HB.out)⟩
   rw [if_neg c8] at H
   exact absurd H (by simp)
end Go.Proofs.YtcgojdhbphocgaaDoor.F

namespace Go.Proofs.YtcgojdhbphocgaaDoor.F
open Go.Proofs.YtcgojdhbphocgaaDoor
open Go.RowKit Go.Proofs.YtcgojdhbphocgaaDoorW.PrintWords Go.Proofs.YtcgojdhbphocgaaDoorW.PrintWords.Kd Go.Proofs.YtcgojdhbphocgaaDoorW.PrintMore.Kd Go.Proofs.YtcgojdhbphocgaaDoorW.PrintLast Go.Proofs.YtcgojdhbphocgaaDoorW.PrintMore
attribute [local go_sem] max2_int min2_int max_two min_two max_three min_three max_four min_four   -- for this text's walks alone
set_option linter.unusedVariables false
set_option linter.unusedSimpArgs false
def impl_beginsFrame.j0 : Nat → List Int → Int → Bool → Option (Bool)
 | 0, _, _, _ => none
 | k + 1, x0, x3, x41 => if x41 = true then (some false) else (if 8 ≤ (wrap64 (8 + x3)) then (if (wrap64 (8 + x3)) ≤ (x0.length : Int) then ((impl_frame.f k ((x0.take ((wrap64 (8 + x3)) : Int).toNat).drop 8)).bind fun t411 => (if 0 ≤ (wrap64 (8 + x3)) then ((bytes_Equal.f t411 (x0.take ((wrap64 (8 + x3)) : Int).toNat)).bind fun t415 => (some t415)) else (none))) else (none)) else (none))
def impl_beginsFrame.f (k : Nat) (l0 : List Int) : Option (Bool) := if (l0.length : Int) < 8 then (some false) else (if 0 < (l0.length : Int) then (if 1 < (l0.length : Int) then (if 2 < (l0.length : Int) then (if (rd l0 2) = 0 then (if 3 < (l0.length : Int) then (if (rd l0 3) = 0 then (if (Go.bits .or .i64 (wrap64 (rd l0 0)) (wrap64 ((wrap64 (rd l0 1)) * 256))) < 1 then (impl_beginsFrame.j0 k l0 (Go.bits .or .i64 (wrap64 (rd l0 0)) (wrap64 ((wrap64 (rd l0 1)) * 256))) true) else (if (Go.bits .or .i64 (wrap64 (rd l0 0)) (wrap64 ((wrap64 (rd l0 1)) * 256))) > 600 then (impl_beginsFrame.j0 k l0 (Go.bits .or .i64 (wrap64 (rd l0 0)) (wrap64 ((wrap64 (rd l0 1)) * 256))) true) else (impl_beginsFrame.j0 k l0 (Go.bits .or .i64 (wrap64 (rd l0 0)) (wrap64 ((wrap64 (rd l0 1)) * 256))) (decide ((l0.length : Int) < (wrap64 (8 + (Go.bits .or .i64 (wrap64 (rd l0 0)) (wrap64 ((wrap64 (rd l0 1)) * 256)))))))))) else (impl_beginsFrame.j0 k l0 (Go.bits .or .i64 (wrap64 (rd l0 0)) (wrap64 ((wrap64 (rd l0 1)) * 256))) true)) else (none)) else (impl_beginsFrame.j0 k l0 (Go.bits .or .i64 (wrap64 (rd l0 0)) (wrap64 ((wrap64 (rd l0 1)) * 256))) true)) else (none)) else (none)) else (none))
def impl_beginsFrame.T3 : Bool × List (List Nat × List Nat) := (true, [([], []), ([0], [0]), ([1], [1]), ([2], [2]), ([], []), ([4], [4]), ([5], [5]), ([6], [6]), ([7], [7]), ([3, 8], [3, 8]), ([9, 0, 1, 2, 3, 4, 5, 6, 7, 8, 9], [9])])
def impl_beginsFrame.B3 : List Nat := [0, 1, 3, 7, 0, 16, 48, 112, 240, 511, 1023]
theorem impl_beginsFrame.tab3 : rtab .any (opsOf Tryd.f82 3) = impl_beginsFrame.T3 := by kernel_rfl
theorem impl_beginsFrame.bits3 : waitsOk impl_beginsFrame.T3.2 impl_beginsFrame.B3 = true := by kernel_rfl
def impl_beginsFrame.T6 : Bool × List (List Nat × List Nat) := (true, [([], []), ([], []), ([1], [1]), ([0, 2], [0, 2]), ([3], [3]), ([], []), ([], []), ([6], [6]), ([5, 7], [5, 7]), ([4, 8, 4], [4, 8]), ([9, 9, 0, 1, 2, 3, 4, 5, 6, 7, 8, 9], [9])])
def impl_beginsFrame.B6 : List Nat := [0, 0, 2, 7, 15, 0, 0, 64, 224, 511, 1023]
theorem impl_beginsFrame.tab6 : rtab .any (opsOf Tryd.f82 6) = impl_beginsFrame.T6 := by kernel_rfl
theorem impl_beginsFrame.bits6 : waitsOk impl_beginsFrame.T6.2 impl_beginsFrame.B6 = true := by kernel_rfl
set_option maxHeartbeats 8000000 in
set_option maxRecDepth 100000 in
theorem impl_beginsFrame.calls (k : Nat) (A0 : Option Addr) (c0 : Nat) (l0 : List Int) (r : Bool) (w : World) (hr0 : Kd.C (Kd.int .u8) w A0 l0.length l0) (hc0 : l0.length ≤ c0) (h : impl_beginsFrame.f k l0 = some r) :
  Calls Tryd.prog 82 #[.slice A0 l0.length c0] w fun e w' => e = .returned (.bool r) ∧ Below w.heap.size w w' := by
 have HR0 := Zh hr0
 have HC0 := Zh hc0
 clear hr0 hc0
 have HB := Zh (Below.refl w.heap.size w)
 have H : (if (l0.length : Int) < 8 then (some false) else (if 0 < (l0.length : Int) then (if 1 < (l0.length : Int) then (if 2 < (l0.length : Int) then (if (rd l0 2) = 0 then (if 3 < (l0.length : Int) then (if (rd l0 3) = 0 then (if (Go.bits .or .i64 (wrap64 (rd l0 0)) (wrap64 ((wrap64 (rd l0 1)) * 256))) < 1 then (impl_beginsFrame.j0 k l0 (Go.bits .or .i64 (wrap64 (rd l0 0)) (wrap64 ((wrap64 (rd l0 1)) * 256))) true) else (if (Go.bits .or .i64 (wrap64 (rd l0 0)) (wrap64 ((wrap64 (rd l0 1)) * 256))) > 600 then (impl_beginsFrame.j0 k l0 (Go.bits .or .i64 (wrap64 (rd l0 0)) (wrap64 ((wrap64 (rd l0 1)) * 256))) true) else (impl_beginsFrame.j0 k l0 (Go.bits .or .i64 (wrap64 (rd l0 0)) (wrap64 ((wrap64 (rd l0 1)) * 256))) (decide ((l0.length : Int) < (wrap64 (8 + (Go.bits .or .i64 (wrap64 (rd l0 0)) (wrap64 ((wrap64 (rd l0 1)) * 256)))))))))) else (impl_beginsFrame.j0 k l0 (Go.bits .or .i64 (wrap64 (rd l0 0)) (wrap64 ((wrap64 (rd l0 1)) * 256))) true)) else (none)) else (impl_beginsFrame.j0 k l0 (Go.bits .or .i64 (wrap64 (rd l0 0)) (wrap64 ((wrap64 (rd l0 1)) * 256))) true)) else (none)) else (none)) else (none))) = some r := h
 clear h
 by_cases c2 : (l0.length : Int) < 8
 ·
  rw [if_pos c2] at H
  have c2b0 : decide ((l0.length : Int) < 8) = true := decide_eq_true c2
  have c2b1 : decide (l0.length < 8) = true := decide_eq_true (by omega)
  clear c2
  obtain rfl := Option.some.inj H
  go_enter Tryd.func82, Tryd.ntmps82
  go_wp2
  go_ret
  exact ⟨by first | rfl | (simp [errW_none, errW_some] <;> rfl) | (simp [*, errW_none, errW_some] <;> rfl), by repeat (first | (with_reducible first | exact HB.out | apply Zf | apply Zd | apply Ze) | exact HB.out)⟩
 rw [if_neg c2] at H
 have c2b0 : decide ((l0.length : Int) < 8) = false := decide_eq_false c2
 have c2b1 : decide (l0.length < 8) = false := decide_eq_false (by omega)
 clear c2
 by_cases c3 : 0 < (l0.length : Int)
 ·
  rw [if_pos c3] at H
  have c3b0 : decide (0 < (l0.length : Int)) = true := decide_eq_true c3
  have c3b1 : decide (0 < l0.length) = true := decide_eq_true (by omega)
  clear c3
  by_cases c4 : 1 < (l0.length : Int)
  ·
   rw [if_pos c4] at H
   have c4b0 : decide (1 < (l0.length : Int)) = true := decide_eq_true c4
   have c4b1 : decide (1 < l0.length) = true := decide_eq_true (by omega)
   clear c4
   have HC5 := Zh H
   clear H
   go_enter Tryd.func82, Tryd.ntmps82
   try go_wp2
   have n0_ := Zh (Ze HB.out)
   clear HB
   have HB := n0_
   clear n0_
   have p406 : 0 ≤ (0 : Int) := (by omega)
   have q406 : 0 < (l0.length : Int) := Zo
   obtain ⟨ad406, e406, hx406_0⟩ := Kd.at_int HR0.out 0 p406 q406
   have hw406_0 := hx406_0
   (try rw [show ((0 : Int)).toNat = 0 from rfl] at hw406_0)
   (try rw [show 0 * 1 = 0 from rfl] at hw406_0)
   (try rw [Addr.add_zero'] at hw406_0)
   cases e406
   have qi406 : (0 < l0.length) = True := eq_true (by omega)
   (try rw [show ((0 : Int)).toNat = 0 from rfl] at hx406_0)
   (try rw [Addr.add_zero'] at hx406_0)
   replace hx406_0 := Zc HB.out hx406_0
   replace p406 := eq_true p406
   replace q406 := eq_true q406
   have p407 : 0 ≤ (1 : Int) := (by omega)
   have q407 : 1 < (l0.length : Int) := Zo
   obtain ⟨ad407, e407, hx407_0⟩ := Kd.at_int HR0.out 1 p407 q407
   have hw407_0 := hx407_0
   (try rw [show ((1 : Int)).toNat = 1 from rfl] at hw407_0)
   (try rw [show 1 * 1 = 1 from rfl] at hw407_0)
   (try simp only [Nat.reduceMul, Nat.reduceEqDiff, Go.Addr.add, ↓reduceIte] at hw407_0)
   obtain rfl : ad406 = ad407 := (by injection e407)
   (try simp only [show (1 : Int).toNat = 1 from rfl, Nat.reduceMul, Nat.reduceEqDiff, Go.Addr.add, ↓reduceIte] at hx407_0)
   have qi407 : (1 < l0.length) = True := eq_true (by omega)
   (try rw [show ((1 : Int)).toNat = 1 from rfl] at hx407_0)
   replace hx407_0 := Zc HB.out hx407_0
   replace p407 := eq_true p407
   replace q407 := eq_true q407
   refine start_ (n := 11) (S := fun w' => w'.cell? ad406 = some (.int .u8 (rd l0 0)) ∧ w'.cell? ⟨ad406.block, ad406.off + 1, none⟩ = some (.int .u8 (rd l0 1))) (ds := []) #[false, false, false, false, false, false, false, false, false, false, false] (by kernel_rfl) rfl rfl ⟨((HB.out.cell (Zi w _ hw406_0)).trans hw406_0), ((HB.out.cell (Zi w _ hw407_0)).trans hw407_0)⟩ (fun hHeld => ?_); refine with_tabW impl_beginsFrame.tab3 impl_beginsFrame.bits3 (fun HT_ HW_ => ?_)
   generalize w.drew = w6 at HB hx406_0 hx407_0 hHeld ⊢
   refine SQ.pu 0 7 HT_ ?_
   refine SQ.pu 1 8 HT_ ?_
   refine SQ.pu 4 11 HT_ ?_
   refine SQ.pu 5 12 HT_ ?_
   refine SQ.tk 2 9 HT_ HW_ hHeld ?_
   refine SQ.pu 3 10 HT_ ?_
   refine SQ.tk 6 13 HT_ HW_ hHeld ?_
   refine SQ.pu 7 14 HT_ ?_
   refine SQ.pu 8 15 HT_ ?_
   refine SQ.pu 9 16 HT_ ?_
   refine SQ.pu 10 3 HT_ ?_
   refine done_ (done_of HT_.out (by kernel_rfl)) ?_
   go_upto_region 4 with (fail)
   go_cut [41] (fun v41 wc => ∃ (kq : Nat) (x41_4 : Bool), v41 = .bool x41_4 ∧ Aside0 (impl_beginsFrame.j0 kq l0 (Go.bits .or .i64 (wrap64 (rd l0 0)) (wrap64 ((wrap64 (rd l0 1)) * 256))) x41_4 = some r) ∧ Aside0 (kq ≤ k) ∧ Aside0 (Below w.heap.size w wc))
   case first =>
    have H := HC5.out
    clear HC5
    by_cases c7 : 2 < (l0.length : Int)
    ·
     rw [if_pos c7] at H
     have c7b0 : decide (2 < (l0.length : Int)) = true := decide_eq_true c7
     have c7b1 : decide (2 < l0.length) = true := decide_eq_true (by omega)
     clear c7
     (first | rw [c7b0] | (simp only [i64_w, i32_w]; rw [c7b0]) | skip)
     by_cases c8 : (rd l0 2) = 0
     ·
      rw [if_pos c8] at H
      have c8b0 : ((rd l0 2) == 0) = true := beq_iff_eq.mpr c8
      have c8b1 : ((rd l0 2) != 0) = false := bne_eq_false_iff_eq.mpr c8
      clear c8
      by_cases c9 : 3 < (l0.length : Int)
      ·
       rw [if_pos c9] at H
       have c9b0 : decide (3 < (l0.length : Int)) = true := decide_eq_true c9
       have c9b1 : decide (3 < l0.length) = true := decide_eq_true (by omega)
       clear c9
       by_cases c10 : (rd l0 3) = 0
       ·
        rw [if_pos c10] at H
        have c10b0 : ((rd l0 3) == 0) = true := beq_iff_eq.mpr c10
        have c10b1 : ((rd l0 3) != 0) = false := bne_eq_false_iff_eq.mpr c10
        clear c10
        by_cases c11 : (Go.bits .or .i64 (wrap64 (rd l0 0)) (wrap64 ((wrap64 (rd l0 1)) * 256))) < 1
        ·
         rw [if_pos c11] at H
         have c11b0 : decide ((Go.bits .or .i64 (wrap64 (rd l0 0)) (wrap64 ((wrap64 (rd l0 1)) * 256))) < 1) = true := decide_eq_true c11
         clear c11
         have H' := Zh H
         clear H
         have p408 : 0 ≤ (2 : Int) := (by omega)
         have q408 : 2 < (l0.length : Int) := Zo
         obtain ⟨ad408, e408, hx408_0⟩ := Kd.at_int HR0.out 2 p408 q408
         obtain rfl : ad406 = ad408 := (by injection e408)
         (try simp only [show (2 : Int).toNat = 2 from rfl, Nat.reduceMul, Nat.reduceEqDiff, Go.Addr.add, ↓reduceIte] at hx408_0)
         have qi408 : (2 < l0.length) = True := eq_true (by omega)
         (try rw [show ((2 : Int)).toNat = 2 from rfl] at hx408_0)
         replace hx408_0 := Zc HB.out hx408_0
         replace p408 := eq_true p408
         replace q408 := eq_true q408
         have p409 : 0 ≤ (3 : Int) := (by omega)
         have q409 : 3 < (l0.length : Int) := Zo
         obtain ⟨ad409, e409, hx409_0⟩ := Kd.at_int HR0.out 3 p409 q409
         obtain rfl : ad406 = ad409 := (by injection e409)
         (try simp only [show (3 : Int).toNat = 3 from rfl, Nat.reduceMul, Nat.reduceEqDiff, Go.Addr.add, ↓reduceIte] at hx409_0)
         have qi409 : (3 < l0.length) = True := eq_true (by omega)
         (try rw [show ((3 : Int)).toNat = 3 from rfl] at hx409_0)
         replace hx409_0 := Zc HB.out hx409_0
         replace p409 := eq_true p409
         replace q409 := eq_true q409
         go_wp2
         go_meet
         case rel => exact ⟨_, (true), (by first | rfl | (simp; done) | (simp [*]; done)), H', ⟨by first | omega | exact Nat.le_refl _⟩, ⟨by repeat (first | (with_reducible first | exact HB.out | apply Zf | apply Zd | apply Ze) | exact HB.out)⟩⟩
        rw [if_neg c11] at H
        have c11b0 : decide ((Go.bits .or .i64 (wrap64 (rd l0 0)) (wrap64 ((wrap64 (rd l0 1)) * 256))) < 1) = false := decide_eq_false c11
        clear c11
        by_cases c12 : (Go.bits .or .i64 (wrap64 (rd l0 0)) (wrap64 ((wrap64 (rd l0 1)) * 256))) > 600
        ·
         rw [if_pos c12] at H
         have c12b0 : decide (600 < (Go.bits .or .i64 (wrap64 (rd l0 0)) (wrap64 ((wrap64 (rd l0 1)) * 256)))) = true := decide_eq_true c12
         clear c12
         have H' := Zh H
         clear H
         have p408 : 0 ≤ (2 : Int) := (by omega)
         have q408 : 2 < (l0.length : Int) := Zo
         obtain ⟨ad408, e408, hx408_0⟩ := Kd.at_int HR0.out 2 p408 q408
         obtain rfl : ad406 = ad408 := (by injection e408)
         (try simp only [show (2 : Int).toNat = 2 from rfl, Nat.reduceMul, Nat.reduceEqDiff, Go.Addr.add, ↓reduceIte] at hx408_0)
         have qi408 : (2 < l0.length) = True := eq_true (by omega)
         (try rw [show ((2 : Int)).toNat = 2 from rfl] at hx408_0)
         replace hx408_0 := Zc HB.out hx408_0
         replace p408 := eq_true p408
         replace q408 := eq_true q408
         have p409 : 0 ≤ (3 : Int) := (by omega)
         have q409 : 3 < (l0.length : Int) := Zo
         obtain ⟨ad409, e409, hx409_0⟩ := Kd.at_int HR0.out 3 p409 q409
         obtain rfl : ad406 = ad409 := (by injection e409)
         (try simp only [show (3 : Int).toNat = 3 from rfl, Nat.reduceMul, Nat.reduceEqDiff, Go.Addr.add, ↓reduceIte] at hx409_0)
         have qi409 : (3 < l0.length) = True := eq_true (by omega)
         (try rw [show ((3 : Int)).toNat = 3 from rfl] at hx409_0)
         replace hx409_0 := Zc HB.out hx409_0
         replace p409 := eq_true p409
         replace q409 := eq_true q409
         go_wp2
         go_meet
         case rel => exact ⟨_, (true), (by first | rfl | (simp; done) | (simp [*]; done)), H', ⟨by first | omega | exact Nat.le_refl _⟩, ⟨by repeat (first | (with_reducible first | exact HB.out | apply Zf | apply Zd | apply Ze) | exact HB.out)⟩⟩
        rw [if_neg c12] at H
        have c12b0 : decide (600 < (Go.bits .or .i64 (wrap64 (rd l0 0)) (wrap64 ((wrap64 (rd l0 1)) * 256)))) = false := decide_eq_false c12
        clear c12
        have H' := Zh H
        clear H
        have p408 : 0 ≤ (2 : Int) := (by omega)
        have q408 : 2 < (l0.length : Int) := Zo
        obtain ⟨ad408, e408, hx408_0⟩ := Kd.at_int HR0.out 2 p408 q408
        obtain rfl : ad406 = ad408 := (by injection e408)
        (try simp only [show (2 : Int).toNat = 2 from rfl, Nat.reduceMul, Nat.reduceEqDiff, Go.Addr.add, ↓reduceIte] at hx408_0)
        have qi408 : (2 < l0.length) = True := eq_true (by omega)
        (try rw [show ((2 : Int)).toNat = 2 from rfl] at hx408_0)
        replace hx408_0 := Zc HB.out hx408_0
        replace p408 := eq_true p408
        replace q408 := eq_true q408
        have p409 : 0 ≤ (3 : Int) := (by omega)
        have q409 : 3 < (l0.length : Int) := Zo
        obtain ⟨ad409, e409, hx409_0⟩ := Kd.at_int HR0.out 3 p409 q409
        obtain rfl : ad406 = ad409 := (by injection e409)
        (try simp only [show (3 : Int).toNat = 3 from rfl, Nat.reduceMul, Nat.reduceEqDiff, Go.Addr.add, ↓reduceIte] at hx409_0)
        have qi409 : (3 < l0.length) = True := eq_true (by omega)
        (try rw [show ((3 : Int)).toNat = 3 from rfl] at hx409_0)
        replace hx409_0 := Zc HB.out hx409_0
        replace p409 := eq_true p409
        replace q409 := eq_true q409
        go_wp2
        go_meet
        case rel => exact ⟨_, (decide ((l0.length : Int) < (wrap64 (8 + (Go.bits .or .i64 (wrap64 (rd l0 0)) (wrap64 ((wrap64 (rd l0 1)) * 256))))))), (by first | rfl | (simp; done) | (simp [*]; done)), H', ⟨by first | omega | exact Nat.le_refl _⟩, ⟨by repeat (first | (with_reducible first | exact HB.out | apply Zf | apply Zd | apply Ze) | exact HB.out)⟩⟩
       rw [if_neg c10] at H
       have c10b0 : ((rd l0 3) == 0) = false := beq_eq_false_iff_ne.mpr c10
       have c10b1 : ((rd l0 3) != 0) = true := bne_iff_ne.mpr c10
       have H' := Zh H
       clear H
       have p408 : 0 ≤ (2 : Int) := (by omega)
       have q408 : 2 < (l0.length : Int) := Zo
       obtain ⟨ad408, e408, hx408_0⟩ := Kd.at_int HR0.out 2 p408 q408
       obtain rfl : ad406 = ad408 := (by injection e408)
       (try simp only [show (2 : Int).toNat = 2 from rfl, Nat.reduceMul, Nat.reduceEqDiff, Go.Addr.add, ↓reduceIte] at hx408_0)
       have qi408 : (2 < l0.length) = True := eq_true (by omega)
       (try rw [show ((2 : Int)).toNat = 2 from rfl] at hx408_0)
       replace hx408_0 := Zc HB.out hx408_0
       replace p408 := eq_true p408
       replace q408 := eq_true q408
       have p409 : 0 ≤ (3 : Int) := (by omega)
       have q409 : 3 < (l0.length : Int) := Zo
       obtain ⟨ad409, e409, hx409_0⟩ := Kd.at_int HR0.out 3 p409 q409
       obtain rfl : ad406 = ad409 := (by injection e409)
       (try simp only [show (3 : Int).toNat = 3 from rfl, Nat.reduceMul, Nat.reduceEqDiff, Go.Addr.add, ↓reduceIte] at hx409_0)
       have qi409 : (3 < l0.length) = True := eq_true (by omega)
       (try rw [show ((3 : Int)).toNat = 3 from rfl] at hx409_0)
       replace hx409_0 := Zc HB.out hx409_0
       replace p409 := eq_true p409
       replace q409 := eq_true q409
       go_wp2
       go_meet
       case rel => exact ⟨_, (true), (by first | rfl | (simp; done) | (simp [*]; done)), H', ⟨by first | omega | exact Nat.le_refl _⟩, ⟨by repeat (first | (with_reducible first | exact HB.out | apply Zf | apply Zd | apply Ze) | exact HB.out)⟩⟩
      rw [if_neg c9] at H
      exact absurd H (by simp)
     rw [if_neg c8] at H
     have c8b0 : ((rd l0 2) == 0) = false := beq_eq_false_iff_ne.mpr c8
     have c8b1 : ((rd l0 2) != 0) = true := bne_iff_ne.mpr c8
     have H' := Zh H
     clear H
     have p408 : 0 ≤ (2 : Int) := (by omega)
     have q408 : 2 < (l0.length : Int) := Zo
     obtain ⟨ad408, e408, hx408_0⟩ := Kd.at_int HR0.out 2 p408 q408
     obtain rfl : ad406 = ad408 := (by injection e408)
     (try simp only [show (2 : Int).toNat = 2 from rfl, Nat.reduceMul, Nat.reduceEqDiff, Go.Addr.add, ↓reduceIte] at hx408_0)
     have qi408 : (2 < l0.length) = True := eq_true (by omega)
     (try rw [show ((2 : Int)).toNat = 2 from rfl] at hx408_0)
     replace hx408_0 := Zc HB.out hx408_0
     replace p408 := eq_true p408
     replace q408 := eq_true q408
     go_wp2
     go_meet
     case rel => exact ⟨_, (true), (by first | rfl | (simp; done) | (simp [*]; done)), H', ⟨by first | omega | exact Nat.le_refl _⟩, ⟨by repeat (first | (with_reducible first | exact HB.out | apply Zf | apply Zd | apply Ze) | exact HB.out)⟩⟩
    rw [if_neg c7] at H
    exact absurd H (by simp)
   case rest =>
    clear HC5
    try clear c1
    try clear c2
    try clear c2b0
    try clear c2b1
    try clear p2
    try clear c3
    try clear c3b0
    try clear c3b1
    try clear c4
    try clear c4b0
    try clear c4b1
    try clear p4
    try clear q4
    try clear hx4
    try clear qi4
    try clear p6
    try clear c7
    try clear c7b0
    try clear c7b1
    try clear c8
    try clear c8b0
    try clear c8b1
    try clear c9
    try clear c9b0
    try clear c9b1
    try clear c10
    try clear c10b0
    try clear c10b1
    try clear c11
    try clear c11b0
    try clear c12
    try clear c12b0
    try clear hx406_0
    try clear hx407_0
    try clear hx408_0
    try clear hx409_0
    try clear p406
    try clear p407
    try clear p408
    try clear p409
    try clear q406
    try clear q407
    try clear q408
    try clear q409
    obtain ⟨kq, x41_4, rfl, HA, HJ4, HB⟩ := hcut
    cases kq with
    | zero => exact absurd HA.out (by simp [impl_beginsFrame.j0])
    | succ kj4 =>
     have H := HA.out
     clear HA
     simp only [impl_beginsFrame.j0] at H
     by_cases c13 : x41_4 = true
     ·
      subst c13
      have H1 : (some false) = some r := by rw [if_pos rfl] at H; exact H
      clear H
      have H := H1
      clear H1
      obtain rfl := Option.some.inj H
      go_wp2
      go_ret
      exact ⟨by first | rfl | (simp [errW_none, errW_some] <;> rfl) | (simp [*, errW_none, errW_some] <;> rfl), by repeat (first | (with_reducible first | exact HB.out | apply Zf | apply Zd | apply Ze) | exact HB.out)⟩
     replace c13 := Bool.eq_false_iff.mpr c13
     subst c13
     have H1 : (if 8 ≤ (wrap64 (8 + (Go.bits .or .i64 (wrap64 (rd l0 0)) (wrap64 ((wrap64 (rd l0 1)) * 256))))) then (if (wrap64 (8 + (Go.bits .or .i64 (wrap64 (rd l0 0)) (wrap64 ((wrap64 (rd l0 1)) * 256))))) ≤ (l0.length : Int) then ((impl_frame.f kj4 ((l0.take ((wrap64 (8 + (Go.bits .or .i64 (wrap64 (rd l0 0)) (wrap64 ((wrap64 (rd l0 1)) * 256))))) : Int).toNat).drop 8)).bind fun t411 => (if 0 ≤ (wrap64 (8 + (Go.bits .or .i64 (wrap64 (rd l0 0)) (wrap64 ((wrap64 (rd l0 1)) * 256))))) then ((bytes_Equal.f t411 (l0.take ((wrap64 (8 + (Go.bits .or .i64 (wrap64 (rd l0 0)) (wrap64 ((wrap64 (rd l0 1)) * 256))))) : Int).toNat)).bind fun t415 => (some t415)) else (none))) else (none)) else (none)) = some r := by rw [if_neg (show ¬ (false = true) by decide)] at H; exact H
     clear H
     have H := H1
     clear H1
     by_cases c14 : 8 ≤ (wrap64 (8 + (Go.bits .or .i64 (wrap64 (rd l0 0)) (wrap64 ((wrap64 (rd l0 1)) * 256)))))
     ·
      rw [if_pos c14] at H
      have c14b0 := eq_true c14
      have c14b1 : decide (8 ≤ (wrap64 (8 + (Go.bits .or .i64 (wrap64 (rd l0 0)) (wrap64 ((wrap64 (rd l0 1)) * 256)))))) = true := decide_eq_true c14
      by_cases c15 : (wrap64 (8 + (Go.bits .or .i64 (wrap64 (rd l0 0)) (wrap64 ((wrap64 (rd l0 1)) * 256))))) ≤ (l0.length : Int)
      ·
       rw [if_pos c15] at H
       have c15b0 := eq_true c15
       have c15b1 : decide ((wrap64 (8 + (Go.bits .or .i64 (wrap64 (rd l0 0)) (wrap64 ((wrap64 (rd l0 1)) * 256))))) ≤ (l0.length : Int)) = true := decide_eq_true c15
       replace H := Option.bind_eq_some_iff.mp H
       obtain ⟨t411, A160, H⟩ := H
       replace H : (if 0 ≤ (wrap64 (8 + (Go.bits .or .i64 (wrap64 (rd l0 0)) (wrap64 ((wrap64 (rd l0 1)) * 256))))) then ((bytes_Equal.f t411 (l0.take ((wrap64 (8 + (Go.bits .or .i64 (wrap64 (rd l0 0)) (wrap64 ((wrap64 (rd l0 1)) * 256))))) : Int).toNat)).bind fun t415 => (some t415)) else (none)) = some r := H
       have A16 := Zh A160
       clear A160
       obtain ⟨ji17, hji17⟩ : ∃ j_ : Int, (wrap64 (8 + (Go.bits .or .i64 (wrap64 (rd l0 0)) (wrap64 ((wrap64 (rd l0 1)) * 256))))) = j_ := ⟨_, rfl⟩
       replace H : (if 0 ≤ (ji17) then ((bytes_Equal.f t411 (l0.take ((ji17) : Int).toNat)).bind fun t415 => (some t415)) else (none)) = some r := by first | (rw [hji17] at H; exact H) | (simp only [hji17] at H ⊢; exact H)
       (try rw [hji17] at c14b0)
       (try rw [hji17] at c14b1)
       (try rw [hji17] at c14)
       (try rw [hji17] at c15b0)
       (try rw [hji17] at c15b1)
       (try rw [hji17] at c15)
       (try rw [hji17] at A16)
       have hji17w : (IntKind.i64.wrap (8 + (Go.bits .or .i64 (wrap64 (rd l0 0)) (wrap64 ((wrap64 (rd l0 1)) * 256))))) = ji17 := (i64_w _).trans hji17
       by_cases c18 : 0 ≤ (ji17)
       ·
        rw [if_pos c18] at H
        have c18b0 := eq_true c18
        have c18b1 : decide (0 ≤ (ji17)) = true := decide_eq_true c18
        clear c18
        have c19b0 := eq_true (Zo : (ji17) ≤ (l0.length : Int))
        replace H := Option.bind_eq_some_iff.mp H
        obtain ⟨t415, A200, H⟩ := H
        replace H : (some t415) = some r := H
        have A20 := Zh A200
        clear A200
        obtain rfl := Option.some.inj H
        try go_wp2
        have n0_ := Zh (Ze HB.out)
        clear HB
        have HB := n0_
        clear n0_
        obtain ⟨i022, hi022, _, hsz22, _⟩ := info_parts info5
        obtain ⟨A22, hcut22, hA22, hC22⟩ := print_mid_of (P := Tryd.prog) (Value.int .u8) 0 41 5 .i64 .i64 Tryd.underlying41 hi022 hsz22 (some ad406) c0 l0 8 (ji17) (by omega) (by first | omega | exact Zo) (Zo) HC0.out
        have HR410 := Zh (C_of_reads (h1 := fun _ => rfl) (hA22 _ (Kd.reads_of_C HR0.out)))
        have HC410 := Zh hC22
        clear hA22 hC22 hi022 hsz22
        obtain ⟨i023, hi023, _, hsz23, _⟩ := info_parts info5
        obtain ⟨hcut23, hA23, hC23⟩ := print_take_of (P := Tryd.prog) (Value.int .u8) 0 41 5 .i64 Tryd.underlying41 hi023 hsz23 (some ad406) c0 l0 (ji17) (Zo) (Zo) HC0.out
        have HR414 := Zh (C_of_reads (h1 := fun _ => rfl) (hA23 _ (Kd.reads_of_C HR0.out)))
        have HC414 := Zh hC23
        clear hA23 hC23 hi023 hsz23
        refine start_ (n := 11) (S := fun w' => True) (ds := []) #[false, false, false, false, false, false, false, false, false, false, false] (by kernel_rfl) rfl rfl trivial (fun hHeld => ?_); refine with_tabW impl_beginsFrame.tab6 impl_beginsFrame.bits6 (fun HT_ HW_ => ?_)
        generalize wc.drew = w21 at HB HR410 HR414 hHeld ⊢
        refine SQ.pu 0 42 HT_ ?_
        refine SQ.pu 1 43 HT_ ?_
        refine SQ.pu 2 44 HT_ ?_
        refine SQ.pu 3 45 HT_ ?_
        refine SQ.pu 5 47 HT_ ?_
        refine SQ.pu 6 48 HT_ ?_
        refine SQ.pu 7 49 HT_ ?_
        refine SQ.pu 8 50 HT_ ?_
        refine one_ (i := 4) (N := some 46) #[true, true, true, true, true, true, true, true, true, false, false] rfl rfl (one_of HT_.out (by kernel_rfl)) (by decide) (fun K hK => ?_)
        refine goes_ Tryd.func60 (by kernel_rfl) rfl #[.slice A22 ((l0.take ((ji17) : Int).toNat).drop 8).length (c0 - 8)] (by rfl) rfl rfl (by (try simp only [List.map_toArray, List.map_cons, List.map_nil]); first | done | (rw [show ((l0.take ((ji17) : Int).toNat).drop 8).length = ((ji17).toNat - 8) from (by rw [List.length_drop, List.length_take]; have h_ : ((ji17) : Int) ≤ (l0.length : Int) := Zo; omega)] <;> rfl) | (simp only [hji17]; rfl) | rfl | (simp only [List.length_drop, List.length_take]; rfl)) ?_
        with_reducible refine (impl_frame.calls kj4 _ _ ((l0.take ((ji17) : Int).toNat).drop 8) t411 _ ?side1 ?side2 A16.out).mono ?_
        (case side1 => repeat (first | exact (C_below HR410.out HB.out) | (with_reducible refine C_alloc ?_ _) | (with_reducible refine C_drewN ?_ _) | (with_reducible refine C_drew ?_)))
        (case side2 => exact HC410.out)
        rintro e w24 ⟨v412, rfl, ho0, hb⟩
        refine ⟨_, rfl, ?_⟩
        have n0_ := Zh (R_lower ho0 (below_size Zs))
        have n1_ := Zh (Zl Zs hb)
        clear HB
        have HO413 := n0_
        have HB := n1_
        clear n0_ n1_
        (try clear hb)
        (try clear hb2)
        (try clear hk)
        (try clear hi)
        (try clear ho0)
        obtain ⟨Ao25, co25, eo25⟩ := R_slice HO413.out
        (first | subst eo25 | (injection eo25 with f1_ f2_ f3_; have f4_ := f1_.symm; have f5_ := f3_.symm; clear f1_ f2_ f3_; subst f4_; subst f5_))
        refine hK.out _ _ trivial (fun hHeld => ?_)
        clear hK K
        refine norm_ (a' := ?_) ?_ ?_
        rotate_left
        ·
         show Act.put _ (some 46) _ = _
         simp only [Act.put, List.setIfInBounds_toArray, List.set_cons_zero, List.set_cons_succ, i64_w, i32_w]
         rfl
        refine one_ (i := 9) (N := some 51) #[true, true, true, true, true, true, true, true, true, true, false] rfl rfl (one_of HT_.out (by kernel_rfl)) (by decide) (fun K hK => ?_)
        refine goes_ Tryd.func106 (by kernel_rfl) rfl #[.slice Ao25 t411.length co25, .slice (some ad406) (l0.take ((ji17) : Int).toNat).length c0] (by rfl) rfl rfl (by (try simp only [List.map_toArray, List.map_cons, List.map_nil]); first | done | (rw [show (l0.take ((ji17) : Int).toNat).length = (ji17).toNat from (by rw [List.length_take]; have h_ : ((ji17) : Int) ≤ (l0.length : Int) := Zo; omega)] <;> rfl) | (simp only [hji17]; rfl) | rfl | (simp only [List.length_drop, List.length_take]; rfl)) ?_
        with_reducible refine (bytes_Equal.calls _ _ t411 _ _ (l0.take ((ji17) : Int).toNat) t415 _ ?side1 ?side2 ?side3 ?side4 A20.out).mono ?_
        (case side1 => repeat (first | exact (R_reads' HO413.out).2.2 | (with_reducible refine C_alloc ?_ _) | (with_reducible refine C_drewN ?_ _) | (with_reducible refine C_drew ?_)))
        (case side2 => exact (R_reads' HO413.out).2.1)
        (case side3 => repeat (first | exact (C_below HR414.out HB.out) | (with_reducible refine C_alloc ?_ _) | (with_reducible refine C_drewN ?_ _) | (with_reducible refine C_drew ?_)))
        (case side4 => exact HC414.out)
        rintro e w' ⟨rfl, ⟨nd, rfl⟩⟩
        refine ⟨_, rfl, ?_⟩
        refine hK.out _ _ trivial (fun hHeld => ?_)
        clear hK K
        refine norm_ (a' := ?_) ?_ ?_
        rotate_left
        ·
         show Act.put _ (some 51) _ = _
         simp only [Act.put, List.setIfInBounds_toArray, List.set_cons_zero, List.set_cons_succ, i64_w, i32_w]
         rfl
        refine SQ.pu 10 2 HT_ ?_
        refine done_ (done_of HT_.out (by kernel_rfl)) ?_
        try go_wp2
        go_ret
        exact ⟨by first | rfl | (simp [errW_none, errW_some] <;> rfl) | (simp only [← hji17]; first | rfl | (simp [errW_none, errW_some] <;> rfl)) | (simp [*, errW_none, errW_some] <;> rfl), by repeat (first | (with_reducible first | exact HB.out | apply Zf | apply Zd | apply Ze) | exact HB.out)⟩
       rw [if_neg c18] at H
       exact absurd H (by simp)
      rw [if_neg c15] at H
      exact absurd H (by simp)
     rw [if_neg c14] at H
     exact absurd H (by simp)
  rw [if_neg c4] at H
  exact absurd H (by simp)
 rw [if_neg c3] at H
 exact absurd H (by simp)
end Go.Proofs.YtcgojdhbphocgaaDoor.F

namespace Go.Proofs.YtcgojdhbphocgaaDoor.F
open Go.RowKit Go.Proofs.YtcgojdhbphocgaaDoorW.PrintWords Go.Proofs.YtcgojdhbphocgaaDoorW.PrintWords.Kd Go.Proofs.YtcgojdhbphocgaaDoorW.PrintMore.Kd Go.Proofs.YtcgojdhbphocgaaDoorW.PrintLast Go.Proofs.YtcgojdhbphocgaaDoorW.PrintMore
attribute [local go_sem] max2_int min2_int max_two min_two max_three min_three max_four min_four   -- for this text's walks alone
set_option linter.unusedVariables false
set_option linter.unusedSimpArgs false
mutual
def impl_walRead.j0 : Nat → Int → Bool → List (S55) → Option ((List (List Int)) × Int × Int)
 | 0, _, _, _ => none
 | k + 1, x5, x18, x417000 => if x18 = true then (some (([] : List (List Int)), 0, 3)) else (if 0 ≤ x5 then (if x5 < (x417000.length : Int) then ((impl_File_content.f ((rd_T55 x417000 x5).f0) ((rd_T55 x417000 x5).f1) ((rd_T55 x417000 x5).f2)).bind fun t420 => ((impl_scanFrames.f k t420).bind fun bt423 => (if bt423.2 = (t420.length : Int) then (some (bt423.1, bt423.2, 0)) else (impl_walRead.l0 k t420 bt423.1 bt423.2 (wrap64 (bt423.2 + 1)))))) else (none)) else (none))
def impl_walRead.l0 : Nat → List Int → List (List Int) → Int → Int → Option ((List (List Int)) × Int × Int)
 | 0, _, _, _, _ => none
 | k + 1, x6, x7, x8, x9 => if x9 < (x6.length : Int) then (if 0 ≤ x9 then (if x9 ≤ (x6.length : Int) then ((impl_beginsFrame.f k (x6.drop (x9 : Int).toNat)).bind fun t431 => (if t431 = true then (some (x7, x8, 2)) else (impl_walRead.l0 k x6 x7 x8 (wrap64 (x9 + 1))))) else (none)) else (none)) else (some (x7, x8, 1))
end
def impl_walRead.f (k : Nat) (l0_0 : List (S55)) : Option ((List (List Int)) × Int × Int) := (impl_fileOf.f l0_0 (⟨#[108, 111, 103]⟩ : ByteArray)).bind fun t417 => ((impl_isDisk.f k l0_0).bind fun t418 => (if t418 = true then (impl_walRead.j0 k t417 (decide (t417 < 0)) l0_0) else (impl_walRead.j0 k t417 true l0_0)))
set_option maxHeartbeats 8000000 in
set_option maxRecDepth 100000 in
theorem impl_walRead.calls (k : Nat) (A0_0 : Option Addr) (c0_0 : Nat) (l0_0 : List (S55)) (r1 : List (List Int)) (r2 : Int) (r3 : Int) (w : World) (hr0_0 : Kd.C k55 w A0_0 l0_0.length l0_0) (hc0_0 : l0_0.length ≤ c0_0) (h : impl_walRead.f k l0_0 = some (r1, r2, r3)) :
  Calls Tryd.prog 49 #[.agg #[.slice A0_0 l0_0.length c0_0]] w fun e w' => ∃ v0_ : Value, e = .returned (.tuple #[v0_, .int .i64 r2, .int .i64 r3]) ∧ Kd.S (Kd.slice 5 (Kd.int .u8)) 41 w' w.heap.size (fun _ => True) v0_ r1 ∧ Below w.heap.size w w' := by
 have hu28 := Tryd.underlying28
 have hu55 := Tryd.underlying55
 have HR0_0 := Zh hr0_0
 have HC0_0 := Zh hc0_0
 clear hr0_0 hc0_0
 have HB := Zh (Below.refl w.heap.size w)
 have H : ((impl_fileOf.f l0_0 (⟨#[108, 111, 103]⟩ : ByteArray)).bind fun t417 => ((impl_isDisk.f k l0_0).bind fun t418 => (if t418 = true then (impl_walRead.j0 k t417 (decide (t417 < 0)) l0_0) else (impl_walRead.j0 k t417 true l0_0)))) = some (r1, r2, r3) := h
 clear h
 replace H := Option.bind_eq_some_iff.mp H
 obtain ⟨t417, A20, H⟩ := H
 replace H : ((impl_isDisk.f k l0_0).bind fun t418 => (if t418 = true then (impl_walRead.j0 k t417 (decide (t417 < 0)) l0_0) else (impl_walRead.j0 k t417 true l0_0))) = some (r1, r2, r3) := H
 have A2 := Zh A20
 clear A20
 have HC3 := Zh H
 clear H
 go_enter Tryd.func49, Tryd.ntmps49
 go_upto_region 2 with (first | ((with_reducible refine gate_dst (N := 1) rfl ?_); refine box_event ?hg (N := 1) ?hd (cs := #[.slice A0_0 l0_0.length c0_0]) (t := 28) ?hr ?_; (case hd => rfl); (case hg => rfl); (case hr => first | (go_simp; done) | (go_simp; rfl)); intro gb416 hg w4 hbox hb; have n0_ := Zh (Zl Zs hb); have n1_ := Zh (hbox); have n2_ := Zh ((by rw [hg]; exact (below_size Zs) : w.heap.size ≤ gb416)); have n3_ := Zh ((by rw [hg]; exact (below_size Zs) : w.heap.size ≤ gb416)); clear HB; have HB := n0_; have BK416 := n1_; have GW416 := n2_; have GE416 := n3_; clear n0_ n1_ n2_ n3_; clear hb hbox hg; have hcz5_0 : w4.cell? ⟨gb416, 0, none⟩ = some (.slice A0_0 l0_0.length c0_0) := (blk_cell BK416.out 0).trans rfl; have hfz5_0 := Zn BK416.out 0) | ((with_reducible refine gate_callee (f := 74) rfl ?_); refine goesL_ (some 11) rfl rfl Tryd.func74 (by kernel_rfl) rfl #[.agg #[.slice A0_0 l0_0.length c0_0], .string (⟨#[108, 111, 103]⟩ : ByteArray)] rfl (by (try simp only [List.map_toArray, List.map_cons, List.map_nil]); first | done | rfl | (simp only [List.length_drop, List.length_take]; rfl)) ?_; (with_reducible refine (impl_fileOf.calls _ _ l0_0 (⟨#[108, 111, 103]⟩ : ByteArray) t417 _ ?side1 ?side2 A2.out).mono ?_); (case side1 => repeat (first | exact (C_below HR0_0.out HB.out) | (with_reducible refine C_alloc ?_ _) | (with_reducible refine C_drewN ?_ _) | (with_reducible refine C_drew ?_))); (case side2 => exact HC0_0.out); rintro e w6 ⟨rfl, hb⟩; refine ⟨_, rfl, ?_⟩; have n0_ := Zh (Zm (g := gb416) (o := .cells #[.slice A0_0 l0_0.length c0_0] 28 (0, 0)) Zk hb); have n1_ := Zh (Zl Zs hb); clear BK416; clear HB; have BK416 := n0_; have HB := n1_; clear n0_ n1_; (try clear hb); (try clear hb2); (try clear hk); (try clear hi)))
 (try simp only [Act.put, List.setIfInBounds_toArray, List.set_cons_zero, List.set_cons_succ])
 go_cut [18] (fun v18 wc => ∃ (kq : Nat) (x18_2 : Bool), v18 = .bool x18_2 ∧ Aside0 (impl_walRead.j0 kq t417 x18_2 l0_0 = some (r1, r2, r3)) ∧ Aside0 (kq ≤ k) ∧ Aside0 (wc.heap[gb416]? = some (.cells #[(.slice A0_0 l0_0.length c0_0)] 28 (0, 0))) ∧ Aside0 (Below w.heap.size w wc))
 case first =>
  have H := HC3.out
  clear HC3
  replace H := Option.bind_eq_some_iff.mp H
  obtain ⟨t418, A70, H⟩ := H
  replace H : (if t418 = true then (impl_walRead.j0 k t417 (decide (t417 < 0)) l0_0) else (impl_walRead.j0 k t417 true l0_0)) = some (r1, r2, r3) := H
  have A7 := Zh A70
  clear A70
  by_cases c8 : t418 = true
  ·
   subst c8
   have H1 : (impl_walRead.j0 k t417 (decide (t417 < 0)) l0_0) = some (r1, r2, r3) := by rw [if_pos rfl] at H; exact H
   clear H
   have H := H1
   clear H1
   have H' := Zh H
   clear H
   have hcz9_0 : w6.cell? ⟨gb416, 0, none⟩ = some (.slice A0_0 l0_0.length c0_0) := (blk_cell BK416.out 0).trans rfl
   have hfz9_0 := Zn BK416.out 0
   go_wp2_with (first | ((with_reducible refine gate_callee (f := 72) rfl ?_); refine goesL_ (some 13) rfl rfl Tryd.func72 (by kernel_rfl) rfl #[.agg #[.slice A0_0 l0_0.length c0_0]] rfl (by (try simp only [List.map_toArray, List.map_cons, List.map_nil]); first | done | rfl | (simp only [List.length_drop, List.length_take]; rfl)) ?_; (with_reducible refine (impl_isDisk.calls k _ _ l0_0 true _ ?side1 ?side2 A7.out).mono ?_); (case side1 => repeat (first | exact (C_below HR0_0.out HB.out) | (with_reducible refine C_alloc ?_ _) | (with_reducible refine C_drewN ?_ _) | (with_reducible refine C_drew ?_))); (case side2 => exact HC0_0.out); rintro e w10 ⟨rfl, hb⟩; refine ⟨_, rfl, ?_⟩; have n0_ := Zh (Zm (g := gb416) (o := .cells #[.slice A0_0 l0_0.length c0_0] 28 (0, 0)) Zk hb); have n1_ := Zh (Zl Zs hb); clear BK416; clear HB; have BK416 := n0_; have HB := n1_; clear n0_ n1_; (try clear hb); (try clear hb2); (try clear hk); (try clear hi)))
   go_meet
   case rel => exact ⟨_, (decide (t417 < 0)), (by first | rfl | (simp; done) | (simp [*]; done)), H', ⟨by first | omega | exact Nat.le_refl _⟩, ⟨by (with_reducible repeat (first | refine Za ?_ _ | refine Zb ?_ | refine blk_alloc ?_ _)); exact BK416.out⟩, ⟨by repeat (first | (with_reducible first | exact HB.out | apply Zf | apply Zd | apply Ze | refine Zg ?_ GE416.out) | exact HB.out)⟩⟩
  replace c8 := Bool.eq_false_iff.mpr c8
  subst c8
  have H1 : (impl_walRead.j0 k t417 true l0_0) = some (r1, r2, r3) := by rw [if_neg (show ¬ (false = true) by decide)] at H; exact H
  clear H
  have H := H1
  clear H1
  have H' := Zh H
  clear H
  have hcz11_0 : w6.cell? ⟨gb416, 0, none⟩ = some (.slice A0_0 l0_0.length c0_0) := (blk_cell BK416.out 0).trans rfl
  have hfz11_0 := Zn BK416.out 0
  go_wp2_with (first | ((with_reducible refine gate_callee (f := 72) rfl ?_); refine goesL_ (some 13) rfl rfl Tryd.func72 (by kernel_rfl) rfl #[.agg #[.slice A0_0 l0_0.length c0_0]] rfl (by (try simp only [List.map_toArray, List.map_cons, List.map_nil]); first | done | rfl | (simp only [List.length_drop, List.length_take]; rfl)) ?_; (with_reducible refine (impl_isDisk.calls k _ _ l0_0 false _ ?side1 ?side2 A7.out).mono ?_); (case side1 => repeat (first | exact (C_below HR0_0.out HB.out) | (with_reducible refine C_alloc ?_ _) | (with_reducible refine C_drewN ?_ _) | (with_reducible refine C_drew ?_))); (case side2 => exact HC0_0.out); rintro e w12 ⟨rfl, hb⟩; refine ⟨_, rfl, ?_⟩; have n0_ := Zh (Zm (g := gb416) (o := .cells #[.slice A0_0 l0_0.length c0_0] 28 (0, 0)) Zk hb); have n1_ := Zh (Zl Zs hb); clear BK416; clear HB; have BK416 := n0_; have HB := n1_; clear n0_ n1_; (try clear hb); (try clear hb2); (try clear hk); (try clear hi)))
  go_meet
  case rel => exact ⟨_, (true), (by first | rfl | (simp; done) | (simp [*]; done)), H', ⟨by first | omega | exact Nat.le_refl _⟩, ⟨by (with_reducible repeat (first | refine Za ?_ _ | refine Zb ?_ | refine blk_alloc ?_ _)); exact BK416.out⟩, ⟨by repeat (first | (with_reducible first | exact HB.out | apply Zf | apply Zd | apply Ze | refine Zg ?_ GE416.out) | exact HB.out)⟩⟩
 case rest =>
  clear HC3
  try clear p2
  try clear c4
  try clear c7
  try clear c8
  try clear hcz11_0
  try clear hcz5_0
  try clear hcz9_0
  try clear hfz11_0
  try clear hfz5_0
  try clear hfz9_0
  obtain ⟨kq, x18_2, rfl, HA, HJ2, BK416, HB⟩ := hcut
  cases kq with
  | zero => exact absurd HA.out (by simp [impl_walRead.j0])
  | succ kj2 =>
   have H := HA.out
   clear HA
   simp only [impl_walRead.j0] at H
   by_cases c13 : x18_2 = true
   ·
    subst c13
    have H1 : (some (([] : List (List Int)), 0, 3)) = some (r1, r2, r3) := by rw [if_pos rfl] at H; exact H
    clear H
    have H := H1
    clear H1
    simp only [Option.some.injEq, Prod.mk.injEq] at H
    obtain ⟨rfl, rfl, rfl⟩ := H
    go_wp2
    go_ret3
    exact ⟨_, by first | rfl | (simp [errW_none, errW_some] <;> rfl) | (simp [*, errW_none, errW_some] <;> rfl), by first | exact S_nil _ _ _ _ _ | exact N_nil _ _ _ _ _ | exact V_nil _ _ _ _ _ | exact Q_nil _ _ _ _ _ | exact R_nil _ _ _ _ _, by repeat (first | (with_reducible first | exact HB.out | apply Zf | apply Zd | apply Ze | refine Zg ?_ GE416.out) | exact HB.out)⟩
   replace c13 := Bool.eq_false_iff.mpr c13
   subst c13
   have H1 : (if 0 ≤ t417 then (if t417 < (l0_0.length : Int) then ((impl_File_content.f ((rd_T55 l0_0 t417).f0) ((rd_T55 l0_0 t417).f1) ((rd_T55 l0_0 t417).f2)).bind fun t420 => ((impl_scanFrames.f kj2 t420).bind fun bt423 => (if bt423.2 = (t420.length : Int) then (some (bt423.1, bt423.2, 0)) else (impl_walRead.l0 kj2 t420 bt423.1 bt423.2 (wrap64 (bt423.2 + 1)))))) else (none)) else (none)) = some (r1, r2, r3) := by rw [if_neg (show ¬ (false = true) by decide)] at H; exact H
   clear H
   have H := H1
   clear H1
   by_cases c14 : 0 ≤ t417
   ·
    rw [if_pos c14] at H
    have c14b0 : decide (0 ≤ t417) = true := decide_eq_true c14
    clear c14
    by_cases c15 : t417 < (l0_0.length : Int)
    ·
     rw [if_pos c15] at H
     have c15b0 : decide (t417 < (l0_0.length : Int)) = true := decide_eq_true c15
     clear c15
     replace H := Option.bind_eq_some_iff.mp H
     obtain ⟨t420, A160, H⟩ := H
     replace H : ((impl_scanFrames.f kj2 t420).bind fun bt423 => (if bt423.2 = (t420.length : Int) then (some (bt423.1, bt423.2, 0)) else (impl_walRead.l0 kj2 t420 bt423.1 bt423.2 (wrap64 (bt423.2 + 1))))) = some (r1, r2, r3) := H
     have A16 := Zh A160
     clear A160
     replace H := Option.bind_eq_some_iff.mp H
     obtain ⟨⟨t423, t424⟩, A170, H⟩ := H
     replace H : (if t424 = (t420.length : Int) then (some (t423, t424, 0)) else (impl_walRead.l0 kj2 t420 t423 t424 (wrap64 (t424 + 1)))) = some (r1, r2, r3) := H
     have A17 := Zh A170
     clear A170
     by_cases c18 : t424 = (t420.length : Int)
     ·
      rw [if_pos c18] at H
      have c18b0 : (t424 == (t420.length : Int)) = true := beq_iff_eq.mpr c18
      have c18b1 : (t424 != (t420.length : Int)) = false := bne_eq_false_iff_eq.mpr c18
      clear c18
      simp only [Option.some.injEq, Prod.mk.injEq] at H
      obtain ⟨rfl, rfl, rfl⟩ := H
      have hcz19_0 : wc.cell? ⟨gb416, 0, none⟩ = some (.slice A0_0 l0_0.length c0_0) := (blk_cell BK416.out 0).trans rfl
      have hfz19_0 := Zn BK416.out 0
      have p419 : 0 ≤ (t417 : Int) := Zo
      have q419 : t417 < (l0_0.length : Int) := Zo
      obtain ⟨ad419, A419_1, c419_1, A419_2, c419_2, e419, hx419_0, hx419_1, hx419_2, hl419_1, hi419_1, hl419_2, hi419_2⟩ := at_T55 HR0_0.out t417 p419 q419
      cases e419
      replace hx419_0 := Zc HB.out hx419_0
      replace hx419_1 := Zc HB.out hx419_1
      replace hx419_2 := Zc HB.out hx419_2
      have HR419_1 := Zh hi419_1
      have HC419_1 := Zh hl419_1
      clear hi419_1 hl419_1
      have HR419_2 := Zh hi419_2
      have HC419_2 := Zh hl419_2
      clear hi419_2 hl419_2
      replace p419 := eq_true p419
      replace q419 := eq_true q419
      go_wp2_with (first | ((with_reducible refine gate_callee (f := 75) rfl ?_); refine goesL_ (some 24) rfl rfl Tryd.func75 (by kernel_rfl) rfl #[.agg #[.string ((rd_T55 l0_0 t417).f0), .slice A419_1 ((rd_T55 l0_0 t417).f1).length c419_1, .slice A419_2 ((rd_T55 l0_0 t417).f2).length c419_2]] rfl (by (try simp only [List.map_toArray, List.map_cons, List.map_nil]); first | done | rfl | (simp only [List.length_drop, List.length_take]; rfl)) ?_; (with_reducible refine (impl_File_content.calls ((rd_T55 l0_0 t417).f0) _ _ ((rd_T55 l0_0 t417).f1) _ _ ((rd_T55 l0_0 t417).f2) t420 _ ?side1 ?side2 ?side3 ?side4 A16.out).mono ?_); (case side1 => repeat (first | exact (C_below HR419_1.out HB.out) | (with_reducible refine C_alloc ?_ _) | (with_reducible refine C_drewN ?_ _) | (with_reducible refine C_drew ?_))); (case side2 => exact HC419_1.out); (case side3 => repeat (first | exact (C_below HR419_2.out HB.out) | (with_reducible refine C_alloc ?_ _) | (with_reducible refine C_drewN ?_ _) | (with_reducible refine C_drew ?_))); (case side4 => exact HC419_2.out); rintro e w20 ⟨v421, rfl, ho0, hb⟩; refine ⟨_, rfl, ?_⟩; have n0_ := Zh (R_lower ho0 (below_size Zs)); have n1_ := Zh (Zm (g := gb416) (o := .cells #[.slice (some ad419) l0_0.length c0_0] 28 (0, 0)) Zk hb); have n2_ := Zh (Zl Zs hb); clear BK416; clear HB; have HO422 := n0_; have BK416 := n1_; have HB := n2_; clear n0_ n1_ n2_; (try clear hb); (try clear hb2); (try clear hk); (try clear hi); (try clear ho0); obtain ⟨Ao21, co21, eo21⟩ := R_slice HO422.out; subst eo21) | ((with_reducible refine gate_callee (f := 81) rfl ?_); refine goesL_ (some 27) rfl rfl Tryd.func81 (by kernel_rfl) rfl #[.slice Ao21 t420.length co21] rfl (by (try simp only [List.map_toArray, List.map_cons, List.map_nil]); first | done | rfl | (simp only [List.length_drop, List.length_take]; rfl)) ?_; (with_reducible refine (impl_scanFrames.calls kj2 _ _ t420 t423 t424 _ ?side1 ?side2 A17.out).mono ?_); (case side1 => repeat (first | exact (R_reads' HO422.out).2.2 | (with_reducible refine C_alloc ?_ _) | (with_reducible refine C_drewN ?_ _) | (with_reducible refine C_drew ?_))); (case side2 => exact (R_reads' HO422.out).2.1); rintro e w22 ⟨v425, rfl, ho0, hb⟩; refine ⟨_, rfl, ?_⟩; have n0_ := Zh (R_below (by (with_reducible repeat (first | apply R_alloc | apply R_drewN | apply R_drew)); exact HO422.out) hb); have n1_ := Zh (S_lower (S_new' ho0 (R_lt (by (with_reducible repeat (first | apply R_alloc | apply R_drewN | apply R_drew)); exact HO422.out))) (below_size Zs)); have n2_ := Zh (Zm (g := gb416) (o := .cells #[.slice (some ad419) l0_0.length c0_0] 28 (0, 0)) Zk hb); have n3_ := Zh (Zl Zs hb); clear HO422; clear BK416; clear HB; have HO422 := n0_; have HO426 := n1_; have BK416 := n2_; have HB := n3_; clear n0_ n1_ n2_ n3_; (try clear hb); (try clear hb2); (try clear hk); (try clear hi); (try clear ho0)))
      go_ret3
      exact ⟨_, by first | rfl | (simp [errW_none, errW_some] <;> rfl) | (simp [*, errW_none, errW_some] <;> rfl), by (with_reducible repeat (first | apply S_alloc | apply S_drewN | apply S_drew)); exact S_mono HO426.out (fun _ hk => trivial), by repeat (first | (with_reducible first | exact HB.out | apply Zf | apply Zd | apply Ze | refine Zg ?_ GE416.out) | exact HB.out)⟩
     rw [if_neg c18] at H
     have c18b0 : (t424 == (t420.length : Int)) = false := beq_eq_false_iff_ne.mpr c18
     have c18b1 : (t424 != (t420.length : Int)) = true := bne_iff_ne.mpr c18
     have H' := Zh H
     clear H
     have hcz23_0 : wc.cell? ⟨gb416, 0, none⟩ = some (.slice A0_0 l0_0.length c0_0) := (blk_cell BK416.out 0).trans rfl
     have hfz23_0 := Zn BK416.out 0
     have p419 : 0 ≤ (t417 : Int) := Zo
     have q419 : t417 < (l0_0.length : Int) := Zo
     obtain ⟨ad419, A419_1, c419_1, A419_2, c419_2, e419, hx419_0, hx419_1, hx419_2, hl419_1, hi419_1, hl419_2, hi419_2⟩ := at_T55 HR0_0.out t417 p419 q419
     cases e419
     replace hx419_0 := Zc HB.out hx419_0
     replace hx419_1 := Zc HB.out hx419_1
     replace hx419_2 := Zc HB.out hx419_2
     have HR419_1 := Zh hi419_1
     have HC419_1 := Zh hl419_1
     clear hi419_1 hl419_1
     have HR419_2 := Zh hi419_2
     have HC419_2 := Zh hl419_2
     clear hi419_2 hl419_2
     replace p419 := eq_true p419
     replace q419 := eq_true q419
     go_wp2_with (first | ((with_reducible refine gate_callee (f := 75) rfl ?_); refine goesL_ (some 24) rfl rfl Tryd.func75 (by kernel_rfl) rfl #[.agg #[.string ((rd_T55 l0_0 t417).f0), .slice A419_1 ((rd_T55 l0_0 t417).f1).length c419_1, .slice A419_2 ((rd_T55 l0_0 t417).f2).length c419_2]] rfl (by (try simp only [List.map_toArray, List.map_cons, List.map_nil]); first | done | rfl | (simp only [List.length_drop, List.length_take]; rfl)) ?_; (with_reducible refine (impl_File_content.calls ((rd_T55 l0_0 t417).f0) _ _ ((rd_T55 l0_0 t417).f1) _ _ ((rd_T55 l0_0 t417).f2) t420 _ ?side1 ?side2 ?side3 ?side4 A16.out).mono ?_); (case side1 => repeat (first | exact (C_below HR419_1.out HB.out) | (with_reducible refine C_alloc ?_ _) | (with_reducible refine C_drewN ?_ _) | (with_reducible refine C_drew ?_))); (case side2 => exact HC419_1.out); (case side3 => repeat (first | exact (C_below HR419_2.out HB.out) | (with_reducible refine C_alloc ?_ _) | (with_reducible refine C_drewN ?_ _) | (with_reducible refine C_drew ?_))); (case side4 => exact HC419_2.out); rintro e w24 ⟨v421, rfl, ho0, hb⟩; refine ⟨_, rfl, ?_⟩; have n0_ := Zh (R_lower ho0 (below_size Zs)); have n1_ := Zh (Zm (g := gb416) (o := .cells #[.slice (some ad419) l0_0.length c0_0] 28 (0, 0)) Zk hb); have n2_ := Zh (Zl Zs hb); clear BK416; clear HB; have HO422 := n0_; have BK416 := n1_; have HB := n2_; clear n0_ n1_ n2_; (try clear hb); (try clear hb2); (try clear hk); (try clear hi); (try clear ho0); obtain ⟨Ao25, co25, eo25⟩ := R_slice HO422.out; subst eo25) | ((with_reducible refine gate_callee (f := 81) rfl ?_); refine goesL_ (some 27) rfl rfl Tryd.func81 (by kernel_rfl) rfl #[.slice Ao25 t420.length co25] rfl (by (try simp only [List.map_toArray, List.map_cons, List.map_nil]); first | done | rfl | (simp only [List.length_drop, List.length_take]; rfl)) ?_; (with_reducible refine (impl_scanFrames.calls kj2 _ _ t420 t423 t424 _ ?side1 ?side2 A17.out).mono ?_); (case side1 => repeat (first | exact (R_reads' HO422.out).2.2 | (with_reducible refine C_alloc ?_ _) | (with_reducible refine C_drewN ?_ _) | (with_reducible refine C_drew ?_))); (case side2 => exact (R_reads' HO422.out).2.1); rintro e w26 ⟨v425, rfl, ho0, hb⟩; refine ⟨_, rfl, ?_⟩; have n0_ := Zh (R_below (by (with_reducible repeat (first | apply R_alloc | apply R_drewN | apply R_drew)); exact HO422.out) hb); have n1_ := Zh (S_lower (S_new' ho0 (R_lt (by (with_reducible repeat (first | apply R_alloc | apply R_drewN | apply R_drew)); exact HO422.out))) (below_size Zs)); have n2_ := Zh (Zm (g := gb416) (o := .cells #[.slice (some ad419) l0_0.length c0_0] 28 (0, 0)) Zk hb); have n3_ := Zh (Zl Zs hb); clear HO422; clear BK416; clear HB; have HO422 := n0_; have HO426 := n1_; have BK416 := n2_; have HB := n3_; clear n0_ n1_ n2_ n3_; (try clear hb); (try clear hb2); (try clear hk); (try clear hi); (try clear ho0)))
     go_loopg [9] kj2 (fun kq v9 w' => ∃ (x9_2 : Int), v9 = .int .i64 x9_2 ∧ Aside0 (impl_walRead.l0 kq t420 t423 t424 x9_2 = some (r1, r2, r3)) ∧ Aside0 (kq ≤ kj2) ∧ Aside0 (Kd.R (Kd.int .u8) 5 w' w.heap.size (fun _ => True) (.slice Ao25 t420.length co25) t420) ∧ Aside0 (Kd.S (Kd.slice 5 (Kd.int .u8)) 41 w' w.heap.size (fun k_ => some k_ ≠ ((.slice Ao25 t420.length co25) : Value).ownBlock) v425 t423) ∧ Aside0 (w'.heap[gb416]? = some (.cells #[(.slice (some ad419) l0_0.length c0_0)] 28 (0, 0))) ∧ Aside0 (Below w.heap.size w w'))
     case atStart => exact ⟨(wrap64 (t424 + 1)), (by first | rfl | (simp; done) | (simp [*]; done)), H', ⟨Nat.le_refl _⟩, ⟨by (with_reducible repeat (first | apply R_alloc | apply R_drewN | apply R_drew)); exact HO422.out⟩, ⟨by (with_reducible repeat (first | apply S_alloc | apply S_drewN | apply S_drew)); exact S_mono HO426.out (fun _ hk => hk.2)⟩, ⟨by (with_reducible repeat (first | refine Za ?_ _ | refine Zb ?_ | refine blk_alloc ?_ _)); exact BK416.out⟩, ⟨by repeat (first | (with_reducible first | exact HB.out | apply Zf | apply Zd | apply Ze | refine Zg ?_ GE416.out) | exact HB.out)⟩⟩
     case round =>
      clear H'
      try clear c1
      try clear p2
      try clear c4
      try clear p4
      try clear q4
      try clear hx4
      try clear p6
      try clear c7
      try clear c8
      try clear c13
      try clear c14
      try clear c14b0
      try clear c15
      try clear c15b0
      try clear c18
      try clear c18b0
      try clear c18b1
      try clear hcz11_0
      try clear hcz19_0
      try clear hcz23_0
      try clear hcz5_0
      try clear hcz9_0
      try clear hfz11_0
      try clear hfz19_0
      try clear hfz23_0
      try clear hfz5_0
      try clear hfz9_0
      try clear hx419_0
      try clear hx419_1
      try clear hx419_2
      try clear p2
      try clear p419
      try clear q419
      obtain ⟨x9_2, rfl, HA, HK2, HO_6, HO_7, BK416, HB⟩ := hrel
      cases gk with
      | zero => exact absurd HA.out (by simp [impl_walRead.l0])
      | succ k2 =>
       have H := HA.out
       clear HA
       simp only [impl_walRead.l0] at H
       by_cases c27 : x9_2 < (t420.length : Int)
       ·
        rw [if_pos c27] at H
        have c27b0 : decide (x9_2 < (t420.length : Int)) = true := decide_eq_true c27
        clear c27
        by_cases c28 : 0 ≤ x9_2
        ·
         rw [if_pos c28] at H
         have c28b0 := eq_true c28
         have c28b1 : decide (0 ≤ x9_2) = true := decide_eq_true c28
         clear c28
         by_cases c29 : x9_2 ≤ (t420.length : Int)
         ·
          rw [if_pos c29] at H
          have c29b0 := eq_true c29
          have c29b1 : decide (x9_2 ≤ (t420.length : Int)) = true := decide_eq_true c29
          clear c29
          obtain ⟨y427, hy427⟩ : ∃ y_ : List Int, y_ = (t420.drop (x9_2 : Int).toNat) := ⟨_, rfl⟩
          replace H : ((impl_beginsFrame.f k2 y427).bind fun t431 => (if t431 = true then (some (t423, t424, 2)) else (impl_walRead.l0 k2 t420 t423 t424 (wrap64 (x9_2 + 1))))) = some (r1, r2, r3) := by first | (rw [hy427]; with_reducible exact H) | (have H2_ := (Option.bind_some _ _).symm.trans H; rw [hy427]; with_reducible exact H2_) | (have H2_ := (Option.bind_some _ _).symm.trans H; with_reducible exact H2_) | with_reducible exact H | (rw [hy427]; exact H) | exact H
          have Ny427 := Zh hy427
          clear hy427
          replace H := Option.bind_eq_some_iff.mp H
          obtain ⟨t431, A300, H⟩ := H
          replace H : (if t431 = true then (some (t423, t424, 2)) else (impl_walRead.l0 k2 t420 t423 t424 (wrap64 (x9_2 + 1)))) = some (r1, r2, r3) := H
          have A30 := Zh A300
          clear A300
          by_cases c31 : t431 = true
          ·
           subst c31
           have H1 : (some (t423, t424, 2)) = some (r1, r2, r3) := by rw [if_pos rfl] at H; exact H
           clear H
           have H := H1
           clear H1
           simp only [Option.some.injEq, Prod.mk.injEq] at H
           obtain ⟨rfl, rfl, rfl⟩ := H
           have q32 : (x9_2 : Int) ≤ ((t420.length : Int) : Int) := Zo
           obtain ⟨i032, hi032, _, hsz32, _⟩ := info_parts info5
           have hroom32 : t420.length ≤ co25 := (R_reads' HO_6.out).2.1
           have hC32 : Kd.C (Kd.int .u8) _ Ao25 t420.length t420 := (R_reads' HO_6.out).2.2
           have q032 : (0 : Int) ≤ (x9_2 : Int) := Zo
           have hcut32 := cut_from (P := Tryd.prog) 41 5 .i64 Tryd.underlying41 hi032 1 hsz32 Ao25 t420.length co25 x9_2 q032 q32
           have hr32 := C_drop (m := (x9_2 : Int).toNat) (c := co25) hC32 (by omega) hroom32
           obtain ⟨A32, hA32⟩ : ∃ A1, A1 = (if co25 = (x9_2 : Int).toNat then Ao25 else (Ao25 : Option Addr).map (·.add ((x9_2 : Int).toNat * 1))) := ⟨_, rfl⟩
           obtain ⟨c32, hc32⟩ : ∃ c1, c1 = co25 - (x9_2 : Int).toNat := ⟨_, rfl⟩
           have hy32 : y427.length = t420.length - (x9_2 : Int).toNat := (by rw [Ny427.out, List.length_drop] <;> omega)
           rw [show (t420).drop (x9_2 : Int).toNat = y427 from Ny427.out.symm] at hr32
           replace hr32 : Kd.C (Kd.int .u8) _ A32 y427.length y427 := (by rw [hA32]; exact hr32)
           rw [← hy32, ← hA32, ← hc32] at hcut32
           have HR430 := Zh hr32
           have HC430 := Zh (show y427.length ≤ c32 from by rw [hy32, hc32]; exact Nat.sub_le_sub_right hroom32 _)
           clear hr32 hC32 hroom32 hi032 hsz32 hc32
           have KY32 := Zh hy32
           have KA32 := Zh hA32
           clear hy32 hA32
           have KL32 := Zh (show (x9_2 : Int).toNat ≤ t420.length from by omega)
           replace q32 := eq_true q32
           go_wp2_with (first | ((with_reducible refine gate_callee (f := 82) rfl ?_); refine goesL_ (some 47) rfl rfl Tryd.func82 (by kernel_rfl) rfl #[.slice A32 y427.length c32] rfl (by (try simp only [List.map_toArray, List.map_cons, List.map_nil]); first | done | rfl | (simp only [List.length_drop, List.length_take]; rfl)) ?_; (with_reducible refine (impl_beginsFrame.calls k2 _ _ y427 true _ ?side1 ?side2 A30.out).mono ?_); (case side1 => repeat (first | exact (by repeat (first | (with_reducible exact HR430.out) | (with_reducible refine C_alloc ?_ _) | (with_reducible refine C_drewN ?_ _) | (with_reducible refine C_drew ?_) | exact HR430.out)) | (with_reducible refine C_alloc ?_ _) | (with_reducible refine C_drewN ?_ _) | (with_reducible refine C_drew ?_))); (case side2 => exact HC430.out); rintro e w33 ⟨rfl, hb⟩; refine ⟨_, rfl, ?_⟩; have n0_ := Zh (R_below (by (with_reducible repeat (first | apply R_alloc | apply R_drewN | apply R_drew)); exact HO_6.out) hb); have n1_ := Zh (S_below (by (with_reducible repeat (first | apply S_alloc | apply S_drewN | apply S_drew)); exact HO_7.out) hb); have n2_ := Zh (Zm (g := gb416) (o := .cells #[.slice (some ad419) l0_0.length c0_0] 28 (0, 0)) Zk hb); have n3_ := Zh (C_below (by repeat (first | (with_reducible exact HR430.out) | (with_reducible refine C_alloc ?_ _) | (with_reducible refine C_drewN ?_ _) | (with_reducible refine C_drew ?_) | exact HR430.out)) hb); have n4_ := Zh (Zl Zs hb); clear HO_6; clear HO_7; clear BK416; clear HR430; clear HB; have HO_6 := n0_; have HO_7 := n1_; have BK416 := n2_; have HR430 := n3_; have HB := n4_; clear n0_ n1_ n2_ n3_ n4_; (try clear hb); (try clear hb2); (try clear hk); (try clear hi)))
           go_ret3
           exact ⟨_, by first | rfl | (simp [errW_none, errW_some] <;> rfl) | (simp [*, errW_none, errW_some] <;> rfl), by (with_reducible repeat (first | apply S_alloc | apply S_drewN | apply S_drew)); exact S_mono HO_7.out (fun _ hk => trivial), by repeat (first | (with_reducible first | exact HB.out | apply Zf | apply Zd | apply Ze | refine Zg ?_ GE416.out) | exact HB.out)⟩
          replace c31 := Bool.eq_false_iff.mpr c31
          subst c31
          have H1 : (impl_walRead.l0 k2 t420 t423 t424 (wrap64 (x9_2 + 1))) = some (r1, r2, r3) := by rw [if_neg (show ¬ (false = true) by decide)] at H; exact H
          clear H
          have H := H1
          clear H1
          have H' := Zh H
          clear H
          have q34 : (x9_2 : Int) ≤ ((t420.length : Int) : Int) := Zo
          obtain ⟨i034, hi034, _, hsz34, _⟩ := info_parts info5
          have hroom34 : t420.length ≤ co25 := (R_reads' HO_6.out).2.1
          have hC34 : Kd.C (Kd.int .u8) _ Ao25 t420.length t420 := (R_reads' HO_6.out).2.2
          have q034 : (0 : Int) ≤ (x9_2 : Int) := Zo
          have hcut34 := cut_from (P := Tryd.prog) 41 5 .i64 Tryd.underlying41 hi034 1 hsz34 Ao25 t420.length co25 x9_2 q034 q34
          have hr34 := C_drop (m := (x9_2 : Int).toNat) (c := co25) hC34 (by omega) hroom34
          obtain ⟨A34, hA34⟩ : ∃ A1, A1 = (if co25 = (x9_2 : Int).toNat then Ao25 else (Ao25 : Option Addr).map (·.add ((x9_2 : Int).toNat * 1))) := ⟨_, rfl⟩
          obtain ⟨c34, hc34⟩ : ∃ c1, c1 = co25 - (x9_2 : Int).toNat := ⟨_, rfl⟩
          have hy34 : y427.length = t420.length - (x9_2 : Int).toNat := (by rw [Ny427.out, List.length_drop] <;> omega)
          rw [show (t420).drop (x9_2 : Int).toNat = y427 from Ny427.out.symm] at hr34
          replace hr34 : Kd.C (Kd.int .u8) _ A34 y427.length y427 := (by rw [hA34]; exact hr34)
          rw [← hy34, ← hA34, ← hc34] at hcut34
          have HR430 := Zh hr34
          have HC430 := Zh (show y427.length ≤ c34 from by rw [hy34, hc34]; exact Nat.sub_le_sub_right hroom34 _)
          clear hr34 hC34 hroom34 hi034 hsz34 hc34
          have KY34 := Zh hy34
          have KA34 := Zh hA34
          clear hy34 hA34
          have KL34 := Zh (show (x9_2 : Int).toNat ≤ t420.length from by omega)
          replace q34 := eq_true q34
          go_wp2_with (first | ((with_reducible refine gate_callee (f := 82) rfl ?_); refine goesL_ (some 47) rfl rfl Tryd.func82 (by kernel_rfl) rfl #[.slice A34 y427.length c34] rfl (by (try simp only [List.map_toArray, List.map_cons, List.map_nil]); first | done | rfl | (simp only [List.length_drop, List.length_take]; rfl)) ?_; (with_reducible refine (impl_beginsFrame.calls k2 _ _ y427 false _ ?side1 ?side2 A30.out).mono ?_); (case side1 => repeat (first | exact (by repeat (first | (with_reducible exact HR430.out) | (with_reducible refine C_alloc ?_ _) | (with_reducible refine C_drewN ?_ _) | (with_reducible refine C_drew ?_) | exact HR430.out)) | (with_reducible refine C_alloc ?_ _) | (with_reducible refine C_drewN ?_ _) | (with_reducible refine C_drew ?_))); (case side2 => exact HC430.out); rintro e w35 ⟨rfl, hb⟩; refine ⟨_, rfl, ?_⟩; have n0_ := Zh (R_below (by (with_reducible repeat (first | apply R_alloc | apply R_drewN | apply R_drew)); exact HO_6.out) hb); have n1_ := Zh (S_below (by (with_reducible repeat (first | apply S_alloc | apply S_drewN | apply S_drew)); exact HO_7.out) hb); have n2_ := Zh (Zm (g := gb416) (o := .cells #[.slice (some ad419) l0_0.length c0_0] 28 (0, 0)) Zk hb); have n3_ := Zh (C_below (by repeat (first | (with_reducible exact HR430.out) | (with_reducible refine C_alloc ?_ _) | (with_reducible refine C_drewN ?_ _) | (with_reducible refine C_drew ?_) | exact HR430.out)) hb); have n4_ := Zh (Zl Zs hb); clear HO_6; clear HO_7; clear BK416; clear HR430; clear HB; have HO_6 := n0_; have HO_7 := n1_; have BK416 := n2_; have HR430 := n3_; have HB := n4_; clear n0_ n1_ n2_ n3_ n4_; (try clear hb); (try clear hb2); (try clear hk); (try clear hi)))
          go_roundg k2
          case measure => have := HJ2.out; have := HK2.out; omega
          case rel => exact ⟨(wrap64 (x9_2 + 1)), (by first | rfl | (simp; done) | (simp [*]; done)), H', ⟨by have := HJ2.out; have := HK2.out; omega⟩, ⟨by (with_reducible repeat (first | apply R_alloc | apply R_drewN | apply R_drew)); exact HO_6.out⟩, ⟨by (with_reducible repeat (first | apply S_alloc | apply S_drewN | apply S_drew)); exact HO_7.out⟩, ⟨by (with_reducible repeat (first | refine Za ?_ _ | refine Zb ?_ | refine blk_alloc ?_ _)); exact BK416.out⟩, ⟨by repeat (first | (with_reducible first | exact HB.out | apply Zf | apply Zd | apply Ze | refine Zg ?_ GE416.out) | exact HB.out)⟩⟩
         rw [if_neg c29] at H
         exact absurd H (by simp)
        rw [if_neg c28] at H
        exact absurd H (by simp)
       rw [if_neg c27] at H
       have c27b0 : decide (x9_2 < (t420.length : Int)) = false := decide_eq_false c27
       clear c27
       simp only [Option.some.injEq, Prod.mk.injEq] at H
       obtain ⟨rfl, rfl, rfl⟩ := H
       go_wp2
       go_ret3
       exact ⟨_, by first | rfl | (simp [errW_none, errW_some] <;> rfl) | (simp [*, errW_none, errW_some] <;> rfl), by (with_reducible repeat (first | apply S_alloc | apply S_drewN | apply S_drew)); exact S_mono HO_7.out (fun _ hk => trivial), by repeat (first | (with_reducible first | exact HB.out | apply Zf | apply Zd | apply Ze | refine Zg ?_ GE416.out) | exact HB.out)⟩
    rw [if_neg c15] at H
    exact absurd H (by simp)
   rw [if_neg c14] at H
   exact absurd H (by simp)
end Go.Proofs.YtcgojdhbphocgaaDoor.F
