/- Merged texts below the law FnExactWalRead: Go functions as Lean functions, their contracts, and plain lemmas. -/
import Derived.Test.YtcgojdhbphocgaaDoorQFnExactWalRead23
import Derived.Shelf.Abstract
import Derived.Test.YtcgojdhbphocgaaDoorQFnExactWalRead24
import Derived.Test.YtcgojdhbphocgaaDoorVFnExactWalReadMore
import Derived.Test.YtcgojdhbphocgaaDoorVFnExactWalReadKept
import Derived.Test.YtcgojdhbphocgaaDoorVFnExactWalReadApart
import Derived.Laws.BitsAllLaws
namespace Go.Proofs.YtcgojdhbphocgaaDoor.F
open Go.RowKit Go.Proofs.YtcgojdhbphocgaaDoorW.PrintWords Go.Proofs.YtcgojdhbphocgaaDoorW.PrintWords.Kd Go.Proofs.YtcgojdhbphocgaaDoorW.PrintMore.Kd Go.Proofs.YtcgojdhbphocgaaDoorW.PrintLast Go.Proofs.YtcgojdhbphocgaaDoorW.PrintMore
attribute [local go_sem] max2_int min2_int max_two min_two max_three min_three max_four min_four   -- for this text's walks alone
set_option linter.unusedVariables false
set_option linter.unusedSimpArgs false
def binary_littleEndian_Uint32.f  (l1 : List Int) : Option (Int) := if 3 < (l1.length : Int) then (if 0 < (l1.length : Int) then (if 1 < (l1.length : Int) then (if 2 < (l1.length : Int) then (some (Go.bits .or .u32 (Go.bits .or .u32 (Go.bits .or .u32 ((rd l1 0) % 4294967296) ((((rd l1 1) % 4294967296) * 256) % 4294967296)) ((((rd l1 2) % 4294967296) * 65536) % 4294967296)) ((((rd l1 3) % 4294967296) * 16777216) % 4294967296))) else (none)) else (none)) else (none)) else (none)
set_option maxHeartbeats 8000000 in
set_option maxRecDepth 100000 in
theorem binary_littleEndian_Uint32.calls  (A1 : Option Addr) (c1 : Nat) (l1 : List Int) (r : Int) (w : World) (hr1 : Kd.C (Kd.int .u8) w A1 l1.length l1) (hc1 : l1.length ≤ c1) (h : binary_littleEndian_Uint32.f l1 = some r) :
  Calls Tryd.prog 105 #[.agg #[], .slice A1 l1.length c1] w fun e w' => e = .returned (.int .u32 r) ∧ Below w.heap.size w w' := by
 have hu94 := Tryd.underlying94
 have HR1 := Aside0.mk hr1
 have HC1 := Aside0.mk hc1
 clear hr1 hc1
 have HB := Aside0.mk (Below.refl w.heap.size w)
 have H : (if 3 < (l1.length : Int) then (if 0 < (l1.length : Int) then (if 1 < (l1.length : Int) then (if 2 < (l1.length : Int) then (some (Go.bits .or .u32 (Go.bits .or .u32 (Go.bits .or .u32 ((rd l1 0) % 4294967296) ((((rd l1 1) % 4294967296) * 256) % 4294967296)) ((((rd l1 2) % 4294967296) * 65536) % 4294967296)) ((((rd l1 3) % 4294967296) * 16777216) % 4294967296))) else (none)) else (none)) else (none)) else (none)) = some r := h
 clear h
 by_cases c3 : 3 < (l1.length : Int)
 ·
  rw [if_pos c3] at H
  have c3b0 : decide (3 < (l1.length : Int)) = true := decide_eq_true c3
  have c3b1 : decide (3 < l1.length) = true := decide_eq_true (by omega)
  clear c3
  by_cases c4 : 0 < (l1.length : Int)
  ·
   rw [if_pos c4] at H
   have c4b0 : decide (0 < (l1.length : Int)) = true := decide_eq_true c4
   have c4b1 : decide (0 < l1.length) = true := decide_eq_true (by omega)
   clear c4
   by_cases c5 : 1 < (l1.length : Int)
   ·
    rw [if_pos c5] at H
    have c5b0 : decide (1 < (l1.length : Int)) = true := decide_eq_true c5
    have c5b1 : decide (1 < l1.length) = true := decide_eq_true (by omega)
    clear c5
    by_cases c6 : 2 < (l1.length : Int)
    ·
     rw [if_pos c6] at H
     have c6b0 : decide (2 < (l1.length : Int)) = true := decide_eq_true c6
     have c6b1 : decide (2 < l1.length) = true := decide_eq_true (by omega)
     clear c6
     obtain rfl := Option.some.inj H
     go_enter Tryd.func105, Tryd.ntmps105
     go_wp2_with (first | ((with_reducible refine gate_dst (N := 2) rfl ?_); refine box_event ?hg (N := 2) ?hd (cs := #[]) (t := 94) ?hr ?_; (case hd => rfl); (case hg => rfl); (case hr => first | (go_simp; done) | (go_simp; rfl)); intro gb365 hg w7 hbox hb; have n0_ := Aside0.mk (below_step (by repeat (first | (with_reducible first | exact HB.out | apply below_alloc | apply pw_below_drewN | apply below_drew1) | exact HB.out)) hb); have n1_ := Aside0.mk (hbox); have n2_ := Aside0.mk ((by rw [hg]; exact (below_size (by repeat (first | (with_reducible first | exact HB.out | apply below_alloc | apply pw_below_drewN | apply below_drew1) | exact HB.out))) : w.heap.size ≤ gb365)); have n3_ := Aside0.mk ((by rw [hg]; exact (below_size (by repeat (first | (with_reducible first | exact HB.out | apply below_alloc | apply pw_below_drewN | apply below_drew1) | exact HB.out))) : w.heap.size ≤ gb365)); clear HB; have HB := n0_; have BK365 := n1_; have GW365 := n2_; have GE365 := n3_; clear n0_ n1_ n2_ n3_; clear hb hbox hg; have p366 : 0 ≤ (3 : Int) := (by omega); have q366 : 3 < (l1.length : Int) := of_decide_eq_true (by first | (with_reducible assumption) | assumption); obtain ⟨ad366, e366, hx366_0⟩ := Kd.at_int HR1.out 3 p366 q366; cases e366; (try simp only [show (3 : Int).toNat = 3 from rfl, Nat.reduceMul, Nat.reduceEqDiff, Go.Addr.add, ↓reduceIte] at hx366_0); have qi366 : (3 < l1.length) = True := eq_true (by omega); (try rw [show ((3 : Int)).toNat = 3 from rfl] at hx366_0); replace hx366_0 := (HB.out.cell (World.block_lt_of_cell? w _ hx366_0)).trans hx366_0; replace p366 := eq_true p366; replace q366 := eq_true q366; have p367 : 0 ≤ (0 : Int) := (by omega); have q367 : 0 < (l1.length : Int) := of_decide_eq_true (by first | (with_reducible assumption) | assumption); obtain ⟨ad367, e367, hx367_0⟩ := Kd.at_int HR1.out 0 p367 q367; obtain rfl : ad366 = ad367 := (by injection e367); have qi367 : (0 < l1.length) = True := eq_true (by omega); (try rw [show ((0 : Int)).toNat = 0 from rfl] at hx367_0); (try rw [Addr.add_zero'] at hx367_0); replace hx367_0 := (HB.out.cell (World.block_lt_of_cell? w _ hx367_0)).trans hx367_0; replace p367 := eq_true p367; replace q367 := eq_true q367; have p368 : 0 ≤ (1 : Int) := (by omega); have q368 : 1 < (l1.length : Int) := of_decide_eq_true (by first | (with_reducible assumption) | assumption); obtain ⟨ad368, e368, hx368_0⟩ := Kd.at_int HR1.out 1 p368 q368; obtain rfl : ad366 = ad368 := (by injection e368); (try simp only [show (1 : Int).toNat = 1 from rfl, Nat.reduceMul, Nat.reduceEqDiff, Go.Addr.add, ↓reduceIte] at hx368_0); have qi368 : (1 < l1.length) = True := eq_true (by omega); (try rw [show ((1 : Int)).toNat = 1 from rfl] at hx368_0); replace hx368_0 := (HB.out.cell (World.block_lt_of_cell? w _ hx368_0)).trans hx368_0; replace p368 := eq_true p368; replace q368 := eq_true q368; have p369 : 0 ≤ (2 : Int) := (by omega); have q369 : 2 < (l1.length : Int) := of_decide_eq_true (by first | (with_reducible assumption) | assumption); obtain ⟨ad369, e369, hx369_0⟩ := Kd.at_int HR1.out 2 p369 q369; obtain rfl : ad366 = ad369 := (by injection e369); (try simp only [show (2 : Int).toNat = 2 from rfl, Nat.reduceMul, Nat.reduceEqDiff, Go.Addr.add, ↓reduceIte] at hx369_0); have qi369 : (2 < l1.length) = True := eq_true (by omega); (try rw [show ((2 : Int)).toNat = 2 from rfl] at hx369_0); replace hx369_0 := (HB.out.cell (World.block_lt_of_cell? w _ hx369_0)).trans hx369_0; replace p369 := eq_true p369; replace q369 := eq_true q369; have p370 : 0 ≤ (3 : Int) := (by omega); have q370 : 3 < (l1.length : Int) := of_decide_eq_true (by first | (with_reducible assumption) | assumption); obtain ⟨ad370, e370, hx370_0⟩ := Kd.at_int HR1.out 3 p370 q370; obtain rfl : ad366 = ad370 := (by injection e370); (try simp only [show (3 : Int).toNat = 3 from rfl, Nat.reduceMul, Nat.reduceEqDiff, Go.Addr.add, ↓reduceIte] at hx370_0); have qi370 : (3 < l1.length) = True := eq_true (by omega); (try rw [show ((3 : Int)).toNat = 3 from rfl] at hx370_0); replace hx370_0 := (HB.out.cell (World.block_lt_of_cell? w _ hx370_0)).trans hx370_0; replace p370 := eq_true p370; replace q370 := eq_true q370))
     repeat (go_quiet (first | ((with_reducible refine gate_dst (N := 2) rfl ?_); refine box_event ?hg (N := 2) ?hd (cs := #[]) (t := 94) ?hr ?_; (case hd => rfl); (case hg => rfl); (case hr => first | (go_simp; done) | (go_simp; rfl)); intro gb365 hg w7 hbox hb; have n0_ := Aside0.mk (below_step (by repeat (first | (with_reducible first | exact HB.out | apply below_alloc | apply pw_below_drewN | apply below_drew1) | exact HB.out)) hb); have n1_ := Aside0.mk (hbox); have n2_ := Aside0.mk ((by rw [hg]; exact (below_size (by repeat (first | (with_reducible first | exact HB.out | apply below_alloc | apply pw_below_drewN | apply below_drew1) | exact HB.out))) : w.heap.size ≤ gb365)); have n3_ := Aside0.mk ((by rw [hg]; exact (below_size (by repeat (first | (with_reducible first | exact HB.out | apply below_alloc | apply pw_below_drewN | apply below_drew1) | exact HB.out))) : w.heap.size ≤ gb365)); clear HB; have HB := n0_; have BK365 := n1_; have GW365 := n2_; have GE365 := n3_; clear n0_ n1_ n2_ n3_; clear hb hbox hg; have p366 : 0 ≤ (3 : Int) := (by omega); have q366 : 3 < (l1.length : Int) := of_decide_eq_true (by first | (with_reducible assumption) | assumption); obtain ⟨ad366, e366, hx366_0⟩ := Kd.at_int HR1.out 3 p366 q366; cases e366; (try simp only [show (3 : Int).toNat = 3 from rfl, Nat.reduceMul, Nat.reduceEqDiff, Go.Addr.add, ↓reduceIte] at hx366_0); have qi366 : (3 < l1.length) = True := eq_true (by omega); (try rw [show ((3 : Int)).toNat = 3 from rfl] at hx366_0); replace hx366_0 := (HB.out.cell (World.block_lt_of_cell? w _ hx366_0)).trans hx366_0; replace p366 := eq_true p366; replace q366 := eq_true q366; have p367 : 0 ≤ (0 : Int) := (by omega); have q367 : 0 < (l1.length : Int) := of_decide_eq_true (by first | (with_reducible assumption) | assumption); obtain ⟨ad367, e367, hx367_0⟩ := Kd.at_int HR1.out 0 p367 q367; obtain rfl : ad366 = ad367 := (by injection e367); have qi367 : (0 < l1.length) = True := eq_true (by omega); (try rw [show ((0 : Int)).toNat = 0 from rfl] at hx367_0); (try rw [Addr.add_zero'] at hx367_0); replace hx367_0 := (HB.out.cell (World.block_lt_of_cell? w _ hx367_0)).trans hx367_0; replace p367 := eq_true p367; replace q367 := eq_true q367; have p368 : 0 ≤ (1 : Int) := (by omega); have q368 : 1 < (l1.length : Int) := of_decide_eq_true (by first | (with_reducible assumption) | assumption); obtain ⟨ad368, e368, hx368_0⟩ := Kd.at_int HR1.out 1 p368 q368; obtain rfl : ad366 = ad368 := (by injection e368); (try simp only [show (1 : Int).toNat = 1 from rfl, Nat.reduceMul, Nat.reduceEqDiff, Go.Addr.add, ↓reduceIte] at hx368_0); have qi368 : (1 < l1.length) = True := eq_true (by omega); (try rw [show ((1 : Int)).toNat = 1 from rfl] at hx368_0); replace hx368_0 := (HB.out.cell (World.block_lt_of_cell? w _ hx368_0)).trans hx368_0; replace p368 := eq_true p368; replace q368 := eq_true q368; have p369 : 0 ≤ (2 : Int) := (by omega); have q369 : 2 < (l1.length : Int) := of_decide_eq_true (by first | (with_reducible assumption) | assumption); obtain ⟨ad369, e369, hx369_0⟩ := Kd.at_int HR1.out 2 p369 q369; obtain rfl : ad366 = ad369 := (by injection e369); (try simp only [show (2 : Int).toNat = 2 from rfl, Nat.reduceMul, Nat.reduceEqDiff, Go.Addr.add, ↓reduceIte] at hx369_0); have qi369 : (2 < l1.length) = True := eq_true (by omega); (try rw [show ((2 : Int)).toNat = 2 from rfl] at hx369_0); replace hx369_0 := (HB.out.cell (World.block_lt_of_cell? w _ hx369_0)).trans hx369_0; replace p369 := eq_true p369; replace q369 := eq_true q369; have p370 : 0 ≤ (3 : Int) := (by omega); have q370 : 3 < (l1.length : Int) := of_decide_eq_true (by first | (with_reducible assumption) | assumption); obtain ⟨ad370, e370, hx370_0⟩ := Kd.at_int HR1.out 3 p370 q370; obtain rfl : ad366 = ad370 := (by injection e370); (try simp only [show (3 : Int).toNat = 3 from rfl, Nat.reduceMul, Nat.reduceEqDiff, Go.Addr.add, ↓reduceIte] at hx370_0); have qi370 : (3 < l1.length) = True := eq_true (by omega); (try rw [show ((3 : Int)).toNat = 3 from rfl] at hx370_0); replace hx370_0 := (HB.out.cell (World.block_lt_of_cell? w _ hx370_0)).trans hx370_0; replace p370 := eq_true p370; replace q370 := eq_true q370)); try go_wp2_with (first | ((with_reducible refine gate_dst (N := 2) rfl ?_); refine box_event ?hg (N := 2) ?hd (cs := #[]) (t := 94) ?hr ?_; (case hd => rfl); (case hg => rfl); (case hr => first | (go_simp; done) | (go_simp; rfl)); intro gb365 hg w7 hbox hb; have n0_ := Aside0.mk (below_step (by repeat (first | (with_reducible first | exact HB.out | apply below_alloc | apply pw_below_drewN | apply below_drew1) | exact HB.out)) hb); have n1_ := Aside0.mk (hbox); have n2_ := Aside0.mk ((by rw [hg]; exact (below_size (by repeat (first | (with_reducible first | exact HB.out | apply below_alloc | apply pw_below_drewN | apply below_drew1) | exact HB.out))) : w.heap.size ≤ gb365)); have n3_ := Aside0.mk ((by rw [hg]; exact (below_size (by repeat (first | (with_reducible first | exact HB.out | apply below_alloc | apply pw_below_drewN | apply below_drew1) | exact HB.out))) : w.heap.size ≤ gb365)); clear HB; have HB := n0_; have BK365 := n1_; have GW365 := n2_; have GE365 := n3_; clear n0_ n1_ n2_ n3_; clear hb hbox hg; have p366 : 0 ≤ (3 : Int) := (by omega); have q366 : 3 < (l1.length : Int) := of_decide_eq_true (by first | (with_reducible assumption) | assumption); obtain ⟨ad366, e366, hx366_0⟩ := Kd.at_int HR1.out 3 p366 q366; cases e366; (try simp only [show (3 : Int).toNat = 3 from rfl, Nat.reduceMul, Nat.reduceEqDiff, Go.Addr.add, ↓reduceIte] at hx366_0); have qi366 : (3 < l1.length) = True := eq_true (by omega); (try rw [show ((3 : Int)).toNat = 3 from rfl] at hx366_0); replace hx366_0 := (HB.out.cell (World.block_lt_of_cell? w _ hx366_0)).trans hx366_0; replace p366 := eq_true p366; replace q366 := eq_true q366; have p367 : 0 ≤ (0 : Int) := (by omega); have q367 : 0 < (l1.length : Int) := of_decide_eq_true (by first | (with_reducible assumption) | assumption); obtain ⟨ad367, e367, hx367_0⟩ := Kd.at_int HR1.out 0 p367 q367; obtain rfl : ad366 = ad367 := (by injection e367); have qi367 : (0 < l1.length) = True := eq_true (by omega); (try rw [show ((0 : Int)).toNat = 0 from rfl] at hx367_0); (try rw [Addr.add_zero'] at hx367_0); replace hx367_0 := (HB.out.cell (World.block_lt_of_cell? w _ hx367_0)).trans hx367_0; replace p367 := eq_true p367; replace q367 := eq_true q367; have p368 : 0 ≤ (1 : Int) := (by omega); have q368 : 1 < (l1.length : Int) := of_decide_eq_true (by first | (with_reducible assumption) | assumption); obtain ⟨ad368, e368, hx368_0⟩ := Kd.at_int HR1.out 1 p368 q368; obtain rfl : ad366 = ad368 := (by injection e368); (try simp only [show (1 : Int).toNat = 1 from rfl, Nat.reduceMul, Nat.reduceEqDiff, Go.Addr.add, ↓reduceIte] at hx368_0); have qi368 : (1 < l1.length) = True := eq_true (by omega); (try rw [show ((1 : Int)).toNat = 1 from rfl] at hx368_0); replace hx368_0 := (HB.out.cell (World.block_lt_of_cell? w _ hx368_0)).trans hx368_0; replace p368 := eq_true p368; replace q368 := eq_true q368; have p369 : 0 ≤ (2 : Int) := (by omega); have q369 : 2 < (l1.length : Int) := of_decide_eq_true (by first | (with_reducible assumption) | assumption); obtain ⟨ad369, e369, hx369_0⟩ := Kd.at_int HR1.out 2 p369 q369; obtain rfl : ad366 = ad369 := (by injection e369); (try simp only [show (2 : Int).toNat = 2 from rfl, Nat.reduceMul, Nat.reduceEqDiff, Go.Addr.add, ↓reduceIte] at hx369_0); have qi369 : (2 < l1.length) = True := eq_true (by omega); (try rw [show ((2 : Int)).toNat = 2 from rfl] at hx369_0); replace hx369_0 := (HB.out.cell (World.block_lt_of_cell? w _ hx369_0)).trans hx369_0; replace p369 := eq_true p369; replace q369 := eq_true q369; have p370 : 0 ≤ (3 : Int) := (by omega); have q370 : 3 < (l1.length : Int) := of_decide_eq_true (by first | (with_reducible assumption) | assumption); obtain ⟨ad370, e370, hx370_0⟩ := Kd.at_int HR1.out 3 p370 q370; obtain rfl : ad366 = ad370 := (by injection e370); (try simp only [show (3 : Int).toNat = 3 from rfl, Nat.reduceMul, Nat.reduceEqDiff, Go.Addr.add, ↓reduceIte] at hx370_0); have qi370 : (3 < l1.length) = True := eq_true (by omega); (try rw [show ((3 : Int)).toNat = 3 from rfl] at hx370_0); replace hx370_0 := (HB.out.cell (World.block_lt_of_cell? w _ hx370_0)).trans hx370_0; replace p370 := eq_true p370; replace q370 := eq_true q370)))
     go_ret
     exact ⟨by first | rfl | (simp [errW_none, errW_some] <;> rfl) | (simp [*, errW_none, errW_some] <;> rfl), by repeat (first | (with_reducible first | exact HB.out | apply below_alloc | apply pw_below_drewN | apply below_drew1 | refine below_set ?_ GE365.out) | exact HB.out)⟩
    ·
     rw [if_neg c6] at H
     exact absurd H (by simp)
   ·
    rw [if_neg c5] at H
    exact absurd H (by simp)
  ·
   rw [if_neg c4] at H
   exact absurd H (by simp)
 ·
  rw [if_neg c3] at H
  exact absurd H (by simp)
end Go.Proofs.YtcgojdhbphocgaaDoor.F

namespace Go.Proofs.YtcgojdhbphocgaaDoor.F
open Go.RowKit Go.Proofs.YtcgojdhbphocgaaDoorW.PrintWords Go.Proofs.YtcgojdhbphocgaaDoorW.PrintWords.Kd Go.Proofs.YtcgojdhbphocgaaDoorW.PrintMore.Kd Go.Proofs.YtcgojdhbphocgaaDoorW.PrintLast Go.Proofs.YtcgojdhbphocgaaDoorW.PrintMore
attribute [local go_sem] max2_int min2_int max_two min_two max_three min_three max_four min_four   -- for this text's walks alone
set_option linter.unusedVariables false
set_option linter.unusedSimpArgs false
mutual
def impl_crc32.l0 : Nat → Int → List Int → Int → Int → Option (Int)
 | 0, _, _, _, _ => none
 | k + 1, x3, x7, x8, x9 => if x9 < x8 then (if 0 ≤ x9 then (if x9 < (x7.length : Int) then (impl_crc32.l1 k (Go.bits .xor .u32 x3 ((rd x7 x9) % 4294967296)) x7 x8 x9 0) else (none)) else (none)) else (some (Go.bits .xor .u32 4294967295 x3))
def impl_crc32.l1 : Nat → Int → List Int → Int → Int → Int → Option (Int)
 | 0, _, _, _, _, _ => none
 | k + 1, x3, x7, x8, x9, x17 => if x17 < 8 then (if (Go.bits .and .u32 x3 1) = 1 then (impl_crc32.l1 k (Go.bits .xor .u32 (x3 / 2) 3988292384) x7 x8 x9 (wrap64 (x17 + 1))) else (impl_crc32.l1 k (x3 / 2) x7 x8 x9 (wrap64 (x17 + 1)))) else (impl_crc32.l0 k x3 x7 x8 (wrap64 (x9 + 1)))
end
def impl_crc32.f (k : Nat) (l0 : List Int) : Option (Int) := impl_crc32.l0 k 4294967295 l0 (l0.length : Int) 0
set_option maxHeartbeats 8000000 in
set_option maxRecDepth 100000 in
theorem impl_crc32.calls (k : Nat) (A0 : Option Addr) (c0 : Nat) (l0 : List Int) (r : Int) (w : World) (hr0 : Kd.C (Kd.int .u8) w A0 l0.length l0) (hc0 : l0.length ≤ c0) (h : impl_crc32.f k l0 = some r) :
  Calls Tryd.prog 92 #[.slice A0 l0.length c0] w fun e w' => e = .returned (.int .u32 r) ∧ Drawn0 w w' := by
 have HR0 := Aside0.mk hr0
 have HC0 := Aside0.mk hc0
 clear hr0 hc0
 have H : (impl_crc32.l0 k 4294967295 l0 (l0.length : Int) 0) = some r := h
 clear h
 have H' := Aside0.mk H
 clear H
 go_enter Tryd.func92, Tryd.ntmps92
 go_wp2
 go_loopg [3, 9] k (fun kq v3 v9 w' => ∃ (x3_1 : Int) (x9_1 : Int), v3 = .int .u32 x3_1 ∧ v9 = .int .i64 x9_1 ∧ Aside0 (impl_crc32.l0 kq x3_1 l0 (l0.length : Int) x9_1 = some r) ∧ Aside0 (kq ≤ k) ∧ Drawn0 w w')
 case atStart => exact ⟨(4294967295), (0), (by first | rfl | (simp; done) | (simp [*]; done)), (by first | rfl | (simp; done) | (simp [*]; done)), H', ⟨Nat.le_refl _⟩, by repeat (first | exact Drawn0.refl _ | apply Drawn0.step)⟩
 case round =>
  clear H'
  obtain ⟨x3_1, x9_1, rfl, rfl, HA, HK1, ⟨m1, rfl⟩⟩ := hrel
  cases gk with
  | zero => exact absurd HA.out (by simp [impl_crc32.l0])
  | succ k1 =>
   have H := HA.out
   clear HA
   simp only [impl_crc32.l0] at H
   by_cases c2 : x9_1 < (l0.length : Int)
   ·
    rw [if_pos c2] at H
    have c2b0 : decide (x9_1 < (l0.length : Int)) = true := decide_eq_true c2
    clear c2
    by_cases c3 : 0 ≤ x9_1
    ·
     rw [if_pos c3] at H
     have c3b0 : decide (0 ≤ x9_1) = true := decide_eq_true c3
     clear c3
     by_cases c4 : x9_1 < (l0.length : Int)
     ·
      rw [if_pos c4] at H
      have c4b0 : decide (x9_1 < (l0.length : Int)) = true := decide_eq_true c4
      clear c4
      have H' := Aside0.mk H
      clear H
      have p364 : 0 ≤ (x9_1 : Int) := of_decide_eq_true (by first | (with_reducible assumption) | assumption)
      have q364 : x9_1 < (l0.length : Int) := of_decide_eq_true (by first | (with_reducible assumption) | assumption)
      obtain ⟨ad364, e364, hx364_0⟩ := Kd.at_int HR0.out x9_1 p364 q364
      cases e364
      replace p364 := eq_true p364
      replace q364 := eq_true q364
      go_wp2
      go_loopg [3, 17] k1 (fun kq v3 v17 w' => ∃ (x3_2 : Int) (x17_2 : Int), v3 = .int .u32 x3_2 ∧ v17 = .int .i64 x17_2 ∧ Aside0 (impl_crc32.l1 kq x3_2 l0 (l0.length : Int) x9_1 x17_2 = some r) ∧ Aside0 (kq ≤ k1) ∧ Drawn0 w w')
      case atStart => exact ⟨(Go.bits .xor .u32 x3_1 ((rd l0 x9_1) % 4294967296)), (0), (by first | rfl | (simp; done) | (simp [*]; done)), (by first | rfl | (simp; done) | (simp [*]; done)), H', ⟨Nat.le_refl _⟩, by repeat (first | exact Drawn0.refl _ | apply Drawn0.step)⟩
      case round =>
       clear H'
       try clear c2
       try clear c2b0
       try clear p2
       try clear c3
       try clear c3b0
       try clear p3
       try clear q3
       try clear hx3
       try clear c4
       try clear c4b0
       try clear hx364_0
       try clear p364
       try clear q364
       obtain ⟨x3_2, x17_2, rfl, rfl, HA, HK2, ⟨m2, rfl⟩⟩ := hrel
       cases gk with
       | zero => exact absurd HA.out (by simp [impl_crc32.l1])
       | succ k2 =>
        have H := HA.out
        clear HA
        simp only [impl_crc32.l1] at H
        by_cases c5 : x17_2 < 8
        ·
         rw [if_pos c5] at H
         have c5b0 : decide (x17_2 < 8) = true := decide_eq_true c5
         clear c5
         by_cases c6 : (Go.bits .and .u32 x3_2 1) = 1
         ·
          rw [if_pos c6] at H
          have c6b0 : ((Go.bits .and .u32 x3_2 1) == 1) = true := beq_iff_eq.mpr c6
          have c6b1 : ((Go.bits .and .u32 x3_2 1) != 1) = false := bne_eq_false_iff_eq.mpr c6
          clear c6
          have H' := Aside0.mk H
          clear H
          go_wp2
          go_roundg k2
          case measure => have := HK1.out; have := HK2.out; omega
          case rel => exact ⟨(Go.bits .xor .u32 (x3_2 / 2) 3988292384), (wrap64 (x17_2 + 1)), (by first | rfl | (simp; done) | (simp [*]; done)), (by first | rfl | (simp; done) | (simp [*]; done)), H', ⟨by have := HK1.out; have := HK2.out; omega⟩, by repeat (first | exact Drawn0.refl _ | apply Drawn0.step)⟩
         ·
          rw [if_neg c6] at H
          have c6b0 : ((Go.bits .and .u32 x3_2 1) == 1) = false := beq_eq_false_iff_ne.mpr c6
          have c6b1 : ((Go.bits .and .u32 x3_2 1) != 1) = true := bne_iff_ne.mpr c6
          have H' := Aside0.mk H
          clear H
          go_wp2
          go_roundg k2
          case measure => have := HK1.out; have := HK2.out; omega
          case rel => exact ⟨(x3_2 / 2), (wrap64 (x17_2 + 1)), (by first | rfl | (simp; done) | (simp [*]; done)), (by first | rfl | (simp; done) | (simp [*]; done)), H', ⟨by have := HK1.out; have := HK2.out; omega⟩, by repeat (first | exact Drawn0.refl _ | apply Drawn0.step)⟩
        ·
         rw [if_neg c5] at H
         have c5b0 : decide (x17_2 < 8) = false := decide_eq_false c5
         clear c5
         have H' := Aside0.mk H
         clear H
         go_wp2
         go_roundg k2
         case measure => have := HK1.out; have := HK2.out; omega
         case rel => exact ⟨(x3_2), (wrap64 (x9_1 + 1)), (by first | rfl | (simp; done) | (simp [*]; done)), (by first | rfl | (simp; done) | (simp [*]; done)), H', ⟨by have := HK1.out; have := HK2.out; omega⟩, by repeat (first | exact Drawn0.refl _ | apply Drawn0.step)⟩
     ·
      rw [if_neg c4] at H
      exact absurd H (by simp)
    ·
     rw [if_neg c3] at H
     exact absurd H (by simp)
   ·
    rw [if_neg c2] at H
    have c2b0 : decide (x9_1 < (l0.length : Int)) = false := decide_eq_false c2
    clear c2
    obtain rfl := Option.some.inj H
    go_wp2
    go_ret
    exact ⟨by first | rfl | (simp; done) | (simp [*]; done), by repeat (first | exact Drawn0.refl _ | apply Drawn0.step)⟩
end Go.Proofs.YtcgojdhbphocgaaDoor.F

namespace Go.Proofs.YtcgojdhbphocgaaDoor.F
open Go.RowKit Go.Proofs.YtcgojdhbphocgaaDoorW.PrintWords Go.Proofs.YtcgojdhbphocgaaDoorW.PrintWords.Kd Go.Proofs.YtcgojdhbphocgaaDoorW.PrintMore.Kd Go.Proofs.YtcgojdhbphocgaaDoorW.PrintLast Go.Proofs.YtcgojdhbphocgaaDoorW.PrintMore
attribute [local go_sem] max2_int min2_int max_two min_two max_three min_three max_four min_four   -- for this text's walks alone
set_option linter.unusedVariables false
set_option linter.unusedSimpArgs false
mutual
def impl_scanFrames.l0 : Nat → List Int → List (List Int) → Int → Option ((List (List Int)) × Int)
 | 0, _, _, _ => none
 | k + 1, x0, x4, x5 => if 0 ≤ x5 then (if x5 ≤ (x0.length : Int) then (if ((x0.drop (x5 : Int).toNat).length : Int) < 8 then (some (x4, x5)) else ((binary_littleEndian_Uint32.f (x0.drop (x5 : Int).toNat)).bind fun t375 => (if t375 < 1 then (impl_scanFrames.j1 k x0 x4 x5 (x0.drop (x5 : Int).toNat) t375 true) else (if t375 > 600 then (impl_scanFrames.j1 k x0 x4 x5 (x0.drop (x5 : Int).toNat) t375 true) else (impl_scanFrames.j1 k x0 x4 x5 (x0.drop (x5 : Int).toNat) t375 (decide (((x0.drop (x5 : Int).toNat).length : Int) < (wrap64 (8 + (wrap64 (t375))))))))))) else (none)) else (none)
def impl_scanFrames.j1 : Nat → List Int → List (List Int) → Int → List Int → Int → Bool → Option ((List (List Int)) × Int)
 | 0, _, _, _, _, _, _ => none
 | k + 1, x0, x4, x5, x6, x7, x34 => if x34 = true then (some (x4, x5)) else (if 8 ≤ ((8 + x7) % 4294967296) then (if ((8 + x7) % 4294967296) ≤ (x6.length : Int) then (if 4 ≤ (x6.length : Int) then ((binary_littleEndian_Uint32.f (x6.drop 4)).bind fun t378 => ((impl_crc32.f k ((x6.take (((8 + x7) % 4294967296) : Int).toNat).drop 8)).bind fun t379 => (if t378 = t379 then ((some (([] : List Int) : List Int)).bind fun y380 => (if y380.length + ((x6.take (((8 + x7) % 4294967296) : Int).toNat).drop 8).length < 140737488355328 then (if x4.length < 5864062014805 then (impl_scanFrames.l0 k x0 (x4 ++ [(y380 ++ ((x6.take (((8 + x7) % 4294967296) : Int).toNat).drop 8))]) (wrap64 (x5 + (wrap64 (8 + (wrap64 (x7))))))) else (none)) else (none))) else (some (x4, x5))))) else (none)) else (none)) else (none))
end
def impl_scanFrames.f (k : Nat) (l0 : List Int) : Option ((List (List Int)) × Int) := impl_scanFrames.l0 k l0 (([] : List (List Int))) 0
set_option maxHeartbeats 8000000 in
set_option maxRecDepth 100000 in
theorem impl_scanFrames.calls (k : Nat) (A0 : Option Addr) (c0 : Nat) (l0 : List Int) (r1 : List (List Int)) (r2 : Int) (w : World) (hr0 : Kd.C (Kd.int .u8) w A0 l0.length l0) (hc0 : l0.length ≤ c0) (h : impl_scanFrames.f k l0 = some (r1, r2)) :
  Calls Tryd.prog 81 #[.slice A0 l0.length c0] w fun e w' => ∃ v0_ : Value, e = .returned (.tuple #[v0_, .int .i64 r2]) ∧ Kd.S (Kd.slice 5 (Kd.int .u8)) 41 w' w.heap.size (fun _ => True) v0_ r1 ∧ Below w.heap.size w w' := by
 have hu94 := Tryd.underlying94
 have HR0 := Aside0.mk hr0
 have HC0 := Aside0.mk hc0
 clear hr0 hc0
 have HB := Aside0.mk (Below.refl w.heap.size w)
 have H : (impl_scanFrames.l0 k l0 (([] : List (List Int))) 0) = some (r1, r2) := h
 clear h
 obtain ⟨y371, hy371⟩ : ∃ y_ : List (List Int), y_ = (([] : List (List Int))) := ⟨_, rfl⟩
 replace H : (impl_scanFrames.l0 k l0 y371 0) = some (r1, r2) := by first | (rw [hy371]; with_reducible exact H) | (have H2_ := (Option.bind_some _ _).symm.trans H; rw [hy371]; with_reducible exact H2_) | (have H2_ := (Option.bind_some _ _).symm.trans H; with_reducible exact H2_) | with_reducible exact H | (rw [hy371]; exact H) | exact H
 have Ny371 := Aside0.mk hy371
 clear hy371
 have H' := Aside0.mk H
 clear H
 go_enter Tryd.func81, Tryd.ntmps81
 go_wp2_with (first | ((with_reducible refine gate_dst (N := 9) rfl ?_); (try (refine gate_guard (by rfl) ?_; dsimp only)); refine S_lit (Kd.slice 5 (Kd.int .u8)) _ 41 ?hg (N := 9) ?hd (xs := ([] : List (List Int))) (inner := []) (ok := fun _ => True) (okp := fun _ => True) ?hr ?hp (fun _ hk => hk) trivial (Below.refl _ _) (Nat.le_refl _) (by simp) ?_; (case hd => rfl); (case hg => rfl); (case hr => first | (go_simp; done) | (go_simp; rfl)); (case hp => exact (Reps.none _ _)); intro v372 w2 ho3 hb hg_ hnew_; clear hg_ hnew_; (first | rw [← Ny371.out] at ho3 | (simp only [Int.reduceToNat] at ho3; rw [← Ny371.out] at ho3)); have n0_ := Aside0.mk (S_lower ho3 (below_size (by repeat (first | (with_reducible first | exact HB.out | apply below_alloc | apply pw_below_drewN | apply below_drew1) | exact HB.out)))); have n1_ := Aside0.mk (below_step (by repeat (first | (with_reducible first | exact HB.out | apply below_alloc | apply pw_below_drewN | apply below_drew1) | exact HB.out)) hb); clear HB; have HO373 := n0_; have HB := n1_; clear n0_ n1_; clear hb ho3))
 go_loopg [4, 5] k (fun kq v4 v5 w' => ∃ (x4_1 : List (List Int)) (x5_1 : Int), v5 = .int .i64 x5_1 ∧ Aside0 (impl_scanFrames.l0 kq l0 x4_1 x5_1 = some (r1, r2)) ∧ Aside0 (kq ≤ k) ∧ Aside0 (Kd.S (Kd.slice 5 (Kd.int .u8)) 41 w' w.heap.size (fun _ => True) v4 x4_1) ∧ Aside0 (Below w.heap.size w w'))
 case atStart => exact ⟨(y371), (0), (by first | rfl | (simp; done) | (simp [*]; done)), H', ⟨Nat.le_refl _⟩, ⟨by (with_reducible repeat (first | apply S_alloc | apply S_drewN | apply S_drew)); exact HO373.out⟩, ⟨by repeat (first | (with_reducible first | exact HB.out | apply below_alloc | apply pw_below_drewN | apply below_drew1) | exact HB.out)⟩⟩
 case round =>
  clear H'
  try clear p2
  obtain ⟨x4_1, x5_1, rfl, HA, HK1, HO_4, HB⟩ := hrel
  cases gk with
  | zero => exact absurd HA.out (by simp [impl_scanFrames.l0])
  | succ k1 =>
   have H := HA.out
   clear HA
   simp only [impl_scanFrames.l0] at H
   by_cases c4 : 0 ≤ x5_1
   ·
    rw [if_pos c4] at H
    have c4b0 := eq_true c4
    have c4b1 : decide (0 ≤ x5_1) = true := decide_eq_true c4
    clear c4
    by_cases c5 : x5_1 ≤ (l0.length : Int)
    ·
     rw [if_pos c5] at H
     have c5b0 := eq_true c5
     have c5b1 : decide (x5_1 ≤ (l0.length : Int)) = true := decide_eq_true c5
     clear c5
     by_cases c6 : ((l0.drop (x5_1 : Int).toNat).length : Int) < 8
     ·
      rw [if_pos c6] at H
      have c6b0 : decide (((l0.drop (x5_1 : Int).toNat).length : Int) < 8) = true := decide_eq_true c6
      have c6b0x : decide (((l0.length - x5_1.toNat : Nat) : Int) < 8) = true := by have h_ := c6b0; rw [List.length_drop] at h_; exact h_
      have c6b1 : decide ((l0.drop (x5_1 : Int).toNat).length < 8) = true := decide_eq_true (by omega)
      have c6b1x : decide ((l0.length - x5_1.toNat) < 8) = true := by have h_ := c6b1; rw [List.length_drop] at h_; exact h_
      clear c6
      simp only [Option.some.injEq, Prod.mk.injEq] at H
      obtain ⟨rfl, rfl⟩ := H
      obtain ⟨i07, hi07, _, hsz7, _⟩ := info_parts info5
      obtain ⟨A7, hcut7, hA7, hC7⟩ := print_drop_of (P := Tryd.prog) (Value.int .u8) 0 41 5 .i64 Tryd.underlying41 hi07 hsz7 A0 c0 l0 x5_1 (of_decide_eq_true (by first | (with_reducible assumption) | assumption)) (of_decide_eq_true (by first | (with_reducible assumption) | assumption)) HC0.out
      have HR374 := Aside0.mk (C_of_reads (h1 := fun _ => rfl) (hA7 _ (Kd.reads_of_C HR0.out)))
      have HC374 := Aside0.mk hC7
      clear hA7 hC7 hi07 hsz7
      go_wp2
      go_ret2
      exact ⟨_, by first | rfl | (simp [errW_none, errW_some] <;> rfl) | (simp [*, errW_none, errW_some] <;> rfl), by (with_reducible repeat (first | apply S_alloc | apply S_drewN | apply S_drew)); exact HO_4.out, by repeat (first | (with_reducible first | exact HB.out | apply below_alloc | apply pw_below_drewN | apply below_drew1) | exact HB.out)⟩
     ·
      rw [if_neg c6] at H
      have c6b0 : decide (((l0.drop (x5_1 : Int).toNat).length : Int) < 8) = false := decide_eq_false c6
      have c6b0x : decide (((l0.length - x5_1.toNat : Nat) : Int) < 8) = false := by have h_ := c6b0; rw [List.length_drop] at h_; exact h_
      have c6b1 : decide ((l0.drop (x5_1 : Int).toNat).length < 8) = false := decide_eq_false (by omega)
      have c6b1x : decide ((l0.length - x5_1.toNat) < 8) = false := by have h_ := c6b1; rw [List.length_drop] at h_; exact h_
      clear c6
      replace H := Option.bind_eq_some_iff.mp H
      obtain ⟨t375, A80, H⟩ := H
      replace H : (if t375 < 1 then (impl_scanFrames.j1 k1 l0 x4_1 x5_1 (l0.drop (x5_1 : Int).toNat) t375 true) else (if t375 > 600 then (impl_scanFrames.j1 k1 l0 x4_1 x5_1 (l0.drop (x5_1 : Int).toNat) t375 true) else (impl_scanFrames.j1 k1 l0 x4_1 x5_1 (l0.drop (x5_1 : Int).toNat) t375 (decide (((l0.drop (x5_1 : Int).toNat).length : Int) < (wrap64 (8 + (wrap64 (t375))))))))) = some (r1, r2) := H
      have A8 := Aside0.mk A80
      clear A80
      have HC9 := Aside0.mk H
      clear H
      obtain ⟨i010, hi010, _, hsz10, _⟩ := info_parts info5
      obtain ⟨A10, hcut10, hA10, hC10⟩ := print_drop_of (P := Tryd.prog) (Value.int .u8) 0 41 5 .i64 Tryd.underlying41 hi010 hsz10 A0 c0 l0 x5_1 (of_decide_eq_true (by first | (with_reducible assumption) | assumption)) (of_decide_eq_true (by first | (with_reducible assumption) | assumption)) HC0.out
      have HR374 := Aside0.mk (C_of_reads (h1 := fun _ => rfl) (hA10 _ (Kd.reads_of_C HR0.out)))
      have HC374 := Aside0.mk hC10
      clear hA10 hC10 hi010 hsz10
      go_upto_region 7 with (first | ((with_reducible refine gate_callee (f := 105) rfl ?_); refine goesL_ (some 20) rfl rfl Tryd.func105 (by kernel_rfl) rfl #[.agg #[], .slice A10 (l0.drop (x5_1 : Int).toNat).length (c0 - x5_1.toNat)] rfl (by (try simp only [List.map_toArray, List.map_cons, List.map_nil]); first | done | (rw [show (l0.drop (x5_1 : Int).toNat).length = (l0.length - x5_1.toNat) from List.length_drop] <;> rfl) | rfl | (simp only [List.length_drop, List.length_take]; rfl)) ?_; (with_reducible refine (binary_littleEndian_Uint32.calls  _ _ (l0.drop (x5_1 : Int).toNat) t375 _ ?side1 ?side2 A8.out).mono ?_); (case side1 => repeat (first | exact (C_below HR374.out HB.out) | (with_reducible refine C_alloc ?_ _) | (with_reducible refine C_drewN ?_ _) | (with_reducible refine C_drew ?_))); (case side2 => exact HC374.out); rintro e w11 ⟨rfl, hb⟩; refine ⟨_, rfl, ?_⟩; have n0_ := Aside0.mk (S_below (by (with_reducible repeat (first | apply S_alloc | apply S_drewN | apply S_drew)); exact HO_4.out) hb); have n1_ := Aside0.mk (below_step (by repeat (first | (with_reducible first | exact HB.out | apply below_alloc | apply pw_below_drewN | apply below_drew1) | exact HB.out)) hb); clear HO_4; clear HB; have HO_4 := n0_; have HB := n1_; clear n0_ n1_; (try clear hb); (try clear hb2); (try clear hk); (try clear hi)))
      (try simp only [Act.put, List.setIfInBounds_toArray, List.set_cons_zero, List.set_cons_succ])
      go_cut [34] (fun v34 wc => ∃ (kq : Nat) (x34_8 : Bool), v34 = .bool x34_8 ∧ Aside0 (impl_scanFrames.j1 kq l0 x4_1 x5_1 (l0.drop (x5_1 : Int).toNat) t375 x34_8 = some (r1, r2)) ∧ Aside0 (kq ≤ k1) ∧ Aside0 (Kd.S (Kd.slice 5 (Kd.int .u8)) 41 wc w.heap.size (fun _ => True) u4 x4_1) ∧ Aside0 (Below w.heap.size w wc))
      case first =>
       have H := HC9.out
       clear HC9
       by_cases c12 : t375 < 1
       ·
        rw [if_pos c12] at H
        have c12b0 : decide (t375 < 1) = true := decide_eq_true c12
        clear c12
        (first | rw [c12b0] | (simp only [i64_w, i32_w]; rw [c12b0]) | skip)
        have H' := Aside0.mk H
        clear H
        go_wp2
        go_meet
        case rel => exact ⟨_, (true), (by first | rfl | (simp; done) | (simp [*]; done)), H', ⟨by have := HK1.out; first | omega | exact Nat.le_refl _⟩, ⟨by (with_reducible repeat (first | apply S_alloc | apply S_drewN | apply S_drew)); exact HO_4.out⟩, ⟨by repeat (first | (with_reducible first | exact HB.out | apply below_alloc | apply pw_below_drewN | apply below_drew1) | exact HB.out)⟩⟩
       ·
        rw [if_neg c12] at H
        have c12b0 : decide (t375 < 1) = false := decide_eq_false c12
        clear c12
        (first | rw [c12b0] | (simp only [i64_w, i32_w]; rw [c12b0]) | skip)
        by_cases c13 : t375 > 600
        ·
         rw [if_pos c13] at H
         have c13b0 : decide (600 < t375) = true := decide_eq_true c13
         clear c13
         have H' := Aside0.mk H
         clear H
         go_wp2
         go_meet
         case rel => exact ⟨_, (true), (by first | rfl | (simp; done) | (simp [*]; done)), H', ⟨by have := HK1.out; first | omega | exact Nat.le_refl _⟩, ⟨by (with_reducible repeat (first | apply S_alloc | apply S_drewN | apply S_drew)); exact HO_4.out⟩, ⟨by repeat (first | (with_reducible first | exact HB.out | apply below_alloc | apply pw_below_drewN | apply below_drew1) | exact HB.out)⟩⟩
        ·
         rw [if_neg c13] at H
         have c13b0 : decide (600 < t375) = false := decide_eq_false c13
         clear c13
         have H' := Aside0.mk H
         clear H
         go_wp2
         go_meet
         case rel => exact ⟨_, (decide (((l0.drop (x5_1 : Int).toNat).length : Int) < (wrap64 (8 + (wrap64 (t375)))))), (by first | rfl | (simp; done) | (simp [*]; done)), H', ⟨by have := HK1.out; first | omega | exact Nat.le_refl _⟩, ⟨by (with_reducible repeat (first | apply S_alloc | apply S_drewN | apply S_drew)); exact HO_4.out⟩, ⟨by repeat (first | (with_reducible first | exact HB.out | apply below_alloc | apply pw_below_drewN | apply below_drew1) | exact HB.out)⟩⟩
      case rest =>
       clear HC9
       try clear c1
       try clear p2
       try clear c4
       try clear c4b0
       try clear c4b1
       try clear c5
       try clear c5b0
       try clear c5b1
       try clear c6
       try clear c6b0
       try clear c6b1
       try clear p6
       try clear c8
       try clear c10
       try clear c12
       try clear c12b0
       try clear c13
       try clear c13b0
       try clear p2
       obtain ⟨kq, x34_8, rfl, HA, HJ8, HO_4, HB⟩ := hcut
       cases kq with
       | zero => exact absurd HA.out (by simp [impl_scanFrames.j1])
       | succ kj8 =>
        have H := HA.out
        clear HA
        simp only [impl_scanFrames.j1] at H
        by_cases c14 : x34_8 = true
        ·
         subst c14
         have H1 : (some (x4_1, x5_1)) = some (r1, r2) := by rw [if_pos rfl] at H; exact H
         clear H
         have H := H1
         clear H1
         simp only [Option.some.injEq, Prod.mk.injEq] at H
         obtain ⟨rfl, rfl⟩ := H
         go_wp2
         go_ret2
         exact ⟨_, by first | rfl | (simp [errW_none, errW_some] <;> rfl) | (simp [*, errW_none, errW_some] <;> rfl), by (with_reducible repeat (first | apply S_alloc | apply S_drewN | apply S_drew)); exact HO_4.out, by repeat (first | (with_reducible first | exact HB.out | apply below_alloc | apply pw_below_drewN | apply below_drew1) | exact HB.out)⟩
        ·
         replace c14 := Bool.eq_false_iff.mpr c14
         subst c14
         have H1 : (if 8 ≤ ((8 + t375) % 4294967296) then (if ((8 + t375) % 4294967296) ≤ ((l0.drop (x5_1 : Int).toNat).length : Int) then (if 4 ≤ ((l0.drop (x5_1 : Int).toNat).length : Int) then ((binary_littleEndian_Uint32.f ((l0.drop (x5_1 : Int).toNat).drop 4)).bind fun t378 => ((impl_crc32.f kj8 (((l0.drop (x5_1 : Int).toNat).take (((8 + t375) % 4294967296) : Int).toNat).drop 8)).bind fun t379 => (if t378 = t379 then ((some (([] : List Int) : List Int)).bind fun y380 => (if y380.length + (((l0.drop (x5_1 : Int).toNat).take (((8 + t375) % 4294967296) : Int).toNat).drop 8).length < 140737488355328 then (if x4_1.length < 5864062014805 then (impl_scanFrames.l0 kj8 l0 (x4_1 ++ [(y380 ++ (((l0.drop (x5_1 : Int).toNat).take (((8 + t375) % 4294967296) : Int).toNat).drop 8))]) (wrap64 (x5_1 + (wrap64 (8 + (wrap64 (t375))))))) else (none)) else (none))) else (some (x4_1, x5_1))))) else (none)) else (none)) else (none)) = some (r1, r2) := by rw [if_neg (show ¬ (false = true) by decide)] at H; exact H
         clear H
         have H := H1
         clear H1
         by_cases c15 : 8 ≤ ((8 + t375) % 4294967296)
         ·
          rw [if_pos c15] at H
          have c15b0 := eq_true c15
          have c15b1 : decide (8 ≤ ((8 + t375) % 4294967296)) = true := decide_eq_true c15
          by_cases c16 : ((8 + t375) % 4294967296) ≤ ((l0.drop (x5_1 : Int).toNat).length : Int)
          ·
           rw [if_pos c16] at H
           have c16b0 := eq_true c16
           have c16b0x := eq_true (show ((8 + t375) % 4294967296) ≤ ((l0.length - x5_1.toNat : Nat) : Int) from by have h_ := c16; rw [List.length_drop] at h_; exact h_)
           have c16b1 : decide (((8 + t375) % 4294967296) ≤ ((l0.drop (x5_1 : Int).toNat).length : Int)) = true := decide_eq_true c16
           have c16b1x : decide (((8 + t375) % 4294967296) ≤ ((l0.length - x5_1.toNat : Nat) : Int)) = true := by have h_ := c16b1; rw [List.length_drop] at h_; exact h_
           by_cases c17 : 4 ≤ ((l0.drop (x5_1 : Int).toNat).length : Int)
           ·
            rw [if_pos c17] at H
            have c17b0 := eq_true c17
            have c17b0x := eq_true (show 4 ≤ ((l0.length - x5_1.toNat : Nat) : Int) from by have h_ := c17; rw [List.length_drop] at h_; exact h_)
            have c17b1 : decide (4 ≤ ((l0.drop (x5_1 : Int).toNat).length : Int)) = true := decide_eq_true c17
            have c17b1x : decide (4 ≤ ((l0.length - x5_1.toNat : Nat) : Int)) = true := by have h_ := c17b1; rw [List.length_drop] at h_; exact h_
            clear c17
            replace H := Option.bind_eq_some_iff.mp H
            obtain ⟨t378, A180, H⟩ := H
            replace H : ((impl_crc32.f kj8 (((l0.drop (x5_1 : Int).toNat).take (((8 + t375) % 4294967296) : Int).toNat).drop 8)).bind fun t379 => (if t378 = t379 then ((some (([] : List Int) : List Int)).bind fun y380 => (if y380.length + (((l0.drop (x5_1 : Int).toNat).take (((8 + t375) % 4294967296) : Int).toNat).drop 8).length < 140737488355328 then (if x4_1.length < 5864062014805 then (impl_scanFrames.l0 kj8 l0 (x4_1 ++ [(y380 ++ (((l0.drop (x5_1 : Int).toNat).take (((8 + t375) % 4294967296) : Int).toNat).drop 8))]) (wrap64 (x5_1 + (wrap64 (8 + (wrap64 (t375))))))) else (none)) else (none))) else (some (x4_1, x5_1)))) = some (r1, r2) := H
            have A18 := Aside0.mk A180
            clear A180
            replace H := Option.bind_eq_some_iff.mp H
            obtain ⟨t379, A190, H⟩ := H
            replace H : (if t378 = t379 then ((some (([] : List Int) : List Int)).bind fun y380 => (if y380.length + (((l0.drop (x5_1 : Int).toNat).take (((8 + t375) % 4294967296) : Int).toNat).drop 8).length < 140737488355328 then (if x4_1.length < 5864062014805 then (impl_scanFrames.l0 kj8 l0 (x4_1 ++ [(y380 ++ (((l0.drop (x5_1 : Int).toNat).take (((8 + t375) % 4294967296) : Int).toNat).drop 8))]) (wrap64 (x5_1 + (wrap64 (8 + (wrap64 (t375))))))) else (none)) else (none))) else (some (x4_1, x5_1))) = some (r1, r2) := H
            have A19 := Aside0.mk A190
            clear A190
            by_cases c20 : t378 = t379
            ·
             rw [if_pos c20] at H
             have c20b0 : (t378 == t379) = true := beq_iff_eq.mpr c20
             have c20b1 : (t378 != t379) = false := bne_eq_false_iff_eq.mpr c20
             clear c20
             obtain ⟨y380, hy380⟩ : ∃ y_ : List Int, y_ = (([] : List Int)) := ⟨_, rfl⟩
             replace H : (if y380.length + (((l0.drop (x5_1 : Int).toNat).take (((8 + t375) % 4294967296) : Int).toNat).drop 8).length < 140737488355328 then (if x4_1.length < 5864062014805 then (impl_scanFrames.l0 kj8 l0 (x4_1 ++ [(y380 ++ (((l0.drop (x5_1 : Int).toNat).take (((8 + t375) % 4294967296) : Int).toNat).drop 8))]) (wrap64 (x5_1 + (wrap64 (8 + (wrap64 (t375))))))) else (none)) else (none)) = some (r1, r2) := by first | (rw [hy380]; with_reducible exact H) | (have H2_ := (Option.bind_some _ _).symm.trans H; rw [hy380]; with_reducible exact H2_) | (have H2_ := (Option.bind_some _ _).symm.trans H; with_reducible exact H2_) | with_reducible exact H | (rw [hy380]; exact H) | exact H
             have Ny380 := Aside0.mk hy380
             clear hy380
             by_cases c21 : y380.length + (((l0.drop (x5_1 : Int).toNat).take (((8 + t375) % 4294967296) : Int).toNat).drop 8).length < 140737488355328
             ·
              rw [if_pos c21] at H
              have LMc21 := Aside0.mk c21
              clear c21
              obtain ⟨y383, hy383⟩ : ∃ y_ : List Int, y_ = (y380 ++ (((l0.drop (x5_1 : Int).toNat).take (((8 + t375) % 4294967296) : Int).toNat).drop 8)) := ⟨_, rfl⟩
              replace H : (if x4_1.length < 5864062014805 then (impl_scanFrames.l0 kj8 l0 (x4_1 ++ [y383]) (wrap64 (x5_1 + (wrap64 (8 + (wrap64 (t375))))))) else (none)) = some (r1, r2) := by first | (rw [hy383]; with_reducible exact H) | (have H2_ := (Option.bind_some _ _).symm.trans H; rw [hy383]; with_reducible exact H2_) | (have H2_ := (Option.bind_some _ _).symm.trans H; with_reducible exact H2_) | with_reducible exact H | (rw [hy383]; exact H) | exact H
              have Ny383 := Aside0.mk hy383
              clear hy383
              by_cases c22 : x4_1.length < 5864062014805
              ·
               rw [if_pos c22] at H
               have LMc22 := Aside0.mk c22
               clear c22
               obtain ⟨y386, hy386⟩ : ∃ y_ : List (List Int), y_ = (x4_1 ++ [y383]) := ⟨_, rfl⟩
               replace H : (impl_scanFrames.l0 kj8 l0 y386 (wrap64 (x5_1 + (wrap64 (8 + (wrap64 (t375))))))) = some (r1, r2) := by first | (rw [hy386]; with_reducible exact H) | (have H2_ := (Option.bind_some _ _).symm.trans H; rw [hy386]; with_reducible exact H2_) | (have H2_ := (Option.bind_some _ _).symm.trans H; with_reducible exact H2_) | with_reducible exact H | (rw [hy386]; exact H) | exact H
               have Ny386 := Aside0.mk hy386
               clear hy386
               have H' := Aside0.mk H
               clear H
               obtain ⟨i023, hi023, _, hsz23, _⟩ := info_parts info5
               obtain ⟨A23, hcut23, hA23, hC23⟩ := print_mid_of (P := Tryd.prog) (Value.int .u8) 0 41 5 .i64 .u32 Tryd.underlying41 hi023 hsz23 A10 (c0 - x5_1.toNat) (l0.drop (x5_1 : Int).toNat) 8 ((8 + t375) % 4294967296) (by omega) (by first | omega | exact of_decide_eq_true (by first | (with_reducible assumption) | assumption)) (of_decide_eq_true (by first | (with_reducible assumption) | assumption)) HC374.out
               have HR376 := Aside0.mk (C_of_reads (h1 := fun _ => rfl) (hA23 _ (Kd.reads_of_C HR374.out)))
               have HC376 := Aside0.mk hC23
               clear hA23 hC23 hi023 hsz23
               try simp only [List.length_drop] at hcut23
               try go_wp2
               have n0_ := Aside0.mk (S_drew HO_4.out)
               have n1_ := Aside0.mk (below_drew1 HB.out)
               clear HO_4
               clear HB
               have HO_4 := n0_
               have HB := n1_
               clear n0_ n1_
               obtain ⟨i025, hi025, _, hsz25, _⟩ := info_parts info5
               obtain ⟨A25, hcut25, hA25, hC25⟩ := print_drop_of (P := Tryd.prog) (Value.int .u8) 0 41 5 .i64 Tryd.underlying41 hi025 hsz25 A10 (c0 - x5_1.toNat) (l0.drop (x5_1 : Int).toNat) 4 (by omega) (of_decide_eq_true (by first | (with_reducible assumption) | assumption)) HC374.out
               have HR377 := Aside0.mk (C_of_reads (h1 := fun _ => rfl) (hA25 _ (Kd.reads_of_C HR374.out)))
               have HC377 := Aside0.mk hC25
               clear hA25 hC25 hi025 hsz25
               try simp only [List.length_drop] at hcut25
               refine start_ (n := 7) (S := fun w' => True) (ds := []) #[false, false, false, false, false, false, false] (by kernel_rfl) rfl rfl trivial (fun hHeld => ?_)
               generalize wc.drew = w24 at HO_4 HB HR377 hHeld ⊢
               refine pure_ (i := 1) (N := some 42) (v := ?_) (a' := ?_) #[false, true, false, false, false, false, false] rfl rfl (by kernel_rfl) (fun _ _ _ h => h) (Or.inl ⟨by rfl, ?_⟩) ?_ ?_
               rotate_left
               ·
                intro w'
                go_simp
                with_reducible rfl
               rotate_left
               ·
                simp only [Act.put, List.setIfInBounds_toArray, List.set_cons_zero, List.set_cons_succ, i64_w, i32_w]
                rfl
               refine pure_ (i := 2) (N := some 43) (v := ?_) (a' := ?_) #[false, true, true, false, false, false, false] rfl rfl (by kernel_rfl) (fun _ _ _ h => h) (Or.inl ⟨by rfl, ?_⟩) ?_ ?_
               rotate_left
               ·
                intro w'
                go_simp
                with_reducible rfl
               rotate_left
               ·
                simp only [Act.put, List.setIfInBounds_toArray, List.set_cons_zero, List.set_cons_succ, i64_w, i32_w]
                rfl
               refine pure_ (i := 4) (N := some 45) (v := ?_) (a' := ?_) #[false, true, true, false, true, false, false] rfl rfl (by kernel_rfl) (fun _ _ _ h => h) (Or.inl ⟨by rfl, ?_⟩) ?_ ?_
               rotate_left
               ·
                intro w'
                go_simp
                with_reducible rfl
               rotate_left
               ·
                simp only [Act.put, List.setIfInBounds_toArray, List.set_cons_zero, List.set_cons_succ, i64_w, i32_w]
                rfl
               refine take_ (i := 0) (N := some 41) (v := ?_) (a' := ?_) #[true, true, true, false, true, false, false] rfl rfl (by kernel_rfl) (fun _ _ _ h => h) (Or.inl ⟨by rfl, ?_⟩) hHeld ?_ ?_
               rotate_left
               ·
                intro w' _
                go_simp
                with_reducible rfl
               rotate_left
               ·
                simp only [Act.put, List.setIfInBounds_toArray, List.set_cons_zero, List.set_cons_succ, i64_w, i32_w]
                rfl
               refine one_ (i := 3) (N := some 44) #[true, true, true, true, true, false, false] rfl rfl (by kernel_rfl) (by decide) (fun K hK => ?_)
               refine goes_ Tryd.func105 (by kernel_rfl) rfl #[.agg #[], .slice A25 ((l0.drop (x5_1 : Int).toNat).drop 4).length ((c0 - x5_1.toNat) - 4)] (by rfl) rfl rfl (by (try simp only [List.map_toArray, List.map_cons, List.map_nil]); first | done | (rw [show ((l0.drop (x5_1 : Int).toNat).drop 4).length = ((l0.drop (x5_1 : Int).toNat).length - 4) from List.length_drop] <;> rfl) | rfl | (simp only [List.length_drop, List.length_take]; rfl)) ?_
               with_reducible refine (binary_littleEndian_Uint32.calls  _ _ ((l0.drop (x5_1 : Int).toNat).drop 4) t378 _ ?side1 ?side2 A18.out).mono ?_
               (case side1 => repeat (first | exact (C_below HR377.out HB.out) | (with_reducible refine C_alloc ?_ _) | (with_reducible refine C_drewN ?_ _) | (with_reducible refine C_drew ?_)))
               (case side2 => exact HC377.out)
               rintro e w26 ⟨rfl, hb⟩
               refine ⟨_, rfl, ?_⟩
               have n0_ := Aside0.mk (S_below (by (with_reducible repeat (first | apply S_alloc | apply S_drewN | apply S_drew)); exact HO_4.out) hb)
               have n1_ := Aside0.mk (below_step (by repeat (first | (with_reducible first | exact HB.out | apply below_alloc | apply pw_below_drewN | apply below_drew1) | exact HB.out)) hb)
               clear HO_4
               clear HB
               have HO_4 := n0_
               have HB := n1_
               clear n0_ n1_
               (try clear hb)
               (try clear hb2)
               (try clear hk)
               (try clear hi)
               refine hK.out _ _ trivial (fun hHeld => ?_)
               clear hK K
               refine norm_ (a' := ?_) ?_ ?_
               rotate_left
               ·
                show Act.put _ (some 44) _ = _
                simp only [Act.put, List.setIfInBounds_toArray, List.set_cons_zero, List.set_cons_succ, i64_w, i32_w]
                rfl
               refine one_ (i := 5) (N := some 46) #[true, true, true, true, true, true, false] rfl rfl (by kernel_rfl) (by decide) (fun K hK => ?_)
               refine goes_ Tryd.func92 (by kernel_rfl) rfl #[.slice A23 (((l0.drop (x5_1 : Int).toNat).take (((8 + t375) % 4294967296) : Int).toNat).drop 8).length ((c0 - x5_1.toNat) - 8)] (by rfl) rfl rfl (by (try simp only [List.map_toArray, List.map_cons, List.map_nil]); first | done | (rw [show (((l0.drop (x5_1 : Int).toNat).take (((8 + t375) % 4294967296) : Int).toNat).drop 8).length = (((8 + t375) % 4294967296).toNat - 8) from (by rw [List.length_drop, List.length_take]; have h_ : (((8 + t375) % 4294967296) : Int) ≤ ((l0.drop (x5_1 : Int).toNat).length : Int) := of_decide_eq_true (by first | (with_reducible assumption) | assumption); omega)] <;> rfl) | rfl | (simp only [List.length_drop, List.length_take]; rfl)) ?_
               with_reducible refine (impl_crc32.calls kj8 _ _ (((l0.drop (x5_1 : Int).toNat).take (((8 + t375) % 4294967296) : Int).toNat).drop 8) t379 _ ?side1 ?side2 A19.out).mono ?_
               (case side1 => repeat (first | exact (C_below HR376.out HB.out) | (with_reducible refine C_alloc ?_ _) | (with_reducible refine C_drewN ?_ _) | (with_reducible refine C_drew ?_)))
               (case side2 => exact HC376.out)
               rintro e w' ⟨rfl, ⟨nd, rfl⟩⟩
               refine ⟨_, rfl, ?_⟩
               refine hK.out _ _ trivial (fun hHeld => ?_)
               clear hK K
               refine norm_ (a' := ?_) ?_ ?_
               rotate_left
               ·
                show Act.put _ (some 46) _ = _
                simp only [Act.put, List.setIfInBounds_toArray, List.set_cons_zero, List.set_cons_succ, i64_w, i32_w]
                rfl
               refine pure_ (i := 6) (N := some 47) (v := ?_) (a' := ?_) #[true, true, true, true, true, true, true] rfl rfl (by kernel_rfl) (fun _ _ _ h => h) (Or.inl ⟨by rfl, ?_⟩) ?_ ?_
               rotate_left
               ·
                intro w'
                go_simp
                with_reducible rfl
               rotate_left
               ·
                simp only [Act.put, List.setIfInBounds_toArray, List.set_cons_zero, List.set_cons_succ, i64_w, i32_w]
                rfl
               refine done_ (by kernel_rfl) ?_
               try go_wp2_with (first | ((with_reducible refine gate_dst (N := 51) rfl ?_); (try (refine gate_guard (by rfl) ?_; dsimp only)); refine R_lit (Kd.int .u8) _ 5 ?hg (N := 51) ?hd (xs := ([] : List Int)) (inner := []) (ok := fun _ => True) (okp := fun _ => True) ?hr ?hp (fun _ hk => hk) trivial (Below.refl _ _) (Nat.le_refl _) (by simp) ?_; (case hd => rfl); (case hg => rfl); (case hr => first | (go_simp; done) | (go_simp; rfl)); (case hp => exact (Reps.none _ _)); intro v381 w27 ho28 hb hg_ hnew_; clear hg_ hnew_; (first | rw [← Ny380.out] at ho28 | (simp only [Int.reduceToNat] at ho28; rw [← Ny380.out] at ho28)); have n0_ := Aside0.mk (S_elder' (by (with_reducible repeat (first | apply S_alloc | apply S_drewN | apply S_drew)); exact HO_4.out) (R_base ho28) hb); have n1_ := Aside0.mk (R_lower ho28 (below_size (by repeat (first | (with_reducible first | exact HB.out | apply below_alloc | apply pw_below_drewN | apply below_drew1) | exact HB.out)))); have n2_ := Aside0.mk (below_step (by repeat (first | (with_reducible first | exact HB.out | apply below_alloc | apply pw_below_drewN | apply below_drew1) | exact HB.out)) hb); clear HO_4; clear HB; have HO_4 := n0_; have HO382 := n1_; have HB := n2_; clear n0_ n1_ n2_; clear hb ho28) | ((with_reducible refine gate_builtin (b := .append) (xs := #[.tmp 51, .tmp 52]) rfl ?_); (try (refine gate_guard (by rfl) ?_; dsimp only)); at_builtin; refine R_append_rows (Kd.int .u8) (w0 := w) w.heap.size rfl (.tmp 51) (.tmp 52) 41 5 (.int .u8 0) 1 rfl Tryd.underlying41 info5 rfl (by decide) (by omega) v381 y380 (((l0.drop (x5_1 : Int).toNat).take (((8 + t375) % 4294967296) : Int).toNat).drop 8) _ _ _ (fun _ => True) (fun _ => False) rfl rfl ?aO ?aR (fun _ _ h => h) (fun _ h => h.elim) ?aF ?aB ?aS ?aL ?_; (case aR => first | ((conv => arg 5; rw [← show (((l0.drop (x5_1 : Int).toNat).take (((8 + t375) % 4294967296) : Int).toNat).drop 8).length = (((8 + t375) % 4294967296).toNat - 8) from (by rw [List.length_drop, List.length_take]; have h_ : (((8 + t375) % 4294967296) : Int) ≤ ((l0.drop (x5_1 : Int).toNat).length : Int) := of_decide_eq_true (by first | (with_reducible assumption) | assumption); omega)]); (repeat (first | exact (C_below HR376.out HB.out) | (with_reducible refine C_alloc ?_ _) | (with_reducible refine C_drewN ?_ _) | (with_reducible refine C_drew ?_)))) | (rw [← show (((l0.drop (x5_1 : Int).toNat).take (((8 + t375) % 4294967296) : Int).toNat).drop 8).length = (((8 + t375) % 4294967296).toNat - 8) from (by rw [List.length_drop, List.length_take]; have h_ : (((8 + t375) % 4294967296) : Int) ≤ ((l0.drop (x5_1 : Int).toNat).length : Int) := of_decide_eq_true (by first | (with_reducible assumption) | assumption); omega)]; repeat (first | exact (C_below HR376.out HB.out) | (with_reducible refine C_alloc ?_ _) | (with_reducible refine C_drewN ?_ _) | (with_reducible refine C_drew ?_))) | (repeat (first | exact (C_below HR376.out HB.out) | (with_reducible refine C_alloc ?_ _) | (with_reducible refine C_drewN ?_ _) | (with_reducible refine C_drew ?_)))); (case aB => exact (by repeat (first | (with_reducible first | exact HB.out | apply below_alloc | apply pw_below_drewN | apply below_drew1) | exact HB.out))); (case aF => exact (fun _ _ => trivial)); (case aO => exact (by (with_reducible repeat (first | apply R_alloc | apply R_drewN | apply R_drew)); exact HO382.out)); (case aS => exact (below_size (by repeat (first | (with_reducible first | exact HB.out | apply below_alloc | apply pw_below_drewN | apply below_drew1) | exact HB.out)))); (case aL => have := LMc21.out; have hlx_ := (show (((l0.drop (x5_1 : Int).toNat).take (((8 + t375) % 4294967296) : Int).toNat).drop 8).length = (((8 + t375) % 4294967296).toNat - 8) from (by rw [List.length_drop, List.length_take]; have h_ : (((8 + t375) % 4294967296) : Int) ≤ ((l0.drop (x5_1 : Int).toNat).length : Int) := of_decide_eq_true (by first | (with_reducible assumption) | assumption); omega)); omega); intro v384 w29 ho hb hg hat; rw [← Ny383.out] at ho; have n0_ := Aside0.mk (S_after (ok := (fun _ => True)) (by (with_reducible repeat (first | apply S_alloc | apply S_drewN | apply S_drew)); exact HO_4.out) hg hat); have n1_ := Aside0.mk (hb); have n2_ := Aside0.mk (ho); clear HO_4; clear HB; clear HO382; have HO_4 := n0_; have HB := n1_; have HO385 := n2_; clear n0_ n1_ n2_; clear ho hb hg hat; obtain ⟨Ao31, co31, eo31⟩ := R_slice HO385.out; subst eo31) | ((with_reducible refine gate_builtin (b := .append) (xs := #[.tmp 50, .tmp 54]) rfl ?_); (try (refine gate_guard (by rfl) ?_; dsimp only)); at_builtin; refine S_append (Kd.slice 5 (Kd.int .u8)) (w0 := w) w.heap.size rfl (.tmp 50) (.tmp 54) 36 41 (.slice none 0 0) 24 rfl Tryd.underlying36 info41 rfl (by decide) (by omega) u4 x4_1 y383 [.slice Ao31 y383.length co31] (fun _ => True) (fun k_ => some k_ = (.slice Ao31 y383.length co31 : Value).ownBlock) rfl rfl ?aP (fun k_ hk_ => ((R_mono (ok' := fun k_ => ((fun _ => True)) k_ ∧ some k_ ≠ (u4 : Value).ownBlock) (R_apart' (HO385.out) (S_typed HO_4.out) (by decide)) (fun k_ hk => ⟨trivial, hk.2⟩))).1 k_ hk_.symm) ?aF ?aO ?aB ?aS ?aL ?_; (case aP => exact M_row (R_mono (R_tight rfl (R_mono (ok' := fun k_ => ((fun _ => True)) k_ ∧ some k_ ≠ (u4 : Value).ownBlock) (R_apart' (HO385.out) (S_typed HO_4.out) (by decide)) (fun k_ hk => ⟨trivial, hk.2⟩))) (fun _ h_ => h_))); (case aB => exact (by repeat (first | (with_reducible first | exact HB.out | apply below_alloc | apply pw_below_drewN | apply below_drew1) | exact HB.out))); (case aF => exact (fun _ _ => trivial)); (case aO => exact (by (with_reducible repeat (first | apply S_alloc | apply S_drewN | apply S_drew)); exact S_mono HO_4.out (fun k_ hk => ⟨trivial, fun e_ => hk.2 e_⟩))); (case aS => exact (below_size (by repeat (first | (with_reducible first | exact HB.out | apply below_alloc | apply pw_below_drewN | apply below_drew1) | exact HB.out)))); (case aL => have := LMc22.out; omega); intro v387 w30 ho hb hg hat; rw [← Ny386.out] at ho; have n0_ := Aside0.mk (hb); have n1_ := Aside0.mk (ho); clear HB; clear HO_4; clear HO385; have HB := n0_; have HO388 := n1_; clear n0_ n1_; clear ho hb hg hat))
               go_roundg kj8
               case measure => have := HK1.out; have := HJ8.out; omega
               case rel => exact ⟨(y386), (wrap64 (x5_1 + (wrap64 (8 + (wrap64 (t375)))))), (by first | rfl | (simp; done) | (simp [*]; done)), H', ⟨by have := HK1.out; have := HJ8.out; omega⟩, ⟨by (with_reducible repeat (first | apply S_alloc | apply S_drewN | apply S_drew)); exact HO388.out⟩, ⟨by repeat (first | (with_reducible first | exact HB.out | apply below_alloc | apply pw_below_drewN | apply below_drew1) | exact HB.out)⟩⟩
              ·
               rw [if_neg c22] at H
               exact absurd H (by simp)
             ·
              rw [if_neg c21] at H
              exact absurd H (by simp)
            ·
             rw [if_neg c20] at H
             have c20b0 : (t378 == t379) = false := beq_eq_false_iff_ne.mpr c20
             have c20b1 : (t378 != t379) = true := bne_iff_ne.mpr c20
             simp only [Option.some.injEq, Prod.mk.injEq] at H
             obtain ⟨rfl, rfl⟩ := H
             obtain ⟨i032, hi032, _, hsz32, _⟩ := info_parts info5
             obtain ⟨A32, hcut32, hA32, hC32⟩ := print_mid_of (P := Tryd.prog) (Value.int .u8) 0 41 5 .i64 .u32 Tryd.underlying41 hi032 hsz32 A10 (c0 - x5_1.toNat) (l0.drop (x5_1 : Int).toNat) 8 ((8 + t375) % 4294967296) (by omega) (by first | omega | exact of_decide_eq_true (by first | (with_reducible assumption) | assumption)) (of_decide_eq_true (by first | (with_reducible assumption) | assumption)) HC374.out
             have HR376 := Aside0.mk (C_of_reads (h1 := fun _ => rfl) (hA32 _ (Kd.reads_of_C HR374.out)))
             have HC376 := Aside0.mk hC32
             clear hA32 hC32 hi032 hsz32
             try simp only [List.length_drop] at hcut32
             try go_wp2
             have n0_ := Aside0.mk (S_drew HO_4.out)
             have n1_ := Aside0.mk (below_drew1 HB.out)
             clear HO_4
             clear HB
             have HO_4 := n0_
             have HB := n1_
             clear n0_ n1_
             obtain ⟨i034, hi034, _, hsz34, _⟩ := info_parts info5
             obtain ⟨A34, hcut34, hA34, hC34⟩ := print_drop_of (P := Tryd.prog) (Value.int .u8) 0 41 5 .i64 Tryd.underlying41 hi034 hsz34 A10 (c0 - x5_1.toNat) (l0.drop (x5_1 : Int).toNat) 4 (by omega) (of_decide_eq_true (by first | (with_reducible assumption) | assumption)) HC374.out
             have HR377 := Aside0.mk (C_of_reads (h1 := fun _ => rfl) (hA34 _ (Kd.reads_of_C HR374.out)))
             have HC377 := Aside0.mk hC34
             clear hA34 hC34 hi034 hsz34
             try simp only [List.length_drop] at hcut34
             refine start_ (n := 7) (S := fun w' => True) (ds := []) #[false, false, false, false, false, false, false] (by kernel_rfl) rfl rfl trivial (fun hHeld => ?_)
             generalize wc.drew = w33 at HO_4 HB HR377 hHeld ⊢
             refine pure_ (i := 1) (N := some 42) (v := ?_) (a' := ?_) #[false, true, false, false, false, false, false] rfl rfl (by kernel_rfl) (fun _ _ _ h => h) (Or.inl ⟨by rfl, ?_⟩) ?_ ?_
             rotate_left
             ·
              intro w'
              go_simp
              with_reducible rfl
             rotate_left
             ·
              simp only [Act.put, List.setIfInBounds_toArray, List.set_cons_zero, List.set_cons_succ, i64_w, i32_w]
              rfl
             refine pure_ (i := 2) (N := some 43) (v := ?_) (a' := ?_) #[false, true, true, false, false, false, false] rfl rfl (by kernel_rfl) (fun _ _ _ h => h) (Or.inl ⟨by rfl, ?_⟩) ?_ ?_
             rotate_left
             ·
              intro w'
              go_simp
              with_reducible rfl
             rotate_left
             ·
              simp only [Act.put, List.setIfInBounds_toArray, List.set_cons_zero, List.set_cons_succ, i64_w, i32_w]
              rfl
             refine pure_ (i := 4) (N := some 45) (v := ?_) (a' := ?_) #[false, true, true, false, true, false, false] rfl rfl (by kernel_rfl) (fun _ _ _ h => h) (Or.inl ⟨by rfl, ?_⟩) ?_ ?_
             rotate_left
             ·
              intro w'
              go_simp
              with_reducible rfl
             rotate_left
             ·
              simp only [Act.put, List.setIfInBounds_toArray, List.set_cons_zero, List.set_cons_succ, i64_w, i32_w]
              rfl
             refine take_ (i := 0) (N := some 41) (v := ?_) (a' := ?_) #[true, true, true, false, true, false, false] rfl rfl (by kernel_rfl) (fun _ _ _ h => h) (Or.inl ⟨by rfl, ?_⟩) hHeld ?_ ?_
             rotate_left
             ·
              intro w' _
              go_simp
              with_reducible rfl
             rotate_left
             ·
              simp only [Act.put, List.setIfInBounds_toArray, List.set_cons_zero, List.set_cons_succ, i64_w, i32_w]
              rfl
             refine one_ (i := 3) (N := some 44) #[true, true, true, true, true, false, false] rfl rfl (by kernel_rfl) (by decide) (fun K hK => ?_)
             refine goes_ Tryd.func105 (by kernel_rfl) rfl #[.agg #[], .slice A34 ((l0.drop (x5_1 : Int).toNat).drop 4).length ((c0 - x5_1.toNat) - 4)] (by rfl) rfl rfl (by (try simp only [List.map_toArray, List.map_cons, List.map_nil]); first | done | (rw [show ((l0.drop (x5_1 : Int).toNat).drop 4).length = ((l0.drop (x5_1 : Int).toNat).length - 4) from List.length_drop] <;> rfl) | rfl | (simp only [List.length_drop, List.length_take]; rfl)) ?_
             with_reducible refine (binary_littleEndian_Uint32.calls  _ _ ((l0.drop (x5_1 : Int).toNat).drop 4) t378 _ ?side1 ?side2 A18.out).mono ?_
             (case side1 => repeat (first | exact (C_below HR377.out HB.out) | (with_reducible refine C_alloc ?_ _) | (with_reducible refine C_drewN ?_ _) | (with_reducible refine C_drew ?_)))
             (case side2 => exact HC377.out)
             rintro e w35 ⟨rfl, hb⟩
             refine ⟨_, rfl, ?_⟩
             have n0_ := Aside0.mk (S_below (by (with_reducible repeat (first | apply S_alloc | apply S_drewN | apply S_drew)); exact HO_4.out) hb)
             have n1_ := Aside0.mk (below_step (by repeat (first | (with_reducible first | exact HB.out | apply below_alloc | apply pw_below_drewN | apply below_drew1) | exact HB.out)) hb)
             clear HO_4
             clear HB
             have HO_4 := n0_
             have HB := n1_
             clear n0_ n1_
             (try clear hb)
             (try clear hb2)
             (try clear hk)
             (try clear hi)
             refine hK.out _ _ trivial (fun hHeld => ?_)
             clear hK K
             refine norm_ (a' := ?_) ?_ ?_
             rotate_left
             ·
              show Act.put _ (some 44) _ = _
              simp only [Act.put, List.setIfInBounds_toArray, List.set_cons_zero, List.set_cons_succ, i64_w, i32_w]
              rfl
             refine one_ (i := 5) (N := some 46) #[true, true, true, true, true, true, false] rfl rfl (by kernel_rfl) (by decide) (fun K hK => ?_)
             refine goes_ Tryd.func92 (by kernel_rfl) rfl #[.slice A32 (((l0.drop (x5_1 : Int).toNat).take (((8 + t375) % 4294967296) : Int).toNat).drop 8).length ((c0 - x5_1.toNat) - 8)] (by rfl) rfl rfl (by (try simp only [List.map_toArray, List.map_cons, List.map_nil]); first | done | (rw [show (((l0.drop (x5_1 : Int).toNat).take (((8 + t375) % 4294967296) : Int).toNat).drop 8).length = (((8 + t375) % 4294967296).toNat - 8) from (by rw [List.length_drop, List.length_take]; have h_ : (((8 + t375) % 4294967296) : Int) ≤ ((l0.drop (x5_1 : Int).toNat).length : Int) := of_decide_eq_true (by first | (with_reducible assumption) | assumption); omega)] <;> rfl) | rfl | (simp only [List.length_drop, List.length_take]; rfl)) ?_
             with_reducible refine (impl_crc32.calls kj8 _ _ (((l0.drop (x5_1 : Int).toNat).take (((8 + t375) % 4294967296) : Int).toNat).drop 8) t379 _ ?side1 ?side2 A19.out).mono ?_
             (case side1 => repeat (first | exact (C_below HR376.out HB.out) | (with_reducible refine C_alloc ?_ _) | (with_reducible refine C_drewN ?_ _) | (with_reducible refine C_drew ?_)))
             (case side2 => exact HC376.out)
             rintro e w' ⟨rfl, ⟨nd, rfl⟩⟩
             refine ⟨_, rfl, ?_⟩
             refine hK.out _ _ trivial (fun hHeld => ?_)
             clear hK K
             refine norm_ (a' := ?_) ?_ ?_
             rotate_left
             ·
              show Act.put _ (some 46) _ = _
              simp only [Act.put, List.setIfInBounds_toArray, List.set_cons_zero, List.set_cons_succ, i64_w, i32_w]
              rfl
             refine pure_ (i := 6) (N := some 47) (v := ?_) (a' := ?_) #[true, true, true, true, true, true, true] rfl rfl (by kernel_rfl) (fun _ _ _ h => h) (Or.inl ⟨by rfl, ?_⟩) ?_ ?_
             rotate_left
             ·
              intro w'
              go_simp
              with_reducible rfl
             rotate_left
             ·
              simp only [Act.put, List.setIfInBounds_toArray, List.set_cons_zero, List.set_cons_succ, i64_w, i32_w]
              rfl
             refine done_ (by kernel_rfl) ?_
             try go_wp2
             go_ret2
             exact ⟨_, by first | rfl | (simp [errW_none, errW_some] <;> rfl) | (simp [*, errW_none, errW_some] <;> rfl), by (with_reducible repeat (first | apply S_alloc | apply S_drewN | apply S_drew)); exact HO_4.out, by repeat (first | (with_reducible first | exact HB.out | apply below_alloc | apply pw_below_drewN | apply below_drew1) | exact HB.out)⟩
           ·
            rw [if_neg c17] at H
            exact absurd H (by simp)
          ·
           rw [if_neg c16] at H
           exact absurd H (by simp)
         ·
          rw [if_neg c15] at H
          exact absurd H (by simp)
    ·
     rw [if_neg c5] at H
     exact absurd H (by simp)
   ·
    rw [if_neg c4] at H
    exact absurd H (by simp)
end Go.Proofs.YtcgojdhbphocgaaDoor.F

namespace Go.Proofs.YtcgojdhbphocgaaDoor.F
open Go.RowKit Go.Proofs.YtcgojdhbphocgaaDoorW.PrintWords Go.Proofs.YtcgojdhbphocgaaDoorW.PrintWords.Kd Go.Proofs.YtcgojdhbphocgaaDoorW.PrintMore.Kd Go.Proofs.YtcgojdhbphocgaaDoorW.PrintLast Go.Proofs.YtcgojdhbphocgaaDoorW.PrintMore
attribute [local go_sem] max2_int min2_int max_two min_two max_three min_three max_four min_four   -- for this text's walks alone
set_option linter.unusedVariables false
set_option linter.unusedSimpArgs false
def bytes_Equal.f (l0 : List Int) (l1 : List Int) : Option (Bool) := some ((strOfNums l0).toList == (strOfNums l1).toList)
set_option maxHeartbeats 8000000 in
set_option maxRecDepth 100000 in
theorem bytes_Equal.calls (A0 : Option Addr) (c0 : Nat) (l0 : List Int) (A1 : Option Addr) (c1 : Nat) (l1 : List Int) (r : Bool) (w : World) (hr0 : Kd.C (Kd.int .u8) w A0 l0.length l0) (hc0 : l0.length ≤ c0) (hr1 : Kd.C (Kd.int .u8) w A1 l1.length l1) (hc1 : l1.length ≤ c1) (h : bytes_Equal.f l0 l1 = some r) :
  Calls Tryd.prog 106 #[.slice A0 l0.length c0, .slice A1 l1.length c1] w fun e w' => e = .returned (.bool r) ∧ Drawn0 w w' := by
 have HR0 := Aside0.mk hr0
 have HC0 := Aside0.mk hc0
 clear hr0 hc0
 have HR1 := Aside0.mk hr1
 have HC1 := Aside0.mk hc1
 clear hr1 hc1
 have H : (some ((strOfNums l0).toList == (strOfNums l1).toList)) = some r := h
 clear h
 obtain rfl := Option.some.inj H
 have hcv3 := C_string (P := Tryd.prog) (A := A0) (c := c0) Tryd.underlying41 Tryd.underlying5 Tryd.underlying9 HR0.out
 have hcv4 := fun (nq_ : Nat) => C_string (P := Tryd.prog) (A := A0) (c := c0) Tryd.underlying41 Tryd.underlying5 Tryd.underlying9 (C_drewN HR0.out nq_)
 have hcv5 := C_string (P := Tryd.prog) (A := A1) (c := c1) Tryd.underlying41 Tryd.underlying5 Tryd.underlying9 HR1.out
 have hcv6 := fun (nq_ : Nat) => C_string (P := Tryd.prog) (A := A1) (c := c1) Tryd.underlying41 Tryd.underlying5 Tryd.underlying9 (C_drewN HR1.out nq_)
 go_enter Tryd.func106, Tryd.ntmps106
 go_wp2
 go_ret
 exact ⟨by first | rfl | (simp; done) | (simp [*]; done), by repeat (first | exact Drawn0.refl _ | apply Drawn0.step)⟩
end Go.Proofs.YtcgojdhbphocgaaDoor.F

namespace Go.Proofs.YtcgojdhbphocgaaDoor.F
open Go.RowKit Go.Proofs.YtcgojdhbphocgaaDoorW.PrintWords Go.Proofs.YtcgojdhbphocgaaDoorW.PrintWords.Kd Go.Proofs.YtcgojdhbphocgaaDoorW.PrintMore.Kd Go.Proofs.YtcgojdhbphocgaaDoorW.PrintLast Go.Proofs.YtcgojdhbphocgaaDoorW.PrintMore
attribute [local go_sem] max2_int min2_int max_two min_two max_three min_three max_four min_four   -- for this text's walks alone
set_option linter.unusedVariables false
set_option linter.unusedSimpArgs false
def binary_littleEndian_AppendUint32.f  (l1 : List Int) (a2 : Int) : Option (List Int) := (some (([(a2) % 256, (a2 / 256) % 256, (a2 / 65536) % 256, (a2 / 16777216) % 256] : List Int) : List Int)).bind fun y390 => (if l1.length + y390.length < 140737488355328 then (some (l1 ++ y390)) else (none))
set_option maxHeartbeats 8000000 in
set_option maxRecDepth 100000 in
theorem binary_littleEndian_AppendUint32.calls  (P1_ : Nat → Prop) (u9000_ : Value) (l1 : List Int) (a2 : Int) (r : List Int) (w0 w : World) (hB : Below w0.heap.size w0 w) (ho1 : Kd.R (Kd.int .u8) 5 w w0.heap.size P1_ u9000_ l1) (h : binary_littleEndian_AppendUint32.f l1 a2 = some r) :
  Calls Tryd.prog 91 #[.agg #[], u9000_, .int .u32 a2] w fun e w' => ∃ v0_ : Value, e = .returned (v0_) ∧ Kd.R (Kd.int .u8) 5 w' w0.heap.size (fun k_ => (P1_ k_ ∨ w.heap.size ≤ k_)) v0_ r ∧ Below w0.heap.size w0 w' ∧ Kept w w' (fun k_ => P1_ k_) := by
 have hu94 := Tryd.underlying94
 have HO1 := Aside0.mk (show Kd.R (Kd.int .u8) 5 w w0.heap.size (fun k_ => (P1_ k_ ∨ w.heap.size ≤ k_)) u9000_ l1 from R_mono ho1 (fun k_ hk => (.inl hk)))
 have HK := Aside0.mk (Kept.refl w (fun k_ => P1_ k_))
 have HW0 := Aside0.mk hB.size
 have HB := Aside0.mk hB
 clear hB
 have H : ((some (([(a2) % 256, (a2 / 256) % 256, (a2 / 65536) % 256, (a2 / 16777216) % 256] : List Int) : List Int)).bind fun y390 => (if l1.length + y390.length < 140737488355328 then (some (l1 ++ y390)) else (none))) = some r := h
 clear h
 obtain ⟨y390, hy390⟩ : ∃ y_ : List Int, y_ = (([(a2) % 256, (a2 / 256) % 256, (a2 / 65536) % 256, (a2 / 16777216) % 256] : List Int)) := ⟨_, rfl⟩
 replace H : (if l1.length + y390.length < 140737488355328 then (some (l1 ++ y390)) else (none)) = some r := by first | (rw [hy390]; with_reducible exact H) | (have H2_ := (Option.bind_some _ _).symm.trans H; rw [hy390]; with_reducible exact H2_) | (have H2_ := (Option.bind_some _ _).symm.trans H; with_reducible exact H2_) | with_reducible exact H | (rw [hy390]; exact H) | exact H
 have Ny390 := Aside0.mk hy390
 clear hy390
 by_cases c4 : l1.length + y390.length < 140737488355328
 ·
  rw [if_pos c4] at H
  have LMc4 := Aside0.mk c4
  clear c4
  obtain ⟨y393, hy393⟩ : ∃ y_ : List Int, y_ = (l1 ++ y390) := ⟨_, rfl⟩
  replace H : (some y393) = some r := by first | (rw [hy393]; with_reducible exact H) | (have H2_ := (Option.bind_some _ _).symm.trans H; rw [hy393]; with_reducible exact H2_) | (have H2_ := (Option.bind_some _ _).symm.trans H; with_reducible exact H2_) | with_reducible exact H | (rw [hy393]; exact H) | exact H
  have Ny393 := Aside0.mk hy393
  clear hy393
  obtain rfl := Option.some.inj H
  go_enter Tryd.func91, Tryd.ntmps91
  go_wp2_with (first | ((with_reducible refine gate_dst (N := 3) rfl ?_); refine box_event ?hg (N := 3) ?hd (cs := #[]) (t := 94) ?hr ?_; (case hd => rfl); (case hg => rfl); (case hr => first | (go_simp; done) | (go_simp; rfl)); intro gb389 hg w5 hbox hb; have n0_ := Aside0.mk (R_below (by (with_reducible repeat (first | apply R_alloc | apply R_drewN | apply R_drew)); exact HO1.out) hb); have n1_ := Aside0.mk (Kept.below (S := (fun k_ => P1_ k_)) (by repeat (first | (with_reducible first | exact HK.out | apply Kept.alloc | apply Kept.drewN | apply Kept.drew) | exact HK.out)) hb); have n2_ := Aside0.mk (below_step (by repeat (first | (with_reducible first | exact HB.out | apply below_alloc | apply pw_below_drewN | apply below_drew1) | exact HB.out)) hb); have n3_ := Aside0.mk (hbox); have n4_ := Aside0.mk ((by rw [hg]; exact (by first | exact HK.out.1 | exact (show Kept w _ (fun k_ => P1_ k_) from by repeat (first | (with_reducible first | exact HK.out | apply Kept.alloc | apply Kept.drewN | apply Kept.drew) | exact HK.out)).1) : w.heap.size ≤ gb389)); have n5_ := Aside0.mk ((by rw [hg]; exact (below_size (by repeat (first | (with_reducible first | exact HB.out | apply below_alloc | apply pw_below_drewN | apply below_drew1) | exact HB.out))) : w0.heap.size ≤ gb389)); clear HO1; clear HK; clear HB; have HO1 := n0_; have HK := n1_; have HB := n2_; have BK389 := n3_; have GW389 := n4_; have GE389 := n5_; clear n0_ n1_ n2_ n3_ n4_ n5_; clear hb hbox hg) | ((with_reducible refine gate_dst (N := 19) rfl ?_); refine R_lit (Kd.int .u8) _ 5 ?hg (N := 19) ?hd (xs := ([(a2) % 256, (a2 / 256) % 256, (a2 / 65536) % 256, (a2 / 16777216) % 256] : List Int)) (inner := [.int .u8 ((a2) % 256), .int .u8 ((a2 / 256) % 256), .int .u8 ((a2 / 65536) % 256), .int .u8 ((a2 / 16777216) % 256)]) (ok := fun _ => True) (okp := fun _ => True) ?hr ?hp (fun _ hk => hk) trivial (Below.refl _ _) (Nat.le_refl _) (by simp) ?_; (case hd => rfl); (case hg => rfl); (case hr => first | (go_simp; done) | (go_simp; rfl)); (case hp => exact (Reps.one (show Kd.M (Kd.int .u8) _ _ _ ((a2) % 256) [.int .u8 ((a2) % 256)] from rfl) (Reps.one (show Kd.M (Kd.int .u8) _ _ _ ((a2 / 256) % 256) [.int .u8 ((a2 / 256) % 256)] from rfl) (Reps.one (show Kd.M (Kd.int .u8) _ _ _ ((a2 / 65536) % 256) [.int .u8 ((a2 / 65536) % 256)] from rfl) (Reps.one (show Kd.M (Kd.int .u8) _ _ _ ((a2 / 16777216) % 256) [.int .u8 ((a2 / 16777216) % 256)] from rfl) (Reps.none _ _)))))); intro v391 w6 ho7 hb hg_ hnew_; clear hg_ hnew_; (first | rw [← Ny390.out] at ho7 | (simp only [Int.reduceToNat] at ho7; rw [← Ny390.out] at ho7)); have n0_ := Aside0.mk (R_elder' (by (with_reducible repeat (first | apply R_alloc | apply R_drewN | apply R_drew)); exact HO1.out) (R_base ho7) hb); have n1_ := Aside0.mk (R_lower (R_new' (R_newM (M := fun k_ => (P1_ k_ ∨ w.heap.size ≤ k_)) ho7 (by first | exact HK.out.1 | exact (show Kept w _ (fun k_ => P1_ k_) from by repeat (first | (with_reducible first | exact HK.out | apply Kept.alloc | apply Kept.drewN | apply Kept.drew | refine Kept.setCell ?_ (.inr GW389.out) _) | exact HK.out)).1) (fun k_ h_ => .inr h_)) (R_lt (by (with_reducible repeat (first | apply R_alloc | apply R_drewN | apply R_drew)); exact HO1.out))) (below_size (by repeat (first | (with_reducible first | exact HB.out | apply below_alloc | apply pw_below_drewN | apply below_drew1 | refine below_set ?_ GE389.out) | exact HB.out)))); have n2_ := Aside0.mk (blk_below (g := gb389) (o := .cells #[] 94 (0, 0)) (by (with_reducible repeat (first | refine blk_drewN ?_ _ | refine blk_drew ?_ | refine blk_alloc ?_ _)); exact BK389.out) hb); have n3_ := Aside0.mk (Kept.below (S := (fun k_ => P1_ k_)) (by repeat (first | (with_reducible first | exact HK.out | apply Kept.alloc | apply Kept.drewN | apply Kept.drew | refine Kept.setCell ?_ (.inr GW389.out) _) | exact HK.out)) hb); have n4_ := Aside0.mk (below_step (by repeat (first | (with_reducible first | exact HB.out | apply below_alloc | apply pw_below_drewN | apply below_drew1 | refine below_set ?_ GE389.out) | exact HB.out)) hb); clear HO1; clear BK389; clear HK; clear HB; have HO1 := n0_; have HO392 := n1_; have BK389 := n2_; have HK := n3_; have HB := n4_; clear n0_ n1_ n2_ n3_ n4_; clear hb ho7; obtain ⟨Ao9, co9, eo9⟩ := R_slice HO392.out; subst eo9) | ((with_reducible refine gate_builtin (b := .append) (xs := #[.tmp 7, .tmp 19]) rfl ?_); at_builtin; refine R_append_rows (Kd.int .u8) (w0 := w0) w0.heap.size rfl (.tmp 7) (.tmp 19) 41 5 (.int .u8 0) 1 rfl Tryd.underlying41 info5 rfl (by decide) (by omega) u9000_ l1 y390 _ _ _ (fun k_ => (P1_ k_ ∨ w.heap.size ≤ k_) ∧ some k_ ≠ (.slice Ao9 y390.length co9 : Value).ownBlock) (fun _ => False) rfl rfl ?aO ?aR (fun _ _ h => h) (fun _ h => h.elim) ?aF ?aB ?aS ?aL ?_; (case aR => repeat (first | exact (R_reads' HO392.out).2.2 | (with_reducible refine C_alloc ?_ _) | (with_reducible refine C_drewN ?_ _) | (with_reducible refine C_drew ?_))); (case aB => exact (by repeat (first | (with_reducible first | exact HB.out | apply below_alloc | apply pw_below_drewN | apply below_drew1 | refine below_set ?_ GE389.out) | exact HB.out))); (case aF => exact (fun k_ hk => ⟨(.inr (Nat.le_trans (by first | exact HK.out.1 | exact (show Kept w _ (fun k_ => P1_ k_) from by repeat (first | (with_reducible first | exact HK.out | apply Kept.alloc | apply Kept.drewN | apply Kept.drew | refine Kept.setCell ?_ (.inr GW389.out) _) | exact HK.out)).1) hk)), Kd.fresh' (R_lt (by (with_reducible repeat (first | apply R_alloc | apply R_drewN | apply R_drew)); exact HO392.out)) k_ hk⟩)); (case aO => exact (by (with_reducible repeat (first | apply R_alloc | apply R_drewN | apply R_drew)); exact HO1.out)); (case aS => exact (below_size (by repeat (first | (with_reducible first | exact HB.out | apply below_alloc | apply pw_below_drewN | apply below_drew1 | refine below_set ?_ GE389.out) | exact HB.out)))); (case aL => have := LMc4.out; omega); intro v394 w8 ho hb hg hat; rw [← Ny393.out] at ho; have n0_ := Aside0.mk (blk_grown (g := gb389) (o := .cells #[] 94 (0, 0)) (by (with_reducible repeat (first | refine blk_drewN ?_ _ | refine blk_drew ?_ | refine blk_alloc ?_ _)); exact BK389.out) hg (R_ne HO1.out BK389.out (by decide))); have n1_ := Aside0.mk (R_after (ok := (fun k_ => (P1_ k_ ∨ w.heap.size ≤ k_))) (by (with_reducible repeat (first | apply R_alloc | apply R_drewN | apply R_drew)); exact R_mono HO392.out (fun _ hk => ⟨hk.1.1, hk.2⟩)) hg hat); have n2_ := Aside0.mk (hb); have n3_ := Aside0.mk (Kept.of_grown (S := (fun k_ => P1_ k_)) hg (by repeat (first | (with_reducible first | exact HK.out | apply Kept.alloc | apply Kept.drewN | apply Kept.drew | refine Kept.setCell ?_ (.inr GW389.out) _) | exact HK.out)) (fun k_ e_ => (HO1.out.1 k_ e_).1)); have n4_ := Aside0.mk (ho); clear BK389; clear HO392; clear HB; clear HK; clear HO1; have BK389 := n0_; have HO392 := n1_; have HB := n2_; have HK := n3_; have HO395 := n4_; clear n0_ n1_ n2_ n3_ n4_; clear ho hb hg hat))
  go_ret
  exact ⟨_, by first | rfl | (simp [errW_none, errW_some] <;> rfl) | (simp [*, errW_none, errW_some] <;> rfl), by (with_reducible repeat (first | apply R_alloc | apply R_drewN | apply R_drew)); exact R_mono HO395.out (fun _ hk => hk.1), by repeat (first | (with_reducible first | exact HB.out | apply below_alloc | apply pw_below_drewN | apply below_drew1 | refine below_set ?_ GE389.out) | exact HB.out), by repeat (first | (with_reducible first | exact HK.out | apply Kept.alloc | apply Kept.drewN | apply Kept.drew | refine Kept.setCell ?_ (.inr GW389.out) _) | exact HK.out)⟩
 ·
  rw [if_neg c4] at H
  exact absurd H (by simp)
end Go.Proofs.YtcgojdhbphocgaaDoor.F

namespace Go.Proofs.YtcgojdhbphocgaaDoor.F
open Go.RowKit Go.Proofs.YtcgojdhbphocgaaDoorW.PrintWords Go.Proofs.YtcgojdhbphocgaaDoorW.PrintWords.Kd Go.Proofs.YtcgojdhbphocgaaDoorW.PrintMore.Kd Go.Proofs.YtcgojdhbphocgaaDoorW.PrintLast Go.Proofs.YtcgojdhbphocgaaDoorW.PrintMore
attribute [local go_sem] max2_int min2_int max_two min_two max_three min_three max_four min_four   -- for this text's walks alone
set_option linter.unusedVariables false
set_option linter.unusedSimpArgs false
def impl_frame.j0 : Nat → List Int → Bool → Option (List Int)
 | 0, _, _ => none
 | k + 1, x0, x11 => if x11 = true then (some ([] : List Int)) else ((binary_littleEndian_AppendUint32.f ([] : List Int) (((x0.length : Int)) % 4294967296)).bind fun t396 => ((impl_crc32.f k x0).bind fun t399 => ((binary_littleEndian_AppendUint32.f t396 t399).bind fun t400 => (if t400.length + x0.length < 140737488355328 then (some (t400 ++ x0)) else (none)))))
def impl_frame.f (k : Nat) (l0 : List Int) : Option (List Int) := if (l0.length : Int) < 1 then (impl_frame.j0 k l0 true) else (impl_frame.j0 k l0 (decide ((l0.length : Int) > 600)))
set_option maxHeartbeats 8000000 in
set_option maxRecDepth 100000 in
theorem impl_frame.calls (k : Nat) (A0 : Option Addr) (c0 : Nat) (l0 : List Int) (r : List Int) (w : World) (hr0 : Kd.C (Kd.int .u8) w A0 l0.length l0) (hc0 : l0.length ≤ c0) (h : impl_frame.f k l0 = some r) :
  Calls Tryd.prog 60 #[.slice A0 l0.length c0] w fun e w' => ∃ v0_ : Value, e = .returned (v0_) ∧ Kd.R (Kd.int .u8) 5 w' w.heap.size (fun _ => True) v0_ r ∧ Below w.heap.size w w' := by
 have hu94 := Tryd.underlying94
 have HR0 := Aside0.mk hr0
 have HC0 := Aside0.mk hc0
 clear hr0 hc0
 have HB := Aside0.mk (Below.refl w.heap.size w)
 have H : (if (l0.length : Int) < 1 then (impl_frame.j0 k l0 true) else (impl_frame.j0 k l0 (decide ((l0.length : Int) > 600)))) = some r := h
 clear h
 have HC2 := Aside0.mk H
 clear H
 go_enter Tryd.func60, Tryd.ntmps60
 go_upto_region 1 with (fail)
 go_cut [11] (fun v11 wc => ∃ (kq : Nat) (x11_1 : Bool), v11 = .bool x11_1 ∧ Aside0 (impl_frame.j0 kq l0 x11_1 = some r) ∧ Aside0 (kq ≤ k) ∧ Aside0 (Below w.heap.size w wc))
 case first =>
  have H := HC2.out
  clear HC2
  by_cases c3 : (l0.length : Int) < 1
  ·
   rw [if_pos c3] at H
   have c3b0 : decide ((l0.length : Int) < 1) = true := decide_eq_true c3
   have c3b1 : decide (l0.length < 1) = true := decide_eq_true (by omega)
   clear c3
   (first | rw [c3b0] | (simp only [i64_w, i32_w]; rw [c3b0]) | skip)
   have H' := Aside0.mk H
   clear H
   go_wp2
   go_meet
   case rel => exact ⟨_, (true), (by first | rfl | (simp; done) | (simp [*]; done)), H', ⟨by first | omega | exact Nat.le_refl _⟩, ⟨by repeat (first | (with_reducible first | exact HB.out | apply below_alloc | apply pw_below_drewN | apply below_drew1) | exact HB.out)⟩⟩
  ·
   rw [if_neg c3] at H
   have c3b0 : decide ((l0.length : Int) < 1) = false := decide_eq_false c3
   have c3b1 : decide (l0.length < 1) = false := decide_eq_false (by omega)
   clear c3
   (first | rw [c3b0] | (simp only [i64_w, i32_w]; rw [c3b0]) | skip)
   have H' := Aside0.mk H
   clear H
   go_wp2
   go_meet
   case rel => exact ⟨_, (decide ((l0.length : Int) > 600)), (by first | rfl | (simp; done) | (simp [*]; done)), H', ⟨by first | omega | exact Nat.le_refl _⟩, ⟨by repeat (first | (with_reducible first | exact HB.out | apply below_alloc | apply pw_below_drewN | apply below_drew1) | exact HB.out)⟩⟩
 case rest =>
  clear HC2
  try clear p2
  try clear c3
  try clear c3b0
  try clear c3b1
  obtain ⟨kq, x11_1, rfl, HA, HJ1, HB⟩ := hcut
  cases kq with
  | zero => exact absurd HA.out (by simp [impl_frame.j0])
  | succ kj1 =>
   have H := HA.out
   clear HA
   simp only [impl_frame.j0] at H
   by_cases c4 : x11_1 = true
   ·
    subst c4
    have H1 : (some ([] : List Int)) = some r := by rw [if_pos rfl] at H; exact H
    clear H
    have H := H1
    clear H1
    obtain rfl := Option.some.inj H
    go_wp2
    go_ret
    exact ⟨_, by first | rfl | (simp [errW_none, errW_some] <;> rfl) | (simp [*, errW_none, errW_some] <;> rfl), by first | exact R_nil _ _ _ _ _ | exact N_nil _ _ _ _ _ | exact V_nil _ _ _ _ _ | exact Q_nil _ _ _ _ _ | exact S_nil _ _ _ _ _, by repeat (first | (with_reducible first | exact HB.out | apply below_alloc | apply pw_below_drewN | apply below_drew1) | exact HB.out)⟩
   ·
    replace c4 := Bool.eq_false_iff.mpr c4
    subst c4
    have H1 : ((binary_littleEndian_AppendUint32.f ([] : List Int) (((l0.length : Int)) % 4294967296)).bind fun t396 => ((impl_crc32.f kj1 l0).bind fun t399 => ((binary_littleEndian_AppendUint32.f t396 t399).bind fun t400 => (if t400.length + l0.length < 140737488355328 then (some (t400 ++ l0)) else (none))))) = some r := by rw [if_neg (show ¬ (false = true) by decide)] at H; exact H
    clear H
    have H := H1
    clear H1
    replace H := Option.bind_eq_some_iff.mp H
    obtain ⟨t396, A50, H⟩ := H
    replace H : ((impl_crc32.f kj1 l0).bind fun t399 => ((binary_littleEndian_AppendUint32.f t396 t399).bind fun t400 => (if t400.length + l0.length < 140737488355328 then (some (t400 ++ l0)) else (none)))) = some r := H
    have A5 := Aside0.mk A50
    clear A50
    replace H := Option.bind_eq_some_iff.mp H
    obtain ⟨t399, A60, H⟩ := H
    replace H : ((binary_littleEndian_AppendUint32.f t396 t399).bind fun t400 => (if t400.length + l0.length < 140737488355328 then (some (t400 ++ l0)) else (none))) = some r := H
    have A6 := Aside0.mk A60
    clear A60
    replace H := Option.bind_eq_some_iff.mp H
    obtain ⟨t400, A70, H⟩ := H
    replace H : (if t400.length + l0.length < 140737488355328 then (some (t400 ++ l0)) else (none)) = some r := H
    have A7 := Aside0.mk A70
    clear A70
    by_cases c8 : t400.length + l0.length < 140737488355328
    ·
     rw [if_pos c8] at H
     have LMc8 := Aside0.mk c8
     clear c8
     obtain ⟨y403, hy403⟩ : ∃ y_ : List Int, y_ = (t400 ++ l0) := ⟨_, rfl⟩
     replace H : (some y403) = some r := by first | (rw [hy403]; with_reducible exact H) | (have H2_ := (Option.bind_some _ _).symm.trans H; rw [hy403]; with_reducible exact H2_) | (have H2_ := (Option.bind_some _ _).symm.trans H; with_reducible exact H2_) | with_reducible exact H | (rw [hy403]; exact H) | exact H
     have Ny403 := Aside0.mk hy403
     clear hy403
     obtain rfl := Option.some.inj H
     try go_wp2_with (first | ((with_reducible refine gate_callee (f := 91) rfl ?_); refine goesL_ (some 16) rfl rfl Tryd.func91 (by kernel_rfl) rfl #[.agg #[], .slice none 0 0, .int .u32 (((l0.length : Int)) % 4294967296)] rfl (by (try simp only [List.map_toArray, List.map_cons, List.map_nil]); first | done | rfl | (simp only [List.length_drop, List.length_take]; rfl)) ?_; (refine (binary_littleEndian_AppendUint32.calls  (fun k_ => some k_ = (.slice none 0 0 : Value).ownBlock) (.slice none 0 0) ([] : List Int) (((l0.length : Int)) % 4294967296) t396 w _ ?side1 ?side2 A5.out).mono ?_); (case side1 => repeat (first | (with_reducible first | exact HB.out | apply below_alloc | apply pw_below_drewN | apply below_drew1) | exact HB.out)); (case side2 => exact R_nil _ _ _ _ _); rintro e w9 ⟨v397, rfl, ho0, hb, hkp⟩; refine ⟨_, rfl, ?_⟩; have n0_ := Aside0.mk (R_mono (ok' := fun k_ => True) ho0 (fun k_ hk_ => trivial)); have n1_ := Aside0.mk (hb); clear HB; have HO398 := n0_; have HB := n1_; clear n0_ n1_; (try clear hb); (try clear hkp); (try clear ho0)))
     have n0_ := Aside0.mk (R_drew HO398.out)
     have n1_ := Aside0.mk (below_drew1 HB.out)
     clear HO398
     clear HB
     have HO398 := n0_
     have HB := n1_
     clear n0_ n1_
     refine start_ (n := 6) (S := fun w' => True) (ds := []) #[false, false, false, false, false, false] (by kernel_rfl) rfl rfl trivial (fun hHeld => ?_)
     generalize w9.drew = w10 at HO398 HB hHeld ⊢
     refine pure_ (i := 1) (N := some 18) (v := ?_) (a' := ?_) #[false, true, false, false, false, false] rfl rfl (by kernel_rfl) (fun _ _ _ h => h) (Or.inl ⟨by rfl, ?_⟩) ?_ ?_
     rotate_left
     ·
      intro w'
      go_simp
      with_reducible rfl
     rotate_left
     ·
      simp only [Act.put, List.setIfInBounds_toArray, List.set_cons_zero, List.set_cons_succ, i64_w, i32_w]
      rfl
     refine pure_ (i := 2) (N := some 19) (v := ?_) (a' := ?_) #[false, true, true, false, false, false] rfl rfl (by kernel_rfl) (fun _ _ _ h => h) (Or.inl ⟨by rfl, ?_⟩) ?_ ?_
     rotate_left
     ·
      intro w'
      go_simp
      with_reducible rfl
     rotate_left
     ·
      simp only [Act.put, List.setIfInBounds_toArray, List.set_cons_zero, List.set_cons_succ, i64_w, i32_w]
      rfl
     refine take_ (i := 0) (N := some 17) (v := ?_) (a' := ?_) #[true, true, true, false, false, false] rfl rfl (by kernel_rfl) (fun _ _ _ h => h) (Or.inl ⟨by rfl, ?_⟩) hHeld ?_ ?_
     rotate_left
     ·
      intro w' _
      go_simp
      with_reducible rfl
     rotate_left
     ·
      simp only [Act.put, List.setIfInBounds_toArray, List.set_cons_zero, List.set_cons_succ, i64_w, i32_w]
      rfl
     refine one_ (i := 3) (N := some 20) #[true, true, true, true, false, false] rfl rfl (by kernel_rfl) (by decide) (fun K hK => ?_)
     refine goes_ Tryd.func92 (by kernel_rfl) rfl #[.slice A0 l0.length c0] (by rfl) rfl rfl (by (try simp only [List.map_toArray, List.map_cons, List.map_nil]); first | done | rfl | (simp only [List.length_drop, List.length_take]; rfl)) ?_
     with_reducible refine (impl_crc32.calls kj1 _ _ l0 t399 _ ?side1 ?side2 A6.out).mono ?_
     (case side1 => repeat (first | exact (C_below HR0.out HB.out) | (with_reducible refine C_alloc ?_ _) | (with_reducible refine C_drewN ?_ _) | (with_reducible refine C_drew ?_)))
     (case side2 => exact HC0.out)
     rintro e w' ⟨rfl, ⟨nd, rfl⟩⟩
     refine ⟨_, rfl, ?_⟩
     obtain ⟨Ao11, co11, eo11⟩ := R_slice HO398.out
     (first | subst eo11 | (injection eo11 with f1_ f2_ f3_; have f4_ := f1_.symm; have f5_ := f3_.symm; clear f1_ f2_ f3_; subst f4_; subst f5_))
     refine hK.out _ _ trivial (fun hHeld => ?_)
     clear hK K
     refine norm_ (a' := ?_) ?_ ?_
     rotate_left
     ·
      show Act.put _ (some 20) _ = _
      simp only [Act.put, List.setIfInBounds_toArray, List.set_cons_zero, List.set_cons_succ, i64_w, i32_w]
      rfl
     refine one_ (i := 4) (N := some 21) #[true, true, true, true, true, false] rfl rfl (by kernel_rfl) (by decide) (fun K hK => ?_)
     refine goes_ Tryd.func91 (by kernel_rfl) rfl #[.agg #[], .slice Ao11 t396.length co11, .int .u32 t399] (by rfl) rfl rfl (by (try simp only [List.map_toArray, List.map_cons, List.map_nil]); first | done | rfl | (simp only [List.length_drop, List.length_take]; rfl)) ?_
     with_reducible refine (binary_littleEndian_AppendUint32.calls  (fun k_ => some k_ = (.slice Ao11 t396.length co11 : Value).ownBlock) (.slice Ao11 t396.length co11) t396 t399 t400 w _ ?side1 ?side2 A7.out).mono ?_
     (case side1 => repeat (first | (with_reducible first | exact HB.out | apply below_alloc | apply pw_below_drewN | apply below_drew1) | exact HB.out))
     (case side2 => exact R_tight rfl HO398.out)
     rintro e w12 ⟨v401, rfl, ho0, hb, hkp⟩
     refine ⟨_, rfl, ?_⟩
     have n0_ := Aside0.mk (R_mono (ok' := fun k_ => True) ho0 (fun k_ hk_ => trivial))
     have n1_ := Aside0.mk (hb)
     clear HB
     clear HO398
     have HO402 := n0_
     have HB := n1_
     clear n0_ n1_
     (try clear hb)
     (try clear hkp)
     (try clear ho0)
     refine hK.out _ _ trivial (fun hHeld => ?_)
     clear hK K
     refine norm_ (a' := ?_) ?_ ?_
     rotate_left
     ·
      show Act.put _ (some 21) _ = _
      simp only [Act.put, List.setIfInBounds_toArray, List.set_cons_zero, List.set_cons_succ, i64_w, i32_w]
      rfl
     refine pure_ (i := 5) (N := some 3) (v := ?_) (a' := ?_) #[true, true, true, true, true, true] rfl rfl (by kernel_rfl) (fun _ _ _ h => h) (Or.inl ⟨by rfl, ?_⟩) ?_ ?_
     rotate_left
     ·
      intro w'
      go_simp
      with_reducible rfl
     rotate_left
     ·
      simp only [Act.put, List.setIfInBounds_toArray, List.set_cons_zero, List.set_cons_succ, i64_w, i32_w]
      rfl
     refine done_ (by kernel_rfl) ?_
     try go_wp2_with (first | ((with_reducible refine gate_builtin (b := .append) (xs := #[.tmp 22, .tmp 23]) rfl ?_); (try (refine gate_guard (by rfl) ?_; dsimp only)); at_builtin; refine R_append_rows (Kd.int .u8) (w0 := w) w.heap.size rfl (.tmp 22) (.tmp 23) 41 5 (.int .u8 0) 1 rfl Tryd.underlying41 info5 rfl (by decide) (by omega) v401 t400 l0 _ _ _ (fun _ => True) (fun _ => False) rfl rfl ?aO ?aR (fun _ _ h => h) (fun _ h => h.elim) ?aF ?aB ?aS ?aL ?_; (case aR => repeat (first | exact (C_below HR0.out HB.out) | (with_reducible refine C_alloc ?_ _) | (with_reducible refine C_drewN ?_ _) | (with_reducible refine C_drew ?_))); (case aB => exact (by repeat (first | (with_reducible first | exact HB.out | apply below_alloc | apply pw_below_drewN | apply below_drew1) | exact HB.out))); (case aF => exact (fun _ _ => trivial)); (case aO => exact (by (with_reducible repeat (first | apply R_alloc | apply R_drewN | apply R_drew)); exact HO402.out)); (case aS => exact (below_size (by repeat (first | (with_reducible first | exact HB.out | apply below_alloc | apply pw_below_drewN | apply below_drew1) | exact HB.out)))); (case aL => have := LMc8.out; omega); intro v404 w13 ho hb hg hat; rw [← Ny403.out] at ho; have n0_ := Aside0.mk (hb); have n1_ := Aside0.mk (ho); clear HB; clear HO402; have HB := n0_; have HO405 := n1_; clear n0_ n1_; clear ho hb hg hat))
     go_ret
     exact ⟨_, by first | rfl | (simp [errW_none, errW_some] <;> rfl) | (simp [*, errW_none, errW_some] <;> rfl), by (with_reducible repeat (first | apply R_alloc | apply R_drewN | apply R_drew)); exact HO405.out, by repeat (first | (with_reducible first | exact HB.out | apply below_alloc | apply pw_below_drewN | apply below_drew1) | exact HB.out)⟩
    ·
     rw [if_neg c8] at H
     exact absurd H (by simp)
end Go.Proofs.YtcgojdhbphocgaaDoor.F

namespace Go.Proofs.YtcgojdhbphocgaaDoor.F
open Go.Proofs.YtcgojdhbphocgaaDoor
open Go.RowKit Go.Proofs.YtcgojdhbphocgaaDoorW.PrintWords Go.Proofs.YtcgojdhbphocgaaDoorW.PrintWords.Kd Go.Proofs.YtcgojdhbphocgaaDoorW.PrintMore.Kd Go.Proofs.YtcgojdhbphocgaaDoorW.PrintLast Go.Proofs.YtcgojdhbphocgaaDoorW.PrintMore
attribute [local go_sem] max2_int min2_int max_two min_two max_three min_three max_four min_four   -- for this text's walks alone
set_option linter.unusedVariables false
set_option linter.unusedSimpArgs false
def impl_beginsFrame.j0 : Nat → List Int → Int → Bool → Option (Bool)
 | 0, _, _, _ => none
 | k + 1, x0, x3, x41 => if x41 = true then (some false) else (if 8 ≤ (wrap64 (8 + x3)) then (if (wrap64 (8 + x3)) ≤ (x0.length : Int) then ((impl_frame.f k ((x0.take ((wrap64 (8 + x3)) : Int).toNat).drop 8)).bind fun t411 => (if 0 ≤ (wrap64 (8 + x3)) then ((bytes_Equal.f t411 (x0.take ((wrap64 (8 + x3)) : Int).toNat)).bind fun t415 => (some t415)) else (none))) else (none)) else (none))
def impl_beginsFrame.f (k : Nat) (l0 : List Int) : Option (Bool) := if (l0.length : Int) < 8 then (some false) else (if 0 < (l0.length : Int) then (if 1 < (l0.length : Int) then (if 2 < (l0.length : Int) then (if (rd l0 2) = 0 then (if 3 < (l0.length : Int) then (if (rd l0 3) = 0 then (if (Go.bits .or .i64 (wrap64 (rd l0 0)) (wrap64 ((wrap64 (rd l0 1)) * 256))) < 1 then (impl_beginsFrame.j0 k l0 (Go.bits .or .i64 (wrap64 (rd l0 0)) (wrap64 ((wrap64 (rd l0 1)) * 256))) true) else (if (Go.bits .or .i64 (wrap64 (rd l0 0)) (wrap64 ((wrap64 (rd l0 1)) * 256))) > 600 then (impl_beginsFrame.j0 k l0 (Go.bits .or .i64 (wrap64 (rd l0 0)) (wrap64 ((wrap64 (rd l0 1)) * 256))) true) else (impl_beginsFrame.j0 k l0 (Go.bits .or .i64 (wrap64 (rd l0 0)) (wrap64 ((wrap64 (rd l0 1)) * 256))) (decide ((l0.length : Int) < (wrap64 (8 + (Go.bits .or .i64 (wrap64 (rd l0 0)) (wrap64 ((wrap64 (rd l0 1)) * 256)))))))))) else (impl_beginsFrame.j0 k l0 (Go.bits .or .i64 (wrap64 (rd l0 0)) (wrap64 ((wrap64 (rd l0 1)) * 256))) true)) else (none)) else (impl_beginsFrame.j0 k l0 (Go.bits .or .i64 (wrap64 (rd l0 0)) (wrap64 ((wrap64 (rd l0 1)) * 256))) true)) else (none)) else (none)) else (none))
def impl_beginsFrame.T3 : Bool × List (List Nat × List Nat) := (true, [([], []), ([0], [0]), ([1], [1]), ([2], [2]), ([], []), ([4], [4]), ([5], [5]), ([6], [6]), ([7], [7]), ([3, 8], [3, 8]), ([9, 0, 1, 2, 3, 4, 5, 6, 7, 8, 9], [9])])
def impl_beginsFrame.B3 : List Nat := [0, 1, 3, 7, 0, 16, 48, 112, 240, 511, 1023]
theorem impl_beginsFrame.tab3 : rtab .any (opsOf Tryd.f82 3) = impl_beginsFrame.T3 := by kernel_rfl
theorem impl_beginsFrame.bits3 : waitsOk impl_beginsFrame.T3.2 impl_beginsFrame.B3 = true := by kernel_rfl
def impl_beginsFrame.T6 : Bool × List (List Nat × List Nat) := (true, [([], []), ([], []), ([1], [1]), ([0, 2], [0, 2]), ([3], [3]), ([], []), ([], []), ([6], [6]), ([5, 7], [5, 7]), ([4, 8, 4], [4, 8]), ([9, 9, 0, 1, 2, 3, 4, 5, 6, 7, 8, 9], [9])])
def impl_beginsFrame.B6 : List Nat := [0, 0, 2, 7, 15, 0, 0, 64, 224, 511, 1023]
theorem impl_beginsFrame.tab6 : rtab .any (opsOf Tryd.f82 6) = impl_beginsFrame.T6 := by kernel_rfl
theorem impl_beginsFrame.bits6 : waitsOk impl_beginsFrame.T6.2 impl_beginsFrame.B6 = true := by kernel_rfl
set_option maxHeartbeats 8000000 in
set_option maxRecDepth 100000 in
theorem impl_beginsFrame.calls (k : Nat) (A0 : Option Addr) (c0 : Nat) (l0 : List Int) (r : Bool) (w : World) (hr0 : Kd.C (Kd.int .u8) w A0 l0.length l0) (hc0 : l0.length ≤ c0) (h : impl_beginsFrame.f k l0 = some r) :
  Calls Tryd.prog 82 #[.slice A0 l0.length c0] w fun e w' => e = .returned (.bool r) ∧ Below w.heap.size w w' := by
 have HR0 := Aside0.mk hr0
 have HC0 := Aside0.mk hc0
 clear hr0 hc0
 have HB := Aside0.mk (Below.refl w.heap.size w)
 have H : (if (l0.length : Int) < 8 then (some false) else (if 0 < (l0.length : Int) then (if 1 < (l0.length : Int) then (if 2 < (l0.length : Int) then (if (rd l0 2) = 0 then (if 3 < (l0.length : Int) then (if (rd l0 3) = 0 then (if (Go.bits .or .i64 (wrap64 (rd l0 0)) (wrap64 ((wrap64 (rd l0 1)) * 256))) < 1 then (impl_beginsFrame.j0 k l0 (Go.bits .or .i64 (wrap64 (rd l0 0)) (wrap64 ((wrap64 (rd l0 1)) * 256))) true) else (if (Go.bits .or .i64 (wrap64 (rd l0 0)) (wrap64 ((wrap64 (rd l0 1)) * 256))) > 600 then (impl_beginsFrame.j0 k l0 (Go.bits .or .i64 (wrap64 (rd l0 0)) (wrap64 ((wrap64 (rd l0 1)) * 256))) true) else (impl_beginsFrame.j0 k l0 (Go.bits .or .i64 (wrap64 (rd l0 0)) (wrap64 ((wrap64 (rd l0 1)) * 256))) (decide ((l0.length : Int) < (wrap64 (8 + (Go.bits .or .i64 (wrap64 (rd l0 0)) (wrap64 ((wrap64 (rd l0 1)) * 256)))))))))) else (impl_beginsFrame.j0 k l0 (Go.bits .or .i64 (wrap64 (rd l0 0)) (wrap64 ((wrap64 (rd l0 1)) * 256))) true)) else (none)) else (impl_beginsFrame.j0 k l0 (Go.bits .or .i64 (wrap64 (rd l0 0)) (wrap64 ((wrap64 (rd l0 1)) * 256))) true)) else (none)) else (none)) else (none))) = some r := h
 clear h
 by_cases c2 : (l0.length : Int) < 8
 ·
  rw [if_pos c2] at H
  have c2b0 : decide ((l0.length : Int) < 8) = true := decide_eq_true c2
  have c2b1 : decide (l0.length < 8) = true := decide_eq_true (by omega)
  clear c2
  obtain rfl := Option.some.inj H
  go_enter Tryd.func82, Tryd.ntmps82
  go_wp2
  go_ret
  exact ⟨by first | rfl | (simp [errW_none, errW_some] <;> rfl) | (simp [*, errW_none, errW_some] <;> rfl), by repeat (first | (with_reducible first | exact HB.out | apply below_alloc | apply pw_below_drewN | apply below_drew1) | exact HB.out)⟩
 ·
  rw [if_neg c2] at H
  have c2b0 : decide ((l0.length : Int) < 8) = false := decide_eq_false c2
  have c2b1 : decide (l0.length < 8) = false := decide_eq_false (by omega)
  clear c2
  by_cases c3 : 0 < (l0.length : Int)
  ·
   rw [if_pos c3] at H
   have c3b0 : decide (0 < (l0.length : Int)) = true := decide_eq_true c3
   have c3b1 : decide (0 < l0.length) = true := decide_eq_true (by omega)
   clear c3
   by_cases c4 : 1 < (l0.length : Int)
   ·
    rw [if_pos c4] at H
    have c4b0 : decide (1 < (l0.length : Int)) = true := decide_eq_true c4
    have c4b1 : decide (1 < l0.length) = true := decide_eq_true (by omega)
    clear c4
    have HC5 := Aside0.mk H
    clear H
    go_enter Tryd.func82, Tryd.ntmps82
    try go_wp2
    have n0_ := Aside0.mk (below_drew1 HB.out)
    clear HB
    have HB := n0_
    clear n0_
    have p406 : 0 ≤ (0 : Int) := (by omega)
    have q406 : 0 < (l0.length : Int) := of_decide_eq_true (by first | (with_reducible assumption) | assumption)
    obtain ⟨ad406, e406, hx406_0⟩ := Kd.at_int HR0.out 0 p406 q406
    have hw406_0 := hx406_0
    (try rw [show ((0 : Int)).toNat = 0 from rfl] at hw406_0)
    (try rw [show 0 * 1 = 0 from rfl] at hw406_0)
    (try rw [Addr.add_zero'] at hw406_0)
    cases e406
    have qi406 : (0 < l0.length) = True := eq_true (by omega)
    (try rw [show ((0 : Int)).toNat = 0 from rfl] at hx406_0)
    (try rw [Addr.add_zero'] at hx406_0)
    replace hx406_0 := (HB.out.cell (World.block_lt_of_cell? w _ hx406_0)).trans hx406_0
    replace p406 := eq_true p406
    replace q406 := eq_true q406
    have p407 : 0 ≤ (1 : Int) := (by omega)
    have q407 : 1 < (l0.length : Int) := of_decide_eq_true (by first | (with_reducible assumption) | assumption)
    obtain ⟨ad407, e407, hx407_0⟩ := Kd.at_int HR0.out 1 p407 q407
    have hw407_0 := hx407_0
    (try rw [show ((1 : Int)).toNat = 1 from rfl] at hw407_0)
    (try rw [show 1 * 1 = 1 from rfl] at hw407_0)
    (try simp only [Nat.reduceMul, Nat.reduceEqDiff, Go.Addr.add, ↓reduceIte] at hw407_0)
    obtain rfl : ad406 = ad407 := (by injection e407)
    (try simp only [show (1 : Int).toNat = 1 from rfl, Nat.reduceMul, Nat.reduceEqDiff, Go.Addr.add, ↓reduceIte] at hx407_0)
    have qi407 : (1 < l0.length) = True := eq_true (by omega)
    (try rw [show ((1 : Int)).toNat = 1 from rfl] at hx407_0)
    replace hx407_0 := (HB.out.cell (World.block_lt_of_cell? w _ hx407_0)).trans hx407_0
    replace p407 := eq_true p407
    replace q407 := eq_true q407
    refine start_ (n := 11) (S := fun w' => w'.cell? ad406 = some (.int .u8 (rd l0 0)) ∧ w'.cell? ⟨ad406.block, ad406.off + 1, none⟩ = some (.int .u8 (rd l0 1))) (ds := []) #[false, false, false, false, false, false, false, false, false, false, false] (by kernel_rfl) rfl rfl ⟨((HB.out.cell (World.block_lt_of_cell? w _ hw406_0)).trans hw406_0), ((HB.out.cell (World.block_lt_of_cell? w _ hw407_0)).trans hw407_0)⟩ (fun hHeld => ?_); refine with_tabW impl_beginsFrame.tab3 impl_beginsFrame.bits3 (fun HT_ HW_ => ?_)
    generalize w.drew = w6 at HB hx406_0 hx407_0 hHeld ⊢
    refine SQ.pu 0 7 HT_ ?_
    refine SQ.pu 1 8 HT_ ?_
    refine SQ.pu 4 11 HT_ ?_
    refine SQ.pu 5 12 HT_ ?_
    refine SQ.tk 2 9 HT_ HW_ hHeld ?_
    refine SQ.pu 3 10 HT_ ?_
    refine SQ.tk 6 13 HT_ HW_ hHeld ?_
    refine SQ.pu 7 14 HT_ ?_
    refine SQ.pu 8 15 HT_ ?_
    refine SQ.pu 9 16 HT_ ?_
    refine SQ.pu 10 3 HT_ ?_
    refine done_ (done_of HT_.out (by kernel_rfl)) ?_
    go_upto_region 4 with (fail)
    go_cut [41] (fun v41 wc => ∃ (kq : Nat) (x41_4 : Bool), v41 = .bool x41_4 ∧ Aside0 (impl_beginsFrame.j0 kq l0 (Go.bits .or .i64 (wrap64 (rd l0 0)) (wrap64 ((wrap64 (rd l0 1)) * 256))) x41_4 = some r) ∧ Aside0 (kq ≤ k) ∧ Aside0 (Below w.heap.size w wc))
    case first =>
     have H := HC5.out
     clear HC5
     by_cases c7 : 2 < (l0.length : Int)
     ·
      rw [if_pos c7] at H
      have c7b0 : decide (2 < (l0.length : Int)) = true := decide_eq_true c7
      have c7b1 : decide (2 < l0.length) = true := decide_eq_true (by omega)
      clear c7
      (first | rw [c7b0] | (simp only [i64_w, i32_w]; rw [c7b0]) | skip)
      by_cases c8 : (rd l0 2) = 0
      ·
       rw [if_pos c8] at H
       have c8b0 : ((rd l0 2) == 0) = true := beq_iff_eq.mpr c8
       have c8b1 : ((rd l0 2) != 0) = false := bne_eq_false_iff_eq.mpr c8
       clear c8
       by_cases c9 : 3 < (l0.length : Int)
       ·
        rw [if_pos c9] at H
        have c9b0 : decide (3 < (l0.length : Int)) = true := decide_eq_true c9
        have c9b1 : decide (3 < l0.length) = true := decide_eq_true (by omega)
        clear c9
        by_cases c10 : (rd l0 3) = 0
        ·
         rw [if_pos c10] at H
         have c10b0 : ((rd l0 3) == 0) = true := beq_iff_eq.mpr c10
         have c10b1 : ((rd l0 3) != 0) = false := bne_eq_false_iff_eq.mpr c10
         clear c10
         by_cases c11 : (Go.bits .or .i64 (wrap64 (rd l0 0)) (wrap64 ((wrap64 (rd l0 1)) * 256))) < 1
         ·
          rw [if_pos c11] at H
          have c11b0 : decide ((Go.bits .or .i64 (wrap64 (rd l0 0)) (wrap64 ((wrap64 (rd l0 1)) * 256))) < 1) = true := decide_eq_true c11
          clear c11
          have H' := Aside0.mk H
          clear H
          have p408 : 0 ≤ (2 : Int) := (by omega)
          have q408 : 2 < (l0.length : Int) := of_decide_eq_true (by first | (with_reducible assumption) | assumption)
          obtain ⟨ad408, e408, hx408_0⟩ := Kd.at_int HR0.out 2 p408 q408
          obtain rfl : ad406 = ad408 := (by injection e408)
          (try simp only [show (2 : Int).toNat = 2 from rfl, Nat.reduceMul, Nat.reduceEqDiff, Go.Addr.add, ↓reduceIte] at hx408_0)
          have qi408 : (2 < l0.length) = True := eq_true (by omega)
          (try rw [show ((2 : Int)).toNat = 2 from rfl] at hx408_0)
          replace hx408_0 := (HB.out.cell (World.block_lt_of_cell? w _ hx408_0)).trans hx408_0
          replace p408 := eq_true p408
          replace q408 := eq_true q408
          have p409 : 0 ≤ (3 : Int) := (by omega)
          have q409 : 3 < (l0.length : Int) := of_decide_eq_true (by first | (with_reducible assumption) | assumption)
          obtain ⟨ad409, e409, hx409_0⟩ := Kd.at_int HR0.out 3 p409 q409
          obtain rfl : ad406 = ad409 := (by injection e409)
          (try simp only [show (3 : Int).toNat = 3 from rfl, Nat.reduceMul, Nat.reduceEqDiff, Go.Addr.add, ↓reduceIte] at hx409_0)
          have qi409 : (3 < l0.length) = True := eq_true (by omega)
          (try rw [show ((3 : Int)).toNat = 3 from rfl] at hx409_0)
          replace hx409_0 := (HB.out.cell (World.block_lt_of_cell? w _ hx409_0)).trans hx409_0
          replace p409 := eq_true p409
          replace q409 := eq_true q409
          go_wp2
          go_meet
          case rel => exact ⟨_, (true), (by first | rfl | (simp; done) | (simp [*]; done)), H', ⟨by first | omega | exact Nat.le_refl _⟩, ⟨by repeat (first | (with_reducible first | exact HB.out | apply below_alloc | apply pw_below_drewN | apply below_drew1) | exact HB.out)⟩⟩
         ·
          rw [if_neg c11] at H
          have c11b0 : decide ((Go.bits .or .i64 (wrap64 (rd l0 0)) (wrap64 ((wrap64 (rd l0 1)) * 256))) < 1) = false := decide_eq_false c11
          clear c11
          by_cases c12 : (Go.bits .or .i64 (wrap64 (rd l0 0)) (wrap64 ((wrap64 (rd l0 1)) * 256))) > 600
          ·
           rw [if_pos c12] at H
           have c12b0 : decide (600 < (Go.bits .or .i64 (wrap64 (rd l0 0)) (wrap64 ((wrap64 (rd l0 1)) * 256)))) = true := decide_eq_true c12
           clear c12
           have H' := Aside0.mk H
           clear H
           have p408 : 0 ≤ (2 : Int) := (by omega)
           have q408 : 2 < (l0.length : Int) := of_decide_eq_true (by first | (with_reducible assumption) | assumption)
           obtain ⟨ad408, e408, hx408_0⟩ := Kd.at_int HR0.out 2 p408 q408
           obtain rfl : ad406 = ad408 := (by injection e408)
           (try simp only [show (2 : Int).toNat = 2 from rfl, Nat.reduceMul, Nat.reduceEqDiff, Go.Addr.add, ↓reduceIte] at hx408_0)
           have qi408 : (2 < l0.length) = True := eq_true (by omega)
           (try rw [show ((2 : Int)).toNat = 2 from rfl] at hx408_0)
           replace hx408_0 := (HB.out.cell (World.block_lt_of_cell? w _ hx408_0)).trans hx408_0
           replace p408 := eq_true p408
           replace q408 := eq_true q408
           have p409 : 0 ≤ (3 : Int) := (by omega)
           have q409 : 3 < (l0.length : Int) := of_decide_eq_true (by first | (with_reducible assumption) | assumption)
           obtain ⟨ad409, e409, hx409_0⟩ := Kd.at_int HR0.out 3 p409 q409
           obtain rfl : ad406 = ad409 := (by injection e409)
           (try simp only [show (3 : Int).toNat = 3 from rfl, Nat.reduceMul, Nat.reduceEqDiff, Go.Addr.add, ↓reduceIte] at hx409_0)
           have qi409 : (3 < l0.length) = True := eq_true (by omega)
           (try rw [show ((3 : Int)).toNat = 3 from rfl] at hx409_0)
           replace hx409_0 := (HB.out.cell (World.block_lt_of_cell? w _ hx409_0)).trans hx409_0
           replace p409 := eq_true p409
           replace q409 := eq_true q409
           go_wp2
           go_meet
           case rel => exact ⟨_, (true), (by first | rfl | (simp; done) | (simp [*]; done)), H', ⟨by first | omega | exact Nat.le_refl _⟩, ⟨by repeat (first | (with_reducible first | exact HB.out | apply below_alloc | apply pw_below_drewN | apply below_drew1) | exact HB.out)⟩⟩
          ·
           rw [if_neg c12] at H
           have c12b0 : decide (600 < (Go.bits .or .i64 (wrap64 (rd l0 0)) (wrap64 ((wrap64 (rd l0 1)) * 256)))) = false := decide_eq_false c12
           clear c12
           have H' := Aside0.mk H
           clear H
           have p408 : 0 ≤ (2 : Int) := (by omega)
           have q408 : 2 < (l0.length : Int) := of_decide_eq_true (by first | (with_reducible assumption) | assumption)
           obtain ⟨ad408, e408, hx408_0⟩ := Kd.at_int HR0.out 2 p408 q408
           obtain rfl : ad406 = ad408 := (by injection e408)
           (try simp only [show (2 : Int).toNat = 2 from rfl, Nat.reduceMul, Nat.reduceEqDiff, Go.Addr.add, ↓reduceIte] at hx408_0)
           have qi408 : (2 < l0.length) = True := eq_true (by omega)
           (try rw [show ((2 : Int)).toNat = 2 from rfl] at hx408_0)
           replace hx408_0 := (HB.out.cell (World.block_lt_of_cell? w _ hx408_0)).trans hx408_0
           replace p408 := eq_true p408
           replace q408 := eq_true q408
           have p409 : 0 ≤ (3 : Int) := (by omega)
           have q409 : 3 < (l0.length : Int) := of_decide_eq_true (by first | (with_reducible assumption) | assumption)
           obtain ⟨ad409, e409, hx409_0⟩ := Kd.at_int HR0.out 3 p409 q409
           obtain rfl : ad406 = ad409 := (by injection e409)
           (try simp only [show (3 : Int).toNat = 3 from rfl, Nat.reduceMul, Nat.reduceEqDiff, Go.Addr.add, ↓reduceIte] at hx409_0)
           have qi409 : (3 < l0.length) = True := eq_true (by omega)
           (try rw [show ((3 : Int)).toNat = 3 from rfl] at hx409_0)
           replace hx409_0 := (HB.out.cell (World.block_lt_of_cell? w _ hx409_0)).trans hx409_0
           replace p409 := eq_true p409
           replace q409 := eq_true q409
           go_wp2
           go_meet
           case rel => exact ⟨_, (decide ((l0.length : Int) < (wrap64 (8 + (Go.bits .or .i64 (wrap64 (rd l0 0)) (wrap64 ((wrap64 (rd l0 1)) * 256))))))), (by first | rfl | (simp; done) | (simp [*]; done)), H', ⟨by first | omega | exact Nat.le_refl _⟩, ⟨by repeat (first | (with_reducible first | exact HB.out | apply below_alloc | apply pw_below_drewN | apply below_drew1) | exact HB.out)⟩⟩
        ·
         rw [if_neg c10] at H
         have c10b0 : ((rd l0 3) == 0) = false := beq_eq_false_iff_ne.mpr c10
         have c10b1 : ((rd l0 3) != 0) = true := bne_iff_ne.mpr c10
         have H' := Aside0.mk H
         clear H
         have p408 : 0 ≤ (2 : Int) := (by omega)
         have q408 : 2 < (l0.length : Int) := of_decide_eq_true (by first | (with_reducible assumption) | assumption)
         obtain ⟨ad408, e408, hx408_0⟩ := Kd.at_int HR0.out 2 p408 q408
         obtain rfl : ad406 = ad408 := (by injection e408)
         (try simp only [show (2 : Int).toNat = 2 from rfl, Nat.reduceMul, Nat.reduceEqDiff, Go.Addr.add, ↓reduceIte] at hx408_0)
         have qi408 : (2 < l0.length) = True := eq_true (by omega)
         (try rw [show ((2 : Int)).toNat = 2 from rfl] at hx408_0)
         replace hx408_0 := (HB.out.cell (World.block_lt_of_cell? w _ hx408_0)).trans hx408_0
         replace p408 := eq_true p408
         replace q408 := eq_true q408
         have p409 : 0 ≤ (3 : Int) := (by omega)
         have q409 : 3 < (l0.length : Int) := of_decide_eq_true (by first | (with_reducible assumption) | assumption)
         obtain ⟨ad409, e409, hx409_0⟩ := Kd.at_int HR0.out 3 p409 q409
         obtain rfl : ad406 = ad409 := (by injection e409)
         (try simp only [show (3 : Int).toNat = 3 from rfl, Nat.reduceMul, Nat.reduceEqDiff, Go.Addr.add, ↓reduceIte] at hx409_0)
         have qi409 : (3 < l0.length) = True := eq_true (by omega)
         (try rw [show ((3 : Int)).toNat = 3 from rfl] at hx409_0)
         replace hx409_0 := (HB.out.cell (World.block_lt_of_cell? w _ hx409_0)).trans hx409_0
         replace p409 := eq_true p409
         replace q409 := eq_true q409
         go_wp2
         go_meet
         case rel => exact ⟨_, (true), (by first | rfl | (simp; done) | (simp [*]; done)), H', ⟨by first | omega | exact Nat.le_refl _⟩, ⟨by repeat (first | (with_reducible first | exact HB.out | apply below_alloc | apply pw_below_drewN | apply below_drew1) | exact HB.out)⟩⟩
       ·
        rw [if_neg c9] at H
        exact absurd H (by simp)
      ·
       rw [if_neg c8] at H
       have c8b0 : ((rd l0 2) == 0) = false := beq_eq_false_iff_ne.mpr c8
       have c8b1 : ((rd l0 2) != 0) = true := bne_iff_ne.mpr c8
       have H' := Aside0.mk H
       clear H
       have p408 : 0 ≤ (2 : Int) := (by omega)
       have q408 : 2 < (l0.length : Int) := of_decide_eq_true (by first | (with_reducible assumption) | assumption)
       obtain ⟨ad408, e408, hx408_0⟩ := Kd.at_int HR0.out 2 p408 q408
       obtain rfl : ad406 = ad408 := (by injection e408)
       (try simp only [show (2 : Int).toNat = 2 from rfl, Nat.reduceMul, Nat.reduceEqDiff, Go.Addr.add, ↓reduceIte] at hx408_0)
       have qi408 : (2 < l0.length) = True := eq_true (by omega)
       (try rw [show ((2 : Int)).toNat = 2 from rfl] at hx408_0)
       replace hx408_0 := (HB.out.cell (World.block_lt_of_cell? w _ hx408_0)).trans hx408_0
       replace p408 := eq_true p408
       replace q408 := eq_true q408
       go_wp2
       go_meet
       case rel => exact ⟨_, (true), (by first | rfl | (simp; done) | (simp [*]; done)), H', ⟨by first | omega | exact Nat.le_refl _⟩, ⟨by repeat (first | (with_reducible first | exact HB.out | apply below_alloc | apply pw_below_drewN | apply below_drew1) | exact HB.out)⟩⟩
     ·
      rw [if_neg c7] at H
      exact absurd H (by simp)
    case rest =>
     clear HC5
     try clear c1
     try clear c2
     try clear c2b0
     try clear c2b1
     try clear p2
     try clear c3
     try clear c3b0
     try clear c3b1
     try clear c4
     try clear c4b0
     try clear c4b1
     try clear p4
     try clear q4
     try clear hx4
     try clear qi4
     try clear p6
     try clear c7
     try clear c7b0
     try clear c7b1
     try clear c8
     try clear c8b0
     try clear c8b1
     try clear c9
     try clear c9b0
     try clear c9b1
     try clear c10
     try clear c10b0
     try clear c10b1
     try clear c11
     try clear c11b0
     try clear c12
     try clear c12b0
     try clear hx406_0
     try clear hx407_0
     try clear hx408_0
     try clear hx409_0
     try clear p406
     try clear p407
     try clear p408
     try clear p409
     try clear q406
     try clear q407
     try clear q408
     try clear q409
     obtain ⟨kq, x41_4, rfl, HA, HJ4, HB⟩ := hcut
     cases kq with
     | zero => exact absurd HA.out (by simp [impl_beginsFrame.j0])
     | succ kj4 =>
      have H := HA.out
      clear HA
      simp only [impl_beginsFrame.j0] at H
      by_cases c13 : x41_4 = true
      ·
       subst c13
       have H1 : (some false) = some r := by rw [if_pos rfl] at H; exact H
       clear H
       have H := H1
       clear H1
       obtain rfl := Option.some.inj H
       go_wp2
       go_ret
       exact ⟨by first | rfl | (simp [errW_none, errW_some] <;> rfl) | (simp [*, errW_none, errW_some] <;> rfl), by repeat (first | (with_reducible first | exact HB.out | apply below_alloc | apply pw_below_drewN | apply below_drew1) | exact HB.out)⟩
      ·
       replace c13 := Bool.eq_false_iff.mpr c13
       subst c13
       have H1 : (if 8 ≤ (wrap64 (8 + (Go.bits .or .i64 (wrap64 (rd l0 0)) (wrap64 ((wrap64 (rd l0 1)) * 256))))) then (if (wrap64 (8 + (Go.bits .or .i64 (wrap64 (rd l0 0)) (wrap64 ((wrap64 (rd l0 1)) * 256))))) ≤ (l0.length : Int) then ((impl_frame.f kj4 ((l0.take ((wrap64 (8 + (Go.bits .or .i64 (wrap64 (rd l0 0)) (wrap64 ((wrap64 (rd l0 1)) * 256))))) : Int).toNat).drop 8)).bind fun t411 => (if 0 ≤ (wrap64 (8 + (Go.bits .or .i64 (wrap64 (rd l0 0)) (wrap64 ((wrap64 (rd l0 1)) * 256))))) then ((bytes_Equal.f t411 (l0.take ((wrap64 (8 + (Go.bits .or .i64 (wrap64 (rd l0 0)) (wrap64 ((wrap64 (rd l0 1)) * 256))))) : Int).toNat)).bind fun t415 => (some t415)) else (none))) else (none)) else (none)) = some r := by rw [if_neg (show ¬ (false = true) by decide)] at H; exact H
       clear H
       have H := H1
       clear H1
       by_cases c14 : 8 ≤ (wrap64 (8 + (Go.bits .or .i64 (wrap64 (rd l0 0)) (wrap64 ((wrap64 (rd l0 1)) * 256)))))
       ·
        rw [if_pos c14] at H
        have c14b0 := eq_true c14
        have c14b1 : decide (8 ≤ (wrap64 (8 + (Go.bits .or .i64 (wrap64 (rd l0 0)) (wrap64 ((wrap64 (rd l0 1)) * 256)))))) = true := decide_eq_true c14
        by_cases c15 : (wrap64 (8 + (Go.bits .or .i64 (wrap64 (rd l0 0)) (wrap64 ((wrap64 (rd l0 1)) * 256))))) ≤ (l0.length : Int)
        ·
         rw [if_pos c15] at H
         have c15b0 := eq_true c15
         have c15b1 : decide ((wrap64 (8 + (Go.bits .or .i64 (wrap64 (rd l0 0)) (wrap64 ((wrap64 (rd l0 1)) * 256))))) ≤ (l0.length : Int)) = true := decide_eq_true c15
         replace H := Option.bind_eq_some_iff.mp H
         obtain ⟨t411, A160, H⟩ := H
         replace H : (if 0 ≤ (wrap64 (8 + (Go.bits .or .i64 (wrap64 (rd l0 0)) (wrap64 ((wrap64 (rd l0 1)) * 256))))) then ((bytes_Equal.f t411 (l0.take ((wrap64 (8 + (Go.bits .or .i64 (wrap64 (rd l0 0)) (wrap64 ((wrap64 (rd l0 1)) * 256))))) : Int).toNat)).bind fun t415 => (some t415)) else (none)) = some r := H
         have A16 := Aside0.mk A160
         clear A160
         obtain ⟨ji17, hji17⟩ : ∃ j_ : Int, (wrap64 (8 + (Go.bits .or .i64 (wrap64 (rd l0 0)) (wrap64 ((wrap64 (rd l0 1)) * 256))))) = j_ := ⟨_, rfl⟩
         replace H : (if 0 ≤ (ji17) then ((bytes_Equal.f t411 (l0.take ((ji17) : Int).toNat)).bind fun t415 => (some t415)) else (none)) = some r := by first | (rw [hji17] at H; exact H) | (simp only [hji17] at H ⊢; exact H)
         (try rw [hji17] at c14b0)
         (try rw [hji17] at c14b1)
         (try rw [hji17] at c14)
         (try rw [hji17] at c15b0)
         (try rw [hji17] at c15b1)
         (try rw [hji17] at c15)
         (try rw [hji17] at A16)
         have hji17w : (IntKind.i64.wrap (8 + (Go.bits .or .i64 (wrap64 (rd l0 0)) (wrap64 ((wrap64 (rd l0 1)) * 256))))) = ji17 := (i64_w _).trans hji17
         by_cases c18 : 0 ≤ (ji17)
         ·
          rw [if_pos c18] at H
          have c18b0 := eq_true c18
          have c18b1 : decide (0 ≤ (ji17)) = true := decide_eq_true c18
          clear c18
          have c19b0 := eq_true (of_decide_eq_true (by first | (with_reducible assumption) | assumption) : (ji17) ≤ (l0.length : Int))
          replace H := Option.bind_eq_some_iff.mp H
          obtain ⟨t415, A200, H⟩ := H
          replace H : (some t415) = some r := H
          have A20 := Aside0.mk A200
          clear A200
          obtain rfl := Option.some.inj H
          try go_wp2
          have n0_ := Aside0.mk (below_drew1 HB.out)
          clear HB
          have HB := n0_
          clear n0_
          obtain ⟨i022, hi022, _, hsz22, _⟩ := info_parts info5
          obtain ⟨A22, hcut22, hA22, hC22⟩ := print_mid_of (P := Tryd.prog) (Value.int .u8) 0 41 5 .i64 .i64 Tryd.underlying41 hi022 hsz22 (some ad406) c0 l0 8 (ji17) (by omega) (by first | omega | exact of_decide_eq_true (by first | (with_reducible assumption) | assumption)) (of_decide_eq_true (by first | (with_reducible assumption) | assumption)) HC0.out
          have HR410 := Aside0.mk (C_of_reads (h1 := fun _ => rfl) (hA22 _ (Kd.reads_of_C HR0.out)))
          have HC410 := Aside0.mk hC22
          clear hA22 hC22 hi022 hsz22
          obtain ⟨i023, hi023, _, hsz23, _⟩ := info_parts info5
          obtain ⟨hcut23, hA23, hC23⟩ := print_take_of (P := Tryd.prog) (Value.int .u8) 0 41 5 .i64 Tryd.underlying41 hi023 hsz23 (some ad406) c0 l0 (ji17) (of_decide_eq_true (by first | (with_reducible assumption) | assumption)) (of_decide_eq_true (by first | (with_reducible assumption) | assumption)) HC0.out
          have HR414 := Aside0.mk (C_of_reads (h1 := fun _ => rfl) (hA23 _ (Kd.reads_of_C HR0.out)))
          have HC414 := Aside0.mk hC23
          clear hA23 hC23 hi023 hsz23
          refine start_ (n := 11) (S := fun w' => True) (ds := []) #[false, false, false, false, false, false, false, false, false, false, false] (by kernel_rfl) rfl rfl trivial (fun hHeld => ?_); refine with_tabW impl_beginsFrame.tab6 impl_beginsFrame.bits6 (fun HT_ HW_ => ?_)
          generalize wc.drew = w21 at HB HR410 HR414 hHeld ⊢
          refine SQ.pu 0 42 HT_ ?_
          refine SQ.pu 1 43 HT_ ?_
          refine SQ.pu 2 44 HT_ ?_
          refine SQ.pu 3 45 HT_ ?_
          refine SQ.pu 5 47 HT_ ?_
          refine SQ.pu 6 48 HT_ ?_
          refine SQ.pu 7 49 HT_ ?_
          refine SQ.pu 8 50 HT_ ?_
          refine one_ (i := 4) (N := some 46) #[true, true, true, true, true, true, true, true, true, false, false] rfl rfl (one_of HT_.out (by kernel_rfl)) (by decide) (fun K hK => ?_)
          refine goes_ Tryd.func60 (by kernel_rfl) rfl #[.slice A22 ((l0.take ((ji17) : Int).toNat).drop 8).length (c0 - 8)] (by rfl) rfl rfl (by (try simp only [List.map_toArray, List.map_cons, List.map_nil]); first | done | (rw [show ((l0.take ((ji17) : Int).toNat).drop 8).length = ((ji17).toNat - 8) from (by rw [List.length_drop, List.length_take]; have h_ : ((ji17) : Int) ≤ (l0.length : Int) := of_decide_eq_true (by first | (with_reducible assumption) | assumption); omega)] <;> rfl) | (simp only [hji17]; rfl) | rfl | (simp only [List.length_drop, List.length_take]; rfl)) ?_
          with_reducible refine (impl_frame.calls kj4 _ _ ((l0.take ((ji17) : Int).toNat).drop 8) t411 _ ?side1 ?side2 A16.out).mono ?_
          (case side1 => repeat (first | exact (C_below HR410.out HB.out) | (with_reducible refine C_alloc ?_ _) | (with_reducible refine C_drewN ?_ _) | (with_reducible refine C_drew ?_)))
          (case side2 => exact HC410.out)
          rintro e w24 ⟨v412, rfl, ho0, hb⟩
          refine ⟨_, rfl, ?_⟩
          have n0_ := Aside0.mk (R_lower ho0 (below_size (by repeat (first | (with_reducible first | exact HB.out | apply below_alloc | apply pw_below_drewN | apply below_drew1) | exact HB.out))))
          have n1_ := Aside0.mk (below_step (by repeat (first | (with_reducible first | exact HB.out | apply below_alloc | apply pw_below_drewN | apply below_drew1) | exact HB.out)) hb)
          clear HB
          have HO413 := n0_
          have HB := n1_
          clear n0_ n1_
          (try clear hb)
          (try clear hb2)
          (try clear hk)
          (try clear hi)
          (try clear ho0)
          obtain ⟨Ao25, co25, eo25⟩ := R_slice HO413.out
          (first | subst eo25 | (injection eo25 with f1_ f2_ f3_; have f4_ := f1_.symm; have f5_ := f3_.symm; clear f1_ f2_ f3_; subst f4_; subst f5_))
          refine hK.out _ _ trivial (fun hHeld => ?_)
          clear hK K
          refine norm_ (a' := ?_) ?_ ?_
          rotate_left
          ·
           show Act.put _ (some 46) _ = _
           simp only [Act.put, List.setIfInBounds_toArray, List.set_cons_zero, List.set_cons_succ, i64_w, i32_w]
           rfl
          refine one_ (i := 9) (N := some 51) #[true, true, true, true, true, true, true, true, true, true, false] rfl rfl (one_of HT_.out (by kernel_rfl)) (by decide) (fun K hK => ?_)
          refine goes_ Tryd.func106 (by kernel_rfl) rfl #[.slice Ao25 t411.length co25, .slice (some ad406) (l0.take ((ji17) : Int).toNat).length c0] (by rfl) rfl rfl (by (try simp only [List.map_toArray, List.map_cons, List.map_nil]); first | done | (rw [show (l0.take ((ji17) : Int).toNat).length = (ji17).toNat from (by rw [List.length_take]; have h_ : ((ji17) : Int) ≤ (l0.length : Int) := of_decide_eq_true (by first | (with_reducible assumption) | assumption); omega)] <;> rfl) | (simp only [hji17]; rfl) | rfl | (simp only [List.length_drop, List.length_take]; rfl)) ?_
          with_reducible refine (bytes_Equal.calls _ _ t411 _ _ (l0.take ((ji17) : Int).toNat) t415 _ ?side1 ?side2 ?side3 ?side4 A20.out).mono ?_
          (case side1 => repeat (first | exact (R_reads' HO413.out).2.2 | (with_reducible refine C_alloc ?_ _) | (with_reducible refine C_drewN ?_ _) | (with_reducible refine C_drew ?_)))
          (case side2 => exact (R_reads' HO413.out).2.1)
          (case side3 => repeat (first | exact (C_below HR414.out HB.out) | (with_reducible refine C_alloc ?_ _) | (with_reducible refine C_drewN ?_ _) | (with_reducible refine C_drew ?_)))
          (case side4 => exact HC414.out)
          rintro e w' ⟨rfl, ⟨nd, rfl⟩⟩
          refine ⟨_, rfl, ?_⟩
          refine hK.out _ _ trivial (fun hHeld => ?_)
          clear hK K
          refine norm_ (a' := ?_) ?_ ?_
          rotate_left
          ·
           show Act.put _ (some 51) _ = _
           simp only [Act.put, List.setIfInBounds_toArray, List.set_cons_zero, List.set_cons_succ, i64_w, i32_w]
           rfl
          refine SQ.pu 10 2 HT_ ?_
          refine done_ (done_of HT_.out (by kernel_rfl)) ?_
          try go_wp2
          go_ret
          exact ⟨by first | rfl | (simp [errW_none, errW_some] <;> rfl) | (simp only [← hji17]; first | rfl | (simp [errW_none, errW_some] <;> rfl)) | (simp [*, errW_none, errW_some] <;> rfl), by repeat (first | (with_reducible first | exact HB.out | apply below_alloc | apply pw_below_drewN | apply below_drew1) | exact HB.out)⟩
         ·
          rw [if_neg c18] at H
          exact absurd H (by simp)
        ·
         rw [if_neg c15] at H
         exact absurd H (by simp)
       ·
        rw [if_neg c14] at H
        exact absurd H (by simp)
   ·
    rw [if_neg c4] at H
    exact absurd H (by simp)
  ·
   rw [if_neg c3] at H
   exact absurd H (by simp)
end Go.Proofs.YtcgojdhbphocgaaDoor.F

namespace Go.Proofs.YtcgojdhbphocgaaDoor.F
open Go.RowKit Go.Proofs.YtcgojdhbphocgaaDoorW.PrintWords Go.Proofs.YtcgojdhbphocgaaDoorW.PrintLast Go.Proofs.YtcgojdhbphocgaaDoorW.PrintMore
set_option linter.unusedVariables false
set_option linter.unusedSimpArgs false
def PredF (g : Nat) (lb : Array Value) (p : ByteArray → Bool) (w : World) : Prop := ∀ w1 : World, Below w.heap.size w w1 → ∀ (s : ByteArray) (v1 v2 : Value), Calls Tryd.prog g (#[.agg #[.string s, v1, v2]] ++ lb) w1 fun e w' => e = .returned (.bool (p s)) ∧ Below w1.heap.size w1 w'
def idxF (p : ByteArray → Bool) : List S55 → Int → Int
  | [], _ => -1
  | x :: t, i => if p x.f0 = true then i else idxF p t (i + 1)
set_option maxHeartbeats 4000000 in
theorem indexFile.calls (g : Nat) (lb : Array Value) (p : ByteArray → Bool) (eg : ∀ args w, (callFunc g args).run Tryd.prog w = .ok (.enter g args) w) (A : Option Addr) (c : Nat) (l : List S55) (w : World) (hr : Kd.C k55 w A l.length l) (hl : l.length ≤ 9223372036854775807) (hp : PredF g lb p w) :
    Calls Tryd.prog 102 #[.slice A l.length c, .func (.func g) #[] lb] w fun e w' => e = .returned (.int .i64 (idxF p l 0)) ∧ Below w.heap.size w w' := by
  have HR0 := Aside0.mk hr
  clear hr
  have HP := Aside0.mk hp
  clear hp
  have hu55 := Tryd.underlying55
  go_enter Tryd.func102, Tryd.ntmps102
  go_wp2
  go_loopg [5, 8] l.length (fun gg _ v8 w' => ∃ kk : Nat, kk ≤ l.length ∧ l.length - kk ≤ gg ∧ v8 = .int .i64 kk ∧ Aside0 (Below w.heap.size w w') ∧ Aside0 (idxF p (l.drop kk) kk = idxF p l 0))
  case atStart => exact ⟨0, Nat.zero_le _, by omega, rfl, ⟨Below.refl _ _⟩, ⟨rfl⟩⟩
  case round =>
    obtain ⟨kk, hkk, hg, rfl, HB, HA⟩ := hrel
    by_cases hlt : kk < l.length
    · have hltz : (kk : Int) < (l.length : Int) := by omega
      obtain ⟨ad, A1, c1, A2, c2, e, hx0, hx1, hx2, _, _, _, _⟩ := at_T55 HR0.out (kk : Int) (by omega) (by omega)
      cases e
      replace hx0 := (HB.out.cell (World.block_lt_of_cell? w _ hx0)).trans hx0
      replace hx1 := (HB.out.cell (World.block_lt_of_cell? w _ hx1)).trans hx1
      replace hx2 := (HB.out.cell (World.block_lt_of_cell? w _ hx2)).trans hx2
      rw [Int.toNat_natCast] at hx0 hx1 hx2
      have hrd : rd_T55 l (kk : Int) = l[kk] := by simp [rd_T55, List.getD_eq_getElem?_getD, List.getElem?_eq_getElem hlt]
      have hA := HA.out
      rw [List.drop_eq_getElem_cons hlt] at hA
      rw [hrd] at hx0 hx1 hx2
      clear HA hrd
      generalize l[kk] = y at hx0 hx1 hx2 hA
      have hcall := HP.out wr HB.out y.f0 (.slice A1 y.f1.length c1) (.slice A2 y.f2.length c2)
      cases hq : p y.f0 with
      | true =>
        simp only [idxF, hq, if_true] at hA
        rw [hq] at hcall
        have HA := Aside0.mk hA
        clear hA
        go_wp2_with (go_at_fn g; refine hcall.mono ?_; rintro e w' ⟨rfl, hb⟩; replace HB := Aside0.mk (below_step HB.out hb); clear hb)
        go_ret
        exact ⟨by rw [← HA.out]; rfl, HB.out⟩
      | false =>
        simp only [idxF, hq, Bool.false_eq_true, if_false] at hA
        rw [hq] at hcall
        have HA := Aside0.mk hA
        clear hA
        go_wp2_with (go_at_fn g; refine hcall.mono ?_; rintro e w' ⟨rfl, hb⟩; replace HB := Aside0.mk (below_step HB.out hb); clear hb)
        go_roundg (l.length - (kk + 1))
        case measure => omega
        case rel => exact ⟨kk + 1, by omega, by omega, by go_num, HB, ⟨by have := HA.out; simpa using this⟩⟩
    · have hltz : ¬ (kk : Int) < (l.length : Int) := by omega
      have : kk = l.length := by omega
      subst this
      go_wp2
      go_ret
      refine ⟨?_, HB.out⟩
      rw [← HA.out, List.drop_length]
      rfl
set_option maxHeartbeats 4000000 in
theorem fileOf1.pred (B : Nat) (name : ByteArray) (w : World) (hb : w.cell? ⟨B, 0, none⟩ = some (.string name)) : PredF 103 #[.pointer (some ⟨B, 0, none⟩)] (fun s => s.toList == name.toList) w := by
  intro w1 hB s v1 v2
  have hlt := Nat.lt_of_lt_of_le (World.block_lt_of_cell? w _ hb) hB.size
  have hx := (hB.cell (World.block_lt_of_cell? w _ hb)).trans hb
  clear hb hB
  have hu55 := Tryd.underlying55
  have hlt2 : B < w1.heap.size := hlt
  clear hlt
  go_enter Tryd.func103, Tryd.ntmps103
  go_wp2
  go_ret
  exact ⟨rfl, below_alloc (Below.refl _ _) _⟩
def impl_fileOf.f (l0_0 : List S55) (a1 : ByteArray) : Option Int := if l0_0.length ≤ 9223372036854775807 then some (idxF (fun s => s.toList == a1.toList) l0_0 0) else none
set_option maxHeartbeats 4000000 in
theorem impl_fileOf.calls (A0_0 : Option Addr) (c0_0 : Nat) (l0_0 : List S55) (a1 : ByteArray) (r : Int) (w : World) (hr0_0 : Kd.C k55 w A0_0 l0_0.length l0_0) (hc0_0 : l0_0.length ≤ c0_0) (h : impl_fileOf.f l0_0 a1 = some r) :
    Calls Tryd.prog 74 #[.agg #[.slice A0_0 l0_0.length c0_0], .string a1] w fun e w' => e = .returned (.int .i64 r) ∧ Below w.heap.size w w' := by
  unfold impl_fileOf.f at h
  split at h
  · rename_i hl
    have h := Option.some.inj h
    subst h
    have HR := Aside0.mk hr0_0
    have HL := Aside0.mk hl
    clear hr0_0 hl
    have e6 : ∀ args w, (callFunc 102 args).run Tryd.prog w = .ok (.enter 102 args) w := enters_of Tryd.func102 (by kernel_rfl) rfl
    have e7 : ∀ args w, (callFunc 103 args).run Tryd.prog w = .ok (.enter 103 args) w := enters_of Tryd.func103 (by kernel_rfl) rfl
    have hmf : ∀ (fn : Fn) (first cap : Array Value) (w : World), (Instr.makeFunc fn first cap).run Tryd.prog w = .ok (.func fn first cap) w := fun _ _ _ _ => rfl
    have hcall := indexFile.calls 103 #[.pointer (some ⟨w.heap.size + 1, 0, none⟩)] (fun s => s.toList == a1.toList) e7 A0_0 c0_0 l0_0 ((w.alloc (.cells #[.slice A0_0 l0_0.length c0_0] 28)).alloc (.cells #[.string a1] 9)) (Kd.C_alloc (Kd.C_alloc HR.out _) _) HL.out (fileOf1.pred _ _ _ (by simp))
    go_enter Tryd.func74, Tryd.ntmps74
    go_wp2_with (go_at_fn 102; refine hcall.mono ?_; rintro e w' ⟨rfl, hb⟩)
    go_ret
    exact ⟨rfl, below_step (below_alloc (below_alloc (Below.refl _ _) _) _) hb⟩
  · cases h
end Go.Proofs.YtcgojdhbphocgaaDoor.F

namespace Go.Proofs.YtcgojdhbphocgaaDoor.F
open Go.RowKit Go.Proofs.YtcgojdhbphocgaaDoorW.PrintWords Go.Proofs.YtcgojdhbphocgaaDoorW.PrintWords.Kd Go.Proofs.YtcgojdhbphocgaaDoorW.PrintMore.Kd Go.Proofs.YtcgojdhbphocgaaDoorW.PrintLast Go.Proofs.YtcgojdhbphocgaaDoorW.PrintMore
attribute [local go_sem] max2_int min2_int max_two min_two max_three min_three max_four min_four   -- for this text's walks alone
set_option linter.unusedVariables false
set_option linter.unusedSimpArgs false
mutual
def impl_walRead.j0 : Nat → Int → Bool → List (S55) → Option ((List (List Int)) × Int × Int)
 | 0, _, _, _ => none
 | k + 1, x5, x18, x417000 => if x18 = true then (some (([] : List (List Int)), 0, 3)) else (if 0 ≤ x5 then (if x5 < (x417000.length : Int) then ((impl_File_content.f ((rd_T55 x417000 x5).f0) ((rd_T55 x417000 x5).f1) ((rd_T55 x417000 x5).f2)).bind fun t420 => ((impl_scanFrames.f k t420).bind fun bt423 => (if bt423.2 = (t420.length : Int) then (some (bt423.1, bt423.2, 0)) else (impl_walRead.l0 k t420 bt423.1 bt423.2 (wrap64 (bt423.2 + 1)))))) else (none)) else (none))
def impl_walRead.l0 : Nat → List Int → List (List Int) → Int → Int → Option ((List (List Int)) × Int × Int)
 | 0, _, _, _, _ => none
 | k + 1, x6, x7, x8, x9 => if x9 < (x6.length : Int) then (if 0 ≤ x9 then (if x9 ≤ (x6.length : Int) then ((impl_beginsFrame.f k (x6.drop (x9 : Int).toNat)).bind fun t431 => (if t431 = true then (some (x7, x8, 2)) else (impl_walRead.l0 k x6 x7 x8 (wrap64 (x9 + 1))))) else (none)) else (none)) else (some (x7, x8, 1))
end
def impl_walRead.f (k : Nat) (l0_0 : List (S55)) : Option ((List (List Int)) × Int × Int) := (impl_fileOf.f l0_0 (⟨#[108, 111, 103]⟩ : ByteArray)).bind fun t417 => ((impl_isDisk.f k l0_0).bind fun t418 => (if t418 = true then (impl_walRead.j0 k t417 (decide (t417 < 0)) l0_0) else (impl_walRead.j0 k t417 true l0_0)))
set_option maxHeartbeats 8000000 in
set_option maxRecDepth 100000 in
theorem impl_walRead.calls (k : Nat) (A0_0 : Option Addr) (c0_0 : Nat) (l0_0 : List (S55)) (r1 : List (List Int)) (r2 : Int) (r3 : Int) (w : World) (hr0_0 : Kd.C k55 w A0_0 l0_0.length l0_0) (hc0_0 : l0_0.length ≤ c0_0) (h : impl_walRead.f k l0_0 = some (r1, r2, r3)) :
  Calls Tryd.prog 49 #[.agg #[.slice A0_0 l0_0.length c0_0]] w fun e w' => ∃ v0_ : Value, e = .returned (.tuple #[v0_, .int .i64 r2, .int .i64 r3]) ∧ Kd.S (Kd.slice 5 (Kd.int .u8)) 41 w' w.heap.size (fun _ => True) v0_ r1 ∧ Below w.heap.size w w' := by
 have hu28 := Tryd.underlying28
 have hu55 := Tryd.underlying55
 have HR0_0 := Aside0.mk hr0_0
 have HC0_0 := Aside0.mk hc0_0
 clear hr0_0 hc0_0
 have HB := Aside0.mk (Below.refl w.heap.size w)
 have H : ((impl_fileOf.f l0_0 (⟨#[108, 111, 103]⟩ : ByteArray)).bind fun t417 => ((impl_isDisk.f k l0_0).bind fun t418 => (if t418 = true then (impl_walRead.j0 k t417 (decide (t417 < 0)) l0_0) else (impl_walRead.j0 k t417 true l0_0)))) = some (r1, r2, r3) := h
 clear h
 replace H := Option.bind_eq_some_iff.mp H
 obtain ⟨t417, A20, H⟩ := H
 replace H : ((impl_isDisk.f k l0_0).bind fun t418 => (if t418 = true then (impl_walRead.j0 k t417 (decide (t417 < 0)) l0_0) else (impl_walRead.j0 k t417 true l0_0))) = some (r1, r2, r3) := H
 have A2 := Aside0.mk A20
 clear A20
 have HC3 := Aside0.mk H
 clear H
 go_enter Tryd.func49, Tryd.ntmps49
 go_upto_region 2 with (first | ((with_reducible refine gate_dst (N := 1) rfl ?_); refine box_event ?hg (N := 1) ?hd (cs := #[.slice A0_0 l0_0.length c0_0]) (t := 28) ?hr ?_; (case hd => rfl); (case hg => rfl); (case hr => first | (go_simp; done) | (go_simp; rfl)); intro gb416 hg w4 hbox hb; have n0_ := Aside0.mk (below_step (by repeat (first | (with_reducible first | exact HB.out | apply below_alloc | apply pw_below_drewN | apply below_drew1) | exact HB.out)) hb); have n1_ := Aside0.mk (hbox); have n2_ := Aside0.mk ((by rw [hg]; exact (below_size (by repeat (first | (with_reducible first | exact HB.out | apply below_alloc | apply pw_below_drewN | apply below_drew1) | exact HB.out))) : w.heap.size ≤ gb416)); have n3_ := Aside0.mk ((by rw [hg]; exact (below_size (by repeat (first | (with_reducible first | exact HB.out | apply below_alloc | apply pw_below_drewN | apply below_drew1) | exact HB.out))) : w.heap.size ≤ gb416)); clear HB; have HB := n0_; have BK416 := n1_; have GW416 := n2_; have GE416 := n3_; clear n0_ n1_ n2_ n3_; clear hb hbox hg; have hcz5_0 : w4.cell? ⟨gb416, 0, none⟩ = some (.slice A0_0 l0_0.length c0_0) := (blk_cell BK416.out 0).trans rfl; have hfz5_0 := blk_frozen BK416.out 0) | ((with_reducible refine gate_callee (f := 74) rfl ?_); refine goesL_ (some 11) rfl rfl Tryd.func74 (by kernel_rfl) rfl #[.agg #[.slice A0_0 l0_0.length c0_0], .string (⟨#[108, 111, 103]⟩ : ByteArray)] rfl (by (try simp only [List.map_toArray, List.map_cons, List.map_nil]); first | done | rfl | (simp only [List.length_drop, List.length_take]; rfl)) ?_; (with_reducible refine (impl_fileOf.calls _ _ l0_0 (⟨#[108, 111, 103]⟩ : ByteArray) t417 _ ?side1 ?side2 A2.out).mono ?_); (case side1 => repeat (first | exact (C_below HR0_0.out HB.out) | (with_reducible refine C_alloc ?_ _) | (with_reducible refine C_drewN ?_ _) | (with_reducible refine C_drew ?_))); (case side2 => exact HC0_0.out); rintro e w6 ⟨rfl, hb⟩; refine ⟨_, rfl, ?_⟩; have n0_ := Aside0.mk (blk_below (g := gb416) (o := .cells #[.slice A0_0 l0_0.length c0_0] 28 (0, 0)) (by (with_reducible repeat (first | refine blk_drewN ?_ _ | refine blk_drew ?_ | refine blk_alloc ?_ _)); exact BK416.out) hb); have n1_ := Aside0.mk (below_step (by repeat (first | (with_reducible first | exact HB.out | apply below_alloc | apply pw_below_drewN | apply below_drew1 | refine below_set ?_ GE416.out) | exact HB.out)) hb); clear BK416; clear HB; have BK416 := n0_; have HB := n1_; clear n0_ n1_; (try clear hb); (try clear hb2); (try clear hk); (try clear hi)))
 (try simp only [Act.put, List.setIfInBounds_toArray, List.set_cons_zero, List.set_cons_succ])
 go_cut [18] (fun v18 wc => ∃ (kq : Nat) (x18_2 : Bool), v18 = .bool x18_2 ∧ Aside0 (impl_walRead.j0 kq t417 x18_2 l0_0 = some (r1, r2, r3)) ∧ Aside0 (kq ≤ k) ∧ Aside0 (wc.heap[gb416]? = some (.cells #[(.slice A0_0 l0_0.length c0_0)] 28 (0, 0))) ∧ Aside0 (Below w.heap.size w wc))
 case first =>
  have H := HC3.out
  clear HC3
  replace H := Option.bind_eq_some_iff.mp H
  obtain ⟨t418, A70, H⟩ := H
  replace H : (if t418 = true then (impl_walRead.j0 k t417 (decide (t417 < 0)) l0_0) else (impl_walRead.j0 k t417 true l0_0)) = some (r1, r2, r3) := H
  have A7 := Aside0.mk A70
  clear A70
  by_cases c8 : t418 = true
  ·
   subst c8
   have H1 : (impl_walRead.j0 k t417 (decide (t417 < 0)) l0_0) = some (r1, r2, r3) := by rw [if_pos rfl] at H; exact H
   clear H
   have H := H1
   clear H1
   have H' := Aside0.mk H
   clear H
   have hcz9_0 : w6.cell? ⟨gb416, 0, none⟩ = some (.slice A0_0 l0_0.length c0_0) := (blk_cell BK416.out 0).trans rfl
   have hfz9_0 := blk_frozen BK416.out 0
   go_wp2_with (first | ((with_reducible refine gate_callee (f := 72) rfl ?_); refine goesL_ (some 13) rfl rfl Tryd.func72 (by kernel_rfl) rfl #[.agg #[.slice A0_0 l0_0.length c0_0]] rfl (by (try simp only [List.map_toArray, List.map_cons, List.map_nil]); first | done | rfl | (simp only [List.length_drop, List.length_take]; rfl)) ?_; (with_reducible refine (impl_isDisk.calls k _ _ l0_0 true _ ?side1 ?side2 A7.out).mono ?_); (case side1 => repeat (first | exact (C_below HR0_0.out HB.out) | (with_reducible refine C_alloc ?_ _) | (with_reducible refine C_drewN ?_ _) | (with_reducible refine C_drew ?_))); (case side2 => exact HC0_0.out); rintro e w10 ⟨rfl, hb⟩; refine ⟨_, rfl, ?_⟩; have n0_ := Aside0.mk (blk_below (g := gb416) (o := .cells #[.slice A0_0 l0_0.length c0_0] 28 (0, 0)) (by (with_reducible repeat (first | refine blk_drewN ?_ _ | refine blk_drew ?_ | refine blk_alloc ?_ _)); exact BK416.out) hb); have n1_ := Aside0.mk (below_step (by repeat (first | (with_reducible first | exact HB.out | apply below_alloc | apply pw_below_drewN | apply below_drew1 | refine below_set ?_ GE416.out) | exact HB.out)) hb); clear BK416; clear HB; have BK416 := n0_; have HB := n1_; clear n0_ n1_; (try clear hb); (try clear hb2); (try clear hk); (try clear hi)))
   go_meet
   case rel => exact ⟨_, (decide (t417 < 0)), (by first | rfl | (simp; done) | (simp [*]; done)), H', ⟨by first | omega | exact Nat.le_refl _⟩, ⟨by (with_reducible repeat (first | refine blk_drewN ?_ _ | refine blk_drew ?_ | refine blk_alloc ?_ _)); exact BK416.out⟩, ⟨by repeat (first | (with_reducible first | exact HB.out | apply below_alloc | apply pw_below_drewN | apply below_drew1 | refine below_set ?_ GE416.out) | exact HB.out)⟩⟩
  ·
   replace c8 := Bool.eq_false_iff.mpr c8
   subst c8
   have H1 : (impl_walRead.j0 k t417 true l0_0) = some (r1, r2, r3) := by rw [if_neg (show ¬ (false = true) by decide)] at H; exact H
   clear H
   have H := H1
   clear H1
   have H' := Aside0.mk H
   clear H
   have hcz11_0 : w6.cell? ⟨gb416, 0, none⟩ = some (.slice A0_0 l0_0.length c0_0) := (blk_cell BK416.out 0).trans rfl
   have hfz11_0 := blk_frozen BK416.out 0
   go_wp2_with (first | ((with_reducible refine gate_callee (f := 72) rfl ?_); refine goesL_ (some 13) rfl rfl Tryd.func72 (by kernel_rfl) rfl #[.agg #[.slice A0_0 l0_0.length c0_0]] rfl (by (try simp only [List.map_toArray, List.map_cons, List.map_nil]); first | done | rfl | (simp only [List.length_drop, List.length_take]; rfl)) ?_; (with_reducible refine (impl_isDisk.calls k _ _ l0_0 false _ ?side1 ?side2 A7.out).mono ?_); (case side1 => repeat (first | exact (C_below HR0_0.out HB.out) | (with_reducible refine C_alloc ?_ _) | (with_reducible refine C_drewN ?_ _) | (with_reducible refine C_drew ?_))); (case side2 => exact HC0_0.out); rintro e w12 ⟨rfl, hb⟩; refine ⟨_, rfl, ?_⟩; have n0_ := Aside0.mk (blk_below (g := gb416) (o := .cells #[.slice A0_0 l0_0.length c0_0] 28 (0, 0)) (by (with_reducible repeat (first | refine blk_drewN ?_ _ | refine blk_drew ?_ | refine blk_alloc ?_ _)); exact BK416.out) hb); have n1_ := Aside0.mk (below_step (by repeat (first | (with_reducible first | exact HB.out | apply below_alloc | apply pw_below_drewN | apply below_drew1 | refine below_set ?_ GE416.out) | exact HB.out)) hb); clear BK416; clear HB; have BK416 := n0_; have HB := n1_; clear n0_ n1_; (try clear hb); (try clear hb2); (try clear hk); (try clear hi)))
   go_meet
   case rel => exact ⟨_, (true), (by first | rfl | (simp; done) | (simp [*]; done)), H', ⟨by first | omega | exact Nat.le_refl _⟩, ⟨by (with_reducible repeat (first | refine blk_drewN ?_ _ | refine blk_drew ?_ | refine blk_alloc ?_ _)); exact BK416.out⟩, ⟨by repeat (first | (with_reducible first | exact HB.out | apply below_alloc | apply pw_below_drewN | apply below_drew1 | refine below_set ?_ GE416.out) | exact HB.out)⟩⟩
 case rest =>
  clear HC3
  try clear p2
  try clear c4
  try clear c7
  try clear c8
  try clear hcz11_0
  try clear hcz5_0
  try clear hcz9_0
  try clear hfz11_0
  try clear hfz5_0
  try clear hfz9_0
  obtain ⟨kq, x18_2, rfl, HA, HJ2, BK416, HB⟩ := hcut
  cases kq with
  | zero => exact absurd HA.out (by simp [impl_walRead.j0])
  | succ kj2 =>
   have H := HA.out
   clear HA
   simp only [impl_walRead.j0] at H
   by_cases c13 : x18_2 = true
   ·
    subst c13
    have H1 : (some (([] : List (List Int)), 0, 3)) = some (r1, r2, r3) := by rw [if_pos rfl] at H; exact H
    clear H
    have H := H1
    clear H1
    simp only [Option.some.injEq, Prod.mk.injEq] at H
    obtain ⟨rfl, rfl, rfl⟩ := H
    go_wp2
    go_ret3
    exact ⟨_, by first | rfl | (simp [errW_none, errW_some] <;> rfl) | (simp [*, errW_none, errW_some] <;> rfl), by first | exact S_nil _ _ _ _ _ | exact N_nil _ _ _ _ _ | exact V_nil _ _ _ _ _ | exact Q_nil _ _ _ _ _ | exact R_nil _ _ _ _ _, by repeat (first | (with_reducible first | exact HB.out | apply below_alloc | apply pw_below_drewN | apply below_drew1 | refine below_set ?_ GE416.out) | exact HB.out)⟩
   ·
    replace c13 := Bool.eq_false_iff.mpr c13
    subst c13
    have H1 : (if 0 ≤ t417 then (if t417 < (l0_0.length : Int) then ((impl_File_content.f ((rd_T55 l0_0 t417).f0) ((rd_T55 l0_0 t417).f1) ((rd_T55 l0_0 t417).f2)).bind fun t420 => ((impl_scanFrames.f kj2 t420).bind fun bt423 => (if bt423.2 = (t420.length : Int) then (some (bt423.1, bt423.2, 0)) else (impl_walRead.l0 kj2 t420 bt423.1 bt423.2 (wrap64 (bt423.2 + 1)))))) else (none)) else (none)) = some (r1, r2, r3) := by rw [if_neg (show ¬ (false = true) by decide)] at H; exact H
    clear H
    have H := H1
    clear H1
    by_cases c14 : 0 ≤ t417
    ·
     rw [if_pos c14] at H
     have c14b0 : decide (0 ≤ t417) = true := decide_eq_true c14
     clear c14
     by_cases c15 : t417 < (l0_0.length : Int)
     ·
      rw [if_pos c15] at H
      have c15b0 : decide (t417 < (l0_0.length : Int)) = true := decide_eq_true c15
      clear c15
      replace H := Option.bind_eq_some_iff.mp H
      obtain ⟨t420, A160, H⟩ := H
      replace H : ((impl_scanFrames.f kj2 t420).bind fun bt423 => (if bt423.2 = (t420.length : Int) then (some (bt423.1, bt423.2, 0)) else (impl_walRead.l0 kj2 t420 bt423.1 bt423.2 (wrap64 (bt423.2 + 1))))) = some (r1, r2, r3) := H
      have A16 := Aside0.mk A160
      clear A160
      replace H := Option.bind_eq_some_iff.mp H
      obtain ⟨⟨t423, t424⟩, A170, H⟩ := H
      replace H : (if t424 = (t420.length : Int) then (some (t423, t424, 0)) else (impl_walRead.l0 kj2 t420 t423 t424 (wrap64 (t424 + 1)))) = some (r1, r2, r3) := H
      have A17 := Aside0.mk A170
      clear A170
      by_cases c18 : t424 = (t420.length : Int)
      ·
       rw [if_pos c18] at H
       have c18b0 : (t424 == (t420.length : Int)) = true := beq_iff_eq.mpr c18
       have c18b1 : (t424 != (t420.length : Int)) = false := bne_eq_false_iff_eq.mpr c18
       clear c18
       simp only [Option.some.injEq, Prod.mk.injEq] at H
       obtain ⟨rfl, rfl, rfl⟩ := H
       have hcz19_0 : wc.cell? ⟨gb416, 0, none⟩ = some (.slice A0_0 l0_0.length c0_0) := (blk_cell BK416.out 0).trans rfl
       have hfz19_0 := blk_frozen BK416.out 0
       have p419 : 0 ≤ (t417 : Int) := of_decide_eq_true (by first | (with_reducible assumption) | assumption)
       have q419 : t417 < (l0_0.length : Int) := of_decide_eq_true (by first | (with_reducible assumption) | assumption)
       obtain ⟨ad419, A419_1, c419_1, A419_2, c419_2, e419, hx419_0, hx419_1, hx419_2, hl419_1, hi419_1, hl419_2, hi419_2⟩ := at_T55 HR0_0.out t417 p419 q419
       cases e419
       replace hx419_0 := (HB.out.cell (World.block_lt_of_cell? w _ hx419_0)).trans hx419_0
       replace hx419_1 := (HB.out.cell (World.block_lt_of_cell? w _ hx419_1)).trans hx419_1
       replace hx419_2 := (HB.out.cell (World.block_lt_of_cell? w _ hx419_2)).trans hx419_2
       have HR419_1 := Aside0.mk hi419_1
       have HC419_1 := Aside0.mk hl419_1
       clear hi419_1 hl419_1
       have HR419_2 := Aside0.mk hi419_2
       have HC419_2 := Aside0.mk hl419_2
       clear hi419_2 hl419_2
       replace p419 := eq_true p419
       replace q419 := eq_true q419
       go_wp2_with (first | ((with_reducible refine gate_callee (f := 75) rfl ?_); refine goesL_ (some 24) rfl rfl Tryd.func75 (by kernel_rfl) rfl #[.agg #[.string ((rd_T55 l0_0 t417).f0), .slice A419_1 ((rd_T55 l0_0 t417).f1).length c419_1, .slice A419_2 ((rd_T55 l0_0 t417).f2).length c419_2]] rfl (by (try simp only [List.map_toArray, List.map_cons, List.map_nil]); first | done | rfl | (simp only [List.length_drop, List.length_take]; rfl)) ?_; (with_reducible refine (impl_File_content.calls ((rd_T55 l0_0 t417).f0) _ _ ((rd_T55 l0_0 t417).f1) _ _ ((rd_T55 l0_0 t417).f2) t420 _ ?side1 ?side2 ?side3 ?side4 A16.out).mono ?_); (case side1 => repeat (first | exact (C_below HR419_1.out HB.out) | (with_reducible refine C_alloc ?_ _) | (with_reducible refine C_drewN ?_ _) | (with_reducible refine C_drew ?_))); (case side2 => exact HC419_1.out); (case side3 => repeat (first | exact (C_below HR419_2.out HB.out) | (with_reducible refine C_alloc ?_ _) | (with_reducible refine C_drewN ?_ _) | (with_reducible refine C_drew ?_))); (case side4 => exact HC419_2.out); rintro e w20 ⟨v421, rfl, ho0, hb⟩; refine ⟨_, rfl, ?_⟩; have n0_ := Aside0.mk (R_lower ho0 (below_size (by repeat (first | (with_reducible first | exact HB.out | apply below_alloc | apply pw_below_drewN | apply below_drew1 | refine below_set ?_ GE416.out) | exact HB.out)))); have n1_ := Aside0.mk (blk_below (g := gb416) (o := .cells #[.slice (some ad419) l0_0.length c0_0] 28 (0, 0)) (by (with_reducible repeat (first | refine blk_drewN ?_ _ | refine blk_drew ?_ | refine blk_alloc ?_ _)); exact BK416.out) hb); have n2_ := Aside0.mk (below_step (by repeat (first | (with_reducible first | exact HB.out | apply below_alloc | apply pw_below_drewN | apply below_drew1 | refine below_set ?_ GE416.out) | exact HB.out)) hb); clear BK416; clear HB; have HO422 := n0_; have BK416 := n1_; have HB := n2_; clear n0_ n1_ n2_; (try clear hb); (try clear hb2); (try clear hk); (try clear hi); (try clear ho0); obtain ⟨Ao21, co21, eo21⟩ := R_slice HO422.out; subst eo21) | ((with_reducible refine gate_callee (f := 81) rfl ?_); refine goesL_ (some 27) rfl rfl Tryd.func81 (by kernel_rfl) rfl #[.slice Ao21 t420.length co21] rfl (by (try simp only [List.map_toArray, List.map_cons, List.map_nil]); first | done | rfl | (simp only [List.length_drop, List.length_take]; rfl)) ?_; (with_reducible refine (impl_scanFrames.calls kj2 _ _ t420 t423 t424 _ ?side1 ?side2 A17.out).mono ?_); (case side1 => repeat (first | exact (R_reads' HO422.out).2.2 | (with_reducible refine C_alloc ?_ _) | (with_reducible refine C_drewN ?_ _) | (with_reducible refine C_drew ?_))); (case side2 => exact (R_reads' HO422.out).2.1); rintro e w22 ⟨v425, rfl, ho0, hb⟩; refine ⟨_, rfl, ?_⟩; have n0_ := Aside0.mk (R_below (by (with_reducible repeat (first | apply R_alloc | apply R_drewN | apply R_drew)); exact HO422.out) hb); have n1_ := Aside0.mk (S_lower (S_new' ho0 (R_lt (by (with_reducible repeat (first | apply R_alloc | apply R_drewN | apply R_drew)); exact HO422.out))) (below_size (by repeat (first | (with_reducible first | exact HB.out | apply below_alloc | apply pw_below_drewN | apply below_drew1 | refine below_set ?_ GE416.out) | exact HB.out)))); have n2_ := Aside0.mk (blk_below (g := gb416) (o := .cells #[.slice (some ad419) l0_0.length c0_0] 28 (0, 0)) (by (with_reducible repeat (first | refine blk_drewN ?_ _ | refine blk_drew ?_ | refine blk_alloc ?_ _)); exact BK416.out) hb); have n3_ := Aside0.mk (below_step (by repeat (first | (with_reducible first | exact HB.out | apply below_alloc | apply pw_below_drewN | apply below_drew1 | refine below_set ?_ GE416.out) | exact HB.out)) hb); clear HO422; clear BK416; clear HB; have HO422 := n0_; have HO426 := n1_; have BK416 := n2_; have HB := n3_; clear n0_ n1_ n2_ n3_; (try clear hb); (try clear hb2); (try clear hk); (try clear hi); (try clear ho0)))
       go_ret3
       exact ⟨_, by first | rfl | (simp [errW_none, errW_some] <;> rfl) | (simp [*, errW_none, errW_some] <;> rfl), by (with_reducible repeat (first | apply S_alloc | apply S_drewN | apply S_drew)); exact S_mono HO426.out (fun _ hk => trivial), by repeat (first | (with_reducible first | exact HB.out | apply below_alloc | apply pw_below_drewN | apply below_drew1 | refine below_set ?_ GE416.out) | exact HB.out)⟩
      ·
       rw [if_neg c18] at H
       have c18b0 : (t424 == (t420.length : Int)) = false := beq_eq_false_iff_ne.mpr c18
       have c18b1 : (t424 != (t420.length : Int)) = true := bne_iff_ne.mpr c18
       have H' := Aside0.mk H
       clear H
       have hcz23_0 : wc.cell? ⟨gb416, 0, none⟩ = some (.slice A0_0 l0_0.length c0_0) := (blk_cell BK416.out 0).trans rfl
       have hfz23_0 := blk_frozen BK416.out 0
       have p419 : 0 ≤ (t417 : Int) := of_decide_eq_true (by first | (with_reducible assumption) | assumption)
       have q419 : t417 < (l0_0.length : Int) := of_decide_eq_true (by first | (with_reducible assumption) | assumption)
       obtain ⟨ad419, A419_1, c419_1, A419_2, c419_2, e419, hx419_0, hx419_1, hx419_2, hl419_1, hi419_1, hl419_2, hi419_2⟩ := at_T55 HR0_0.out t417 p419 q419
       cases e419
       replace hx419_0 := (HB.out.cell (World.block_lt_of_cell? w _ hx419_0)).trans hx419_0
       replace hx419_1 := (HB.out.cell (World.block_lt_of_cell? w _ hx419_1)).trans hx419_1
       replace hx419_2 := (HB.out.cell (World.block_lt_of_cell? w _ hx419_2)).trans hx419_2
       have HR419_1 := Aside0.mk hi419_1
       have HC419_1 := Aside0.mk hl419_1
       clear hi419_1 hl419_1
       have HR419_2 := Aside0.mk hi419_2
       have HC419_2 := Aside0.mk hl419_2
       clear hi419_2 hl419_2
       replace p419 := eq_true p419
       replace q419 := eq_true q419
       go_wp2_with (first | ((with_reducible refine gate_callee (f := 75) rfl ?_); refine goesL_ (some 24) rfl rfl Tryd.func75 (by kernel_rfl) rfl #[.agg #[.string ((rd_T55 l0_0 t417).f0), .slice A419_1 ((rd_T55 l0_0 t417).f1).length c419_1, .slice A419_2 ((rd_T55 l0_0 t417).f2).length c419_2]] rfl (by (try simp only [List.map_toArray, List.map_cons, List.map_nil]); first | done | rfl | (simp only [List.length_drop, List.length_take]; rfl)) ?_; (with_reducible refine (impl_File_content.calls ((rd_T55 l0_0 t417).f0) _ _ ((rd_T55 l0_0 t417).f1) _ _ ((rd_T55 l0_0 t417).f2) t420 _ ?side1 ?side2 ?side3 ?side4 A16.out).mono ?_); (case side1 => repeat (first | exact (C_below HR419_1.out HB.out) | (with_reducible refine C_alloc ?_ _) | (with_reducible refine C_drewN ?_ _) | (with_reducible refine C_drew ?_))); (case side2 => exact HC419_1.out); (case side3 => repeat (first | exact (C_below HR419_2.out HB.out) | (with_reducible refine C_alloc ?_ _) | (with_reducible refine C_drewN ?_ _) | (with_reducible refine C_drew ?_))); (case side4 => exact HC419_2.out); rintro e w24 ⟨v421, rfl, ho0, hb⟩; refine ⟨_, rfl, ?_⟩; have n0_ := Aside0.mk (R_lower ho0 (below_size (by repeat (first | (with_reducible first | exact HB.out | apply below_alloc | apply pw_below_drewN | apply below_drew1 | refine below_set ?_ GE416.out) | exact HB.out)))); have n1_ := Aside0.mk (blk_below (g := gb416) (o := .cells #[.slice (some ad419) l0_0.length c0_0] 28 (0, 0)) (by (with_reducible repeat (first | refine blk_drewN ?_ _ | refine blk_drew ?_ | refine blk_alloc ?_ _)); exact BK416.out) hb); have n2_ := Aside0.mk (below_step (by repeat (first | (with_reducible first | exact HB.out | apply below_alloc | apply pw_below_drewN | apply below_drew1 | refine below_set ?_ GE416.out) | exact HB.out)) hb); clear BK416; clear HB; have HO422 := n0_; have BK416 := n1_; have HB := n2_; clear n0_ n1_ n2_; (try clear hb); (try clear hb2); (try clear hk); (try clear hi); (try clear ho0); obtain ⟨Ao25, co25, eo25⟩ := R_slice HO422.out; subst eo25) | ((with_reducible refine gate_callee (f := 81) rfl ?_); refine goesL_ (some 27) rfl rfl Tryd.func81 (by kernel_rfl) rfl #[.slice Ao25 t420.length co25] rfl (by (try simp only [List.map_toArray, List.map_cons, List.map_nil]); first | done | rfl | (simp only [List.length_drop, List.length_take]; rfl)) ?_; (with_reducible refine (impl_scanFrames.calls kj2 _ _ t420 t423 t424 _ ?side1 ?side2 A17.out).mono ?_); (case side1 => repeat (first | exact (R_reads' HO422.out).2.2 | (with_reducible refine C_alloc ?_ _) | (with_reducible refine C_drewN ?_ _) | (with_reducible refine C_drew ?_))); (case side2 => exact (R_reads' HO422.out).2.1); rintro e w26 ⟨v425, rfl, ho0, hb⟩; refine ⟨_, rfl, ?_⟩; have n0_ := Aside0.mk (R_below (by (with_reducible repeat (first | apply R_alloc | apply R_drewN | apply R_drew)); exact HO422.out) hb); have n1_ := Aside0.mk (S_lower (S_new' ho0 (R_lt (by (with_reducible repeat (first | apply R_alloc | apply R_drewN | apply R_drew)); exact HO422.out))) (below_size (by repeat (first | (with_reducible first | exact HB.out | apply below_alloc | apply pw_below_drewN | apply below_drew1 | refine below_set ?_ GE416.out) | exact HB.out)))); have n2_ := Aside0.mk (blk_below (g := gb416) (o := .cells #[.slice (some ad419) l0_0.length c0_0] 28 (0, 0)) (by (with_reducible repeat (first | refine blk_drewN ?_ _ | refine blk_drew ?_ | refine blk_alloc ?_ _)); exact BK416.out) hb); have n3_ := Aside0.mk (below_step (by repeat (first | (with_reducible first | exact HB.out | apply below_alloc | apply pw_below_drewN | apply below_drew1 | refine below_set ?_ GE416.out) | exact HB.out)) hb); clear HO422; clear BK416; clear HB; have HO422 := n0_; have HO426 := n1_; have BK416 := n2_; have HB := n3_; clear n0_ n1_ n2_ n3_; (try clear hb); (try clear hb2); (try clear hk); (try clear hi); (try clear ho0)))
       go_loopg [9] kj2 (fun kq v9 w' => ∃ (x9_2 : Int), v9 = .int .i64 x9_2 ∧ Aside0 (impl_walRead.l0 kq t420 t423 t424 x9_2 = some (r1, r2, r3)) ∧ Aside0 (kq ≤ kj2) ∧ Aside0 (Kd.R (Kd.int .u8) 5 w' w.heap.size (fun _ => True) (.slice Ao25 t420.length co25) t420) ∧ Aside0 (Kd.S (Kd.slice 5 (Kd.int .u8)) 41 w' w.heap.size (fun k_ => some k_ ≠ ((.slice Ao25 t420.length co25) : Value).ownBlock) v425 t423) ∧ Aside0 (w'.heap[gb416]? = some (.cells #[(.slice (some ad419) l0_0.length c0_0)] 28 (0, 0))) ∧ Aside0 (Below w.heap.size w w'))
       case atStart => exact ⟨(wrap64 (t424 + 1)), (by first | rfl | (simp; done) | (simp [*]; done)), H', ⟨Nat.le_refl _⟩, ⟨by (with_reducible repeat (first | apply R_alloc | apply R_drewN | apply R_drew)); exact HO422.out⟩, ⟨by (with_reducible repeat (first | apply S_alloc | apply S_drewN | apply S_drew)); exact S_mono HO426.out (fun _ hk => hk.2)⟩, ⟨by (with_reducible repeat (first | refine blk_drewN ?_ _ | refine blk_drew ?_ | refine blk_alloc ?_ _)); exact BK416.out⟩, ⟨by repeat (first | (with_reducible first | exact HB.out | apply below_alloc | apply pw_below_drewN | apply below_drew1 | refine below_set ?_ GE416.out) | exact HB.out)⟩⟩
       case round =>
        clear H'
        try clear c1
        try clear p2
        try clear c4
        try clear p4
        try clear q4
        try clear hx4
        try clear p6
        try clear c7
        try clear c8
        try clear c13
        try clear c14
        try clear c14b0
        try clear c15
        try clear c15b0
        try clear c18
        try clear c18b0
        try clear c18b1
        try clear hcz11_0
        try clear hcz19_0
        try clear hcz23_0
        try clear hcz5_0
        try clear hcz9_0
        try clear hfz11_0
        try clear hfz19_0
        try clear hfz23_0
        try clear hfz5_0
        try clear hfz9_0
        try clear hx419_0
        try clear hx419_1
        try clear hx419_2
        try clear p2
        try clear p419
        try clear q419
        obtain ⟨x9_2, rfl, HA, HK2, HO_6, HO_7, BK416, HB⟩ := hrel
        cases gk with
        | zero => exact absurd HA.out (by simp [impl_walRead.l0])
        | succ k2 =>
         have H := HA.out
         clear HA
         simp only [impl_walRead.l0] at H
         by_cases c27 : x9_2 < (t420.length : Int)
         ·
          rw [if_pos c27] at H
          have c27b0 : decide (x9_2 < (t420.length : Int)) = true := decide_eq_true c27
          clear c27
          by_cases c28 : 0 ≤ x9_2
          ·
           rw [if_pos c28] at H
           have c28b0 := eq_true c28
           have c28b1 : decide (0 ≤ x9_2) = true := decide_eq_true c28
           clear c28
           by_cases c29 : x9_2 ≤ (t420.length : Int)
           ·
            rw [if_pos c29] at H
            have c29b0 := eq_true c29
            have c29b1 : decide (x9_2 ≤ (t420.length : Int)) = true := decide_eq_true c29
            clear c29
            obtain ⟨y427, hy427⟩ : ∃ y_ : List Int, y_ = (t420.drop (x9_2 : Int).toNat) := ⟨_, rfl⟩
            replace H : ((impl_beginsFrame.f k2 y427).bind fun t431 => (if t431 = true then (some (t423, t424, 2)) else (impl_walRead.l0 k2 t420 t423 t424 (wrap64 (x9_2 + 1))))) = some (r1, r2, r3) := by first | (rw [hy427]; with_reducible exact H) | (have H2_ := (Option.bind_some _ _).symm.trans H; rw [hy427]; with_reducible exact H2_) | (have H2_ := (Option.bind_some _ _).symm.trans H; with_reducible exact H2_) | with_reducible exact H | (rw [hy427]; exact H) | exact H
            have Ny427 := Aside0.mk hy427
            clear hy427
            replace H := Option.bind_eq_some_iff.mp H
            obtain ⟨t431, A300, H⟩ := H
            replace H : (if t431 = true then (some (t423, t424, 2)) else (impl_walRead.l0 k2 t420 t423 t424 (wrap64 (x9_2 + 1)))) = some (r1, r2, r3) := H
            have A30 := Aside0.mk A300
            clear A300
            by_cases c31 : t431 = true
            ·
             subst c31
             have H1 : (some (t423, t424, 2)) = some (r1, r2, r3) := by rw [if_pos rfl] at H; exact H
             clear H
             have H := H1
             clear H1
             simp only [Option.some.injEq, Prod.mk.injEq] at H
             obtain ⟨rfl, rfl, rfl⟩ := H
             have q32 : (x9_2 : Int) ≤ ((t420.length : Int) : Int) := of_decide_eq_true (by first | (with_reducible assumption) | assumption)
             obtain ⟨i032, hi032, _, hsz32, _⟩ := info_parts info5
             have hroom32 : t420.length ≤ co25 := (R_reads' HO_6.out).2.1
             have hC32 : Kd.C (Kd.int .u8) _ Ao25 t420.length t420 := (R_reads' HO_6.out).2.2
             have q032 : (0 : Int) ≤ (x9_2 : Int) := of_decide_eq_true (by first | (with_reducible assumption) | assumption)
             have hcut32 := cut_from (P := Tryd.prog) 41 5 .i64 Tryd.underlying41 hi032 1 hsz32 Ao25 t420.length co25 x9_2 q032 q32
             have hr32 := C_drop (m := (x9_2 : Int).toNat) (c := co25) hC32 (by omega) hroom32
             obtain ⟨A32, hA32⟩ : ∃ A1, A1 = (if co25 = (x9_2 : Int).toNat then Ao25 else (Ao25 : Option Addr).map (·.add ((x9_2 : Int).toNat * 1))) := ⟨_, rfl⟩
             obtain ⟨c32, hc32⟩ : ∃ c1, c1 = co25 - (x9_2 : Int).toNat := ⟨_, rfl⟩
             have hy32 : y427.length = t420.length - (x9_2 : Int).toNat := (by rw [Ny427.out, List.length_drop] <;> omega)
             rw [show (t420).drop (x9_2 : Int).toNat = y427 from Ny427.out.symm] at hr32
             replace hr32 : Kd.C (Kd.int .u8) _ A32 y427.length y427 := (by rw [hA32]; exact hr32)
             rw [← hy32, ← hA32, ← hc32] at hcut32
             have HR430 := Aside0.mk hr32
             have HC430 := Aside0.mk (show y427.length ≤ c32 from by rw [hy32, hc32]; exact Nat.sub_le_sub_right hroom32 _)
             clear hr32 hC32 hroom32 hi032 hsz32 hc32
             have KY32 := Aside0.mk hy32
             have KA32 := Aside0.mk hA32
             clear hy32 hA32
             have KL32 := Aside0.mk (show (x9_2 : Int).toNat ≤ t420.length from by omega)
             replace q32 := eq_true q32
             go_wp2_with (first | ((with_reducible refine gate_callee (f := 82) rfl ?_); refine goesL_ (some 47) rfl rfl Tryd.func82 (by kernel_rfl) rfl #[.slice A32 y427.length c32] rfl (by (try simp only [List.map_toArray, List.map_cons, List.map_nil]); first | done | rfl | (simp only [List.length_drop, List.length_take]; rfl)) ?_; (with_reducible refine (impl_beginsFrame.calls k2 _ _ y427 true _ ?side1 ?side2 A30.out).mono ?_); (case side1 => repeat (first | exact (by repeat (first | (with_reducible exact HR430.out) | (with_reducible refine C_alloc ?_ _) | (with_reducible refine C_drewN ?_ _) | (with_reducible refine C_drew ?_) | exact HR430.out)) | (with_reducible refine C_alloc ?_ _) | (with_reducible refine C_drewN ?_ _) | (with_reducible refine C_drew ?_))); (case side2 => exact HC430.out); rintro e w33 ⟨rfl, hb⟩; refine ⟨_, rfl, ?_⟩; have n0_ := Aside0.mk (R_below (by (with_reducible repeat (first | apply R_alloc | apply R_drewN | apply R_drew)); exact HO_6.out) hb); have n1_ := Aside0.mk (S_below (by (with_reducible repeat (first | apply S_alloc | apply S_drewN | apply S_drew)); exact HO_7.out) hb); have n2_ := Aside0.mk (blk_below (g := gb416) (o := .cells #[.slice (some ad419) l0_0.length c0_0] 28 (0, 0)) (by (with_reducible repeat (first | refine blk_drewN ?_ _ | refine blk_drew ?_ | refine blk_alloc ?_ _)); exact BK416.out) hb); have n3_ := Aside0.mk (C_below (by repeat (first | (with_reducible exact HR430.out) | (with_reducible refine C_alloc ?_ _) | (with_reducible refine C_drewN ?_ _) | (with_reducible refine C_drew ?_) | exact HR430.out)) hb); have n4_ := Aside0.mk (below_step (by repeat (first | (with_reducible first | exact HB.out | apply below_alloc | apply pw_below_drewN | apply below_drew1 | refine below_set ?_ GE416.out) | exact HB.out)) hb); clear HO_6; clear HO_7; clear BK416; clear HR430; clear HB; have HO_6 := n0_; have HO_7 := n1_; have BK416 := n2_; have HR430 := n3_; have HB := n4_; clear n0_ n1_ n2_ n3_ n4_; (try clear hb); (try clear hb2); (try clear hk); (try clear hi)))
             go_ret3
             exact ⟨_, by first | rfl | (simp [errW_none, errW_some] <;> rfl) | (simp [*, errW_none, errW_some] <;> rfl), by (with_reducible repeat (first | apply S_alloc | apply S_drewN | apply S_drew)); exact S_mono HO_7.out (fun _ hk => trivial), by repeat (first | (with_reducible first | exact HB.out | apply below_alloc | apply pw_below_drewN | apply below_drew1 | refine below_set ?_ GE416.out) | exact HB.out)⟩
            ·
             replace c31 := Bool.eq_false_iff.mpr c31
             subst c31
             have H1 : (impl_walRead.l0 k2 t420 t423 t424 (wrap64 (x9_2 + 1))) = some (r1, r2, r3) := by rw [if_neg (show ¬ (false = true) by decide)] at H; exact H
             clear H
             have H := H1
             clear H1
             have H' := Aside0.mk H
             clear H
             have q34 : (x9_2 : Int) ≤ ((t420.length : Int) : Int) := of_decide_eq_true (by first | (with_reducible assumption) | assumption)
             obtain ⟨i034, hi034, _, hsz34, _⟩ := info_parts info5
             have hroom34 : t420.length ≤ co25 := (R_reads' HO_6.out).2.1
             have hC34 : Kd.C (Kd.int .u8) _ Ao25 t420.length t420 := (R_reads' HO_6.out).2.2
             have q034 : (0 : Int) ≤ (x9_2 : Int) := of_decide_eq_true (by first | (with_reducible assumption) | assumption)
             have hcut34 := cut_from (P := Tryd.prog) 41 5 .i64 Tryd.underlying41 hi034 1 hsz34 Ao25 t420.length co25 x9_2 q034 q34
             have hr34 := C_drop (m := (x9_2 : Int).toNat) (c := co25) hC34 (by omega) hroom34
             obtain ⟨A34, hA34⟩ : ∃ A1, A1 = (if co25 = (x9_2 : Int).toNat then Ao25 else (Ao25 : Option Addr).map (·.add ((x9_2 : Int).toNat * 1))) := ⟨_, rfl⟩
             obtain ⟨c34, hc34⟩ : ∃ c1, c1 = co25 - (x9_2 : Int).toNat := ⟨_, rfl⟩
             have hy34 : y427.length = t420.length - (x9_2 : Int).toNat := (by rw [Ny427.out, List.length_drop] <;> omega)
             rw [show (t420).drop (x9_2 : Int).toNat = y427 from Ny427.out.symm] at hr34
             replace hr34 : Kd.C (Kd.int .u8) _ A34 y427.length y427 := (by rw [hA34]; exact hr34)
             rw [← hy34, ← hA34, ← hc34] at hcut34
             have HR430 := Aside0.mk hr34
             have HC430 := Aside0.mk (show y427.length ≤ c34 from by rw [hy34, hc34]; exact Nat.sub_le_sub_right hroom34 _)
             clear hr34 hC34 hroom34 hi034 hsz34 hc34
             have KY34 := Aside0.mk hy34
             have KA34 := Aside0.mk hA34
             clear hy34 hA34
             have KL34 := Aside0.mk (show (x9_2 : Int).toNat ≤ t420.length from by omega)
             replace q34 := eq_true q34
             go_wp2_with (first | ((with_reducible refine gate_callee (f := 82) rfl ?_); refine goesL_ (some 47) rfl rfl Tryd.func82 (by kernel_rfl) rfl #[.slice A34 y427.length c34] rfl (by (try simp only [List.map_toArray, List.map_cons, List.map_nil]); first | done | rfl | (simp only [List.length_drop, List.length_take]; rfl)) ?_; (with_reducible refine (impl_beginsFrame.calls k2 _ _ y427 false _ ?side1 ?side2 A30.out).mono ?_); (case side1 => repeat (first | exact (by repeat (first | (with_reducible exact HR430.out) | (with_reducible refine C_alloc ?_ _) | (with_reducible refine C_drewN ?_ _) | (with_reducible refine C_drew ?_) | exact HR430.out)) | (with_reducible refine C_alloc ?_ _) | (with_reducible refine C_drewN ?_ _) | (with_reducible refine C_drew ?_))); (case side2 => exact HC430.out); rintro e w35 ⟨rfl, hb⟩; refine ⟨_, rfl, ?_⟩; have n0_ := Aside0.mk (R_below (by (with_reducible repeat (first | apply R_alloc | apply R_drewN | apply R_drew)); exact HO_6.out) hb); have n1_ := Aside0.mk (S_below (by (with_reducible repeat (first | apply S_alloc | apply S_drewN | apply S_drew)); exact HO_7.out) hb); have n2_ := Aside0.mk (blk_below (g := gb416) (o := .cells #[.slice (some ad419) l0_0.length c0_0] 28 (0, 0)) (by (with_reducible repeat (first | refine blk_drewN ?_ _ | refine blk_drew ?_ | refine blk_alloc ?_ _)); exact BK416.out) hb); have n3_ := Aside0.mk (C_below (by repeat (first | (with_reducible exact HR430.out) | (with_reducible refine C_alloc ?_ _) | (with_reducible refine C_drewN ?_ _) | (with_reducible refine C_drew ?_) | exact HR430.out)) hb); have n4_ := Aside0.mk (below_step (by repeat (first | (with_reducible first | exact HB.out | apply below_alloc | apply pw_below_drewN | apply below_drew1 | refine below_set ?_ GE416.out) | exact HB.out)) hb); clear HO_6; clear HO_7; clear BK416; clear HR430; clear HB; have HO_6 := n0_; have HO_7 := n1_; have BK416 := n2_; have HR430 := n3_; have HB := n4_; clear n0_ n1_ n2_ n3_ n4_; (try clear hb); (try clear hb2); (try clear hk); (try clear hi)))
             go_roundg k2
             case measure => have := HJ2.out; have := HK2.out; omega
             case rel => exact ⟨(wrap64 (x9_2 + 1)), (by first | rfl | (simp; done) | (simp [*]; done)), H', ⟨by have := HJ2.out; have := HK2.out; omega⟩, ⟨by (with_reducible repeat (first | apply R_alloc | apply R_drewN | apply R_drew)); exact HO_6.out⟩, ⟨by (with_reducible repeat (first | apply S_alloc | apply S_drewN | apply S_drew)); exact HO_7.out⟩, ⟨by (with_reducible repeat (first | refine blk_drewN ?_ _ | refine blk_drew ?_ | refine blk_alloc ?_ _)); exact BK416.out⟩, ⟨by repeat (first | (with_reducible first | exact HB.out | apply below_alloc | apply pw_below_drewN | apply below_drew1 | refine below_set ?_ GE416.out) | exact HB.out)⟩⟩
           ·
            rw [if_neg c29] at H
            exact absurd H (by simp)
          ·
           rw [if_neg c28] at H
           exact absurd H (by simp)
         ·
          rw [if_neg c27] at H
          have c27b0 : decide (x9_2 < (t420.length : Int)) = false := decide_eq_false c27
          clear c27
          simp only [Option.some.injEq, Prod.mk.injEq] at H
          obtain ⟨rfl, rfl, rfl⟩ := H
          go_wp2
          go_ret3
          exact ⟨_, by first | rfl | (simp [errW_none, errW_some] <;> rfl) | (simp [*, errW_none, errW_some] <;> rfl), by (with_reducible repeat (first | apply S_alloc | apply S_drewN | apply S_drew)); exact S_mono HO_7.out (fun _ hk => trivial), by repeat (first | (with_reducible first | exact HB.out | apply below_alloc | apply pw_below_drewN | apply below_drew1 | refine below_set ?_ GE416.out) | exact HB.out)⟩
     ·
      rw [if_neg c15] at H
      exact absurd H (by simp)
    ·
     rw [if_neg c14] at H
     exact absurd H (by simp)
end Go.Proofs.YtcgojdhbphocgaaDoor.F

namespace Go.Proofs.YtcgojdhbphocgaaDoor.F
open Go.RowKit Go.Proofs.YtcgojdhbphocgaaDoorW.PrintWords Go.Proofs.YtcgojdhbphocgaaDoorW.PrintWords.Kd Go.Proofs.YtcgojdhbphocgaaDoorW.PrintMore.Kd Go.Proofs.YtcgojdhbphocgaaDoorW.PrintLast Go.Proofs.YtcgojdhbphocgaaDoorW.PrintMore
attribute [local go_sem] max2_int min2_int max_two min_two max_three min_three max_four min_four   -- for this text's walks alone
set_option linter.unusedVariables false
set_option linter.unusedSimpArgs false
def impl_WalRead.f (k : Nat) (l0_0 : List (S55)) : Option ((List (List Int)) × Int) := (impl_walRead.f k l0_0).bind fun bt454 => (some (bt454.1, bt454.2.2))
set_option maxHeartbeats 8000000 in
set_option maxRecDepth 100000 in
theorem impl_WalRead.calls (k : Nat) (A0_0 : Option Addr) (c0_0 : Nat) (l0_0 : List (S55)) (r1 : List (List Int)) (r2 : Int) (w : World) (hr0_0 : Kd.C k55 w A0_0 l0_0.length l0_0) (hc0_0 : l0_0.length ≤ c0_0) (h : impl_WalRead.f k l0_0 = some (r1, r2)) :
  Calls Tryd.prog 21 #[.agg #[.slice A0_0 l0_0.length c0_0]] w fun e w' => ∃ v0_ : Value, e = .returned (.tuple #[v0_, .int .i64 r2]) ∧ Kd.S (Kd.slice 5 (Kd.int .u8)) 41 w' w.heap.size (fun _ => True) v0_ r1 ∧ Below w.heap.size w w' := by
 have hu28 := Tryd.underlying28
 have HR0_0 := Aside0.mk hr0_0
 have HC0_0 := Aside0.mk hc0_0
 clear hr0_0 hc0_0
 have HB := Aside0.mk (Below.refl w.heap.size w)
 have H : ((impl_walRead.f k l0_0).bind fun bt454 => (some (bt454.1, bt454.2.2))) = some (r1, r2) := h
 clear h
 replace H := Option.bind_eq_some_iff.mp H
 obtain ⟨⟨t454, t457, t458⟩, A20, H⟩ := H
 replace H : (some (t454, t458)) = some (r1, r2) := H
 have A2 := Aside0.mk A20
 clear A20
 simp only [Option.some.injEq, Prod.mk.injEq] at H
 obtain ⟨rfl, rfl⟩ := H
 go_enter Tryd.func21, Tryd.ntmps21
 go_wp2_with (first | ((with_reducible refine gate_dst (N := 1) rfl ?_); refine box_event ?hg (N := 1) ?hd (cs := #[.slice A0_0 l0_0.length c0_0]) (t := 28) ?hr ?_; (case hd => rfl); (case hg => rfl); (case hr => first | (go_simp; done) | (go_simp; rfl)); intro gb453 hg w3 hbox hb; have n0_ := Aside0.mk (below_step (by repeat (first | (with_reducible first | exact HB.out | apply below_alloc | apply pw_below_drewN | apply below_drew1) | exact HB.out)) hb); have n1_ := Aside0.mk (hbox); have n2_ := Aside0.mk ((by rw [hg]; exact (below_size (by repeat (first | (with_reducible first | exact HB.out | apply below_alloc | apply pw_below_drewN | apply below_drew1) | exact HB.out))) : w.heap.size ≤ gb453)); have n3_ := Aside0.mk ((by rw [hg]; exact (below_size (by repeat (first | (with_reducible first | exact HB.out | apply below_alloc | apply pw_below_drewN | apply below_drew1) | exact HB.out))) : w.heap.size ≤ gb453)); clear HB; have HB := n0_; have BK453 := n1_; have GW453 := n2_; have GE453 := n3_; clear n0_ n1_ n2_ n3_; clear hb hbox hg; have hcz4_0 : w3.cell? ⟨gb453, 0, none⟩ = some (.slice A0_0 l0_0.length c0_0) := (blk_cell BK453.out 0).trans rfl; have hfz4_0 := blk_frozen BK453.out 0) | ((with_reducible refine gate_callee (f := 49) rfl ?_); refine goesL_ (some 9) rfl rfl Tryd.func49 (by kernel_rfl) rfl #[.agg #[.slice A0_0 l0_0.length c0_0]] rfl (by (try simp only [List.map_toArray, List.map_cons, List.map_nil]); first | done | rfl | (simp only [List.length_drop, List.length_take]; rfl)) ?_; (with_reducible refine (impl_walRead.calls k _ _ l0_0 t454 t457 t458 _ ?side1 ?side2 A2.out).mono ?_); (case side1 => repeat (first | exact (C_below HR0_0.out HB.out) | (with_reducible refine C_alloc ?_ _) | (with_reducible refine C_drewN ?_ _) | (with_reducible refine C_drew ?_))); (case side2 => exact HC0_0.out); rintro e w5 ⟨v455, rfl, ho0, hb⟩; refine ⟨_, rfl, ?_⟩; have n0_ := Aside0.mk (S_lower ho0 (below_size (by repeat (first | (with_reducible first | exact HB.out | apply below_alloc | apply pw_below_drewN | apply below_drew1 | refine below_set ?_ GE453.out) | exact HB.out)))); have n1_ := Aside0.mk (blk_below (g := gb453) (o := .cells #[.slice A0_0 l0_0.length c0_0] 28 (0, 0)) (by (with_reducible repeat (first | refine blk_drewN ?_ _ | refine blk_drew ?_ | refine blk_alloc ?_ _)); exact BK453.out) hb); have n2_ := Aside0.mk (below_step (by repeat (first | (with_reducible first | exact HB.out | apply below_alloc | apply pw_below_drewN | apply below_drew1 | refine below_set ?_ GE453.out) | exact HB.out)) hb); clear BK453; clear HB; have HO456 := n0_; have BK453 := n1_; have HB := n2_; clear n0_ n1_ n2_; (try clear hb); (try clear hb2); (try clear hk); (try clear hi); (try clear ho0)))
 go_ret2
 exact ⟨_, by first | rfl | (simp [errW_none, errW_some] <;> rfl) | (simp [*, errW_none, errW_some] <;> rfl), by (with_reducible repeat (first | apply S_alloc | apply S_drewN | apply S_drew)); exact HO456.out, by repeat (first | (with_reducible first | exact HB.out | apply below_alloc | apply pw_below_drewN | apply below_drew1 | refine below_set ?_ GE453.out) | exact HB.out)⟩
end Go.Proofs.YtcgojdhbphocgaaDoor.F

namespace Go.Proofs.YtcgojdhbphocgaaDoor.F
open Go.RowKit Go.Proofs.YtcgojdhbphocgaaDoorW.PrintWords Go.Proofs.YtcgojdhbphocgaaDoorW.PrintWords.Kd Go.Proofs.YtcgojdhbphocgaaDoorW.PrintMore.Kd Go.Proofs.YtcgojdhbphocgaaDoorW.PrintLast Go.Proofs.YtcgojdhbphocgaaDoorW.PrintMore
attribute [local go_sem] max2_int min2_int max_two min_two max_three min_three max_four min_four   -- for this text's walks alone
set_option linter.unusedVariables false
set_option linter.unusedSimpArgs false
def laws_eqByteSS.l0 : Nat → List (List Int) → List (List Int) → Int → Option (Bool)
 | 0, _, _, _ => none
 | k + 1, x0, x1, x5 => if x5 < (x0.length : Int) then (if 0 ≤ x5 then (if x5 < (x1.length : Int) then ((laws_eqByteS.f k (rd_L2 x0 x5) (rd_L2 x1 x5)).bind fun t461 => (if t461 = true then (laws_eqByteSS.l0 k x0 x1 (wrap64 (x5 + 1))) else (some false))) else (none)) else (none)) else (some true)
def laws_eqByteSS.f (k : Nat) (l0 : List (List Int)) (l1 : List (List Int)) : Option (Bool) := if (l0.length : Int) = (l1.length : Int) then (laws_eqByteSS.l0 k l0 l1 0) else (some false)
set_option maxHeartbeats 8000000 in
set_option maxRecDepth 100000 in
theorem laws_eqByteSS.calls (k : Nat) (A0 : Option Addr) (c0 : Nat) (l0 : List (List Int)) (A1 : Option Addr) (c1 : Nat) (l1 : List (List Int)) (r : Bool) (w : World) (hr0 : Kd.C (Kd.slice 5 (Kd.int .u8)) w A0 l0.length l0) (hc0 : l0.length ≤ c0) (hr1 : Kd.C (Kd.slice 5 (Kd.int .u8)) w A1 l1.length l1) (hc1 : l1.length ≤ c1) (h : laws_eqByteSS.f k l0 l1 = some r) :
  Calls Tryd.prog 22 #[.slice A0 l0.length c0, .slice A1 l1.length c1] w fun e w' => e = .returned (.bool r) ∧ Drawn0 w w' := by
 have HR0 := Aside0.mk hr0
 have HC0 := Aside0.mk hc0
 clear hr0 hc0
 have HR1 := Aside0.mk hr1
 have HC1 := Aside0.mk hc1
 clear hr1 hc1
 have H : (if (l0.length : Int) = (l1.length : Int) then (laws_eqByteSS.l0 k l0 l1 0) else (some false)) = some r := h
 clear h
 by_cases c3 : (l0.length : Int) = (l1.length : Int)
 ·
  rw [if_pos c3] at H
  have c3b0 : ((l0.length : Int) == (l1.length : Int)) = true := beq_iff_eq.mpr c3
  have c3b1 : ((l0.length : Int) != (l1.length : Int)) = false := bne_eq_false_iff_eq.mpr c3
  have c3b2 : (l0.length == l1.length) = true := by first | simpa using c3 | (simp at c3 ⊢; omega)
  clear c3
  have H' := Aside0.mk H
  clear H
  go_enter Tryd.func22, Tryd.ntmps22
  go_wp2
  repeat (go_quiet (fail); try go_wp2)
  go_loopg [5] k (fun kq v5 w' => ∃ (x5_1 : Int), v5 = .int .i64 x5_1 ∧ Aside0 (laws_eqByteSS.l0 kq l0 l1 x5_1 = some r) ∧ Aside0 (kq ≤ k) ∧ Drawn0 w w')
  case atStart => exact ⟨(0), (by first | rfl | (simp; done) | (simp [*]; done)), H', ⟨Nat.le_refl _⟩, by repeat (first | exact Drawn0.refl _ | apply Drawn0.step)⟩
  case round =>
   clear H'
   try clear c1
   try clear c2
   try clear p2
   try clear c3
   try clear c3b0
   try clear c3b1
   try clear c3b2
   obtain ⟨x5_1, rfl, HA, HK1, ⟨m1, rfl⟩⟩ := hrel
   cases gk with
   | zero => exact absurd HA.out (by simp [laws_eqByteSS.l0])
   | succ k1 =>
    have H := HA.out
    clear HA
    simp only [laws_eqByteSS.l0] at H
    by_cases c4 : x5_1 < (l0.length : Int)
    ·
     rw [if_pos c4] at H
     have c4b0 : decide (x5_1 < (l0.length : Int)) = true := decide_eq_true c4
     clear c4
     by_cases c5 : 0 ≤ x5_1
     ·
      rw [if_pos c5] at H
      have c5b0 : decide (0 ≤ x5_1) = true := decide_eq_true c5
      clear c5
      by_cases c6 : x5_1 < (l1.length : Int)
      ·
       rw [if_pos c6] at H
       have c6b0 : decide (x5_1 < (l1.length : Int)) = true := decide_eq_true c6
       clear c6
       replace H := Option.bind_eq_some_iff.mp H
       obtain ⟨t461, A70, H⟩ := H
       replace H : (if t461 = true then (laws_eqByteSS.l0 k1 l0 l1 (wrap64 (x5_1 + 1))) else (some false)) = some r := H
       have A7 := Aside0.mk A70
       clear A70
       by_cases c8 : t461 = true
       ·
        subst c8
        have H1 : (laws_eqByteSS.l0 k1 l0 l1 (wrap64 (x5_1 + 1))) = some r := by rw [if_pos rfl] at H; exact H
        clear H
        have H := H1
        clear H1
        have H' := Aside0.mk H
        clear H
        have p459 : 0 ≤ (x5_1 : Int) := of_decide_eq_true (by first | (with_reducible assumption) | assumption)
        have q459 : x5_1 < (l0.length : Int) := of_decide_eq_true (by first | (with_reducible assumption) | assumption)
        obtain ⟨ad459, A459_0, c459_0, e459, hx459_0, hl459_0, hi459_0⟩ := at_L2 HR0.out x5_1 p459 q459
        cases e459
        have HR459_0 := Aside0.mk hi459_0
        have HC459_0 := Aside0.mk hl459_0
        clear hi459_0 hl459_0
        replace p459 := eq_true p459
        replace q459 := eq_true q459
        have p460 : 0 ≤ (x5_1 : Int) := of_decide_eq_true (by first | (with_reducible assumption) | assumption)
        have q460 : x5_1 < (l1.length : Int) := of_decide_eq_true (by first | (with_reducible assumption) | assumption)
        obtain ⟨ad460, A460_0, c460_0, e460, hx460_0, hl460_0, hi460_0⟩ := at_L2 HR1.out x5_1 p460 q460
        cases e460
        have HR460_0 := Aside0.mk hi460_0
        have HC460_0 := Aside0.mk hl460_0
        clear hi460_0 hl460_0
        replace p460 := eq_true p460
        replace q460 := eq_true q460
        go_wp2_with (first | (go_at_call 30; (with_reducible refine (laws_eqByteS.calls k1 _ _ (rd_L2 l0 x5_1) _ _ (rd_L2 l1 x5_1) true _ ?side1 ?side2 ?side3 ?side4 A7.out).mono ?_); (case side1 => repeat (first | exact HR459_0.out | (with_reducible refine C_alloc ?_ _) | (with_reducible refine C_drewN ?_ _) | (with_reducible refine C_drew ?_))); (case side2 => exact HC459_0.out); (case side3 => repeat (first | exact HR460_0.out | (with_reducible refine C_alloc ?_ _) | (with_reducible refine C_drewN ?_ _) | (with_reducible refine C_drew ?_))); (case side4 => exact HC460_0.out); rintro e w' ⟨rfl, ⟨nd, rfl⟩⟩; (try first | exact ⟨rfl, _, World.drewN_drewN _ _ _⟩ | exact ⟨rfl, _, Eq.trans (World.drewN_drewN _ _ _) (congrArg (World.drewN _) (Nat.add_assoc _ _ _))⟩)))
        repeat (go_quiet (first | (go_at_call 30; (with_reducible refine (laws_eqByteS.calls k1 _ _ (rd_L2 l0 x5_1) _ _ (rd_L2 l1 x5_1) true _ ?side1 ?side2 ?side3 ?side4 A7.out).mono ?_); (case side1 => repeat (first | exact HR459_0.out | (with_reducible refine C_alloc ?_ _) | (with_reducible refine C_drewN ?_ _) | (with_reducible refine C_drew ?_))); (case side2 => exact HC459_0.out); (case side3 => repeat (first | exact HR460_0.out | (with_reducible refine C_alloc ?_ _) | (with_reducible refine C_drewN ?_ _) | (with_reducible refine C_drew ?_))); (case side4 => exact HC460_0.out); rintro e w' ⟨rfl, ⟨nd, rfl⟩⟩; (try first | exact ⟨rfl, _, World.drewN_drewN _ _ _⟩ | exact ⟨rfl, _, Eq.trans (World.drewN_drewN _ _ _) (congrArg (World.drewN _) (Nat.add_assoc _ _ _))⟩))); try go_wp2_with (first | (go_at_call 30; (with_reducible refine (laws_eqByteS.calls k1 _ _ (rd_L2 l0 x5_1) _ _ (rd_L2 l1 x5_1) true _ ?side1 ?side2 ?side3 ?side4 A7.out).mono ?_); (case side1 => repeat (first | exact HR459_0.out | (with_reducible refine C_alloc ?_ _) | (with_reducible refine C_drewN ?_ _) | (with_reducible refine C_drew ?_))); (case side2 => exact HC459_0.out); (case side3 => repeat (first | exact HR460_0.out | (with_reducible refine C_alloc ?_ _) | (with_reducible refine C_drewN ?_ _) | (with_reducible refine C_drew ?_))); (case side4 => exact HC460_0.out); rintro e w' ⟨rfl, ⟨nd, rfl⟩⟩; (try first | exact ⟨rfl, _, World.drewN_drewN _ _ _⟩ | exact ⟨rfl, _, Eq.trans (World.drewN_drewN _ _ _) (congrArg (World.drewN _) (Nat.add_assoc _ _ _))⟩))))
        go_roundg k1
        case measure => have := HK1.out; omega
        case rel => exact ⟨(wrap64 (x5_1 + 1)), (by first | rfl | (simp; done) | (simp [*]; done)), H', ⟨by have := HK1.out; omega⟩, by repeat (first | exact Drawn0.refl _ | apply Drawn0.step)⟩
       ·
        replace c8 := Bool.eq_false_iff.mpr c8
        subst c8
        have H1 : (some false) = some r := by rw [if_neg (show ¬ (false = true) by decide)] at H; exact H
        clear H
        have H := H1
        clear H1
        obtain rfl := Option.some.inj H
        have p459 : 0 ≤ (x5_1 : Int) := of_decide_eq_true (by first | (with_reducible assumption) | assumption)
        have q459 : x5_1 < (l0.length : Int) := of_decide_eq_true (by first | (with_reducible assumption) | assumption)
        obtain ⟨ad459, A459_0, c459_0, e459, hx459_0, hl459_0, hi459_0⟩ := at_L2 HR0.out x5_1 p459 q459
        cases e459
        have HR459_0 := Aside0.mk hi459_0
        have HC459_0 := Aside0.mk hl459_0
        clear hi459_0 hl459_0
        replace p459 := eq_true p459
        replace q459 := eq_true q459
        have p460 : 0 ≤ (x5_1 : Int) := of_decide_eq_true (by first | (with_reducible assumption) | assumption)
        have q460 : x5_1 < (l1.length : Int) := of_decide_eq_true (by first | (with_reducible assumption) | assumption)
        obtain ⟨ad460, A460_0, c460_0, e460, hx460_0, hl460_0, hi460_0⟩ := at_L2 HR1.out x5_1 p460 q460
        cases e460
        have HR460_0 := Aside0.mk hi460_0
        have HC460_0 := Aside0.mk hl460_0
        clear hi460_0 hl460_0
        replace p460 := eq_true p460
        replace q460 := eq_true q460
        go_wp2_with (first | (go_at_call 30; (with_reducible refine (laws_eqByteS.calls k1 _ _ (rd_L2 l0 x5_1) _ _ (rd_L2 l1 x5_1) false _ ?side1 ?side2 ?side3 ?side4 A7.out).mono ?_); (case side1 => repeat (first | exact HR459_0.out | (with_reducible refine C_alloc ?_ _) | (with_reducible refine C_drewN ?_ _) | (with_reducible refine C_drew ?_))); (case side2 => exact HC459_0.out); (case side3 => repeat (first | exact HR460_0.out | (with_reducible refine C_alloc ?_ _) | (with_reducible refine C_drewN ?_ _) | (with_reducible refine C_drew ?_))); (case side4 => exact HC460_0.out); rintro e w' ⟨rfl, ⟨nd, rfl⟩⟩; (try first | exact ⟨rfl, _, World.drewN_drewN _ _ _⟩ | exact ⟨rfl, _, Eq.trans (World.drewN_drewN _ _ _) (congrArg (World.drewN _) (Nat.add_assoc _ _ _))⟩)))
        repeat (go_quiet (first | (go_at_call 30; (with_reducible refine (laws_eqByteS.calls k1 _ _ (rd_L2 l0 x5_1) _ _ (rd_L2 l1 x5_1) false _ ?side1 ?side2 ?side3 ?side4 A7.out).mono ?_); (case side1 => repeat (first | exact HR459_0.out | (with_reducible refine C_alloc ?_ _) | (with_reducible refine C_drewN ?_ _) | (with_reducible refine C_drew ?_))); (case side2 => exact HC459_0.out); (case side3 => repeat (first | exact HR460_0.out | (with_reducible refine C_alloc ?_ _) | (with_reducible refine C_drewN ?_ _) | (with_reducible refine C_drew ?_))); (case side4 => exact HC460_0.out); rintro e w' ⟨rfl, ⟨nd, rfl⟩⟩; (try first | exact ⟨rfl, _, World.drewN_drewN _ _ _⟩ | exact ⟨rfl, _, Eq.trans (World.drewN_drewN _ _ _) (congrArg (World.drewN _) (Nat.add_assoc _ _ _))⟩))); try go_wp2_with (first | (go_at_call 30; (with_reducible refine (laws_eqByteS.calls k1 _ _ (rd_L2 l0 x5_1) _ _ (rd_L2 l1 x5_1) false _ ?side1 ?side2 ?side3 ?side4 A7.out).mono ?_); (case side1 => repeat (first | exact HR459_0.out | (with_reducible refine C_alloc ?_ _) | (with_reducible refine C_drewN ?_ _) | (with_reducible refine C_drew ?_))); (case side2 => exact HC459_0.out); (case side3 => repeat (first | exact HR460_0.out | (with_reducible refine C_alloc ?_ _) | (with_reducible refine C_drewN ?_ _) | (with_reducible refine C_drew ?_))); (case side4 => exact HC460_0.out); rintro e w' ⟨rfl, ⟨nd, rfl⟩⟩; (try first | exact ⟨rfl, _, World.drewN_drewN _ _ _⟩ | exact ⟨rfl, _, Eq.trans (World.drewN_drewN _ _ _) (congrArg (World.drewN _) (Nat.add_assoc _ _ _))⟩))))
        go_ret
        exact ⟨by first | rfl | (simp; done) | (simp [*]; done), by repeat (first | exact Drawn0.refl _ | apply Drawn0.step)⟩
      ·
       rw [if_neg c6] at H
       exact absurd H (by simp)
     ·
      rw [if_neg c5] at H
      exact absurd H (by simp)
    ·
     rw [if_neg c4] at H
     have c4b0 : decide (x5_1 < (l0.length : Int)) = false := decide_eq_false c4
     clear c4
     obtain rfl := Option.some.inj H
     go_wp2
     repeat (go_quiet (fail); try go_wp2)
     go_ret
     exact ⟨by first | rfl | (simp; done) | (simp [*]; done), by repeat (first | exact Drawn0.refl _ | apply Drawn0.step)⟩
 ·
  rw [if_neg c3] at H
  have c3b0 : ((l0.length : Int) == (l1.length : Int)) = false := beq_eq_false_iff_ne.mpr c3
  have c3b1 : ((l0.length : Int) != (l1.length : Int)) = true := bne_iff_ne.mpr c3
  have c3b2 : (l0.length == l1.length) = false := by first | simpa using c3 | (simp at c3 ⊢; omega)
  obtain rfl := Option.some.inj H
  go_enter Tryd.func22, Tryd.ntmps22
  go_wp2
  repeat (go_quiet (fail); try go_wp2)
  go_ret
  exact ⟨by first | rfl | (simp; done) | (simp [*]; done), by repeat (first | exact Drawn0.refl _ | apply Drawn0.step)⟩
end Go.Proofs.YtcgojdhbphocgaaDoor.F

namespace Go.Proofs.YtcgojdhbphocgaaDoor.F
open Go.RowKit Go.Proofs.YtcgojdhbphocgaaDoorW.PrintWords Go.Proofs.YtcgojdhbphocgaaDoorW.PrintWords.Kd Go.Proofs.YtcgojdhbphocgaaDoorW.PrintMore.Kd Go.Proofs.YtcgojdhbphocgaaDoorW.PrintLast Go.Proofs.YtcgojdhbphocgaaDoorW.PrintMore
attribute [local go_sem] max2_int min2_int max_two min_two max_three min_three max_four min_four   -- for this text's walks alone
set_option linter.unusedVariables false
set_option linter.unusedSimpArgs false
def laws_heldByteS.l0 : Nat → List Int → Int → Int → Option (Int)
 | 0, _, _, _ => none
 | k + 1, x0, x1, x5 => if x5 < (x0.length : Int) then (if 0 ≤ x5 then (if (rd x0 x5) = ((x1) % 256) then (laws_heldByteS.l0 k x0 (wrap64 (x1 + 1)) (wrap64 (x5 + 1))) else (some (-1))) else (none)) else (some x1)
def laws_heldByteS.f (k : Nat) (l0 : List Int) (a1 : Int) : Option (Int) := laws_heldByteS.l0 k l0 a1 0
set_option maxHeartbeats 8000000 in
set_option maxRecDepth 100000 in
theorem laws_heldByteS.calls (k : Nat) (A0 : Option Addr) (c0 : Nat) (l0 : List Int) (a1 : Int) (r : Int) (w : World) (hr0 : Kd.C (Kd.int .u8) w A0 l0.length l0) (hc0 : l0.length ≤ c0) (h : laws_heldByteS.f k l0 a1 = some r) :
  Calls Tryd.prog 53 #[.slice A0 l0.length c0, .int .i64 a1] w fun e w' => e = .returned (.int .i64 r) ∧ Drawn0 w w' := by
 have HR0 := Aside0.mk hr0
 have HC0 := Aside0.mk hc0
 clear hr0 hc0
 have H : (laws_heldByteS.l0 k l0 a1 0) = some r := h
 clear h
 have H' := Aside0.mk H
 clear H
 go_enter Tryd.func53, Tryd.ntmps53
 go_wp2
 go_loopg [1, 5] k (fun kq v1 v5 w' => ∃ (x1_1 : Int) (x5_1 : Int), v1 = .int .i64 x1_1 ∧ v5 = .int .i64 x5_1 ∧ Aside0 (laws_heldByteS.l0 kq l0 x1_1 x5_1 = some r) ∧ Aside0 (kq ≤ k) ∧ Drawn0 w w')
 case atStart => exact ⟨(a1), (0), (by first | rfl | (simp; done) | (simp [*]; done)), (by first | rfl | (simp; done) | (simp [*]; done)), H', ⟨Nat.le_refl _⟩, by repeat (first | exact Drawn0.refl _ | apply Drawn0.step)⟩
 case round =>
  clear H'
  try clear p2
  obtain ⟨x1_1, x5_1, rfl, rfl, HA, HK1, ⟨m1, rfl⟩⟩ := hrel
  cases gk with
  | zero => exact absurd HA.out (by simp [laws_heldByteS.l0])
  | succ k1 =>
   have H := HA.out
   clear HA
   simp only [laws_heldByteS.l0] at H
   by_cases c3 : x5_1 < (l0.length : Int)
   ·
    rw [if_pos c3] at H
    have c3b0 : decide (x5_1 < (l0.length : Int)) = true := decide_eq_true c3
    clear c3
    by_cases c4 : 0 ≤ x5_1
    ·
     rw [if_pos c4] at H
     have c4b0 : decide (0 ≤ x5_1) = true := decide_eq_true c4
     clear c4
     by_cases c5 : (rd l0 x5_1) = ((x1_1) % 256)
     ·
      rw [if_pos c5] at H
      have c5b0 : ((rd l0 x5_1) == ((x1_1) % 256)) = true := beq_iff_eq.mpr c5
      have c5b1 : ((rd l0 x5_1) != ((x1_1) % 256)) = false := bne_eq_false_iff_eq.mpr c5
      clear c5
      have H' := Aside0.mk H
      clear H
      have p289 : 0 ≤ (x5_1 : Int) := of_decide_eq_true (by first | (with_reducible assumption) | assumption)
      have q289 : x5_1 < (l0.length : Int) := of_decide_eq_true (by first | (with_reducible assumption) | assumption)
      obtain ⟨ad289, e289, hx289_0⟩ := Kd.at_int HR0.out x5_1 p289 q289
      cases e289
      replace p289 := eq_true p289
      replace q289 := eq_true q289
      go_wp2
      go_roundg k1
      case measure => have := HK1.out; omega
      case rel => exact ⟨(wrap64 (x1_1 + 1)), (wrap64 (x5_1 + 1)), (by first | rfl | (simp; done) | (simp [*]; done)), (by first | rfl | (simp; done) | (simp [*]; done)), H', ⟨by have := HK1.out; omega⟩, by repeat (first | exact Drawn0.refl _ | apply Drawn0.step)⟩
     ·
      rw [if_neg c5] at H
      have c5b0 : ((rd l0 x5_1) == ((x1_1) % 256)) = false := beq_eq_false_iff_ne.mpr c5
      have c5b1 : ((rd l0 x5_1) != ((x1_1) % 256)) = true := bne_iff_ne.mpr c5
      obtain rfl := Option.some.inj H
      have p289 : 0 ≤ (x5_1 : Int) := of_decide_eq_true (by first | (with_reducible assumption) | assumption)
      have q289 : x5_1 < (l0.length : Int) := of_decide_eq_true (by first | (with_reducible assumption) | assumption)
      obtain ⟨ad289, e289, hx289_0⟩ := Kd.at_int HR0.out x5_1 p289 q289
      cases e289
      replace p289 := eq_true p289
      replace q289 := eq_true q289
      go_wp2
      go_ret
      exact ⟨by first | rfl | (simp; done) | (simp [*]; done), by repeat (first | exact Drawn0.refl _ | apply Drawn0.step)⟩
    ·
     rw [if_neg c4] at H
     exact absurd H (by simp)
   ·
    rw [if_neg c3] at H
    have c3b0 : decide (x5_1 < (l0.length : Int)) = false := decide_eq_false c3
    clear c3
    obtain rfl := Option.some.inj H
    go_wp2
    go_ret
    exact ⟨by first | rfl | (simp; done) | (simp [*]; done), by repeat (first | exact Drawn0.refl _ | apply Drawn0.step)⟩
end Go.Proofs.YtcgojdhbphocgaaDoor.F

namespace Go.Proofs.YtcgojdhbphocgaaDoor.F
open Go.RowKit Go.Proofs.YtcgojdhbphocgaaDoorW.PrintWords Go.Proofs.YtcgojdhbphocgaaDoorW.PrintWords.Kd Go.Proofs.YtcgojdhbphocgaaDoorW.PrintMore.Kd Go.Proofs.YtcgojdhbphocgaaDoorW.PrintLast Go.Proofs.YtcgojdhbphocgaaDoorW.PrintMore
attribute [local go_sem] max2_int min2_int max_two min_two max_three min_three max_four min_four   -- for this text's walks alone
set_option linter.unusedVariables false
set_option linter.unusedSimpArgs false
def laws_heldByteSS.l0 : Nat → List (List Int) → Int → Int → Option (Int)
 | 0, _, _, _ => none
 | k + 1, x0, x1, x5 => if x5 < (x0.length : Int) then (if 0 ≤ x5 then ((laws_heldByteS.f k (rd_L2 x0 x5) x1).bind fun t463 => (if t463 < 0 then (some (-1)) else (laws_heldByteSS.l0 k x0 t463 (wrap64 (x5 + 1))))) else (none)) else (some x1)
def laws_heldByteSS.f (k : Nat) (l0 : List (List Int)) (a1 : Int) : Option (Int) := laws_heldByteSS.l0 k l0 a1 0
set_option maxHeartbeats 8000000 in
set_option maxRecDepth 100000 in
theorem laws_heldByteSS.calls (k : Nat) (A0 : Option Addr) (c0 : Nat) (l0 : List (List Int)) (a1 : Int) (r : Int) (w : World) (hr0 : Kd.C (Kd.slice 5 (Kd.int .u8)) w A0 l0.length l0) (hc0 : l0.length ≤ c0) (h : laws_heldByteSS.f k l0 a1 = some r) :
  Calls Tryd.prog 24 #[.slice A0 l0.length c0, .int .i64 a1] w fun e w' => e = .returned (.int .i64 r) ∧ Drawn0 w w' := by
 have HR0 := Aside0.mk hr0
 have HC0 := Aside0.mk hc0
 clear hr0 hc0
 have H : (laws_heldByteSS.l0 k l0 a1 0) = some r := h
 clear h
 have H' := Aside0.mk H
 clear H
 go_enter Tryd.func24, Tryd.ntmps24
 go_wp2
 go_loopg [1, 5] k (fun kq v1 v5 w' => ∃ (x1_1 : Int) (x5_1 : Int), v1 = .int .i64 x1_1 ∧ v5 = .int .i64 x5_1 ∧ Aside0 (laws_heldByteSS.l0 kq l0 x1_1 x5_1 = some r) ∧ Aside0 (kq ≤ k) ∧ Drawn0 w w')
 case atStart => exact ⟨(a1), (0), (by first | rfl | (simp; done) | (simp [*]; done)), (by first | rfl | (simp; done) | (simp [*]; done)), H', ⟨Nat.le_refl _⟩, by repeat (first | exact Drawn0.refl _ | apply Drawn0.step)⟩
 case round =>
  clear H'
  try clear c2
  try clear p2
  obtain ⟨x1_1, x5_1, rfl, rfl, HA, HK1, ⟨m1, rfl⟩⟩ := hrel
  cases gk with
  | zero => exact absurd HA.out (by simp [laws_heldByteSS.l0])
  | succ k1 =>
   have H := HA.out
   clear HA
   simp only [laws_heldByteSS.l0] at H
   by_cases c3 : x5_1 < (l0.length : Int)
   ·
    rw [if_pos c3] at H
    have c3b0 : decide (x5_1 < (l0.length : Int)) = true := decide_eq_true c3
    clear c3
    by_cases c4 : 0 ≤ x5_1
    ·
     rw [if_pos c4] at H
     have c4b0 : decide (0 ≤ x5_1) = true := decide_eq_true c4
     clear c4
     replace H := Option.bind_eq_some_iff.mp H
     obtain ⟨t463, A50, H⟩ := H
     replace H : (if t463 < 0 then (some (-1)) else (laws_heldByteSS.l0 k1 l0 t463 (wrap64 (x5_1 + 1)))) = some r := H
     have A5 := Aside0.mk A50
     clear A50
     by_cases c6 : t463 < 0
     ·
      rw [if_pos c6] at H
      have c6b0 : decide (t463 < 0) = true := decide_eq_true c6
      clear c6
      obtain rfl := Option.some.inj H
      have p462 : 0 ≤ (x5_1 : Int) := of_decide_eq_true (by first | (with_reducible assumption) | assumption)
      have q462 : x5_1 < (l0.length : Int) := of_decide_eq_true (by first | (with_reducible assumption) | assumption)
      obtain ⟨ad462, A462_0, c462_0, e462, hx462_0, hl462_0, hi462_0⟩ := at_L2 HR0.out x5_1 p462 q462
      cases e462
      have HR462_0 := Aside0.mk hi462_0
      have HC462_0 := Aside0.mk hl462_0
      clear hi462_0 hl462_0
      replace p462 := eq_true p462
      replace q462 := eq_true q462
      go_wp2_with (first | ((with_reducible refine gate_callee (f := 53) rfl ?_); refine goesL_ (some 17) rfl rfl Tryd.func53 (by kernel_rfl) rfl #[.slice A462_0 (rd_L2 l0 x5_1).length c462_0, .int .i64 x1_1] rfl (by (try simp only [List.map_toArray, List.map_cons, List.map_nil]); first | done | rfl | (simp only [List.length_drop, List.length_take]; rfl)) ?_; (with_reducible refine (laws_heldByteS.calls k1 _ _ (rd_L2 l0 x5_1) x1_1 t463 _ ?side1 ?side2 A5.out).mono ?_); (case side1 => repeat (first | exact HR462_0.out | (with_reducible refine C_alloc ?_ _) | (with_reducible refine C_drewN ?_ _) | (with_reducible refine C_drew ?_))); (case side2 => exact HC462_0.out); rintro e w' ⟨rfl, ⟨nd, rfl⟩⟩; refine ⟨_, rfl, ?_⟩))
      go_ret
      exact ⟨by first | rfl | (simp; done) | (simp [*]; done), by repeat (first | exact Drawn0.refl _ | apply Drawn0.step)⟩
     ·
      rw [if_neg c6] at H
      have c6b0 : decide (t463 < 0) = false := decide_eq_false c6
      clear c6
      have H' := Aside0.mk H
      clear H
      have p462 : 0 ≤ (x5_1 : Int) := of_decide_eq_true (by first | (with_reducible assumption) | assumption)
      have q462 : x5_1 < (l0.length : Int) := of_decide_eq_true (by first | (with_reducible assumption) | assumption)
      obtain ⟨ad462, A462_0, c462_0, e462, hx462_0, hl462_0, hi462_0⟩ := at_L2 HR0.out x5_1 p462 q462
      cases e462
      have HR462_0 := Aside0.mk hi462_0
      have HC462_0 := Aside0.mk hl462_0
      clear hi462_0 hl462_0
      replace p462 := eq_true p462
      replace q462 := eq_true q462
      go_wp2_with (first | ((with_reducible refine gate_callee (f := 53) rfl ?_); refine goesL_ (some 17) rfl rfl Tryd.func53 (by kernel_rfl) rfl #[.slice A462_0 (rd_L2 l0 x5_1).length c462_0, .int .i64 x1_1] rfl (by (try simp only [List.map_toArray, List.map_cons, List.map_nil]); first | done | rfl | (simp only [List.length_drop, List.length_take]; rfl)) ?_; (with_reducible refine (laws_heldByteS.calls k1 _ _ (rd_L2 l0 x5_1) x1_1 t463 _ ?side1 ?side2 A5.out).mono ?_); (case side1 => repeat (first | exact HR462_0.out | (with_reducible refine C_alloc ?_ _) | (with_reducible refine C_drewN ?_ _) | (with_reducible refine C_drew ?_))); (case side2 => exact HC462_0.out); rintro e w' ⟨rfl, ⟨nd, rfl⟩⟩; refine ⟨_, rfl, ?_⟩))
      go_roundg k1
      case measure => have := HK1.out; omega
      case rel => exact ⟨(t463), (wrap64 (x5_1 + 1)), (by first | rfl | (simp; done) | (simp [*]; done)), (by first | rfl | (simp; done) | (simp [*]; done)), H', ⟨by have := HK1.out; omega⟩, by repeat (first | exact Drawn0.refl _ | apply Drawn0.step)⟩
    ·
     rw [if_neg c4] at H
     exact absurd H (by simp)
   ·
    rw [if_neg c3] at H
    have c3b0 : decide (x5_1 < (l0.length : Int)) = false := decide_eq_false c3
    clear c3
    obtain rfl := Option.some.inj H
    go_wp2
    go_ret
    exact ⟨by first | rfl | (simp; done) | (simp [*]; done), by repeat (first | exact Drawn0.refl _ | apply Drawn0.step)⟩
end Go.Proofs.YtcgojdhbphocgaaDoor.F

namespace Go.Proofs.YtcgojdhbphocgaaDoor.F
open Go.RowKit Go.Proofs.YtcgojdhbphocgaaDoorW.PrintWords Go.Proofs.YtcgojdhbphocgaaDoorW.PrintWords.Kd Go.Proofs.YtcgojdhbphocgaaDoorW.PrintMore.Kd Go.Proofs.YtcgojdhbphocgaaDoorW.PrintLast Go.Proofs.YtcgojdhbphocgaaDoorW.PrintMore
attribute [local go_sem] max2_int min2_int max_two min_two max_three min_three max_four min_four   -- for this text's walks alone
set_option linter.unusedVariables false
set_option linter.unusedSimpArgs false
def laws_markText.l0 : Nat → Int → ByteArray → Option (ByteArray)
 | 0, _, _ => none
 | k + 1, x0, x3 => if x0 > 0 then ((some (([(wrap64 (48 + (Int.tmod x0 10))) % 256] : List Int) : List Int)).bind fun y286 => (if (strOfNums y286).size + x3.size ≤ 9223372036854775807 then (laws_markText.l0 k (wrap64 (Int.tdiv x0 10)) ((strOfNums y286) ++ x3)) else (none))) else (if 1 + x3.size ≤ 9223372036854775807 then (some ((⟨#[109]⟩ : ByteArray) ++ x3)) else (none))
def laws_markText.f (k : Nat) (a0 : Int) : Option (ByteArray) := if a0 ≤ 0 then (some (⟨#[109, 48]⟩ : ByteArray)) else (laws_markText.l0 k a0 (⟨#[]⟩ : ByteArray))
set_option maxHeartbeats 8000000 in
set_option maxRecDepth 100000 in
theorem laws_markText.calls (k : Nat) (a0 : Int) (r : ByteArray) (w : World) (h : laws_markText.f k a0 = some r) :
  Calls Tryd.prog 80 #[.int .i64 a0] w fun e w' => e = .returned (.string r) ∧ Below w.heap.size w w' := by
 have HB := Aside0.mk (Below.refl w.heap.size w)
 have H : (if a0 ≤ 0 then (some (⟨#[109, 48]⟩ : ByteArray)) else (laws_markText.l0 k a0 (⟨#[]⟩ : ByteArray))) = some r := h
 clear h
 by_cases c2 : a0 ≤ 0
 ·
  rw [if_pos c2] at H
  have c2b0 : decide (a0 ≤ 0) = true := decide_eq_true c2
  clear c2
  obtain rfl := Option.some.inj H
  go_enter Tryd.func80, Tryd.ntmps80
  go_wp2
  go_ret
  exact ⟨by first | rfl | (simp [errW_none, errW_some] <;> rfl) | (simp [*, errW_none, errW_some] <;> rfl), by repeat (first | (with_reducible first | exact HB.out | apply below_alloc | apply pw_below_drewN | apply below_drew1) | exact HB.out)⟩
 ·
  rw [if_neg c2] at H
  have c2b0 : decide (a0 ≤ 0) = false := decide_eq_false c2
  clear c2
  have H' := Aside0.mk H
  clear H
  go_enter Tryd.func80, Tryd.ntmps80
  go_wp2
  go_loopg [0, 3] k (fun kq v0 v3 w' => ∃ (x0_1 : Int) (x3_1 : ByteArray), v0 = .int .i64 x0_1 ∧ v3 = .string x3_1 ∧ Aside0 (laws_markText.l0 kq x0_1 x3_1 = some r) ∧ Aside0 (kq ≤ k) ∧ Aside0 (Below w.heap.size w w'))
  case atStart => exact ⟨(a0), ((⟨#[]⟩ : ByteArray)), (by first | rfl | (simp; done) | (simp [*]; done)), (by first | rfl | (simp; done) | (simp [*]; done)), H', ⟨Nat.le_refl _⟩, ⟨by repeat (first | (with_reducible first | exact HB.out | apply below_alloc | apply pw_below_drewN | apply below_drew1) | exact HB.out)⟩⟩
  case round =>
   clear H'
   try clear c2
   try clear c2b0
   try clear p2
   obtain ⟨x0_1, x3_1, rfl, rfl, HA, HK1, HB⟩ := hrel
   cases gk with
   | zero => exact absurd HA.out (by simp [laws_markText.l0])
   | succ k1 =>
    have H := HA.out
    clear HA
    simp only [laws_markText.l0] at H
    by_cases c3 : x0_1 > 0
    ·
     rw [if_pos c3] at H
     have c3b0 : decide (0 < x0_1) = true := decide_eq_true c3
     clear c3
     obtain ⟨y286, hy286⟩ : ∃ y_ : List Int, y_ = (([(wrap64 (48 + (Int.tmod x0_1 10))) % 256] : List Int)) := ⟨_, rfl⟩
     replace H : (if (strOfNums y286).size + x3_1.size ≤ 9223372036854775807 then (laws_markText.l0 k1 (wrap64 (Int.tdiv x0_1 10)) ((strOfNums y286) ++ x3_1)) else (none)) = some r := by first | (rw [hy286]; with_reducible exact H) | (have H2_ := (Option.bind_some _ _).symm.trans H; rw [hy286]; with_reducible exact H2_) | (have H2_ := (Option.bind_some _ _).symm.trans H; with_reducible exact H2_) | with_reducible exact H | (rw [hy286]; exact H) | exact H
     have Ny286 := Aside0.mk hy286
     clear hy286
     by_cases c4 : (strOfNums y286).size + x3_1.size ≤ 9223372036854775807
     ·
      rw [if_pos c4] at H
      have c4b0 := eq_true c4
      have c4b1 : decide ((strOfNums y286).size + x3_1.size ≤ 9223372036854775807) = true := decide_eq_true c4
      try have c4b2 : (9223372036854775807 < (strOfNums y286).size + x3_1.size) = False := eq_false (Nat.not_lt.2 c4)
      have H' := Aside0.mk H
      clear H
      go_wp2_with (first | ((with_reducible refine gate_dst (N := 12) rfl ?_); refine R_lit (Kd.int .u8) _ 5 ?hg (N := 12) ?hd (xs := ([(wrap64 (48 + (Int.tmod x0_1 10))) % 256] : List Int)) (inner := [.int .u8 ((wrap64 (48 + (Int.tmod x0_1 10))) % 256)]) (ok := fun _ => True) (okp := fun _ => True) ?hr ?hp (fun _ hk => hk) trivial (Below.refl _ _) (Nat.le_refl _) (by simp) ?_; (case hd => rfl); (case hg => rfl); (case hr => first | (go_simp; done) | (go_simp; rfl)); (case hp => exact (Reps.one (show Kd.M (Kd.int .u8) _ _ _ ((wrap64 (48 + (Int.tmod x0_1 10))) % 256) [.int .u8 ((wrap64 (48 + (Int.tmod x0_1 10))) % 256)] from rfl) (Reps.none _ _))); intro v287 w5 ho6 hb hg_ hnew_; clear hg_ hnew_; (first | rw [← Ny286.out] at ho6 | (simp only [Int.reduceToNat] at ho6; rw [← Ny286.out] at ho6)); have n0_ := Aside0.mk (R_lower ho6 (below_size (by repeat (first | (with_reducible first | exact HB.out | apply below_alloc | apply pw_below_drewN | apply below_drew1) | exact HB.out)))); have n1_ := Aside0.mk (below_step (by repeat (first | (with_reducible first | exact HB.out | apply below_alloc | apply pw_below_drewN | apply below_drew1) | exact HB.out)) hb); clear HB; have HO288 := n0_; have HB := n1_; clear n0_ n1_; clear hb ho6; have hcv7 := own_string (P := Tryd.prog) Tryd.underlying41 Tryd.underlying5 Tryd.underlying9 (Kd.own_of_R HO288.out); have hcv8 := fun (nq_ : Nat) => own_string (P := Tryd.prog) Tryd.underlying41 Tryd.underlying5 Tryd.underlying9 (Kd.own_of_R (R_drewN HO288.out nq_))))
      go_roundg k1
      case measure => have := HK1.out; omega
      case rel => exact ⟨(wrap64 (Int.tdiv x0_1 10)), ((strOfNums y286) ++ x3_1), (by first | rfl | (simp; done) | (simp [*]; done)), (by first | rfl | (simp; done) | (simp [*]; done)), H', ⟨by have := HK1.out; omega⟩, ⟨by repeat (first | (with_reducible first | exact HB.out | apply below_alloc | apply pw_below_drewN | apply below_drew1) | exact HB.out)⟩⟩
     ·
      rw [if_neg c4] at H
      exact absurd H (by simp)
    ·
     rw [if_neg c3] at H
     have c3b0 : decide (0 < x0_1) = false := decide_eq_false c3
     clear c3
     by_cases c9 : 1 + x3_1.size ≤ 9223372036854775807
     ·
      rw [if_pos c9] at H
      have c9b0 := eq_true c9
      have c9b1 : decide (1 + x3_1.size ≤ 9223372036854775807) = true := decide_eq_true c9
      try have c9b2 : (9223372036854775807 < 1 + x3_1.size) = False := eq_false (Nat.not_lt.2 c9)
      obtain rfl := Option.some.inj H
      go_wp2
      go_ret
      exact ⟨by first | rfl | (simp [errW_none, errW_some] <;> rfl) | (simp [*, errW_none, errW_some] <;> rfl), by repeat (first | (with_reducible first | exact HB.out | apply below_alloc | apply pw_below_drewN | apply below_drew1) | exact HB.out)⟩
     ·
      rw [if_neg c9] at H
      exact absurd H (by simp)
end Go.Proofs.YtcgojdhbphocgaaDoor.F

namespace Go.Proofs.YtcgojdhbphocgaaDoor.F
open Go.RowKit Go.Proofs.YtcgojdhbphocgaaDoorW.PrintWords Go.Proofs.YtcgojdhbphocgaaDoorW.PrintWords.Kd Go.Proofs.YtcgojdhbphocgaaDoorW.PrintMore.Kd Go.Proofs.YtcgojdhbphocgaaDoorW.PrintLast Go.Proofs.YtcgojdhbphocgaaDoorW.PrintMore
attribute [local go_sem] max2_int min2_int max_two min_two max_three min_three max_four min_four   -- for this text's walks alone
set_option linter.unusedVariables false
set_option linter.unusedSimpArgs false
def laws_markByteS.l0 : Nat → List Int → Int → Int → Option (Int × List Int)
 | 0, _, _, _ => none
 | k + 1, x0, x1, x5 => if x5 < (x0.length : Int) then (if 0 ≤ x5 then (laws_markByteS.l0 k (x0.set (x5 : Int).toNat ((x1) % 256)) (wrap64 (x1 + 1)) (wrap64 (x5 + 1))) else (none)) else (some (x1, x0))
def laws_markByteS.f (k : Nat) (l0 : List Int) (a1 : Int) : Option (Int × List Int) := laws_markByteS.l0 k l0 a1 0
set_option maxHeartbeats 8000000 in
set_option maxRecDepth 100000 in
theorem laws_markByteS.calls (k : Nat) (P0_ : Nat → Prop) (u9000_ : Value) (l0 : List Int) (a1 : Int) (r1 : Int) (r2 : List Int) (w0 w : World) (hB : Below w0.heap.size w0 w) (ho0 : Kd.R (Kd.int .u8) 5 w w0.heap.size P0_ u9000_ l0) (h : laws_markByteS.f k l0 a1 = some (r1, r2)) :
  Calls Tryd.prog 31 #[u9000_, .int .i64 a1] w fun e w' => e = .returned (.int .i64 r1) ∧ Kd.R (Kd.int .u8) 5 w' w0.heap.size (fun k_ => (P0_ k_ ∨ w.heap.size ≤ k_)) u9000_ r2 ∧ Below w0.heap.size w0 w' ∧ Kept w w' (fun k_ => P0_ k_) := by
 have HO0 := Aside0.mk (show Kd.R (Kd.int .u8) 5 w w0.heap.size (fun k_ => (P0_ k_ ∨ w.heap.size ≤ k_)) u9000_ l0 from R_mono ho0 (fun k_ hk => (.inl hk)))
 have HK := Aside0.mk (Kept.refl w (fun k_ => P0_ k_))
 have HW0 := Aside0.mk hB.size
 have HB := Aside0.mk hB
 clear hB
 have H : (laws_markByteS.l0 k l0 a1 0) = some (r1, r2) := h
 clear h
 have H' := Aside0.mk H
 clear H
 go_enter Tryd.func31, Tryd.ntmps31
 go_wp2
 go_loopg [1, 5] k (fun kq v1 v5 w' => ∃ (x0_1 : List Int) (x1_1 : Int) (x5_1 : Int), v1 = .int .i64 x1_1 ∧ v5 = .int .i64 x5_1 ∧ Aside0 (laws_markByteS.l0 kq x0_1 x1_1 x5_1 = some (r1, r2)) ∧ Aside0 (kq ≤ k) ∧ Aside0 (Kd.R (Kd.int .u8) 5 w' w0.heap.size (fun k_ => (P0_ k_ ∨ w.heap.size ≤ k_)) u9000_ x0_1) ∧ Aside0 (Kept w w' (fun k_ => P0_ k_)) ∧ Aside0 (Below w0.heap.size w0 w'))
 case atStart => exact ⟨(l0), (a1), (0), (by first | rfl | (simp; done) | (simp [*]; done)), (by first | rfl | (simp; done) | (simp [*]; done)), H', ⟨Nat.le_refl _⟩, ⟨by (with_reducible repeat (first | apply R_alloc | apply R_drewN | apply R_drew)); exact HO0.out⟩, ⟨by repeat (first | (with_reducible first | exact HK.out | apply Kept.alloc | apply Kept.drewN | apply Kept.drew) | exact HK.out)⟩, ⟨by repeat (first | (with_reducible first | exact HB.out | apply below_alloc | apply pw_below_drewN | apply below_drew1) | exact HB.out)⟩⟩
 case round =>
  clear H'
  try clear p2
  obtain ⟨x0_1, x1_1, x5_1, rfl, rfl, HA, HK1, HO_0, HK, HB⟩ := hrel
  cases gk with
  | zero => exact absurd HA.out (by simp [laws_markByteS.l0])
  | succ k1 =>
   have H := HA.out
   clear HA
   simp only [laws_markByteS.l0] at H
   by_cases c3 : x5_1 < (x0_1.length : Int)
   ·
    rw [if_pos c3] at H
    have c3b0 : decide (x5_1 < (x0_1.length : Int)) = true := decide_eq_true c3
    clear c3
    by_cases c4 : 0 ≤ x5_1
    ·
     rw [if_pos c4] at H
     have c4b0 : decide (0 ≤ x5_1) = true := decide_eq_true c4
     clear c4
     obtain ⟨y285, hy285⟩ : ∃ y_ : List Int, y_ = (x0_1.set (x5_1 : Int).toNat ((x1_1) % 256)) := ⟨_, rfl⟩
     replace H : (laws_markByteS.l0 k1 y285 (wrap64 (x1_1 + 1)) (wrap64 (x5_1 + 1))) = some (r1, r2) := by first | (rw [hy285]; with_reducible exact H) | (have H2_ := (Option.bind_some _ _).symm.trans H; rw [hy285]; with_reducible exact H2_) | (have H2_ := (Option.bind_some _ _).symm.trans H; with_reducible exact H2_) | with_reducible exact H | (rw [hy285]; exact H) | exact H
     have Ny285 := Aside0.mk hy285
     clear hy285
     have H' := Aside0.mk H
     clear H
     obtain ⟨Ao6, co6, eo6⟩ := R_slice HO_0.out
     subst eo6
     have p5 : 0 ≤ (x5_1 : Int) := of_decide_eq_true (by first | (with_reducible assumption) | assumption)
     have q5 : (x5_1 : Int) < ((x0_1.length : Int) : Int) := of_decide_eq_true (by first | (with_reducible assumption) | assumption)
     obtain ⟨go5, co5, eo5, gb5, gl5, cl5, HG5⟩ := R_form HO_0.out (by omega)
     (first | cases eo5 | (injection eo5 with ea_ en_ ec_; (first | subst ea_ | (injection ea_ with ea_; subst ea_)); subst ec_; clear en_))
     have GB5 := Aside0.mk gb5
     have GG5 := Aside0.mk HG5
     clear gb5 gl5 HG5
     have HMgo5 := Aside0.mk (show (P0_ go5 ∨ w.heap.size ≤ go5) from (HO_0.out.1 _ rfl))
     obtain ⟨hx5_0, hf5_0⟩ := R_celln 0 HO_0.out (x5_1 : Int) p5 q5
     replace p5 := eq_true p5
     replace q5 := eq_true q5
     have HP7 := R_putg HO_0.out (x5_1 : Int) ((x1_1) % 256)
     go_wp2_with (first | ((with_reducible refine gate_store (t := 5) (p := 16) rfl ?_); refine store_event (t := 5) (p := 16) (v := ?vo_w8) (w1 := (wr.setCell ⟨go5, (x5_1 : Int).toNat, none⟩ (.int .u8 ((x1_1) % 256)))) ?hg ?ho ?hn ?hr ?_; (case ho => rfl); (case hg => rfl); (case hn => rfl); (case hr => first | (go_simp; done) | (go_simp; rfl)); intro w8 hw; have hg : wr.grownBy w8 (some go5) := (by rw [hw]; exact HP7.2); have hp_ : Kd.R (Kd.int .u8) 5 w8 w0.heap.size (fun k_ => (P0_ k_ ∨ w.heap.size ≤ k_)) (.slice (some ⟨go5, 0, none⟩) x0_1.length co6) y285 := (by rw [hw, Ny285.out]; exact HP7.1); clear HP7; have n0_ := Aside0.mk (hp_); have n1_ := Aside0.mk ((by rw [hw]; exact below_set (HB.out) GB5.out : Below w0.heap.size w0 w8)); have n2_ := Aside0.mk (Kept.of_grown (S := (fun k_ => P0_ k_)) hg (by repeat (first | (with_reducible first | exact HK.out | apply Kept.alloc | apply Kept.drewN | apply Kept.drew) | exact HK.out)) (fun k_ e_ => (HO_0.out.1 k_ e_))); clear HO_0; clear HB; clear HK; have HO_0 := n0_; have HB := n1_; have HK := n2_; clear n0_ n1_ n2_; clear hg hw hp_))
     go_roundg k1
     case measure => have := HK1.out; omega
     case rel => exact ⟨(y285), (wrap64 (x1_1 + 1)), (wrap64 (x5_1 + 1)), (by first | rfl | (simp; done) | (simp [*]; done)), (by first | rfl | (simp; done) | (simp [*]; done)), H', ⟨by have := HK1.out; omega⟩, ⟨by (with_reducible repeat (first | apply R_alloc | apply R_drewN | apply R_drew)); exact HO_0.out⟩, ⟨by repeat (first | (with_reducible first | exact HK.out | apply Kept.alloc | apply Kept.drewN | apply Kept.drew) | exact HK.out)⟩, ⟨by repeat (first | (with_reducible first | exact HB.out | apply below_alloc | apply pw_below_drewN | apply below_drew1) | exact HB.out)⟩⟩
    ·
     rw [if_neg c4] at H
     exact absurd H (by simp)
   ·
    rw [if_neg c3] at H
    have c3b0 : decide (x5_1 < (x0_1.length : Int)) = false := decide_eq_false c3
    clear c3
    simp only [Option.some.injEq, Prod.mk.injEq] at H
    obtain ⟨rfl, rfl⟩ := H
    obtain ⟨Ao9, co9, eo9⟩ := R_slice HO_0.out
    subst eo9
    go_wp2
    go_ret
    exact ⟨by first | rfl | (simp [errW_none, errW_some] <;> rfl) | (simp [*, errW_none, errW_some] <;> rfl), by (with_reducible repeat (first | apply R_alloc | apply R_drewN | apply R_drew)); exact HO_0.out, by repeat (first | (with_reducible first | exact HB.out | apply below_alloc | apply pw_below_drewN | apply below_drew1) | exact HB.out), by repeat (first | (with_reducible first | exact HK.out | apply Kept.alloc | apply Kept.drewN | apply Kept.drew) | exact HK.out)⟩
end Go.Proofs.YtcgojdhbphocgaaDoor.F

namespace Go.Proofs.YtcgojdhbphocgaaDoor.F
open Go.RowKit Go.Proofs.YtcgojdhbphocgaaDoorW.PrintWords Go.Proofs.YtcgojdhbphocgaaDoorW.PrintLast Go.Proofs.YtcgojdhbphocgaaDoorW.PrintMore
set_option linter.unusedVariables false
set_option linter.unusedSimpArgs false
def laws_markFileS.l0 : Nat → List S55 → Int → Int → Option (Int × List S55)
  | 0, _, _, _ => none
  | k + 1, x0, x1, x5 => if x5 < (x0.length : Int) then (if 0 ≤ x5 then ((laws_markText.f k x1).bind fun a => ((laws_markByteS.f k (rd_T55 x0 x5).f1 (wrap64 (x1 + 1))).bind fun b => ((laws_markByteS.f k (rd_T55 x0 x5).f2 b.1).bind fun c => laws_markFileS.l0 k (x0.set x5.toNat ⟨a, b.2, c.2⟩) c.1 (wrap64 (x5 + 1))))) else none) else some (x1, x0)
def laws_markFileS.f (k : Nat) (l0 : List S55) (a1 : Int) : Option (Int × List S55) := laws_markFileS.l0 k l0 a1 0
theorem S_lent {α : Type} {d : Kd α} {e base : Nat} {W : World} {ok : Nat → Prop} {v : Value} {xs : List α} (h : Kd.S d e W base ok v xs) (z : α) (i : Int) (h0 : 0 ≤ i) (h1 : i < xs.length) :
    ∃ (g cap : Nat) (oki : Nat → Prop) (c : List Value), v = .slice (some ⟨g, 0, none⟩) xs.length cap ∧ base ≤ g ∧ ok g ∧ c.length = d.sz ∧ d.M W base oki (xs.getD i.toNat z) c ∧ (∀ j u, c[j]? = some u → W.cell? ⟨g, i.toNat * d.sz + j, none⟩ = some u) ∧ (∀ j, W.frozen? ⟨g, i.toNat * d.sz + j, none⟩ = false) ∧ (∀ k, oki k → ok k ∧ k ≠ g) ∧ Kd.H d e W base ok v xs i oki c := by
  obtain ⟨g, cap, rfl, hg, _, _⟩ := Kd.S_form h (by omega)
  obtain ⟨oki, c, a1, a2, a3, a6, a4, a5⟩ := Kd.S_elem h z i h0 h1
  exact ⟨g, cap, oki, c, rfl, hg, (Kd.S_R h).1 g (by simp [Value.ownBlock]), a1, a2, a3, a6, a4, a5⟩
theorem R_back {α : Type} {d : Kd α} {e base : Nat} {W W1 : World} {ok ok' : Nat → Prop} {v : Value} {xs ys : List α} (hE : d.E = []) (h : d.R e W base ok v xs) (h' : d.R e W1 base ok' v ys) : d.R e W1 base ok v ys :=
  Kd.R_mono (Kd.R_tight hE h') (fun k hk => h.1 k hk.symm)
set_option maxHeartbeats 8000000 in
set_option maxRecDepth 100000 in
theorem laws_markFileS.calls (k : Nat) (P0_ : Nat → Prop) (u9000_ : Value) (l0 : List S55) (a1 : Int) (r1 : Int) (r2 : List S55) (w0 w : World) (hB : Below w0.heap.size w0 w) (ho0 : Kd.S k55 55 w w0.heap.size P0_ u9000_ l0) (h : laws_markFileS.f k l0 a1 = some (r1, r2)) :
    Calls Tryd.prog 47 #[u9000_, .int .i64 a1] w fun e w' => e = .returned (.int .i64 r1) ∧ Kd.S k55 55 w' w0.heap.size P0_ u9000_ r2 ∧ Below w0.heap.size w0 w' ∧ Kept w w' (fun k_ => P0_ k_) := by
  obtain ⟨A0, c0, rfl⟩ := Kd.S_slice ho0
  have HO0 := Aside0.mk ho0
  have HK := Aside0.mk (Kept.refl w (fun k_ => P0_ k_))
  have HB := Aside0.mk hB
  clear hB ho0
  have H' := Aside0.mk (show laws_markFileS.l0 k l0 a1 0 = some (r1, r2) from h)
  clear h
  have hu55 := Tryd.underlying55
  go_enter Tryd.func47, Tryd.ntmps47
  go_wp2
  go_loopg [1, 5] k (fun kq v1 v5 w' => ∃ (x0 : List S55) (x1 x5 : Int), v1 = .int .i64 x1 ∧ v5 = .int .i64 x5 ∧ Aside0 (laws_markFileS.l0 kq x0 x1 x5 = some (r1, r2)) ∧ Aside0 (kq ≤ k) ∧ Aside0 (Kd.S k55 55 w' w0.heap.size P0_ (.slice A0 l0.length c0) x0) ∧ Aside0 (Kept w w' (fun k_ => P0_ k_)) ∧ Aside0 (Below w0.heap.size w0 w'))
  case atStart => exact ⟨l0, a1, 0, by first | rfl | (simp; done), by first | rfl | (simp; done), H', ⟨Nat.le_refl _⟩, HO0, HK, HB⟩
  case round =>
    clear H' HO0 HK HB
    obtain ⟨x0, x1, x5, rfl, rfl, HA, HK1, HO, HK, HB⟩ := hrel
    cases gk with
    | zero => exact absurd HA.out (by simp [laws_markFileS.l0])
    | succ k1 =>
      have H := HA.out
      clear HA
      have hl : l0.length = x0.length := (Kd.S_reads' HO.out).1
      simp only [laws_markFileS.l0, ← hl] at H
      by_cases c3 : x5 < (l0.length : Int)
      · rw [if_pos c3] at H
        have q5 := decide_eq_true c3
        by_cases c4 : 0 ≤ x5
        · rw [if_pos c4] at H
          obtain ⟨t0, A4, H⟩ := Option.bind_eq_some_iff.mp H
          obtain ⟨⟨t1, t2⟩, A5, H⟩ := Option.bind_eq_some_iff.mp H
          obtain ⟨⟨t3, t4⟩, A7, H⟩ := Option.bind_eq_some_iff.mp H
          dsimp only at A7 H
          have H' := Aside0.mk H
          clear H
          have A3 := Aside0.mk A4
          clear A4
          have p6 := eq_true c4
          have q6 := eq_true c3
          have C3 := Aside0.mk c3
          have C4 := Aside0.mk c4
          have HL := Aside0.mk hl
          clear hl
          go_wp2_with fail
          refine (laws_markText.calls k1 x1 t0 _ A3.out).mono ?_
          rintro e w5 ⟨rfl, hb0⟩
          replace HO := Aside0.mk (Kd.S_below HO.out hb0)
          replace HB := Aside0.mk (below_then HB.out HB.out.size hb0)
          replace HK := Aside0.mk (HK.out.below hb0)
          clear hb0
          have hl := HL.out
          have c3 := C3.out
          have c4 := C4.out
          obtain ⟨g, cap, oki, c, hv, hg, hok, hcl, hM, hcc, hfr, hoki, hH⟩ := S_lent HO.out z55 x5 c4 (by omega)
          have hM : k55.M w5 w0.heap.size oki (rd_T55 x0 x5) c := hM
          generalize rd_T55 x0 x5 = y at A5 A7 hM
          have A6 := Aside0.mk A5
          have A8 := Aside0.mk A7
          clear A5 A7
          obtain ⟨pp, v1, v2, rfl, hA1, hA2⟩ := k55_openA hM
          have hNN := fun k (h1 : some k = v1.ownBlock) (h2 : some k = v2.ownBlock) => (hA2.1 k h2.symm).2 (hA1.1 k h1.symm).2
          have hR1 := Kd.R_mono hA1 (fun _ h => h.1)
          have hR2 := Kd.R_mono hA2 (fun _ h => h.1)
          have hx0 : w5.cell? ⟨g, x5.toNat * 3, none⟩ = some (.string y.f0) := hcc 0 _ rfl
          have hf0 : w5.frozen? ⟨g, x5.toNat * 3, none⟩ = false := hfr 0
          have hil : x5.toNat < x0.length := by omega
          have hP := (Kd.S_seg (okg := fun _ => False) (seg := [.string t0]) (j := 0) (x' := (⟨t0, y.f1, y.f2⟩ : S55)) (Kd.H_mono (v := .slice (some ⟨g, 0, none⟩) x0.length cap) (hv ▸ hH) (fun k hk => ⟨hk, fun h => h⟩)) c4 (by omega) (show 0 + 1 ≤ 3 by decide) (k55_mkM _ _ _ (⟨t0, y.f1, y.f2⟩ : S55) hR1 hR2 hNN) (fun k hk => .inl hk) (fun k hk => hk.elim)).1
          have HP : Aside0 (Kd.S k55 55 (w5.setCell ⟨g, x5.toNat * 3, none⟩ (.string t0)) w0.heap.size P0_ (.slice (some ⟨g, 0, none⟩) x0.length cap) (x0.set x5.toNat (⟨t0, y.f1, y.f2⟩ : S55))) := ⟨hP⟩
          have HB2 := Aside0.mk (below_set (g := g) (j := x5.toNat * 3) (v := .string t0) HB.out hg)
          have HK2 := Aside0.mk (Kept.setCell (p := ⟨g, x5.toNat * 3, none⟩) HK.out (.inl hok) (.string t0))
          injection hv with e1 e2 e3
          subst e1
          subst e3
          have HIL := Aside0.mk hil
          clear hNN hA1 hA2
          clear e2 hM hcc hfr hoki hH hcl hR1 hR2 hP hil HO HB HK hg hok hl
          go_wp2_with ((with_reducible refine gate_store (t := 9) (p := 17) rfl ?_); refine store_event (t := 9) (p := 17) (v := ?vo) (w1 := (w5.setCell ⟨g, x5.toNat * 3, none⟩ (.string t0))) ?hg ?ho ?hn ?hr ?_; (case ho => rfl); (case hg => rfl); (case hn => rfl); (case hr => first | (go_simp; done) | (go_simp; rfl)); intro w2 hw; rw [← hw] at HP HB2 HK2; clear hw hx0 hf0; obtain ⟨g2, cap2, oki, c, hv, hg, hok, hcl, hM, hcc, hfr, hoki, hH⟩ := S_lent HP.out z55 x5 C4.out (by rw [List.length_set]; exact (Int.toNat_lt C4.out).1 HIL.out); injection hv with e1 e2 e3; injection e1 with e1; injection e1 with e1; subst e1; clear e2 e3; rw [List.getD_eq_getElem?_getD, List.getElem?_set_self HIL.out, Option.getD_some] at hM; obtain ⟨pp2, v3, v4, rfl, hA1, hA2⟩ := k55_openA hM; have GN := Aside0.mk (fun k (h1 : some k = v3.ownBlock) (h2 : some k = v4.ownBlock) => (hA2.1 k h2.symm).2 (hA1.1 k h1.symm).2); have hR1 := Kd.R_mono hA1 (fun _ h => h.1); have hR2 := Kd.R_mono hA2 (fun _ h => h.1); have hx1 : w2.cell? ⟨g, x5.toNat * 3 + 1, none⟩ = some v3 := hcc 1 _ rfl; have hx2 : w2.cell? ⟨g, x5.toNat * 3 + 2, none⟩ = some v4 := hcc 2 _ rfl; have GR1 := Aside0.mk hR1; have GR2 := Aside0.mk hR2; have GH := Aside0.mk hH; have GI := Aside0.mk hoki; have GO := Aside0.mk hok; clear hM hcc hfr hoki hH hcl hR1 hR2 hg hok HP hA1 hA2)
          have T1 := Kd.R_tight rfl GR1.out
          have T2 := Kd.R_tight rfl GR2.out
          refine (laws_markByteS.calls k1 (fun k => some k = v3.ownBlock) v3 y.f1 _ t1 t2 w0 _ HB2.out T1 A6.out).mono ?_
          rintro e w3 ⟨rfl, hR1, hB1, hK1⟩
          have U1 := Aside0.mk (R_back rfl T1 hR1)
          have U2 := Aside0.mk (Kd.R_kept T2 hK1 (fun k h1 h2 => GN.out k h2 h1))
          have UH := Aside0.mk (Kd.H_kept GH.out hK1 (fun k hk hn hs => hn (GR1.out.1 k hs.symm)))
          have UK := Aside0.mk (HK2.out.then_ hK1 (fun k hk => .inl (GI.out k (GR1.out.1 k hk.symm)).1))
          have hx3 : w3.cell? ⟨g, x5.toNat * 3 + 2, none⟩ = some v4 := cell_kept hx2 hK1 (fun hs => (GI.out _ (GR1.out.1 _ hs.symm)).2 rfl)
          have UB := Aside0.mk hB1
          have NE1 := Aside0.mk GN.out
          clear T1 T2 hR1 hB1 hK1 hx1 hx2 GH HK2 HB2
          go_wp2_with fail
          refine (laws_markByteS.calls k1 (fun k => some k = v4.ownBlock) v4 y.f2 _ t3 t4 w0 _ UB.out U2.out A8.out).mono ?_
          rintro e w4 ⟨rfl, hR2, hB1, hK1⟩
          have V2 := R_back rfl U2.out hR2
          have V1 := Kd.R_kept U1.out hK1 NE1.out
          have VH := Kd.H_kept UH.out hK1 (fun k hk hn hs => hn (GR2.out.1 k hs.symm))
          have N1 := Aside0.mk (Kd.H_back VH (okp := oki) (k55_mkM _ _ _ (⟨t0, t2, t4⟩ : S55) (Kd.R_mono V1 (fun k hk => GR1.out.1 k hk.symm)) (Kd.R_mono V2 (fun k hk => GR2.out.1 k hk.symm)) GN.out) (fun _ h => h))
          rw [List.set_set] at N1
          have N2 := Aside0.mk (UK.out.then_ hK1 (fun k hk => .inl (GI.out k (GR2.out.1 k hk.symm)).1))
          have N3 := Aside0.mk hB1
          clear V1 V2 VH hR2 hB1 hK1 hx3 U1 U2 UH UK UB NE1 GR1 GR2 GI GO
          rw [HL.out.symm] at N1
          go_wp2
          go_roundg k1
          case measure => have := HK1.out; omega
          case rel => exact ⟨_, t3, _, rfl, by first | rfl | (simp; done), H', ⟨by have := HK1.out; omega⟩, N1, N2, N3⟩
        · rw [if_neg c4] at H
          exact absurd H (by simp)
      · rw [if_neg c3] at H
        have q5 := decide_eq_false c3
        simp only [Option.some.injEq, Prod.mk.injEq] at H
        obtain ⟨rfl, rfl⟩ := H
        clear hl c3
        go_wp2
        go_ret
        exact ⟨rfl, HO.out, HB.out, HK.out⟩
def laws_markDisk.f (k : Nat) (l0_0 : List S55) (a1 : Int) : Option (Int × List S55) := laws_markFileS.f k l0_0 a1
set_option maxHeartbeats 8000000 in
theorem laws_markDisk.calls (k : Nat) (P0_0_ : Nat → Prop) (u9000_ : Value) (l0_0 : List S55) (a1 : Int) (r1 : Int) (r2 : List S55) (w0 w : World) (hB : Below w0.heap.size w0 w) (ho0_0 : Kd.S k55 55 w w0.heap.size P0_0_ u9000_ l0_0) (h : laws_markDisk.f k l0_0 a1 = some (r1, r2)) :
    Calls Tryd.prog 16 #[.agg #[u9000_], .int .i64 a1] w fun e w' => e = .returned (.int .i64 r1) ∧ Kd.S k55 55 w' w0.heap.size P0_0_ u9000_ r2 ∧ Below w0.heap.size w0 w' ∧ Kept w w' (fun k_ => P0_0_ k_) := by
  obtain ⟨A0, c0, rfl⟩ := Kd.S_slice ho0_0
  have HO0 := Aside0.mk ho0_0
  have HB := Aside0.mk hB
  have H := Aside0.mk (show laws_markFileS.f k l0_0 a1 = some (r1, r2) from h)
  clear hB ho0_0 h
  go_enter Tryd.func16, Tryd.ntmps16
  go_wp2_with fail
  have B1 := below_alloc (Below.refl w.heap.size w) (.cells #[.slice A0 l0_0.length c0] 28)
  refine (laws_markFileS.calls k P0_0_ _ l0_0 a1 r1 r2 w0 _ (below_then HB.out HB.out.size B1) (Kd.S_below HO0.out B1) H.out).mono ?_
  rintro e w' ⟨rfl, hS, hB2, hK⟩
  have HS := Aside0.mk hS
  have HB2 := Aside0.mk hB2
  have HK := Aside0.mk ((Kept.of_below B1 _).then_ hK (fun k hk => .inl hk))
  clear hS hB2 hK B1
  go_wp2
  go_ret
  exact ⟨rfl, HS.out, HB2.out, HK.out⟩
end Go.Proofs.YtcgojdhbphocgaaDoor.F

namespace Go.Proofs.YtcgojdhbphocgaaDoor.F
open Go.RowKit Go.Proofs.YtcgojdhbphocgaaDoorW.PrintWords Go.Proofs.YtcgojdhbphocgaaDoorW.PrintLast Go.Proofs.YtcgojdhbphocgaaDoorW.PrintMore
set_option linter.unusedVariables false
set_option linter.unusedSimpArgs false
def laws_markByteSS.l0 : Nat → List (List Int) → Int → Int → Option (Int × List (List Int))
  | 0, _, _, _ => none
  | k + 1, x0, x1, x5 => if x5 < (x0.length : Int) then (if 0 ≤ x5 then ((laws_markByteS.f k (x0.getD x5.toNat []) x1).bind fun b => laws_markByteSS.l0 k (x0.set x5.toNat b.2) b.1 (wrap64 (x5 + 1))) else none) else some (x1, x0)
def laws_markByteSS.f (k : Nat) (l0 : List (List Int)) (a1 : Int) : Option (Int × List (List Int)) := laws_markByteSS.l0 k l0 a1 0
theorem S_lentB {α : Type} {d : Kd α} {e base : Nat} {W : World} {ok : Nat → Prop} {v : Value} {xs : List α} (h : Kd.S d e W base ok v xs) (z : α) (i : Int) (h0 : 0 ≤ i) (h1 : i < xs.length) :
    ∃ (g cap : Nat) (oki : Nat → Prop) (c : List Value), v = .slice (some ⟨g, 0, none⟩) xs.length cap ∧ base ≤ g ∧ c.length = d.sz ∧ d.M W base oki (xs.getD i.toNat z) c ∧ (∀ j u, c[j]? = some u → W.cell? ⟨g, i.toNat * d.sz + j, none⟩ = some u) ∧ (∀ k, oki k → ok k ∧ k ≠ g) ∧ Kd.H d e W base ok v xs i oki c := by
  obtain ⟨g, cap, rfl, hg, _, _⟩ := Kd.S_form h (by omega)
  obtain ⟨oki, c, a1, a2, a3, a4, a5⟩ := Kd.S_lend h z i h0 h1
  exact ⟨g, cap, oki, c, rfl, hg, a1, a2, a3, a4, a5⟩
theorem R_backB {α : Type} {d : Kd α} {e base : Nat} {W W1 : World} {ok ok' : Nat → Prop} {v : Value} {xs ys : List α} (hE : d.E = []) (h : d.R e W base ok v xs) (h' : d.R e W1 base ok' v ys) : d.R e W1 base ok v ys :=
  Kd.R_mono (Kd.R_tight hE h') (fun k hk => h.1 k hk.symm)
set_option maxHeartbeats 8000000 in
set_option maxRecDepth 100000 in
theorem laws_markByteSS.calls (k : Nat) (P0_ : Nat → Prop) (u9000_ : Value) (l0 : List (List Int)) (a1 : Int) (r1 : Int) (r2 : List (List Int)) (w0 w : World) (hB : Below w0.heap.size w0 w) (ho0 : Kd.S (Kd.slice 5 (Kd.int .u8)) 41 w w0.heap.size P0_ u9000_ l0) (h : laws_markByteSS.f k l0 a1 = some (r1, r2)) :
    Calls Tryd.prog 23 #[u9000_, .int .i64 a1] w fun e w' => e = .returned (.int .i64 r1) ∧ Kd.S (Kd.slice 5 (Kd.int .u8)) 41 w' w0.heap.size P0_ u9000_ r2 ∧ Below w0.heap.size w0 w' ∧ Kept w w' (fun k_ => P0_ k_) := by
  obtain ⟨A0, c0, rfl⟩ := Kd.S_slice ho0
  have HO0 := Aside0.mk ho0
  have HK := Aside0.mk (Kept.refl w (fun k_ => P0_ k_))
  have HB := Aside0.mk hB
  clear hB ho0
  have H' := Aside0.mk (show laws_markByteSS.l0 k l0 a1 0 = some (r1, r2) from h)
  clear h
  go_enter Tryd.func23, Tryd.ntmps23
  go_wp2
  go_loopg [1, 5] k (fun kq v1 v5 w' => ∃ (x0 : List (List Int)) (x1 x5 : Int), v1 = .int .i64 x1 ∧ v5 = .int .i64 x5 ∧ Aside0 (laws_markByteSS.l0 kq x0 x1 x5 = some (r1, r2)) ∧ Aside0 (kq ≤ k) ∧ Aside0 (Kd.S (Kd.slice 5 (Kd.int .u8)) 41 w' w0.heap.size P0_ (.slice A0 l0.length c0) x0) ∧ Aside0 (Kept w w' (fun k_ => P0_ k_)) ∧ Aside0 (Below w0.heap.size w0 w'))
  case atStart => exact ⟨l0, a1, 0, by first | rfl | (simp; done), by first | rfl | (simp; done), H', ⟨Nat.le_refl _⟩, HO0, HK, HB⟩
  case round =>
    clear H' HO0 HK HB
    obtain ⟨x0, x1, x5, rfl, rfl, HA, HK1, HO, HK, HB⟩ := hrel
    cases gk with
    | zero => exact absurd HA.out (by simp [laws_markByteSS.l0])
    | succ k1 =>
      have H := HA.out
      clear HA
      have hl : l0.length = x0.length := (Kd.S_reads' HO.out).1
      simp only [laws_markByteSS.l0, ← hl] at H
      by_cases c3 : x5 < (l0.length : Int)
      · rw [if_pos c3] at H
        have q5 := decide_eq_true c3
        by_cases c4 : 0 ≤ x5
        · rw [if_pos c4] at H
          have p5 := decide_eq_true c4
          replace H := Option.bind_eq_some_iff.mp H
          obtain ⟨⟨t1, t2⟩, A5, H⟩ := H
          have H' := Aside0.mk (show laws_markByteSS.l0 k1 (x0.set x5.toNat t2) t1 (wrap64 (x5 + 1)) = some (r1, r2) from H)
          clear H
          obtain ⟨g, cap, oki, c, hv, hg, hcl, hM, hcc, hoki, hH⟩ := S_lentB HO.out [] x5 c4 (by omega)
          generalize x0.getD x5.toNat [] = y at A5 hM
          have A6 := Aside0.mk A5
          clear A5
          obtain ⟨vi, rfl, hR⟩ := hM
          have hcell := hcc 0 vi rfl
          injection hv with e1 e2 e3
          subst e1
          clear e2 e3
          obtain ⟨Ai, ci, rfl⟩ := Kd.R_slice hR
          have hx : wr.cell? ⟨g, x5.toNat, none⟩ = some (.slice Ai y.length ci) := by
            have h_ := hcell
            simp only [show (Kd.slice 5 (Kd.int .u8)).sz = 1 from rfl, Nat.mul_one, Nat.add_zero] at h_
            exact h_
          have HR := Aside0.mk hR
          have HH := Aside0.mk hH
          have HI := Aside0.mk hoki
          have HL := Aside0.mk hl
          have p6 := eq_true c4
          have q6 := eq_true c3
          clear hR hH hoki hl hcc hcell hcl hg HO c3 c4
          go_wp2_with fail
          refine (laws_markByteS.calls k1 oki (.slice Ai y.length ci) y x1 t1 t2 w0 _ HB.out HR.out A6.out).mono ?_
          rintro e w1 ⟨rfl, hR1, hB1, hK1⟩
          have N1 := Aside0.mk (Kd.H_back (Kd.H_kept HH.out hK1 (fun k _ hn => hn)) (okp := oki) ⟨_, rfl, R_backB rfl HR.out hR1⟩ (fun _ h => h))
          have N2 := Aside0.mk (HK.out.then_ hK1 (fun k hk => .inl (HI.out k hk).1))
          have N3 := Aside0.mk hB1
          clear hR1 hB1 hK1 hx HH HR HI HK HB
          go_wp2
          go_roundg k1
          case measure => have := HK1.out; omega
          case rel => exact ⟨_, t1, _, rfl, by first | rfl | (simp; done), H', ⟨by have := HK1.out; omega⟩, N1, N2, N3⟩
        · rw [if_neg c4] at H
          exact absurd H (by simp)
      · rw [if_neg c3] at H
        have q5 := decide_eq_false c3
        simp only [Option.some.injEq, Prod.mk.injEq] at H
        obtain ⟨rfl, rfl⟩ := H
        clear hl c3
        go_wp2
        go_ret
        exact ⟨rfl, HO.out, HB.out, HK.out⟩
end Go.Proofs.YtcgojdhbphocgaaDoor.F

namespace Go.Proofs.YtcgojdhbphocgaaDoor.LW
set_option linter.unusedVariables false
set_option linter.unusedSimpArgs false
open Go.RowKit Go.Proofs.YtcgojdhbphocgaaDoorW.PrintWords Go.Proofs.YtcgojdhbphocgaaDoorW.PrintLast Go.Proofs.YtcgojdhbphocgaaDoorW.PrintMore
structure It where
  P : World → Prop
  F : Nat → Prop
  mv : ∀ w w1 : World, (∀ k, F k → w1.heap[k]? = w.heap[k]?) → P w → P w1
def Its (w : World) (B n : Nat) : List It → Prop
  | [] => True
  | i :: r => (∀ k, i.F k → B ≤ k ∧ k < n) ∧ i.P w ∧ (∀ j, j ∈ r → ∀ k, i.F k → ¬ j.F k) ∧ Its w B n r
variable {w w0 w1 : World} {B B' n m g t e : Nat} {l : List It} {i : It} {cs : Array Value} {α : Type} {d : Kd α} {v : Value} {xs ys : List α} {F S ok : Nat → Prop}
theorem Its.mono (h : Its w B n l) (hB : B' ≤ B) (hn : n ≤ m) : Its w B' m l := by
  induction l with
  | nil => trivial
  | cons i r ih => exact ⟨fun k hk => ⟨Nat.le_trans hB (h.1 k hk).1, Nat.lt_of_lt_of_le (h.1 k hk).2 hn⟩, h.2.1, h.2.2.1, ih h.2.2.2⟩
theorem Its.all (h : Its w B n l) : ∀ j, j ∈ l → j.P w ∧ ∀ k, j.F k → B ≤ k ∧ k < n := by
  induction l with
  | nil => intro j hj; cases hj
  | cons i r ih =>
    intro j hj
    cases hj with
    | head => exact ⟨h.2.1, h.1⟩
    | tail _ hj => exact ih h.2.2.2 j hj
theorem Its.move (h : Its w B n l) (hm : ∀ j, j ∈ l → ∀ k, j.F k → w1.heap[k]? = w.heap[k]?) : Its w1 B n l := by
  induction l with
  | nil => trivial
  | cons i r ih => exact ⟨h.1, i.mv w w1 (hm i List.mem_cons_self) h.2.1, h.2.2.1, ih h.2.2.2 (fun j hj => hm j (List.mem_cons_of_mem _ hj))⟩
theorem Its.app {l' : List It} (h' : Its w B' n l') (h : Its w B B' l) (hB : B ≤ B') (hn : B' ≤ n) : Its w B n (l' ++ l) := by
  induction l' with
  | nil => exact h.mono (Nat.le_refl _) hn
  | cons i r ih =>
    refine ⟨fun k hk => ⟨Nat.le_trans hB (h'.1 k hk).1, (h'.1 k hk).2⟩, h'.2.1, fun j hj k hk => ?_, ih h'.2.2.2⟩
    rcases List.mem_append.1 hj with hj | hj
    · exact h'.2.2.1 j hj k hk
    · intro hf
      have h1 := (h'.1 k hk).1
      have h2 := ((h.all j hj).2 k hf).2
      omega
theorem Its.write (h : Its w B n l) (i' : It) (hF : ∀ k, i'.F k → i.F k) (hP : i'.P w1) (hk : ∀ k, k < n → ¬ i.F k → w1.heap[k]? = w.heap[k]?) : ∀ q, l[q]? = some i → Its w1 B n (l.set q i') := by
  induction l with
  | nil => intro q hq; simp at hq
  | cons j r ih =>
    intro q hq
    cases q with
    | zero =>
      simp only [List.getElem?_cons_zero, Option.some.injEq] at hq
      subst hq
      exact ⟨fun k hk' => h.1 k (hF k hk'), hP, fun x hx k hk' => h.2.2.1 x hx k (hF k hk'), h.2.2.2.move (fun x hx k hk' => hk k ((h.2.2.2.all x hx).2 k hk').2 (fun hi => h.2.2.1 x hx k hi hk'))⟩
    | succ q =>
      rw [List.getElem?_cons_succ] at hq
      have hm := List.mem_of_getElem? hq
      refine ⟨h.1, j.mv w w1 (fun k hk' => hk k (h.1 k hk').2 (fun hi => h.2.2.1 i hm k hk' hi)) h.2.1, fun x hx k hk' => ?_, ih h.2.2.2 q hq⟩
      rcases List.mem_or_eq_of_mem_set hx with hx | rfl
      · exact h.2.2.1 x hx k hk'
      · exact fun hi => h.2.2.1 i hm k hk' (hF k hi)
def box (g : Nat) (cs : Array Value) (t : Nat) : It := ⟨fun w => w.heap[g]? = some (.cells cs t (0, 0)), fun k => k = g, fun _ _ hk h => (hk g rfl).trans h⟩
def row {α : Type} (d : Kd α) (e B : Nat) (v : Value) (xs : List α) (F : Nat → Prop) : It := ⟨fun w => Kd.S d e w B F v xs, F, fun _ _ hk h => Kd.S_move h hk⟩
structure St (w0 w : World) (l : List It) : Prop where
  b : Below w0.heap.size w0 w
  i : Its w w0.heap.size w.heap.size l
theorem St.start (w : World) : St w w [] := ⟨Below.refl _ _, trivial⟩
theorem St.step (h : St w0 w l) (hb : Below w.heap.size w w1) : St w0 w1 l :=
  ⟨below_step h.b hb, (h.i.move (fun j hj k hk => hb.block k ((h.i.all j hj).2 k hk).2)).mono (Nat.le_refl _) hb.size⟩
theorem St.drew (h : St w0 w l) : St w0 w.drew l := h.step (below_drew (Below.refl _ _))
theorem St.add (h : St w0 w l) (hb : Below w.heap.size w w1) {l' : List It} (hn : Its w1 w.heap.size w1.heap.size l') : St w0 w1 (l' ++ l) :=
  ⟨below_step h.b hb, hn.app (h.i.move (fun j hj k hk => hb.block k ((h.i.all j hj).2 k hk).2)) h.b.size hb.size⟩
theorem St.box (h : St w0 w l) (hg : g = w.heap.size) (hx : w1.heap[g]? = some (.cells cs t (0, 0))) (hb : Below w.heap.size w w1) : St w0 w1 (box g cs t :: l) :=
  h.add hb (l' := [LW.box g cs t]) ⟨fun k hk => by have : k = g := hk; subst this; exact ⟨by omega, blk_lt hx⟩, hx, fun j hj => (List.not_mem_nil hj).elim, trivial⟩
theorem St.alloc (h : St w0 w l) (cs : Array Value) (t : Nat) (hg : g = w.heap.size) : St w0 (w.alloc (.cells cs t)) (LW.box g cs t :: l) := h.box hg (by subst hg; simpa using blk_new w (.cells cs t)) (below_alloc (Below.refl _ _) _)
theorem St.lt (h : St w0 w l) (q : Nat) (hq : l[q]? = some (LW.box g cs t)) : g < w.heap.size := blk_lt (h.i.all _ (List.mem_of_getElem? hq)).1
theorem S_between (h : Kd.S d e w1 w.heap.size ok v xs) (h0 : w0.heap.size ≤ w.heap.size) : Kd.S d e w1 w0.heap.size (fun k => w.heap.size ≤ k ∧ k < w1.heap.size) v xs := Kd.S_lower (Kd.S_mono (Kd.S_bound h) (fun k hk => ⟨hk.2.1, hk.2.2.1⟩)) h0
theorem St.row (h : St w0 w l) (hb : Below w.heap.size w w1) (ho : Kd.S d e w1 w.heap.size ok v xs) : St w0 w1 (row d e w0.heap.size v xs (fun k => w.heap.size ≤ k ∧ k < w1.heap.size) :: l) :=
  h.add hb (l' := [LW.row d e w0.heap.size v xs (fun k => w.heap.size ≤ k ∧ k < w1.heap.size)]) ⟨fun k hk => hk, S_between ho h.b.size, fun j hj => (List.not_mem_nil hj).elim, trivial⟩
theorem setCell_size (w : World) (p : Addr) (u : Value) : (w.setCell p u).heap.size = w.heap.size := by simp [World.setCell]
theorem St.set (h : St w0 w l) (q : Nat) (hq : l[q]? = some (LW.box g cs t)) (j : Nat) (u : Value) : St w0 (w.setCell ⟨g, j, none⟩ u) (l.set q (LW.box g (cs.setIfInBounds j u) t)) := by
  have hx := h.i.all _ (List.mem_of_getElem? hq)
  refine ⟨below_set h.b (hx.2 g rfl).1, ?_⟩
  rw [setCell_size]
  exact h.i.write (i := LW.box g cs t) (LW.box g (cs.setIfInBounds j u) t) (fun k hk => hk) (blk_set hx.1 j u) (fun k _ hk => Below.heap_setCell w ⟨g, j, none⟩ u k hk) q hq
theorem St.cell (h : St w0 w l) (q : Nat) (hq : l[q]? = some (LW.box g cs t)) (j : Nat) {u : Value} (hu : cs[j]? = some u) : w.cell? ⟨g, j, none⟩ = some u := (blk_cell (h.i.all _ (List.mem_of_getElem? hq)).1 j).trans hu
theorem St.blk (h : St w0 w l) (q : Nat) (hq : l[q]? = some (LW.box g cs t)) : w.heap[g]? = some (.cells cs t (0, 0)) := (h.i.all _ (List.mem_of_getElem? hq)).1
theorem St.frozen (h : St w0 w l) (q : Nat) (hq : l[q]? = some (LW.box g cs t)) (j : Nat) : w.frozen? ⟨g, j, none⟩ = false := blk_frozen (h.i.all _ (List.mem_of_getElem? hq)).1 j
theorem St.own (h : St w0 w l) (q : Nat) (hq : l[q]? = some (LW.row d e B v xs F)) : Kd.S d e w B F v xs := (h.i.all _ (List.mem_of_getElem? hq)).1
theorem St.reads {A : Option Addr} {m c : Nat} (h : St w0 w l) (q : Nat) (hq : l[q]? = some (LW.row d e B (.slice A m c) xs F)) : m = xs.length ∧ m ≤ c ∧ d.C w A xs.length xs := Kd.S_reads' (h.own q hq)
theorem St.write (h : St w0 w l) (q : Nat) (hq : l[q]? = some (LW.row d e w0.heap.size v xs F)) (hS : Kd.S d e w1 w0.heap.size F v ys) (hB : Below w0.heap.size w0 w1) (hk : Kept w w1 F) : St w0 w1 (l.set q (LW.row d e w0.heap.size v ys F)) := by
  have hx := h.i.all _ (List.mem_of_getElem? hq)
  exact ⟨hB, (h.i.write (i := LW.row d e w0.heap.size v xs F) (LW.row d e w0.heap.size v ys F) (fun k hk => hk) hS (fun k hlt hn => hk.2 k hlt hn) q hq).mono (Nat.le_refl _) hk.1⟩
theorem Its.of : ∀ {l : List It}, (∀ (q : Nat) (i : It), l[q]? = some i → (∀ k, i.F k → B ≤ k ∧ k < n) ∧ i.P w) → (∀ (p q : Nat) (i j : It), p < q → l[p]? = some i → l[q]? = some j → ∀ k, i.F k → ¬ j.F k) → Its w B n l
  | [], _, _ => trivial
  | a :: r, h1, h2 => ⟨(h1 0 a rfl).1, (h1 0 a rfl).2, fun j hj => by
      obtain ⟨q, hq⟩ := List.mem_iff_getElem?.1 hj
      exact h2 0 (q + 1) a j (by omega) rfl (by rw [List.getElem?_cons_succ]; exact hq), Its.of (fun q i hq => h1 (q + 1) i (by rw [List.getElem?_cons_succ]; exact hq)) (fun p q i j hpq hp hq => h2 (p + 1) (q + 1) i j (by omega) (by rw [List.getElem?_cons_succ]; exact hp) (by rw [List.getElem?_cons_succ]; exact hq))⟩
end Go.Proofs.YtcgojdhbphocgaaDoor.LW

namespace Go.Proofs.YtcgojdhbphocgaaDoor.F
open Go.RowKit Go.Proofs.YtcgojdhbphocgaaDoorW.PrintWords Go.Proofs.YtcgojdhbphocgaaDoorW.PrintLast Go.Proofs.YtcgojdhbphocgaaDoorW.PrintMore
open Go.Proofs.YtcgojdhbphocgaaDoor
set_option linter.unusedVariables false
set_option linter.unusedSimpArgs false
def laws_FnExactWalRead.f (k : Nat) (l0_0 : List (S83)) : Option Bool := ((laws_szDisk.f k l0_0 1048576).bind fun p2 => (if p2 < 0 then some true else ((laws_toDisk.f k l0_0).bind fun p8 => ((spec_WalRead.f k p8).bind fun p16 => ((laws_toDisk.f k l0_0).bind fun p25 => ((impl_WalRead.f k p25).bind fun p33 => ((laws_eqByteSS.f k p33.1 p16.1).bind fun p40 => (if p40 = true then (if p33.2 = p16.2 then ((laws_toDisk.f k l0_0).bind fun p46 => ((laws_eqDisk.f k p25 p46).bind fun p53 => (if p53 = true then ((laws_markDisk.f k p25 1).bind fun p59 => (if p59.1 < 0 then none else ((laws_eqByteSS.f k p33.1 p16.1).bind fun p65 => (if p65 = true then (if p16.2 = p16.2 then ((laws_markByteSS.f k p33.1 1).bind fun p69 => ((laws_heldByteSS.f k p69.2 1).bind fun p74 => (if p74 < 0 then none else (if p74 = p69.1 then ((laws_toDisk.f k l0_0).bind fun p82 => ((impl_WalRead.f k p82).bind fun p90 => ((laws_eqByteSS.f k p90.1 p16.1).bind fun p97 => (if p97 = true then (if p90.2 = p16.2 then ((laws_heldByteSS.f k p69.2 1).bind fun p102 => (if p102 < 0 then none else (if p102 = p69.1 then (some true) else none))) else none) else none)))) else none)))) else none) else none)))) else none))) else none) else none))))))))
set_option maxHeartbeats 16000000 in
set_option maxRecDepth 100000 in
theorem laws_FnExactWalRead.calls (k : Nat) (A0_0 : Option Addr) (c0_0 : Nat) (l0_0 : List (S83)) (r : Bool) (w : World) (hr0_0 : Kd.C k83 w A0_0 l0_0.length l0_0) (hc0_0 : l0_0.length ≤ c0_0) (h : laws_FnExactWalRead.f k l0_0 = some r) :
    Calls Tryd.prog 5 #[.agg #[.slice A0_0 l0_0.length c0_0]] w fun e w' => e = .returned (.bool r) ∧ Below w.heap.size w w' := by
  have HR0_0 := Aside0.mk hr0_0
  have HC0_0 := Aside0.mk hc0_0
  clear hr0_0 hc0_0
  have ST := Aside0.mk (LW.St.start w)
  unfold laws_FnExactWalRead.f at h
  go_enter Tryd.func5, Tryd.ntmps5
  go_wp2_with fail
  replace ST := Aside0.mk (ST.out.alloc #[.slice A0_0 l0_0.length c0_0] 24 (g := w.heap.size) rfl)
  replace h := Option.bind_eq_some_iff.mp h
  obtain ⟨t1, HA_, h⟩ := h
  try dsimp only at h
  replace HA_ := Aside0.mk HA_
  with_reducible refine (laws_szDisk.calls k _ _ l0_0 1048576 t1 _ (Kd.C_below HR0_0.out ST.out.b) HC0_0.out HA_.out).mono ?_
  rintro e w3 ⟨rfl, hb⟩
  clear HA_
  replace ST := Aside0.mk (ST.out.step hb)
  clear hb
  have hc4 := ST.out.cell 0 rfl 0 (u := .slice A0_0 l0_0.length c0_0) rfl
  have hl5 := ST.out.lt 0 rfl
  by_cases c6 : t1 < 0
  · rw [if_pos c6] at h
    obtain rfl := Option.some.inj h
    have c6b : decide (t1 < 0) = true := decide_eq_true c6
    clear c6
    go_wp2
    go_ret
    exact ⟨rfl, ST.out.b⟩
  rw [if_neg c6] at h
  have c6b : decide (t1 < 0) = false := decide_eq_false c6
  clear c6
  go_wp2_with fail
  replace h := Option.bind_eq_some_iff.mp h
  obtain ⟨t7, HA_, h⟩ := h
  try dsimp only at h
  replace HA_ := Aside0.mk HA_
  with_reducible refine (laws_toDisk.calls k _ _ l0_0 t7 _ (Kd.C_below HR0_0.out ST.out.b) HC0_0.out HA_.out).mono ?_
  rintro e w9 ⟨v10, rfl, ho11, hb⟩
  clear HA_
  obtain ⟨A12, c13, rfl⟩ := Kd.S_slice ho11
  replace ST := Aside0.mk (ST.out.row hb ho11)
  clear hb ho11
  clear hc4 hl5
  go_wp2_with fail
  replace h := Option.bind_eq_some_iff.mp h
  obtain ⟨⟨t14, t15⟩, HA_, h⟩ := h
  try dsimp only at h
  replace HA_ := Aside0.mk HA_
  with_reducible refine (spec_WalRead.calls k _ _ t7 t14 t15 _ (ST.out.reads 0 rfl).2.2 (ST.out.reads 0 rfl).2.1 HA_.out).mono ?_
  rintro e w17 ⟨v18, rfl, ho19, hb⟩
  clear HA_
  obtain ⟨A20, c21, rfl⟩ := Kd.S_slice ho19
  replace ST := Aside0.mk (ST.out.row hb ho19)
  clear hb ho19
  have hc22 := ST.out.cell 2 rfl 0 (u := .slice A0_0 l0_0.length c0_0) rfl
  have hl23 := ST.out.lt 2 rfl
  go_wp2_with fail
  replace h := Option.bind_eq_some_iff.mp h
  obtain ⟨t24, HA_, h⟩ := h
  try dsimp only at h
  replace HA_ := Aside0.mk HA_
  with_reducible refine (laws_toDisk.calls k _ _ l0_0 t24 _ (Kd.C_below HR0_0.out ST.out.b) HC0_0.out HA_.out).mono ?_
  rintro e w26 ⟨v27, rfl, ho28, hb⟩
  clear HA_
  obtain ⟨A29, c30, rfl⟩ := Kd.S_slice ho28
  replace ST := Aside0.mk (ST.out.row hb ho28)
  clear hb ho28
  clear hc22 hl23
  go_wp2_with fail
  replace ST := Aside0.mk (ST.out.alloc #[.slice A29 t24.length c30] 28 (g := w26.heap.size) rfl)
  replace h := Option.bind_eq_some_iff.mp h
  obtain ⟨⟨t31, t32⟩, HA_, h⟩ := h
  try dsimp only at h
  replace HA_ := Aside0.mk HA_
  with_reducible refine (impl_WalRead.calls k _ _ t24 t31 t32 _ (ST.out.reads 1 rfl).2.2 (ST.out.reads 1 rfl).2.1 HA_.out).mono ?_
  rintro e w34 ⟨v35, rfl, ho36, hb⟩
  clear HA_
  obtain ⟨A37, c38, rfl⟩ := Kd.S_slice ho36
  replace ST := Aside0.mk (ST.out.row hb ho36)
  clear hb ho36
  go_wp2_with fail
  replace h := Option.bind_eq_some_iff.mp h
  obtain ⟨t39, HA_, h⟩ := h
  try dsimp only at h
  replace HA_ := Aside0.mk HA_
  with_reducible refine (laws_eqByteSS.calls k _ _ t31 _ _ t14 t39 _ (ST.out.reads 0 rfl).2.2 (ST.out.reads 0 rfl).2.1 (ST.out.reads 3 rfl).2.2 (ST.out.reads 3 rfl).2.1 HA_.out).mono ?_
  rintro e w41 ⟨rfl, hb⟩
  clear HA_
  replace hb := Drawn0.below hb
  replace ST := Aside0.mk (ST.out.step hb)
  clear hb
  obtain rfl : t39 = true := by
    cases t39 with
    | true => rfl
    | false => exact absurd h (by simp)
  first | rw [if_pos rfl] at h | rw [if_pos trivial] at h
  have e42 : t32 = t15 := by
    refine Decidable.byContradiction fun e_ => ?_
    rw [if_neg e_] at h
    exact absurd h (by simp)
  rw [if_pos e42] at h
  obtain rfl : t15 = t32 := by first | exact e42 | exact e42.symm
  clear e42
  have hq43 : (t15 != t15) = false := bne_self_eq_false _
  go_wp2_with fail
  replace ST := Aside0.mk ST.out.drew
  refine start_ (n := 5) (S := fun w' => w'.cell? ⟨w26.heap.size, 0, none⟩ = some (.slice A29 t24.length c30) ∧ w'.cell? ⟨w.heap.size, 0, none⟩ = some (.slice A0_0 l0_0.length c0_0)) (ds := []) #[false, false, false, false, false] (by kernel_rfl) rfl rfl ⟨ST.out.cell 1 rfl 0 rfl, ST.out.cell 5 rfl 0 rfl⟩ (fun hHeld => ?_)
  generalize w41.drew = w44 at ST hHeld ⊢
  refine take_ (i := 0) (N := some 41) (v := ?_) (a' := ?_) #[true, false, false, false, false] rfl rfl (by kernel_rfl) (fun _ _ _ h => h) (Or.inl ⟨by rfl, ?_⟩) hHeld ?_ ?_
  rotate_left
  · rintro w' ⟨s0, s1⟩
    go_simp
    with_reducible rfl
  rotate_left
  · simp only [Act.put, List.setIfInBounds_toArray, List.set_cons_zero, List.set_cons_succ, i64_w, i32_w]
    rfl
  refine take_ (i := 1) (N := some 42) (v := ?_) (a' := ?_) #[true, true, false, false, false] rfl rfl (by kernel_rfl) (fun _ _ _ h => h) (Or.inl ⟨by rfl, ?_⟩) hHeld ?_ ?_
  rotate_left
  · rintro w' ⟨s0, s1⟩
    go_simp
    with_reducible rfl
  rotate_left
  · simp only [Act.put, List.setIfInBounds_toArray, List.set_cons_zero, List.set_cons_succ, i64_w, i32_w]
    rfl
  refine one_ (i := 2) (N := some 43) #[true, true, true, false, false] rfl rfl (by kernel_rfl) (by decide) (fun K hK => ?_)
  replace h := Option.bind_eq_some_iff.mp h
  obtain ⟨t45, HA_, h⟩ := h
  try dsimp only at h
  replace HA_ := Aside0.mk HA_
  refine goes_ Tryd.func13 (by kernel_rfl) rfl #[.agg #[.slice A0_0 l0_0.length c0_0]] (by rfl) rfl rfl (by (try simp only [List.map_toArray, List.map_cons, List.map_nil]); first | done | rfl) ?_
  with_reducible refine (laws_toDisk.calls k _ _ l0_0 t45 _ (Kd.C_below HR0_0.out ST.out.b) HC0_0.out HA_.out).mono ?_
  rintro e w47 ⟨v48, rfl, ho49, hb⟩
  clear HA_
  refine ⟨_, rfl, ?_⟩
  obtain ⟨A50, c51, rfl⟩ := Kd.S_slice ho49
  replace ST := Aside0.mk (ST.out.row hb ho49)
  clear hb ho49
  refine hK.out _ _ ⟨ST.out.cell 2 rfl 0 rfl, ST.out.cell 6 rfl 0 rfl⟩ (fun hHeld => ?_)
  clear hK K
  refine norm_ (a' := ?_) ?_ ?_
  rotate_left
  · show Act.put _ (some 43) _ = _
    simp only [Act.put, List.setIfInBounds_toArray, List.set_cons_zero, List.set_cons_succ, i64_w, i32_w]
    rfl
  refine one_ (i := 3) (N := some 44) #[true, true, true, true, false] rfl rfl (by kernel_rfl) (by decide) (fun K hK => ?_)
  replace h := Option.bind_eq_some_iff.mp h
  obtain ⟨t52, HA_, h⟩ := h
  try dsimp only at h
  replace HA_ := Aside0.mk HA_
  refine goes_ Tryd.func15 (by kernel_rfl) rfl #[.agg #[.slice A29 t24.length c30], .agg #[.slice A50 t45.length c51]] (by rfl) rfl rfl (by (try simp only [List.map_toArray, List.map_cons, List.map_nil]); first | done | rfl) ?_
  with_reducible refine (laws_eqDisk.calls k _ _ t24 _ _ t45 t52 _ (ST.out.reads 3 rfl).2.2 (ST.out.reads 3 rfl).2.1 (ST.out.reads 0 rfl).2.2 (ST.out.reads 0 rfl).2.1 HA_.out).mono ?_
  rintro e w54 ⟨rfl, hb⟩
  clear HA_
  refine ⟨_, rfl, ?_⟩
  replace ST := Aside0.mk (ST.out.step hb)
  clear hb
  obtain rfl : t52 = true := by
    cases t52 with
    | true => rfl
    | false => exact absurd h (by simp)
  first | rw [if_pos rfl] at h | rw [if_pos trivial] at h
  refine hK.out _ _ ⟨ST.out.cell 2 rfl 0 rfl, ST.out.cell 6 rfl 0 rfl⟩ (fun hHeld => ?_)
  clear hK K
  refine norm_ (a' := ?_) ?_ ?_
  rotate_left
  · show Act.put _ (some 44) _ = _
    simp only [Act.put, List.setIfInBounds_toArray, List.set_cons_zero, List.set_cons_succ, i64_w, i32_w]
    rfl
  refine pure_ (i := 4) (N := some 45) (v := ?_) (a' := ?_) #[true, true, true, true, true] rfl rfl (by kernel_rfl) (fun _ _ _ h => h) (Or.inl ⟨by rfl, ?_⟩) ?_ ?_
  rotate_left
  · intro w'
    go_simp
    with_reducible rfl
  rotate_left
  · simp only [Act.put, List.setIfInBounds_toArray, List.set_cons_zero, List.set_cons_succ, i64_w, i32_w]
    rfl
  refine done_ (by kernel_rfl) ?_
  have hc55 := ST.out.cell 2 rfl 0 (u := .slice A29 t24.length c30) rfl
  have hl56 := ST.out.lt 2 rfl
  go_wp2_with fail
  replace h := Option.bind_eq_some_iff.mp h
  obtain ⟨⟨t57, t58⟩, HA_, h⟩ := h
  try dsimp only at h
  replace HA_ := Aside0.mk HA_
  with_reducible refine (laws_markDisk.calls k _ _ t24 1 t57 t58 w _ ST.out.b (ST.out.own 3 rfl) HA_.out).mono ?_
  rintro e w60 ⟨rfl, ho61, hb, hk⟩
  clear HA_
  replace ST := Aside0.mk (ST.out.write 3 rfl ho61 hb hk)
  clear hb hk ho61
  have el62 := (ST.out.reads 3 rfl).1
  simp only [el62] at ST ⊢
  clear el62
  clear hc55 hl56
  by_cases c63 : t57 < 0
  · rw [if_pos c63] at h
    exact absurd h (by simp)
  rw [if_neg c63] at h
  have c63b : decide (t57 < 0) = false := decide_eq_false c63
  clear c63
  go_wp2_with fail
  replace h := Option.bind_eq_some_iff.mp h
  obtain ⟨t64, HA_, h⟩ := h
  try dsimp only at h
  replace HA_ := Aside0.mk HA_
  with_reducible refine (laws_eqByteSS.calls k _ _ t31 _ _ t14 t64 _ (ST.out.reads 1 rfl).2.2 (ST.out.reads 1 rfl).2.1 (ST.out.reads 4 rfl).2.2 (ST.out.reads 4 rfl).2.1 HA_.out).mono ?_
  rintro e w66 ⟨rfl, hb⟩
  clear HA_
  replace hb := Drawn0.below hb
  replace ST := Aside0.mk (ST.out.step hb)
  clear hb
  obtain rfl : t64 = true := by
    cases t64 with
    | true => rfl
    | false => exact absurd h (by simp)
  first | rw [if_pos rfl] at h | rw [if_pos trivial] at h
  first | rw [if_pos rfl] at h | rw [if_pos trivial] at h
  go_wp2_with fail
  replace h := Option.bind_eq_some_iff.mp h
  obtain ⟨⟨t67, t68⟩, HA_, h⟩ := h
  try dsimp only at h
  replace HA_ := Aside0.mk HA_
  with_reducible refine (laws_markByteSS.calls k _ _ t31 1 t67 t68 w _ ST.out.b (ST.out.own 1 rfl) HA_.out).mono ?_
  rintro e w70 ⟨rfl, ho71, hb, hk⟩
  clear HA_
  replace ST := Aside0.mk (ST.out.write 1 rfl ho71 hb hk)
  clear hb hk ho71
  have el72 := (ST.out.reads 1 rfl).1
  simp only [el72] at ST ⊢
  clear el72
  go_wp2_with fail
  replace h := Option.bind_eq_some_iff.mp h
  obtain ⟨t73, HA_, h⟩ := h
  try dsimp only at h
  replace HA_ := Aside0.mk HA_
  with_reducible refine (laws_heldByteSS.calls k _ _ t68 1 t73 _ (ST.out.reads 1 rfl).2.2 (ST.out.reads 1 rfl).2.1 HA_.out).mono ?_
  rintro e w75 ⟨rfl, hb⟩
  clear HA_
  replace hb := Drawn0.below hb
  replace ST := Aside0.mk (ST.out.step hb)
  clear hb
  have hc76 := ST.out.cell 6 rfl 0 (u := .slice A0_0 l0_0.length c0_0) rfl
  have hl77 := ST.out.lt 6 rfl
  by_cases c78 : t73 < 0
  · rw [if_pos c78] at h
    exact absurd h (by simp)
  rw [if_neg c78] at h
  have c78b : decide (t73 < 0) = false := decide_eq_false c78
  clear c78
  have e79 : t73 = t67 := by
    refine Decidable.byContradiction fun e_ => ?_
    rw [if_neg e_] at h
    exact absurd h (by simp)
  rw [if_pos e79] at h
  obtain rfl : t67 = t73 := by first | exact e79 | exact e79.symm
  clear e79
  have hq80 : (t67 != t67) = false := bne_self_eq_false _
  go_wp2_with fail
  replace h := Option.bind_eq_some_iff.mp h
  obtain ⟨t81, HA_, h⟩ := h
  try dsimp only at h
  replace HA_ := Aside0.mk HA_
  with_reducible refine (laws_toDisk.calls k _ _ l0_0 t81 _ (Kd.C_below HR0_0.out ST.out.b) HC0_0.out HA_.out).mono ?_
  rintro e w83 ⟨v84, rfl, ho85, hb⟩
  clear HA_
  obtain ⟨A86, c87, rfl⟩ := Kd.S_slice ho85
  replace ST := Aside0.mk (ST.out.row hb ho85)
  clear hb ho85
  clear hc76 hl77
  go_wp2_with fail
  replace h := Option.bind_eq_some_iff.mp h
  obtain ⟨⟨t88, t89⟩, HA_, h⟩ := h
  try dsimp only at h
  replace HA_ := Aside0.mk HA_
  with_reducible refine (impl_WalRead.calls k _ _ t81 t88 t89 _ (ST.out.reads 0 rfl).2.2 (ST.out.reads 0 rfl).2.1 HA_.out).mono ?_
  rintro e w91 ⟨v92, rfl, ho93, hb⟩
  clear HA_
  obtain ⟨A94, c95, rfl⟩ := Kd.S_slice ho93
  replace ST := Aside0.mk (ST.out.row hb ho93)
  clear hb ho93
  go_wp2_with fail
  replace h := Option.bind_eq_some_iff.mp h
  obtain ⟨t96, HA_, h⟩ := h
  try dsimp only at h
  replace HA_ := Aside0.mk HA_
  with_reducible refine (laws_eqByteSS.calls k _ _ t88 _ _ t14 t96 _ (ST.out.reads 0 rfl).2.2 (ST.out.reads 0 rfl).2.1 (ST.out.reads 6 rfl).2.2 (ST.out.reads 6 rfl).2.1 HA_.out).mono ?_
  rintro e w98 ⟨rfl, hb⟩
  clear HA_
  replace hb := Drawn0.below hb
  replace ST := Aside0.mk (ST.out.step hb)
  clear hb
  obtain rfl : t96 = true := by
    cases t96 with
    | true => rfl
    | false => exact absurd h (by simp)
  first | rw [if_pos rfl] at h | rw [if_pos trivial] at h
  have e99 : t89 = t15 := by
    refine Decidable.byContradiction fun e_ => ?_
    rw [if_neg e_] at h
    exact absurd h (by simp)
  rw [if_pos e99] at h
  obtain rfl : t15 = t89 := by first | exact e99 | exact e99.symm
  clear e99
  have hq100 : (t15 != t15) = false := bne_self_eq_false _
  go_wp2_with fail
  replace h := Option.bind_eq_some_iff.mp h
  obtain ⟨t101, HA_, h⟩ := h
  try dsimp only at h
  replace HA_ := Aside0.mk HA_
  with_reducible refine (laws_heldByteSS.calls k _ _ t68 1 t101 _ (ST.out.reads 3 rfl).2.2 (ST.out.reads 3 rfl).2.1 HA_.out).mono ?_
  rintro e w103 ⟨rfl, hb⟩
  clear HA_
  replace hb := Drawn0.below hb
  replace ST := Aside0.mk (ST.out.step hb)
  clear hb
  by_cases c104 : t101 < 0
  · rw [if_pos c104] at h
    exact absurd h (by simp)
  rw [if_neg c104] at h
  have c104b : decide (t101 < 0) = false := decide_eq_false c104
  clear c104
  have e105 : t101 = t67 := by
    refine Decidable.byContradiction fun e_ => ?_
    rw [if_neg e_] at h
    exact absurd h (by simp)
  rw [if_pos e105] at h
  obtain rfl : t67 = t101 := by first | exact e105 | exact e105.symm
  clear e105
  have hq106 : (t67 != t67) = false := bne_self_eq_false _
  obtain rfl := Option.some.inj h
  go_wp2
  go_ret
  exact ⟨rfl, ST.out.b⟩
end Go.Proofs.YtcgojdhbphocgaaDoor.F

namespace Go.Proofs.YtcgojdhbphocgaaDoor.PK
set_option linter.unusedVariables false
set_option linter.unusedSimpArgs false
open Go.RowKit Go.Proofs.YtcgojdhbphocgaaDoorW.PrintWords
theorem EvS {α : Type} {g : Nat → Option α} {r : α} (h : Ev (fun k => g (k + 1)) r) : Ev g r := by
  obtain ⟨K, h⟩ := h
  refine ⟨K + 1, fun k hk => ?_⟩
  obtain ⟨m, rfl⟩ : ∃ m, k = m + 1 := ⟨k - 1, by omega⟩
  exact h m (by omega)
theorem EvB {α β : Type} {g : Nat → Option α} {f : Nat → α → Option β} {a : α} {r : β} (h : Ev g a) : Ev (fun k => (g k).bind (f k)) r ↔ Ev (fun k => f k a) r := by
  obtain ⟨K, h⟩ := h
  constructor
  · rintro ⟨K', h'⟩
    refine ⟨max K K', fun k hk => ?_⟩
    have h2 : (g k).bind (f k) = some r := h' k (by omega)
    rw [h k (by omega)] at h2
    exact h2
  · rintro ⟨K', h'⟩
    refine ⟨max K K', fun k hk => ?_⟩
    show (g k).bind (f k) = some r
    rw [h k (by omega)]
    exact h' k (by omega)
theorem EvN {α : Type} {r : α} : Ev (fun _ => some r) r := ⟨0, fun _ _ => rfl⟩
theorem EvE {α : Type} {g : Nat → Option α} {r : α} (h : Ev g r) : ∃ k, g k = some r := h.rounds
theorem w64 {x : Int} (h : -9223372036854775808 ≤ x) (h' : x ≤ 9223372036854775807) : wrap64 x = x := by
  unfold wrap64
  omega
theorem up {P : Int → Prop} (n : Nat) (base : P n) (step : ∀ i : Nat, i < n → P ((i + 1 : Nat) : Int) → P (i : Int)) : ∀ i : Nat, i ≤ n → P (i : Int) := by
  intro i hi
  obtain ⟨d, hd⟩ : ∃ d, d + i = n := ⟨n - i, by omega⟩
  induction d generalizing i with
  | zero => have : i = n := by omega
            subst this
            exact base
  | succ d ih => exact step i (by omega) (ih (i + 1) (by omega) (by omega))
theorem up0 {P : Int → Prop} (n : Nat) (base : P n) (step : ∀ i : Nat, i < n → P ((i + 1 : Nat) : Int) → P (i : Int)) : P 0 := up n base step 0 (Nat.zero_le _)
theorem getD_nat {α : Type} (l : List α) (z : α) (i : Nat) (h : i < l.length) : l.getD ((i : Int).toNat) z = l[i] := by
  simp [List.getD_eq_getElem?_getD, List.getElem?_eq_getElem h]
theorem drop_at {α : Type} (l : List α) (i : Nat) (h : i < l.length) : l.drop i = l[i] :: l.drop (i + 1) := List.drop_eq_getElem_cons h
end Go.Proofs.YtcgojdhbphocgaaDoor.PK

namespace Go.Proofs.YtcgojdhbphocgaaDoor.BY
set_option linter.unusedVariables false
set_option linter.unusedSimpArgs false
open Go.RowKit Go.Proofs.YtcgojdhbphocgaaDoor.F Go.Proofs.YtcgojdhbphocgaaDoor.PK Go.Proofs.YtcgojdhbphocgaaDoorW.PrintWords Go.Proofs.YtcgojdhbphocgaaDoorW.PrintLast
theorem rd_at (l : List Int) (i : Nat) (h : i < l.length) : rd l (i : Int) = l[i] := getD_nat l _ i h
theorem nxt (i n : Nat) (h : i < n) (hn : n ≤ 9223372036854775807) : wrap64 ((i : Int) + 1) = ((i + 1 : Nat) : Int) := by rw [w64 (by omega) (by omega)]; omega
theorem toByteS (l : List Int) (hl : l.length ≤ 1048576) : Ev (fun k => laws_toByteS.f k l) l := by
  have key := up (P := fun i => ∀ x : List Int, x.length = l.length → (∀ j : Nat, (j : Int) < i → x[j]? = l[j]?) → Ev (fun k => laws_toByteS.l0 k l x i) l) l.length
      (fun x h0 h1 => by
        have : x = l := List.ext_getElem? fun j => by
          by_cases hj : j < l.length
          · exact h1 j (by omega)
          · rw [List.getElem?_eq_none (by omega), List.getElem?_eq_none (by omega)]
        subst this
        exact EvS (by simp only [laws_toByteS.l0, Int.lt_irrefl, if_false]; exact EvN))
      (fun i hi ih x h0 h1 => by
        refine EvS ?_
        simp only [laws_toByteS.l0, rd_at l i hi, Option.bind_some, h0, Int.toNat_natCast, if_pos (show (i : Int) < (l.length : Int) by omega), if_pos (show 0 ≤ (i : Int) by omega), nxt i _ hi (by omega)]
        refine ih _ (by simpa using h0) fun j hj => ?_
        by_cases hji : j = i
        · subst hji
          rw [List.getElem?_set_self (by omega)]
          simp [List.getElem?_eq_getElem hi]
        · rw [List.getElem?_set_ne (by omega)]
          exact h1 j (by omega))
  have := key 0 (Nat.zero_le _) (List.replicate l.length 0) (by simp) (fun j hj => absurd hj (by omega))
  unfold laws_toByteS.f
  simp only [Int.toNat_natCast, if_pos (show 0 ≤ (l.length : Int) by omega), if_pos (show l.length ≤ 281474976710656 by omega)]
  exact this
theorem eqByteS (x : List Int) (hx : x.length ≤ 9223372036854775807) : Ev (fun k => laws_eqByteS.f k x x) true := by
  have key := up (P := fun i => Ev (fun k => laws_eqByteS.l0 k x x i) true) x.length
    (EvS (by simp only [laws_eqByteS.l0, Int.lt_irrefl, if_false]; exact EvN))
    (fun i hi ih => EvS (by simp only [laws_eqByteS.l0, if_true, Option.bind_some, if_pos (show (i : Int) < (x.length : Int) by omega), if_pos (show 0 ≤ (i : Int) by omega), nxt i _ hi hx]; exact ih))
  have := key 0 (Nat.zero_le _)
  unfold laws_eqByteS.f
  simp only [if_true]
  exact this
end Go.Proofs.YtcgojdhbphocgaaDoor.BY

namespace Go.Proofs.YtcgojdhbphocgaaDoor.CR
set_option linter.unusedVariables false
set_option linter.unusedSimpArgs false
open Go.RowKit Go.Proofs.YtcgojdhbphocgaaDoor.F Go.Proofs.YtcgojdhbphocgaaDoor.PK Go.Proofs.YtcgojdhbphocgaaDoorW.PrintWords Go.Proofs.YtcgojdhbphocgaaDoorW.PrintLast
open Go.Proofs.YtcgojdhbphocgaaDoor.BY
def U32 (x : Int) : Prop := 0 ≤ x ∧ x < 4294967296
theorem xor_nat (a b : Int) (ha : U32 a) (hb : U32 b) : Go.bits .xor .u32 a b = ((a.toNat ^^^ b.toNat : Nat) : Int) := u32_xor a b ha.1 ha.2 hb.1 hb.2
theorem xor_u32 (a b : Int) (ha : U32 a) (hb : U32 b) : U32 (Go.bits .xor .u32 a b) := by
  rw [xor_nat a b ha hb]
  have h1 : a.toNat < 2 ^ 32 := by have := ha.2; have := ha.1; omega
  have h2 : b.toNat < 2 ^ 32 := by have := hb.2; have := hb.1; omega
  have := Nat.xor_lt_two_pow h1 h2
  exact ⟨by omega, by omega⟩
theorem xor_comm32 (a b : Int) (ha : U32 a) (hb : U32 b) : Go.bits .xor .u32 a b = Go.bits .xor .u32 b a := by rw [xor_nat a b ha hb, xor_nat b a hb ha, Nat.xor_comm]
theorem and1 (a : Int) (ha : U32 a) : Go.bits .and .u32 a 1 = a % 2 := by
  rw [u32_and a 1 ha.1 ha.2 (by omega) (by omega)]
  rw [show (1 : Int).toNat = 1 from rfl, Nat.and_one_is_mod]
  have := ha.1
  omega
def step (x : Int) : Int := if x % 2 = 1 then Go.bits .xor .u32 (x / 2) 3988292384 else x / 2
theorem step_u32 (x : Int) (h : U32 x) : U32 (step x) := by
  have hh : U32 (x / 2) := ⟨by have := h.1; omega, by have := h.1; have := h.2; omega⟩
  unfold step
  split
  · exact xor_u32 _ _ hh ⟨by omega, by omega⟩
  · exact hh
def steps : Nat → Int → Int
  | 0, x => x
  | n + 1, x => steps n (step x)
theorem steps_u32 (n : Nat) (x : Int) (h : U32 x) : U32 (steps n x) := by
  induction n generalizing x with
  | zero => exact h
  | succ n ih => exact ih _ (step_u32 x h)
def byteStep (x b : Int) : Int := steps 8 (Go.bits .xor .u32 x (b % 4294967296))
theorem byteStep_def (x b : Int) : byteStep x b = steps 8 (Go.bits .xor .u32 x (b % 4294967296)) := rfl
def crcL (x : Int) (l : List Int) : Int := l.foldl byteStep x
theorem crcL_cons (x b : Int) (r : List Int) : crcL x (b :: r) = crcL (byteStep x b) r := List.foldl_cons ..
theorem crcL_nil (x : Int) : crcL x [] = x := List.foldl_nil ..
theorem byte_u32 (b : Int) : U32 (b % 4294967296) := ⟨Int.emod_nonneg _ (by omega), Int.emod_lt_of_pos _ (by omega)⟩
theorem byteStep_u32 (x b : Int) (h : U32 x) : U32 (byteStep x b) := by rw [byteStep_def]; exact steps_u32 _ _ (xor_u32 _ _ h (byte_u32 b))
attribute [irreducible] byteStep
theorem crcL_u32 (l : List Int) (x : Int) (h : U32 x) : U32 (crcL x l) := by
  induction l generalizing x with
  | nil => rw [crcL_nil]; exact h
  | cons b r ih => rw [crcL_cons]; exact ih _ (byteStep_u32 x b h)
def crcM (l : List Int) : Int := Go.bits .xor .u32 (crcL 4294967295 l) 4294967295
theorem impl_in (l : List Int) (n i : Int) (r : Int) : ∀ (d j : Nat), d + j = 8 → ∀ x, U32 x → Ev (fun k => impl_crc32.l0 k (steps d x) l n (wrap64 (i + 1))) r → Ev (fun k => impl_crc32.l1 k x l n i j) r := by
  intro d
  induction d with
  | zero =>
    intro j hj x hx h
    refine EvS ?_
    simp only [impl_crc32.l1, if_neg (show ¬ (j : Int) < 8 by omega)]
    exact h
  | succ d ih =>
    intro j hj x hx h
    refine EvS ?_
    simp only [impl_crc32.l1, if_pos (show (j : Int) < 8 by omega), and1 x hx, w64 (x := (j : Int) + 1) (by omega) (by omega)]
    have h2 := ih (j + 1) (by omega) (step x) (step_u32 x hx) h
    by_cases h3 : x % 2 = 1
    · simp only [if_pos h3]
      simp only [step, if_pos h3] at h2
      exact h2
    · simp only [if_neg h3]
      simp only [step, if_neg h3] at h2
      exact h2
theorem impl_in0 (l : List Int) (n i : Int) (r x : Int) (hx : U32 x) (h : Ev (fun k => impl_crc32.l0 k (steps 8 x) l n (wrap64 (i + 1))) r) : Ev (fun k => impl_crc32.l1 k x l n i 0) r := impl_in l n i r 8 0 rfl x hx h
theorem spec_in (l : List Int) (i : Int) (r : Int) : ∀ (d j : Nat), d + j = 8 → ∀ x, U32 x → Ev (fun k => spec_Crc32.l0 k l (steps d x) (wrap64 (i + 1))) r → Ev (fun k => spec_Crc32.l1 k l x i j) r := by
  intro d
  induction d with
  | zero =>
    intro j hj x hx h
    refine EvS ?_
    simp only [spec_Crc32.l1, if_neg (show ¬ (j : Int) < 8 by omega)]
    exact h
  | succ d ih =>
    intro j hj x hx h
    have e1 : Int.tmod x 2 = x % 2 := Int.tmod_eq_emod_of_nonneg hx.1
    have e2 : Int.tdiv x 2 % 4294967296 = x / 2 := by rw [Int.tdiv_eq_ediv_of_nonneg hx.1]; have := hx.1; have := hx.2; omega
    refine EvS ?_
    simp only [spec_Crc32.l1, if_pos (show (j : Int) < 8 by omega), e1, e2, w64 (x := (j : Int) + 1) (by omega) (by omega)]
    have h2 := ih (j + 1) (by omega) (step x) (step_u32 x hx) h
    by_cases h3 : x % 2 = 1
    · simp only [if_pos h3]
      simp only [step, if_pos h3] at h2
      exact h2
    · simp only [if_neg h3]
      simp only [step, if_neg h3] at h2
      exact h2
theorem spec_in0 (l : List Int) (i : Int) (r x : Int) (hx : U32 x) (h : Ev (fun k => spec_Crc32.l0 k l (steps 8 x) (wrap64 (i + 1))) r) : Ev (fun k => spec_Crc32.l1 k l x i 0) r := spec_in l i r 8 0 rfl x hx h
theorem impl_crc (l : List Int) (hl : l.length ≤ 9000000000000000000) : Ev (fun k => impl_crc32.f k l) (crcM l) := by
  have key := up0 (P := fun i => ∀ x, U32 x → Ev (fun k => impl_crc32.l0 k x l (l.length : Int) i) (Go.bits .xor .u32 (crcL x (l.drop i.toNat)) 4294967295)) l.length
    (fun x hx => EvS (by
      simp only [impl_crc32.l0, Int.lt_irrefl, if_false, Int.toNat_natCast, List.drop_length, crcL_nil, xor_comm32 4294967295 x ⟨by omega, by omega⟩ hx]
      exact EvN))
    (fun i hi ih x hx => EvS (by
      simp only [impl_crc32.l0, if_pos (show (i : Int) < (l.length : Int) by omega), if_pos (show 0 ≤ (i : Int) by omega), rd_at l i hi, Int.toNat_natCast, drop_at l i hi, crcL_cons]
      have hx2 := xor_u32 x _ hx (byte_u32 l[i])
      refine impl_in0 l _ i _ _ hx2 ?_
      rw [nxt i _ hi (by omega), ← byteStep_def]
      have h := ih _ (byteStep_u32 x l[i] hx)
      rw [Int.toNat_natCast] at h
      exact h))
  have h := key 4294967295 ⟨by omega, by omega⟩
  unfold impl_crc32.f crcM
  exact h
theorem spec_crc (l : List Int) (hl : l.length ≤ 9000000000000000000) : Ev (fun k => spec_Crc32.f k l) (if (l.length : Int) > 20000 then 0 else crcM l) := by
  have key := up0 (P := fun i => ∀ x, U32 x → Ev (fun k => spec_Crc32.l0 k l x i) (Go.bits .xor .u32 (crcL x (l.drop i.toNat)) 4294967295)) l.length
    (fun x hx => EvS (by
      simp only [spec_Crc32.l0, Int.lt_irrefl, if_false, Int.toNat_natCast, List.drop_length, crcL_nil]
      exact EvN))
    (fun i hi ih x hx => EvS (by
      simp only [spec_Crc32.l0, if_pos (show (i : Int) < (l.length : Int) by omega), if_pos (show 0 ≤ (i : Int) by omega), rd_at l i hi, Int.toNat_natCast, drop_at l i hi, crcL_cons]
      have hx2 := xor_u32 x _ hx (byte_u32 l[i])
      refine spec_in0 l i _ _ hx2 ?_
      rw [nxt i _ hi (by omega), ← byteStep_def]
      have h := ih _ (byteStep_u32 x l[i] hx)
      rw [Int.toNat_natCast] at h
      exact h))
  unfold spec_Crc32.f
  by_cases h : (l.length : Int) > 20000
  · simp only [if_pos h]; exact EvN
  · simp only [if_neg h]
    have h := key 4294967295 ⟨by omega, by omega⟩
    unfold crcM
    exact h
end Go.Proofs.YtcgojdhbphocgaaDoor.CR

namespace Go.Proofs.YtcgojdhbphocgaaDoor.BY
set_option linter.unusedVariables false
set_option linter.unusedSimpArgs false
open Go.RowKit Go.Proofs.YtcgojdhbphocgaaDoor.F Go.Proofs.YtcgojdhbphocgaaDoor.PK Go.Proofs.YtcgojdhbphocgaaDoorW.PrintWords Go.Proofs.YtcgojdhbphocgaaDoorW.PrintLast Go.Proofs.YtcgojdhbphocgaaDoorW.PrintMore
theorem sBytes (l : List Int) (hl : l.length ≤ 1000000000) : Ev (fun k => spec_l01Bytes.f k l) l := by
  have key := up0 (P := fun i => Ev (fun k => spec_l01Bytes.l0 k l (l.take i.toNat) i) l) l.length
    (EvS (by simp only [spec_l01Bytes.l0, Int.lt_irrefl, if_false, Int.toNat_natCast, List.take_length]; exact EvN))
    (fun i hi ih => EvS (by
      simp only [spec_l01Bytes.l0, if_pos (show (i : Int) < (l.length : Int) by omega), if_pos (show 0 ≤ (i : Int) by omega), Int.toNat_natCast, rd_at l i hi, nxt i _ hi (by omega), if_pos (show (l.take i).length < 140737488355328 by rw [List.length_take]; omega)]
      rw [Int.toNat_natCast, List.take_add_one, List.getElem?_eq_getElem hi] at ih
      exact ih))
  unfold spec_l01Bytes.f
  exact key
theorem sJoin (l m : List Int) (hl : l.length ≤ 1000000000) (hm : m.length ≤ 1000000000) : Ev (fun k => spec_l01Join.f k l m) (l ++ m) := by
  have key := up0 (P := fun i => Ev (fun k => spec_l01Join.l0 k m (l ++ m.take i.toNat) i) (l ++ m)) m.length
    (EvS (by simp only [spec_l01Join.l0, Int.lt_irrefl, if_false, Int.toNat_natCast, List.take_length]; exact EvN))
    (fun i hi ih => EvS (by
      simp only [spec_l01Join.l0, if_pos (show (i : Int) < (m.length : Int) by omega), if_pos (show 0 ≤ (i : Int) by omega), Int.toNat_natCast, rd_at m i hi, nxt i _ hi (by omega), if_pos (show (l ++ m.take i).length < 140737488355328 by rw [List.length_append, List.length_take]; omega)]
      rw [Int.toNat_natCast, List.take_add_one, List.getElem?_eq_getElem hi, ← List.append_assoc] at ih
      exact ih))
  unfold spec_l01Join.f
  simp only [EvB (sBytes l hl)]
  have e : l ++ m.take (0 : Int).toNat = l := by simp
  rw [e] at key
  exact key
end Go.Proofs.YtcgojdhbphocgaaDoor.BY

namespace Go.Proofs.YtcgojdhbphocgaaDoor.FR
set_option linter.unusedVariables false
set_option linter.unusedSimpArgs false
open Go.RowKit Go.Proofs.YtcgojdhbphocgaaDoor.F Go.Proofs.YtcgojdhbphocgaaDoor.PK Go.Proofs.YtcgojdhbphocgaaDoorW.PrintWords Go.Proofs.YtcgojdhbphocgaaDoorW.PrintLast Go.Proofs.YtcgojdhbphocgaaDoorW.PrintMore
open Go.Proofs.YtcgojdhbphocgaaDoor.BY Go.Proofs.YtcgojdhbphocgaaDoor.CR
def four (x : Int) : List Int := [x % 256, x / 256 % 256, x / 65536 % 256, x / 16777216 % 256]
def okP (p : List Int) : Prop := 1 ≤ p.length ∧ p.length ≤ 600
instance (p : List Int) : Decidable (okP p) := by unfold okP; infer_instance
def frameM (p : List Int) : List Int := if okP p then four p.length ++ four (crcM p) ++ p else []
theorem four_length (x : Int) : (four x).length = 4 := rfl
theorem frameM_length (p : List Int) (h : okP p) : (frameM p).length = 8 + p.length := by
  unfold frameM
  rw [if_pos h, List.length_append, List.length_append, four_length, four_length]
theorem frameM_le (p : List Int) : (frameM p).length ≤ 608 := by
  by_cases h : okP p
  · rw [frameM_length p h]; have := h.2; omega
  · unfold frameM; rw [if_neg h]; simp
theorem crcM_u32 (p : List Int) : U32 (crcM p) := by
  unfold crcM
  exact xor_u32 _ _ (crcL_u32 p _ ⟨by omega, by omega⟩) ⟨by omega, by omega⟩
theorem implFour (l : List Int) (x : Int) (hl : l.length ≤ 1000000000) : binary_littleEndian_AppendUint32.f l x = some (l ++ four x) := by
  unfold binary_littleEndian_AppendUint32.f four
  simp only [Option.bind_some, List.length_cons, List.length_nil]
  rw [if_pos (by omega)]
theorem specFour (x : Int) (h : U32 x) : spec_l02Four.f x = some (four x) := by
  unfold spec_l02Four.f four
  have h0 := h.1
  have h1 := h.2
  rw [Int.tmod_eq_emod_of_nonneg h0, Int.tdiv_eq_ediv_of_nonneg h0, Int.tdiv_eq_ediv_of_nonneg h0, Int.tdiv_eq_ediv_of_nonneg h0]
  rw [show x % 256 % 256 = x % 256 by omega, show x / 256 % 4294967296 % 256 = x / 256 % 256 by omega, show x / 65536 % 4294967296 % 256 = x / 65536 % 256 by omega, show x / 16777216 % 4294967296 % 256 = x / 16777216 % 256 by omega]
theorem impl_frame (p : List Int) (hl : p.length ≤ 1048576) : Ev (fun k => impl_frame.f k p) (frameM p) := by
  have J : ∀ q : Bool, q = decide (¬ okP p) → Ev (fun k => impl_frame.j0 k p q) (frameM p) := by
    intro q hq
    subst hq
    refine EvS ?_
    unfold frameM
    by_cases h : okP p
    · have hp := h.2
      simp only [impl_frame.j0, h, not_true_eq_false, decide_false, Bool.false_eq_true, if_false, if_true, implFour [] _ (by simp), Option.bind_some, List.nil_append, EvB (impl_crc p (by omega)), implFour (four p.length) _ (by rw [four_length]; omega), show (p.length : Int) % 4294967296 = p.length by omega]
      rw [List.length_append, four_length, four_length]
      simp only [if_pos (show 4 + 4 + p.length < 140737488355328 by omega)]
      exact EvN
    · simp only [impl_frame.j0, h, not_false_eq_true, decide_true, if_true, if_false]
      exact EvN
  unfold impl_frame.f
  by_cases h1 : (p.length : Int) < 1
  · simp only [if_pos h1]
    exact J _ (by rw [decide_eq_true (show ¬ okP p by unfold okP; omega)])
  · simp only [if_neg h1]
    refine J _ ?_
    by_cases h2 : (p.length : Int) > 600
    · rw [decide_eq_true h2, decide_eq_true (show ¬ okP p by unfold okP; omega)]
    · rw [decide_eq_false h2, decide_eq_false (show ¬ ¬ okP p by unfold okP; omega)]
theorem sIn (x lo hi : Int) : spec_l01In.f x lo hi = some (decide (lo ≤ x ∧ x ≤ hi)) := by
  unfold spec_l01In.f
  by_cases h : lo ≤ x <;> simp [h]
theorem spec_frame (p : List Int) (hl : p.length ≤ 1048576) : Ev (fun k => spec_Frame.f k p) (frameM p) := by
  unfold spec_Frame.f frameM
  simp only [sIn, Option.bind_some, decide_eq_true_eq]
  by_cases h : okP p
  · have h1 := h.1
    have h2 := h.2
    have hcr := spec_crc p (by omega)
    rw [if_neg (show ¬ (p.length : Int) > 20000 by omega)] at hcr
    simp only [if_pos (show (1 : Int) ≤ p.length ∧ (p.length : Int) ≤ 600 by omega), show (p.length : Int) % 4294967296 = p.length by omega, specFour _ (show U32 (p.length : Int) from ⟨by omega, by omega⟩), Option.bind_some, EvB hcr, specFour _ (crcM_u32 p), EvB (sJoin (four p.length) (four (crcM p)) (by rw [four_length]; omega) (by rw [four_length]; omega)), EvB (sJoin (four p.length ++ four (crcM p)) p (by rw [List.length_append, four_length, four_length]; omega) (by omega)), if_pos h]
    exact EvN
  · simp only [if_neg (show ¬ ((1 : Int) ≤ p.length ∧ (p.length : Int) ≤ 600) by unfold okP at h; omega), if_neg h]
    exact EvN
end Go.Proofs.YtcgojdhbphocgaaDoor.FR

namespace Go.Proofs.YtcgojdhbphocgaaDoor.BY
set_option linter.unusedVariables false
set_option linter.unusedSimpArgs false
open Go.RowKit Go.Proofs.YtcgojdhbphocgaaDoor.F Go.Proofs.YtcgojdhbphocgaaDoor.PK Go.Proofs.YtcgojdhbphocgaaDoorW.PrintWords Go.Proofs.YtcgojdhbphocgaaDoorW.PrintLast Go.Proofs.YtcgojdhbphocgaaDoorW.PrintMore
theorem l01Same (x y : List Int) (hx : x.length ≤ 9223372036854775807) : Ev (fun k => spec_l01Same.f k x y) (decide (x = y)) := by
  unfold spec_l01Same.f
  by_cases hl : x.length = y.length
  · simp only [if_pos (show (x.length : Int) = (y.length : Int) by omega)]
    have key := up0 (P := fun i => Ev (fun k => spec_l01Same.l0 k x y i) (decide (x.drop i.toNat = y.drop i.toNat))) x.length
      (EvS (by
        simp only [spec_l01Same.l0, Int.lt_irrefl, if_false, Int.toNat_natCast, List.drop_length]
        rw [hl, List.drop_length]
        simp only [decide_true]
        exact EvN))
      (fun i hi ih => EvS (by
        have hiy : i < y.length := by omega
        simp only [spec_l01Same.l0, if_pos (show (i : Int) < (x.length : Int) by omega), if_pos (show 0 ≤ (i : Int) by omega), if_pos (show (i : Int) < (y.length : Int) by omega), nxt i _ hi hx, Int.toNat_natCast, rd_at x i hi, rd_at y i hiy, drop_at x i hi, drop_at y i hiy]
        by_cases he : x[i] = y[i]
        · simp only [he, if_true, List.cons.injEq, true_and]
          rw [Int.toNat_natCast] at ih
          exact ih
        · simp only [if_neg he, List.cons.injEq, he, false_and, decide_false]
          exact EvN))
    exact key
  · simp only [if_neg (show ¬ (x.length : Int) = (y.length : Int) by omega)]
    rw [decide_eq_false (fun h => hl (by rw [h]))]
    exact EvN
end Go.Proofs.YtcgojdhbphocgaaDoor.BY
