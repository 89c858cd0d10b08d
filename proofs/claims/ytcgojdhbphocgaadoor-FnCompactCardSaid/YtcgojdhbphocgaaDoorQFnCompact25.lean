/- Merged texts below the law FnCompact: Go functions as Lean functions, their contracts, and plain lemmas. -/
import Derived.Test.YtcgojdhbphocgaaDoorQFnCompact14
import Derived.Test.YtcgojdhbphocgaaDoorQFnCompact23
import Derived.Test.YtcgojdhbphocgaaDoorQFnCompact24
import Derived.Lib.SliceRun
import Derived.Deep.RegionLaw
import Derived.Lib.Overlaps
import Derived.Laws.Externs
import Derived.Laws.IdiomCopy
import Derived.Lib.AppendZerosOnto
import Derived.Laws.NewBlocks
namespace Go.Proofs.YtcgojdhbphocgaaDoor.F
open Go.Proofs.YtcgojdhbphocgaaDoor
open Go.RowKit Go.Proofs.YtcgojdhbphocgaaDoorW.PrintWords Go.Proofs.YtcgojdhbphocgaaDoorW.PrintWords.Kd Go.Proofs.YtcgojdhbphocgaaDoorW.PrintMore.Kd Go.Proofs.YtcgojdhbphocgaaDoorW.PrintLast Go.Proofs.YtcgojdhbphocgaaDoorW.PrintMore
attribute [local go_sem] max2_int min2_int max_two min_two max_three min_three max_four min_four   -- for this text's walks alone
set_option linter.unusedVariables false
set_option linter.unusedSimpArgs false
mutual
def spec_l04DrawWal.j0 : Nat → List Int → List Int → Int → Int → List (S55) → Option ((List (S55)) × Int × Int)
 | 0, _, _, _, _, _ => none
 | k + 1, x1, x1000, x1001, x1002, x661000 => (spec_l01Size.f x1 9).bind fun t679 => ((spec_l01Below.f x1000 x1001 x1002 t679).bind fun bt680 => (spec_l04DrawWal.l0 k bt680.1 x1000 bt680.2.1 bt680.2.2 x661000))
def spec_l04DrawWal.l0 : Nat → Int → List Int → Int → Int → List (S55) → Option ((List (S55)) × Int × Int)
 | 0, _, _, _, _, _ => none
 | k + 1, x6, x1000, x1001, x1002, x661000 => if x6 > 0 then ((spec_l01Once.f x1000 x1001 x1002 4).bind fun bt683 => (if bt683.1 = true then ((spec_WalSync.f k x661000).bind fun bt686 => ((spec_l01Below.f x1000 bt683.2.1 bt683.2.2 5).bind fun bt690 => ((spec_l01DrawBytes.f k x1000 bt690.2.1 bt690.2.2 (wrap64 (1 + bt690.1))).bind fun bt693 => ((spec_WalAppend.f k bt686.1 bt693.1).bind fun bt698 => (spec_l04DrawWal.l0 k (wrap64 (x6 - 1)) x1000 bt693.2.1 bt693.2.2 bt698.1))))) else ((spec_l01Below.f x1000 bt683.2.1 bt683.2.2 5).bind fun bt702 => ((spec_l01DrawBytes.f k x1000 bt702.2.1 bt702.2.2 (wrap64 (1 + bt702.1))).bind fun bt705 => ((spec_WalAppend.f k x661000 bt705.1).bind fun bt710 => (spec_l04DrawWal.l0 k (wrap64 (x6 - 1)) x1000 bt705.2.1 bt705.2.2 bt710.1)))))) else (some (x661000, x1001, x1002))
end
def spec_l04DrawWal.f (k : Nat) (s0_0 : List Int) (s0_1 : Int) (s0_2 : Int) (l1 : List Int) : Option ((List (S55)) × Int × Int) := (spec_l01Once.f s0_0 s0_1 s0_2 3).bind fun bt661 => (if bt661.1 = true then ((spec_l01PickText.f s0_0 bt661.2.1 bt661.2.2 (([(⟨#[109, 97, 110]⟩ : ByteArray), (⟨#[110, 101, 119]⟩ : ByteArray), (⟨#[97]⟩ : ByteArray)] : List ByteArray))).bind fun bt667 => ((spec_l01DrawBytes.f k s0_0 bt667.2.1 bt667.2.2 3).bind fun bt670 => ((spec_AppendFile.f k ([] : List (S55)) bt667.1 bt670.1).bind fun bt675 => (spec_l04DrawWal.j0 k l1 s0_0 bt670.2.1 bt670.2.2 bt675.1)))) else (spec_l04DrawWal.j0 k l1 s0_0 bt661.2.1 bt661.2.2 ([] : List (S55))))
def spec_l04DrawWal.T3 : Bool × List (List Nat × List Nat) := (true, [([], []), ([], []), ([], []), ([1, 2], [1, 2]), ([], []), ([4, 3], [4]), ([0, 3, 5, 5], [0, 3, 5]), ([6], [6]), ([7], [7]), ([7], [7]), ([8, 6, 0, 1, 2, 3, 4, 5, 6, 7, 8], [8])])
def spec_l04DrawWal.B3 : List Nat := [0, 0, 0, 6, 0, 30, 63, 127, 255, 255, 511]
theorem spec_l04DrawWal.tab3 : rtab .any (opsOf Tryd.f69 3) = spec_l04DrawWal.T3 := by kernel_rfl
theorem spec_l04DrawWal.bits3 : waitsOk spec_l04DrawWal.T3.2 spec_l04DrawWal.B3 = true := by kernel_rfl
def spec_l04DrawWal.T9 : Bool × List (List Nat × List Nat) := (true, [([], []), ([], []), ([], []), ([2], [2]), ([3], [3]), ([1, 4, 3], [1, 4]), ([0, 5, 5], [0, 5]), ([6], [6]), ([7], [7]), ([7], [7]), ([8, 6, 0, 1, 2, 3, 4, 5, 6, 7, 8], [8])])
def spec_l04DrawWal.B9 : List Nat := [0, 0, 0, 4, 12, 30, 63, 127, 255, 255, 511]
theorem spec_l04DrawWal.tab9 : rtab .any (opsOf Tryd.f69 9) = spec_l04DrawWal.T9 := by kernel_rfl
theorem spec_l04DrawWal.bits9 : waitsOk spec_l04DrawWal.T9.2 spec_l04DrawWal.B9 = true := by kernel_rfl
set_option maxHeartbeats 8000000 in
set_option maxRecDepth 100000 in
theorem spec_l04DrawWal.calls (k : Nat) (g : Nat) (s0_0 : List Int) (s0_1 : Int) (s0_2 : Int) (A1 : Option Addr) (c1 : Nat) (l1 : List Int) (r1 : List (S55)) (r2 : Int) (r3 : Int) (w0 w : World) (hI : IsS99 w0 w g s0_0 s0_1 s0_2) (hB : Below w0.heap.size w0 w) (hr1 : Kd.C (Kd.int .u8) w A1 l1.length l1) (hc1 : l1.length ≤ c1) (hf1 : ∀ ad, A1 = some ad → 0 < l1.length → ad.block ≠ g) (h : spec_l04DrawWal.f k s0_0 s0_1 s0_2 l1 = some (r1, r2, r3)) :
  Calls Tryd.prog 69 #[.pointer (some ⟨g, 0, none⟩), .slice A1 l1.length c1] w fun e w' => ∃ v0_ : Value, e = .returned (.agg #[v0_]) ∧ Kd.S k55 55 w' w.heap.size (fun _ => True) v0_ r1 ∧ IsS99 w0 w' g s0_0 r2 r3 ∧ Below w0.heap.size w0 w' ∧ KeepBut w w' g none := by
 have hu28 := Tryd.underlying28
 have HR1 := Zh hr1
 have HC1 := Zh hc1
 clear hr1 hc1
 have HI0 := Zh hI
 have HK := Zh (KeepBut.refl w g none)
 have HL := Zh hB.size
 clear hI
 have HW0 := Zh hB.size
 have HB := Zh hB
 clear hB
 have H : ((spec_l01Once.f s0_0 s0_1 s0_2 3).bind fun bt661 => (if bt661.1 = true then ((spec_l01PickText.f s0_0 bt661.2.1 bt661.2.2 (([(⟨#[109, 97, 110]⟩ : ByteArray), (⟨#[110, 101, 119]⟩ : ByteArray), (⟨#[97]⟩ : ByteArray)] : List ByteArray))).bind fun bt667 => ((spec_l01DrawBytes.f k s0_0 bt667.2.1 bt667.2.2 3).bind fun bt670 => ((spec_AppendFile.f k ([] : List (S55)) bt667.1 bt670.1).bind fun bt675 => (spec_l04DrawWal.j0 k l1 s0_0 bt670.2.1 bt670.2.2 bt675.1)))) else (spec_l04DrawWal.j0 k l1 s0_0 bt661.2.1 bt661.2.2 ([] : List (S55))))) = some (r1, r2, r3) := h
 clear h
 replace H := Option.bind_eq_some_iff.mp H
 obtain ⟨⟨t661, t662, t663⟩, A30, H⟩ := H
 replace H : (if t661 = true then ((spec_l01PickText.f s0_0 t662 t663 (([(⟨#[109, 97, 110]⟩ : ByteArray), (⟨#[110, 101, 119]⟩ : ByteArray), (⟨#[97]⟩ : ByteArray)] : List ByteArray))).bind fun bt667 => ((spec_l01DrawBytes.f k s0_0 bt667.2.1 bt667.2.2 3).bind fun bt670 => ((spec_AppendFile.f k ([] : List (S55)) bt667.1 bt670.1).bind fun bt675 => (spec_l04DrawWal.j0 k l1 s0_0 bt670.2.1 bt670.2.2 bt675.1)))) else (spec_l04DrawWal.j0 k l1 s0_0 t662 t663 ([] : List (S55)))) = some (r1, r2, r3) := H
 have A3 := Zh A30
 clear A30
 have HC4 := Zh H
 clear H
 go_enter Tryd.func69, Tryd.ntmps69
 go_upto_if 9 with (first | ((with_reducible refine gate_dst (N := 4) rfl ?_); refine box_event ?hg (N := 4) ?hd (cs := #[.slice none 0 0]) (t := 28) ?hr ?_; (case hd => rfl); (case hg => rfl); (case hr => first | (go_simp; done) | (go_simp; rfl)); intro gb659 hg w5 hbox hb; replace HB := Zh (Zl (by repeat (first | (with_reducible first | exact HB.out | apply Zf | apply Zd | apply Ze | refine Zg ?_ (IsS99.ge HI0.out)) | exact HB.out)) hb); have BK659 := Zh (hbox); have GW659 := Zh ((by rw [hg]; exact (keep_size (w := w) (g := g) (row := none) (by repeat (first | (with_reducible first | exact HK.out | apply KeepBut.set_ | apply keep_drewN | apply keep_drew | apply keep_alloc) | exact HK.out))) : w.heap.size ≤ gb659)); have GE659 := Zh ((Nat.le_trans HW0.out (by rw [hg]; exact (keep_size (w := w) (g := g) (row := none) (by repeat (first | (with_reducible first | exact HK.out | apply KeepBut.set_ | apply keep_drewN | apply keep_drew | apply keep_alloc) | exact HK.out))) : w.heap.size ≤ gb659) : w0.heap.size ≤ gb659)); replace HK := Zh (KeepBut.trans (by repeat (first | (with_reducible first | exact HK.out | apply KeepBut.set_ | apply keep_drewN | apply keep_drew | apply keep_alloc) | exact HK.out)) (KeepBut.of_below hb g none) (.inl rfl)); have NB0_659 := Zh ((by rw [hg]; exact Nat.ne_of_lt (IsS99.lt (show IsS99 w0 _ g s0_0 s0_1 s0_2 from by repeat (first | (with_reducible first | exact HI0.out | apply IsS99.alloc | apply IsS99.drewN | apply IsS99.drew | apply IsS99.set_1 | apply IsS99.set_2) | exact HI0.out))) : g ≠ gb659)); have NB659_0 := Zh ((by rw [hg]; exact Nat.ne_of_gt (IsS99.lt (show IsS99 w0 _ g s0_0 s0_1 s0_2 from by repeat (first | (with_reducible first | exact HI0.out | apply IsS99.alloc | apply IsS99.drewN | apply IsS99.drew | apply IsS99.set_1 | apply IsS99.set_2) | exact HI0.out))) : gb659 ≠ g)); replace HI0 := Zh (IsS99.below (by repeat (first | (with_reducible first | exact HI0.out | apply IsS99.alloc | apply IsS99.drewN | apply IsS99.drew | apply IsS99.set_1 | apply IsS99.set_2) | exact HI0.out)) hb); clear hb hbox hg) | ((with_reducible refine gate_dst (N := 5) rfl ?_); refine box_event ?hg (N := 5) ?hd (cs := #[.slice none 0 0]) (t := 28) ?hr ?_; (case hd => rfl); (case hg => rfl); (case hr => first | (go_simp; done) | (go_simp; rfl)); intro gb660 hg w6 hbox hb; replace HB := Zh (Zl (by repeat (first | (with_reducible first | exact HB.out | apply Zf | apply Zd | apply Ze | refine Zg ?_ (IsS99.ge HI0.out) | refine Zg ?_ GE659.out) | exact HB.out)) hb); have BK660 := Zh (hbox); have GW660 := Zh ((by rw [hg]; exact (keep_size (w := w) (g := g) (row := none) (by repeat (first | (with_reducible first | exact HK.out | apply KeepBut.set_ | apply keep_drewN | apply keep_drew | apply keep_alloc | refine keep_far ?_ GW659.out _) | exact HK.out))) : w.heap.size ≤ gb660)); have GE660 := Zh ((Nat.le_trans HW0.out (by rw [hg]; exact (keep_size (w := w) (g := g) (row := none) (by repeat (first | (with_reducible first | exact HK.out | apply KeepBut.set_ | apply keep_drewN | apply keep_drew | apply keep_alloc | refine keep_far ?_ GW659.out _) | exact HK.out))) : w.heap.size ≤ gb660) : w0.heap.size ≤ gb660)); replace HK := Zh (KeepBut.trans (by repeat (first | (with_reducible first | exact HK.out | apply KeepBut.set_ | apply keep_drewN | apply keep_drew | apply keep_alloc | refine keep_far ?_ GW659.out _) | exact HK.out)) (KeepBut.of_below hb g none) (.inl rfl)); have NB659_660 := Zh ((by rw [hg]; exact Nat.ne_of_lt (blk_lt (g := gb659) (o := .cells #[.slice none 0 0] 28 (0, 0)) Zk) : gb659 ≠ gb660)); have NB660_659 := Zh ((by rw [hg]; exact Nat.ne_of_gt (blk_lt (g := gb659) (o := .cells #[.slice none 0 0] 28 (0, 0)) Zk) : gb660 ≠ gb659)); replace BK659 := Zh (Zm (g := gb659) (o := .cells #[.slice none 0 0] 28 (0, 0)) Zk hb); have NB0_660 := Zh ((by rw [hg]; exact Nat.ne_of_lt (IsS99.lt (show IsS99 w0 _ g s0_0 s0_1 s0_2 from by repeat (first | (with_reducible first | exact HI0.out | apply IsS99.alloc | apply IsS99.drewN | apply IsS99.drew | apply IsS99.set_1 | apply IsS99.set_2 | refine IsS99.far ?_ NB0_659.out _) | exact HI0.out))) : g ≠ gb660)); have NB660_0 := Zh ((by rw [hg]; exact Nat.ne_of_gt (IsS99.lt (show IsS99 w0 _ g s0_0 s0_1 s0_2 from by repeat (first | (with_reducible first | exact HI0.out | apply IsS99.alloc | apply IsS99.drewN | apply IsS99.drew | apply IsS99.set_1 | apply IsS99.set_2 | refine IsS99.far ?_ NB0_659.out _) | exact HI0.out))) : gb660 ≠ g)); replace HI0 := Zh (IsS99.below (by repeat (first | (with_reducible first | exact HI0.out | apply IsS99.alloc | apply IsS99.drewN | apply IsS99.drew | apply IsS99.set_1 | apply IsS99.set_2 | refine IsS99.far ?_ NB0_659.out _) | exact HI0.out)) hb); clear hb hbox hg; have hnb7 := NB660_659.out; have hnc7 := NB659_660.out; have hnb8 := NB660_0.out; have hnc8 := NB0_660.out; have hcz9_0 : w6.cell? ⟨gb660, 0, none⟩ = some (.slice none 0 0) := (blk_cell BK660.out 0).trans rfl; have hfz9_0 := Zn BK660.out 0) | ((with_reducible refine gate_callee (f := 97) rfl ?_); refine ZG (some 9) Tryd.func97 #[.pointer (some ⟨g, 0, none⟩), .int .i64 3] rfl ?_; (with_reducible refine (spec_l01Once.calls g s0_0 s0_1 s0_2 3 t661 t662 t663 w0 _ ?side1 ?side2 A3.out).mono ?_); (case side1 => repeat (first | (with_reducible first | exact HI0.out | apply IsS99.alloc | apply IsS99.drewN | apply IsS99.drew | apply IsS99.set_1 | apply IsS99.set_2 | refine IsS99.far ?_ NB0_659.out _ | refine IsS99.far ?_ NB0_660.out _) | exact HI0.out)); (case side2 => repeat (first | (with_reducible first | exact HB.out | apply Zf | apply Zd | apply Ze | refine Zg ?_ (IsS99.ge HI0.out) | refine Zg ?_ GE659.out | refine Zg ?_ GE660.out) | exact HB.out)); rintro e w10 ⟨rfl, hi, hb, hk⟩; refine ⟨_, rfl, ?_⟩; replace BK659 := Zh (KeepBut.blk hk (g' := gb659) (o := .cells #[.slice none 0 0] 28 (0, 0)) (by (with_reducible repeat (first | refine Za ?_ _ | refine Zb ?_ | refine blk_alloc ?_ _)); refine blk_far ?_ NB659_660.out _; (with_reducible repeat (first | refine Za ?_ _ | refine Zb ?_ | refine blk_alloc ?_ _)); exact BK659.out) NB659_0.out (by simp)); replace BK660 := Zh (KeepBut.blk hk (g' := gb660) (o := .cells #[.slice none 0 0] 28 (0, 0)) (by (with_reducible repeat (first | refine Za ?_ _ | refine Zb ?_ | refine blk_alloc ?_ _)); refine blk_put (cs := #[.slice none 0 0]) ?_ 0 _ rfl; (with_reducible repeat (first | refine Za ?_ _ | refine Zb ?_ | refine blk_alloc ?_ _)); exact BK660.out) NB660_0.out (by simp)); replace HK := Zh (KeepBut.trans (by repeat (first | (with_reducible first | exact HK.out | apply KeepBut.set_ | apply keep_drewN | apply keep_drew | apply keep_alloc | refine keep_far ?_ GW659.out _ | refine keep_far ?_ GW660.out _) | exact HK.out)) hk (.inl rfl)); replace HB := Zh (hb); replace HI0 := Zh (hi); (try clear hb); (try clear hb2); (try clear hk); (try clear hi)))
 (try simp only [Act.put, List.setIfInBounds_toArray, List.set_cons_zero, List.set_cons_succ])
 go_cut [] (fun wc => ∃ (kq : Nat) (x1001_3 : Int) (x1002_3 : Int) (x661000_3 : List (S55)) (u661000 : Value), Aside0 (spec_l04DrawWal.j0 kq l1 s0_0 x1001_3 x1002_3 x661000_3 = some (r1, r2, r3)) ∧ Aside0 (kq ≤ k) ∧ Aside0 (Kd.S k55 55 wc w.heap.size (fun _ => True) u661000 x661000_3) ∧ Aside0 (wc.heap[gb659]? = some (.cells #[(.slice none 0 0)] 28 (0, 0))) ∧ Aside0 (wc.heap[gb660]? = some (.cells #[u661000] 28 (0, 0))) ∧ Aside0 (IsS99 w0 wc g s0_0 x1001_3 x1002_3) ∧ Aside0 (KeepBut w wc g none) ∧ Aside0 (Below w0.heap.size w0 wc))
 case first =>
  have H := HC4.out
  clear HC4
  by_cases c11 : t661 = true
  ·
   subst c11
   have H1 : ((spec_l01PickText.f s0_0 t662 t663 (([(⟨#[109, 97, 110]⟩ : ByteArray), (⟨#[110, 101, 119]⟩ : ByteArray), (⟨#[97]⟩ : ByteArray)] : List ByteArray))).bind fun bt667 => ((spec_l01DrawBytes.f k s0_0 bt667.2.1 bt667.2.2 3).bind fun bt670 => ((spec_AppendFile.f k ([] : List (S55)) bt667.1 bt670.1).bind fun bt675 => (spec_l04DrawWal.j0 k l1 s0_0 bt670.2.1 bt670.2.2 bt675.1)))) = some (r1, r2, r3) := by rw [if_pos rfl] at H; exact H
   clear H
   have H := H1
   clear H1
   obtain ⟨y664, hy664⟩ : ∃ y_ : List ByteArray, y_ = (([(⟨#[109, 97, 110]⟩ : ByteArray), (⟨#[110, 101, 119]⟩ : ByteArray), (⟨#[97]⟩ : ByteArray)] : List ByteArray)) := ⟨_, rfl⟩
   replace H : ((spec_l01PickText.f s0_0 t662 t663 y664).bind fun bt667 => ((spec_l01DrawBytes.f k s0_0 bt667.2.1 bt667.2.2 3).bind fun bt670 => ((spec_AppendFile.f k ([] : List (S55)) bt667.1 bt670.1).bind fun bt675 => (spec_l04DrawWal.j0 k l1 s0_0 bt670.2.1 bt670.2.2 bt675.1)))) = some (r1, r2, r3) := by first | (rw [hy664]; with_reducible exact H) | (have H2_ := (Option.bind_some _ _).symm.trans H; rw [hy664]; with_reducible exact H2_) | (have H2_ := (Option.bind_some _ _).symm.trans H; with_reducible exact H2_) | with_reducible exact H | (rw [hy664]; exact H) | exact H
   have Ny664 := Zh hy664
   clear hy664
   replace H := Option.bind_eq_some_iff.mp H
   obtain ⟨⟨t667, t668, t669⟩, A120, H⟩ := H
   replace H : ((spec_l01DrawBytes.f k s0_0 t668 t669 3).bind fun bt670 => ((spec_AppendFile.f k ([] : List (S55)) t667 bt670.1).bind fun bt675 => (spec_l04DrawWal.j0 k l1 s0_0 bt670.2.1 bt670.2.2 bt675.1))) = some (r1, r2, r3) := H
   have A12 := Zh A120
   clear A120
   replace H := Option.bind_eq_some_iff.mp H
   obtain ⟨⟨t670, t673, t674⟩, A130, H⟩ := H
   replace H : ((spec_AppendFile.f k ([] : List (S55)) t667 t670).bind fun bt675 => (spec_l04DrawWal.j0 k l1 s0_0 t673 t674 bt675.1)) = some (r1, r2, r3) := H
   have A13 := Zh A130
   clear A130
   replace H := Option.bind_eq_some_iff.mp H
   obtain ⟨⟨t675, t678⟩, A140, H⟩ := H
   replace H : (spec_l04DrawWal.j0 k l1 s0_0 t673 t674 t675) = some (r1, r2, r3) := H
   have A14 := Zh A140
   clear A140
   have H' := Zh H
   clear H
   try go_wp2
   replace BK659 := Zh (Zb BK659.out)
   replace BK660 := Zh (Zb BK660.out)
   replace HI0 := Zh (IsS99.drew HI0.out)
   replace HK := Zh (keep_drew HK.out)
   replace HB := Zh (Ze HB.out)
   refine start_ (n := 11) (S := fun w' => w'.cell? ⟨gb660, 0, none⟩ = some (.slice none 0 0)) (ds := [10]) #[false, false, false, false, false, false, false, false, false, false, false] (by kernel_rfl) rfl rfl ((blk_cell BK660.out 0).trans rfl) (fun hHeld => ?_); refine with_tabW spec_l04DrawWal.tab3 spec_l04DrawWal.bits3 (fun HT_ HW_ => ?_)
   generalize w10.drew = w15 at BK659 BK660 HI0 HK HB hHeld ⊢
   refine SQ.pu 1 12 HT_ ?_
   refine SQ.pu 4 15 HT_ ?_
   refine take_ (i := 0) (N := some 11) (v := ?_) (a' := ?_) #[true, true, false, false, true, false, false, false, false, false, false] rfl rfl (take_ofW HT_.out HW_.out (by kernel_rfl)) (fun _ _ _ h => h) (Or.inl ⟨by rfl, ?_⟩) hHeld ?_ ?_
   rotate_left
   ·
    intro w' s0
    go_simp
    with_reducible rfl
   rotate_left
   ·
    simp only [Act.put, List.setIfInBounds_toArray, List.set_cons_zero, List.set_cons_succ, i64_w, i32_w]
    rfl
   refine one_ (i := 2) (N := some 13) #[true, true, true, false, true, false, false, false, false, false, false] rfl rfl (one_of HT_.out (by kernel_rfl)) (by decide) (fun K hK => ?_)
   refine R_lit_step Kd.string _ 9 ?hg (N := 13) ?hd (xs := ([(⟨#[109, 97, 110]⟩ : ByteArray), (⟨#[110, 101, 119]⟩ : ByteArray), (⟨#[97]⟩ : ByteArray)] : List ByteArray)) (inner := [.string (⟨#[109, 97, 110]⟩ : ByteArray), .string (⟨#[110, 101, 119]⟩ : ByteArray), .string (⟨#[97]⟩ : ByteArray)]) (ok := fun _ => True) (okp := fun _ => True) ?hr ?hp (fun _ hk => hk) trivial (Below.refl _ _) (Nat.le_refl _) (by simp) ?_; (case hd => rfl); (case hg => rfl); (case hr => first | (go_simp; done) | (go_simp; rfl)); (case hp => exact (Reps.one (show Kd.M Kd.string _ _ _ (⟨#[109, 97, 110]⟩ : ByteArray) [.string (⟨#[109, 97, 110]⟩ : ByteArray)] from rfl) (Reps.one (show Kd.M Kd.string _ _ _ (⟨#[110, 101, 119]⟩ : ByteArray) [.string (⟨#[110, 101, 119]⟩ : ByteArray)] from rfl) (Reps.one (show Kd.M Kd.string _ _ _ (⟨#[97]⟩ : ByteArray) [.string (⟨#[97]⟩ : ByteArray)] from rfl) (Reps.none _ _)))))
   intro v665 w16 ho17 hb hg_ hnew_
   clear hg_ hnew_
   (first | rw [← Ny664.out] at ho17 | (simp only [Int.reduceToNat] at ho17; rw [← Ny664.out] at ho17))
   have HO666 := Zh (R_lower ho17 (keep_size (w := w) (g := g) (row := none) (by repeat (first | (with_reducible first | exact HK.out | apply KeepBut.set_ | apply keep_drewN | apply keep_drew | apply keep_alloc | refine keep_far ?_ GW659.out _ | refine keep_far ?_ GW660.out _) | exact HK.out))))
   replace BK659 := Zh (Zm (g := gb659) (o := .cells #[.slice none 0 0] 28 (0, 0)) Zk hb)
   replace BK660 := Zh (Zm (g := gb660) (o := .cells #[.slice none 0 0] 28 (0, 0)) Zk hb)
   replace HK := Zh (KeepBut.trans (by repeat (first | (with_reducible first | exact HK.out | apply KeepBut.set_ | apply keep_drewN | apply keep_drew | apply keep_alloc | refine keep_far ?_ GW659.out _ | refine keep_far ?_ GW660.out _) | exact HK.out)) (KeepBut.of_below hb g none) (.inl rfl))
   replace HB := Zh (Zl (by repeat (first | (with_reducible first | exact HB.out | apply Zf | apply Zd | apply Ze | refine Zg ?_ (IsS99.ge HI0.out) | refine Zg ?_ GE659.out | refine Zg ?_ GE660.out) | exact HB.out)) hb)
   replace HI0 := Zh (IsS99.below (by repeat (first | (with_reducible first | exact HI0.out | apply IsS99.alloc | apply IsS99.drewN | apply IsS99.drew | apply IsS99.set_1 | apply IsS99.set_2 | refine IsS99.far ?_ NB0_659.out _ | refine IsS99.far ?_ NB0_660.out _) | exact HI0.out)) hb)
   clear hb ho17
   obtain ⟨Ao18, co18, eo18⟩ := R_slice HO666.out
   (first | subst eo18 | (injection eo18 with f1_ f2_ f3_; have f4_ := f1_.symm; have f5_ := f3_.symm; clear f1_ f2_ f3_; subst f4_; subst f5_))
   refine hK.out _ _ ((blk_cell BK660.out 0).trans rfl) (fun hHeld => ?_)
   clear hK K
   refine norm_ (a' := ?_) ?_ ?_
   rotate_left
   ·
    show Act.put _ (some 13) _ = _
    simp only [Act.put, List.setIfInBounds_toArray, List.set_cons_zero, List.set_cons_succ, i64_w, i32_w]
    rfl
   refine one_ (i := 3) (N := some 14) #[true, true, true, true, true, false, false, false, false, false, false] rfl rfl (one_of HT_.out (by kernel_rfl)) (by decide) (fun K hK => ?_)
   refine goes_ Tryd.func98 (by kernel_rfl) rfl #[.pointer (some ⟨g, 0, none⟩), .slice Ao18 y664.length co18] (by rfl) rfl rfl (by (try simp only [List.map_toArray, List.map_cons, List.map_nil]); first | done | rfl | (simp only [List.length_drop, List.length_take]; rfl)) ?_
   with_reducible refine (spec_l01PickText.calls g s0_0 t662 t663 _ _ y664 t667 t668 t669 w0 _ ?side1 ?side2 ?side3 ?side4 ?side5 A12.out).mono ?_
   (case side1 => repeat (first | (with_reducible first | exact HI0.out | apply IsS99.alloc | apply IsS99.drewN | apply IsS99.drew | apply IsS99.set_1 | apply IsS99.set_2 | refine IsS99.far ?_ NB0_659.out _ | refine IsS99.far ?_ NB0_660.out _) | exact HI0.out))
   (case side2 => repeat (first | (with_reducible first | exact HB.out | apply Zf | apply Zd | apply Ze | refine Zg ?_ (IsS99.ge HI0.out) | refine Zg ?_ GE659.out | refine Zg ?_ GE660.out) | exact HB.out))
   (case side3 => repeat (first | exact (R_reads' HO666.out).2.2 | (with_reducible refine C_alloc ?_ _) | (with_reducible refine C_drewN ?_ _) | (with_reducible refine C_drew ?_)))
   (case side4 => exact (R_reads' HO666.out).2.1)
   (case side5 => exact far_slice (IsS99.own_ne HI0.out HO666.out (by decide)))
   rintro e w19 ⟨rfl, hi, hb, hk⟩
   refine ⟨_, rfl, ?_⟩
   replace BK659 := Zh (KeepBut.blk hk (g' := gb659) (o := .cells #[.slice none 0 0] 28 (0, 0)) Zk NB659_0.out (by simp))
   replace BK660 := Zh (KeepBut.blk hk (g' := gb660) (o := .cells #[.slice none 0 0] 28 (0, 0)) Zk NB660_0.out (by simp))
   replace HO666 := Zh (R_mono (R_keep (IsS99.apart (show IsS99 w0 _ g s0_0 t662 t663 from by repeat (first | (with_reducible first | exact HI0.out | apply IsS99.alloc | apply IsS99.drewN | apply IsS99.drew | apply IsS99.set_1 | apply IsS99.set_2 | refine IsS99.far ?_ NB0_659.out _ | refine IsS99.far ?_ NB0_660.out _) | exact HI0.out)) (ZR HO666.out) (by decide)) hk (fun _ h => h.2)) (fun _ h => h.1))
   replace HK := Zh (KeepBut.trans (by repeat (first | (with_reducible first | exact HK.out | apply KeepBut.set_ | apply keep_drewN | apply keep_drew | apply keep_alloc | refine keep_far ?_ GW659.out _ | refine keep_far ?_ GW660.out _) | exact HK.out)) hk (.inl rfl))
   replace HB := Zh (hb)
   replace HI0 := Zh (hi)
   (try clear hb)
   (try clear hb2)
   (try clear hk)
   (try clear hi)
   refine hK.out _ _ ((blk_cell BK660.out 0).trans rfl) (fun hHeld => ?_)
   clear hK K
   refine norm_ (a' := ?_) ?_ ?_
   rotate_left
   ·
    show Act.put _ (some 14) _ = _
    simp only [Act.put, List.setIfInBounds_toArray, List.set_cons_zero, List.set_cons_succ, i64_w, i32_w]
    rfl
   refine one_ (i := 5) (N := some 16) #[true, true, true, true, true, true, false, false, false, false, false] rfl rfl (one_of HT_.out (by kernel_rfl)) (by decide) (fun K hK => ?_)
   refine goes_ Tryd.func71 (by kernel_rfl) rfl #[.pointer (some ⟨g, 0, none⟩), .int .i64 3] (by rfl) rfl rfl (by (try simp only [List.map_toArray, List.map_cons, List.map_nil]); first | done | rfl | (simp only [List.length_drop, List.length_take]; rfl)) ?_
   with_reducible refine (spec_l01DrawBytes.calls k g s0_0 t668 t669 3 t670 t673 t674 w0 _ ?side1 ?side2 A13.out).mono ?_
   (case side1 => repeat (first | (with_reducible first | exact HI0.out | apply IsS99.alloc | apply IsS99.drewN | apply IsS99.drew | apply IsS99.set_1 | apply IsS99.set_2 | refine IsS99.far ?_ NB0_659.out _ | refine IsS99.far ?_ NB0_660.out _) | exact HI0.out))
   (case side2 => repeat (first | (with_reducible first | exact HB.out | apply Zf | apply Zd | apply Ze | refine Zg ?_ (IsS99.ge HI0.out) | refine Zg ?_ GE659.out | refine Zg ?_ GE660.out) | exact HB.out))
   rintro e w20 ⟨v671, rfl, ho0, hi, hb, hk⟩
   refine ⟨_, rfl, ?_⟩
   replace BK659 := Zh (KeepBut.blk hk (g' := gb659) (o := .cells #[.slice none 0 0] 28 (0, 0)) Zk NB659_0.out (by simp))
   replace BK660 := Zh (KeepBut.blk hk (g' := gb660) (o := .cells #[.slice none 0 0] 28 (0, 0)) Zk NB660_0.out (by simp))
   replace HO666 := Zh (R_mono (R_keep (IsS99.apart (show IsS99 w0 _ g s0_0 t668 t669 from by repeat (first | (with_reducible first | exact HI0.out | apply IsS99.alloc | apply IsS99.drewN | apply IsS99.drew | apply IsS99.set_1 | apply IsS99.set_2 | refine IsS99.far ?_ NB0_659.out _ | refine IsS99.far ?_ NB0_660.out _) | exact HI0.out)) (ZR HO666.out) (by decide)) hk (fun _ h => h.2)) (fun _ h => h.1))
   have HO672 := Zh (R_lower ho0 (keep_size (w := w) (g := g) (row := none) (by repeat (first | (with_reducible first | exact HK.out | apply KeepBut.set_ | apply keep_drewN | apply keep_drew | apply keep_alloc | refine keep_far ?_ GW659.out _ | refine keep_far ?_ GW660.out _) | exact HK.out))))
   replace HK := Zh (KeepBut.trans (by repeat (first | (with_reducible first | exact HK.out | apply KeepBut.set_ | apply keep_drewN | apply keep_drew | apply keep_alloc | refine keep_far ?_ GW659.out _ | refine keep_far ?_ GW660.out _) | exact HK.out)) hk (.inl rfl))
   replace HB := Zh (hb)
   replace HI0 := Zh (hi)
   (try clear hb)
   (try clear hb2)
   (try clear hk)
   (try clear hi)
   (try clear ho0)
   obtain ⟨Ao21, co21, eo21⟩ := R_slice HO672.out
   (first | subst eo21 | (injection eo21 with f1_ f2_ f3_; have f4_ := f1_.symm; have f5_ := f3_.symm; clear f1_ f2_ f3_; subst f4_; subst f5_))
   refine hK.out _ _ ((blk_cell BK660.out 0).trans rfl) (fun hHeld => ?_)
   clear hK K
   refine norm_ (a' := ?_) ?_ ?_
   rotate_left
   ·
    show Act.put _ (some 16) _ = _
    simp only [Act.put, List.setIfInBounds_toArray, List.set_cons_zero, List.set_cons_succ, i64_w, i32_w]
    rfl
   refine one_ (i := 6) (N := some 17) #[true, true, true, true, true, true, true, false, false, false, false] rfl rfl (one_of HT_.out (by kernel_rfl)) (by decide) (fun K hK => ?_)
   refine goes_ Tryd.func59 (by kernel_rfl) rfl #[.agg #[.slice none 0 0], .string t667, .slice Ao21 t670.length co21] (by rfl) rfl rfl (by (try simp only [List.map_toArray, List.map_cons, List.map_nil]); first | done | rfl | (simp only [List.length_drop, List.length_take]; rfl)) ?_
   refine (spec_AppendFile.calls k _ _ ([] : List (S55)) t667 _ _ t670 t675 t678 _ ?side1 ?side2 ?side3 ?side4 A14.out).mono ?_
   (case side1 => exact C_nil _ _)
   (case side2 => exact Nat.le_refl _)
   (case side3 => repeat (first | exact (R_reads' HO672.out).2.2 | (with_reducible refine C_alloc ?_ _) | (with_reducible refine C_drewN ?_ _) | (with_reducible refine C_drew ?_)))
   (case side4 => exact (R_reads' HO672.out).2.1)
   rintro e w22 ⟨v676, rfl, ho0, hb⟩
   refine ⟨_, rfl, ?_⟩
   replace HO666 := Zh (R_below (ZR HO666.out) hb)
   have HO677 := Zh (S_lower (S_new' ho0 (R_lt (ZR HO672.out))) (keep_size (w := w) (g := g) (row := none) (by repeat (first | (with_reducible first | exact HK.out | apply KeepBut.set_ | apply keep_drewN | apply keep_drew | apply keep_alloc | refine keep_far ?_ GW659.out _ | refine keep_far ?_ GW660.out _) | exact HK.out))))
   replace HO672 := Zh (R_below (ZR HO672.out) hb)
   replace BK659 := Zh (Zm (g := gb659) (o := .cells #[.slice none 0 0] 28 (0, 0)) Zk hb)
   replace BK660 := Zh (Zm (g := gb660) (o := .cells #[.slice none 0 0] 28 (0, 0)) Zk hb)
   replace HK := Zh (KeepBut.trans (by repeat (first | (with_reducible first | exact HK.out | apply KeepBut.set_ | apply keep_drewN | apply keep_drew | apply keep_alloc | refine keep_far ?_ GW659.out _ | refine keep_far ?_ GW660.out _) | exact HK.out)) (KeepBut.of_below hb g none) (.inl rfl))
   replace HB := Zh (Zl (by repeat (first | (with_reducible first | exact HB.out | apply Zf | apply Zd | apply Ze | refine Zg ?_ (IsS99.ge HI0.out) | refine Zg ?_ GE659.out | refine Zg ?_ GE660.out) | exact HB.out)) hb)
   replace HI0 := Zh (IsS99.below (by repeat (first | (with_reducible first | exact HI0.out | apply IsS99.alloc | apply IsS99.drewN | apply IsS99.drew | apply IsS99.set_1 | apply IsS99.set_2 | refine IsS99.far ?_ NB0_659.out _ | refine IsS99.far ?_ NB0_660.out _) | exact HI0.out)) hb)
   (try clear hb)
   (try clear hb2)
   (try clear hk)
   (try clear hi)
   (try clear ho0)
   obtain ⟨Ao23, co23, eo23⟩ := S_slice HO677.out
   (first | subst eo23 | (injection eo23 with f1_ f2_ f3_; have f4_ := f1_.symm; have f5_ := f3_.symm; clear f1_ f2_ f3_; subst f4_; subst f5_))
   refine hK.out _ _ ((blk_cell BK660.out 0).trans rfl) (fun hHeld => ?_)
   clear hK K
   refine norm_ (a' := ?_) ?_ ?_
   rotate_left
   ·
    show Act.put _ (some 17) _ = _
    simp only [Act.put, List.setIfInBounds_toArray, List.set_cons_zero, List.set_cons_succ, i64_w, i32_w]
    rfl
   refine SQ.pu 7 10 HT_ ?_
   refine SQ.pu 8 18 HT_ ?_
   refine SQ.pu 9 19 HT_ ?_
   refine last_ (i := 10) (N := none) #[true, true, true, true, true, true, true, true, true, true, true] rfl rfl (one_of HT_.out (by kernel_rfl)) (by decide) (fun K hK => ?_)
   have hs24 : w22.cell? ⟨gb660, 0, none⟩ = some (.slice none 0 0) := (blk_cell BK660.out 0).trans rfl
   have hfs24 := Zn BK660.out 0
   have hns24_0 := NB659_660.out
   have hms24_0 := NB660_659.out
   refine skip_ (w1 := ?_) (by rfl) rfl ?_ ?_
   rotate_left
   ·
    go_simp
    rfl
   refine hK.out _ _ ?_
   clear hK K
   refine done_ (done_of HT_.out (by kernel_rfl)) ?_
   try go_wp2
   go_meet
   case rel => exact ⟨_, (t673), (t674), (t675), (.slice Ao23 t675.length co23), H', ⟨by first | omega | exact Nat.le_refl _⟩, ⟨ZS (S_mono (S_far (p := ⟨gb660, 0, none⟩) (S_types HO677.out BK660.out (by decide)) (fun _ hk => hk.2) (.slice Ao23 t675.length co23)) (fun _ hk => trivial))⟩, ⟨by (with_reducible repeat (first | refine Za ?_ _ | refine Zb ?_ | refine blk_alloc ?_ _)); refine blk_far ?_ NB659_660.out _; (with_reducible repeat (first | refine Za ?_ _ | refine Zb ?_ | refine blk_alloc ?_ _)); exact BK659.out⟩, ⟨by (with_reducible repeat (first | refine Za ?_ _ | refine Zb ?_ | refine blk_alloc ?_ _)); refine blk_put (cs := #[.slice none 0 0]) ?_ 0 _ rfl; (with_reducible repeat (first | refine Za ?_ _ | refine Zb ?_ | refine blk_alloc ?_ _)); exact BK660.out⟩, ⟨by repeat (first | (with_reducible first | exact HI0.out | apply IsS99.alloc | apply IsS99.drewN | apply IsS99.drew | apply IsS99.set_1 | apply IsS99.set_2 | refine IsS99.far ?_ NB0_659.out _ | refine IsS99.far ?_ NB0_660.out _) | exact HI0.out)⟩, ⟨by repeat (first | (with_reducible first | exact HK.out | apply KeepBut.set_ | apply keep_drewN | apply keep_drew | apply keep_alloc | refine keep_far ?_ GW659.out _ | refine keep_far ?_ GW660.out _) | exact HK.out)⟩, ⟨by repeat (first | (with_reducible first | exact HB.out | apply Zf | apply Zd | apply Ze | refine Zg ?_ (IsS99.ge HI0.out) | refine Zg ?_ GE659.out | refine Zg ?_ GE660.out) | exact HB.out)⟩⟩
  replace c11 := Bool.eq_false_iff.mpr c11
  subst c11
  have H1 : (spec_l04DrawWal.j0 k l1 s0_0 t662 t663 ([] : List (S55))) = some (r1, r2, r3) := by rw [if_neg (show ¬ (false = true) by decide)] at H; exact H
  clear H
  have H := H1
  clear H1
  have H' := Zh H
  clear H
  go_wp2
  go_meet
  case rel => exact ⟨_, (t662), (t663), (([] : List (S55))), (.slice none 0 0), H', ⟨by first | omega | exact Nat.le_refl _⟩, ⟨by first | exact S_nil _ _ _ _ _ | exact N_nil _ _ _ _ _ | exact V_nil _ _ _ _ _ | exact Q_nil _ _ _ _ _ | exact R_nil _ _ _ _ _⟩, ⟨Zk⟩, ⟨Zk⟩, ⟨by repeat (first | (with_reducible first | exact HI0.out | apply IsS99.alloc | apply IsS99.drewN | apply IsS99.drew | apply IsS99.set_1 | apply IsS99.set_2 | refine IsS99.far ?_ NB0_659.out _ | refine IsS99.far ?_ NB0_660.out _) | exact HI0.out)⟩, ⟨by repeat (first | (with_reducible first | exact HK.out | apply KeepBut.set_ | apply keep_drewN | apply keep_drew | apply keep_alloc | refine keep_far ?_ GW659.out _ | refine keep_far ?_ GW660.out _) | exact HK.out)⟩, ⟨by repeat (first | (with_reducible first | exact HB.out | apply Zf | apply Zd | apply Ze | refine Zg ?_ (IsS99.ge HI0.out) | refine Zg ?_ GE659.out | refine Zg ?_ GE660.out) | exact HB.out)⟩⟩
 case rest =>
  clear HC4
  try clear c1
  try clear p2
  try clear c5
  try clear c6
  try clear c7
  try clear c8
  try clear c9
  try clear c11
  try clear hcz9_0
  try clear hfz9_0
  obtain ⟨kq, x1001_3, x1002_3, x661000_3, u661000, HA, HJ3, HO_661000, BK659, BK660, HI0, HK, HB⟩ := hcut
  cases kq with
  | zero => exact absurd HA.out (by simp [spec_l04DrawWal.j0])
  | succ kj3 =>
   have H := HA.out
   clear HA
   simp only [spec_l04DrawWal.j0] at H
   replace H := Option.bind_eq_some_iff.mp H
   obtain ⟨t679, A250, H⟩ := H
   replace H : ((spec_l01Below.f s0_0 x1001_3 x1002_3 t679).bind fun bt680 => (spec_l04DrawWal.l0 kj3 bt680.1 s0_0 bt680.2.1 bt680.2.2 x661000_3)) = some (r1, r2, r3) := H
   have A25 := Zh A250
   clear A250
   replace H := Option.bind_eq_some_iff.mp H
   obtain ⟨⟨t680, t681, t682⟩, A260, H⟩ := H
   replace H : (spec_l04DrawWal.l0 kj3 t680 s0_0 t681 t682 x661000_3) = some (r1, r2, r3) := H
   have A26 := Zh A260
   clear A260
   have H' := Zh H
   clear H
   go_wp2_with (first | ((with_reducible refine gate_callee (f := 99) rfl ?_); refine ZG (some 22) Tryd.func99 #[.slice A1 l1.length c1, .int .i64 9] rfl ?_; (with_reducible refine (spec_l01Size.calls _ _ l1 9 t679 _ ?side1 ?side2 A25.out).mono ?_); (case side1 => exact C_keep 0 HR1.out (by repeat (first | (with_reducible first | exact HK.out | apply KeepBut.set_ | apply keep_drewN | apply keep_drew | apply keep_alloc | refine keep_far ?_ GW659.out _ | refine keep_far ?_ GW660.out _) | exact HK.out)) hf1); (case side2 => exact HC1.out); rintro e w' ⟨rfl, ⟨nd, rfl⟩⟩; refine ⟨_, rfl, ?_⟩) | ((with_reducible refine gate_callee (f := 70) rfl ?_); refine ZG (some 23) Tryd.func70 #[.pointer (some ⟨g, 0, none⟩), .int .i64 t679] rfl ?_; (with_reducible refine (spec_l01Below.calls g s0_0 x1001_3 x1002_3 t679 t680 t681 t682 w0 _ ?side1 ?side2 A26.out).mono ?_); (case side1 => repeat (first | (with_reducible first | exact HI0.out | apply IsS99.alloc | apply IsS99.drewN | apply IsS99.drew | apply IsS99.set_1 | apply IsS99.set_2 | refine IsS99.far ?_ NB0_659.out _ | refine IsS99.far ?_ NB0_660.out _) | exact HI0.out)); (case side2 => repeat (first | (with_reducible first | exact HB.out | apply Zf | apply Zd | apply Ze | refine Zg ?_ (IsS99.ge HI0.out) | refine Zg ?_ GE659.out | refine Zg ?_ GE660.out) | exact HB.out)); rintro e w27 ⟨rfl, hi, hb, hk⟩; refine ⟨_, rfl, ?_⟩; replace HO_661000 := Zh (S_mono (S_keep (IsS99.apartS (show IsS99 w0 _ g s0_0 x1001_3 x1002_3 from by repeat (first | (with_reducible first | exact HI0.out | apply IsS99.alloc | apply IsS99.drewN | apply IsS99.drew | apply IsS99.set_1 | apply IsS99.set_2 | refine IsS99.far ?_ NB0_659.out _ | refine IsS99.far ?_ NB0_660.out _) | exact HI0.out)) (ZS HO_661000.out) (by decide)) hk (fun _ h => h.2)) (fun _ h => h.1)); replace BK659 := Zh (KeepBut.blk hk (g' := gb659) (o := .cells #[.slice none 0 0] 28 (0, 0)) Zk NB659_0.out (by simp)); replace BK660 := Zh (KeepBut.blk hk (g' := gb660) (o := .cells #[u661000] 28 (0, 0)) Zk NB660_0.out (by simp)); replace HK := Zh (KeepBut.trans (by repeat (first | (with_reducible first | exact HK.out | apply KeepBut.set_ | apply keep_drewN | apply keep_drew | apply keep_alloc | refine keep_far ?_ GW659.out _ | refine keep_far ?_ GW660.out _) | exact HK.out)) hk (.inl rfl)); replace HB := Zh (hb); replace HI0 := Zh (hi); (try clear hb); (try clear hb2); (try clear hk); (try clear hi)))
   go_loopg [6] kj3 (fun kq v6 w' => ∃ (x6_2 : Int) (x1001_2 : Int) (x1002_2 : Int) (x661000_2 : List (S55)) (u661000 : Value), v6 = .int .i64 x6_2 ∧ Aside0 (spec_l04DrawWal.l0 kq x6_2 s0_0 x1001_2 x1002_2 x661000_2 = some (r1, r2, r3)) ∧ Aside0 (kq ≤ kj3) ∧ Aside0 (Kd.S k55 55 w' w.heap.size (fun _ => True) u661000 x661000_2) ∧ Aside0 (w'.heap[gb659]? = some (.cells #[(.slice none 0 0)] 28 (0, 0))) ∧ Aside0 (w'.heap[gb660]? = some (.cells #[u661000] 28 (0, 0))) ∧ Aside0 (IsS99 w0 w' g s0_0 x1001_2 x1002_2) ∧ Aside0 (KeepBut w w' g none) ∧ Aside0 (Below w0.heap.size w0 w'))
   case atStart => exact ⟨(t680), (t681), (t682), (x661000_3), (u661000), (by first | rfl | (simp; done) | (simp [*]; done)), H', ⟨Nat.le_refl _⟩, ⟨ZS HO_661000.out⟩, ⟨Zk⟩, ⟨Zk⟩, ⟨by repeat (first | (with_reducible first | exact HI0.out | apply IsS99.alloc | apply IsS99.drewN | apply IsS99.drew | apply IsS99.set_1 | apply IsS99.set_2 | refine IsS99.far ?_ NB0_659.out _ | refine IsS99.far ?_ NB0_660.out _) | exact HI0.out)⟩, ⟨by repeat (first | (with_reducible first | exact HK.out | apply KeepBut.set_ | apply keep_drewN | apply keep_drew | apply keep_alloc | refine keep_far ?_ GW659.out _ | refine keep_far ?_ GW660.out _) | exact HK.out)⟩, ⟨by repeat (first | (with_reducible first | exact HB.out | apply Zf | apply Zd | apply Ze | refine Zg ?_ (IsS99.ge HI0.out) | refine Zg ?_ GE659.out | refine Zg ?_ GE660.out) | exact HB.out)⟩⟩
   case round =>
    clear H'
    try clear c1
    try clear p2
    try clear c5
    try clear c6
    try clear c7
    try clear c8
    try clear c9
    try clear c11
    try clear hcz9_0
    try clear hfz9_0
    try clear p2
    obtain ⟨x6_2, x1001_2, x1002_2, x661000_2, u661000, rfl, HA, HK2, HO_661000, BK659, BK660, HI0, HK, HB⟩ := hrel
    cases gk with
    | zero => exact absurd HA.out (by simp [spec_l04DrawWal.l0])
    | succ k2 =>
     have H := HA.out
     clear HA
     simp only [spec_l04DrawWal.l0] at H
     by_cases c28 : x6_2 > 0
     ·
      rw [if_pos c28] at H
      have c28b0 : decide (0 < x6_2) = true := decide_eq_true c28
      clear c28
      replace H := Option.bind_eq_some_iff.mp H
      obtain ⟨⟨t683, t684, t685⟩, A290, H⟩ := H
      replace H : (if t683 = true then ((spec_WalSync.f k2 x661000_2).bind fun bt686 => ((spec_l01Below.f s0_0 t684 t685 5).bind fun bt690 => ((spec_l01DrawBytes.f k2 s0_0 bt690.2.1 bt690.2.2 (wrap64 (1 + bt690.1))).bind fun bt693 => ((spec_WalAppend.f k2 bt686.1 bt693.1).bind fun bt698 => (spec_l04DrawWal.l0 k2 (wrap64 (x6_2 - 1)) s0_0 bt693.2.1 bt693.2.2 bt698.1))))) else ((spec_l01Below.f s0_0 t684 t685 5).bind fun bt702 => ((spec_l01DrawBytes.f k2 s0_0 bt702.2.1 bt702.2.2 (wrap64 (1 + bt702.1))).bind fun bt705 => ((spec_WalAppend.f k2 x661000_2 bt705.1).bind fun bt710 => (spec_l04DrawWal.l0 k2 (wrap64 (x6_2 - 1)) s0_0 bt705.2.1 bt705.2.2 bt710.1))))) = some (r1, r2, r3) := H
      have A29 := Zh A290
      clear A290
      by_cases c30 : t683 = true
      ·
       subst c30
       have H1 : ((spec_WalSync.f k2 x661000_2).bind fun bt686 => ((spec_l01Below.f s0_0 t684 t685 5).bind fun bt690 => ((spec_l01DrawBytes.f k2 s0_0 bt690.2.1 bt690.2.2 (wrap64 (1 + bt690.1))).bind fun bt693 => ((spec_WalAppend.f k2 bt686.1 bt693.1).bind fun bt698 => (spec_l04DrawWal.l0 k2 (wrap64 (x6_2 - 1)) s0_0 bt693.2.1 bt693.2.2 bt698.1))))) = some (r1, r2, r3) := by rw [if_pos rfl] at H; exact H
       clear H
       have H := H1
       clear H1
       replace H := Option.bind_eq_some_iff.mp H
       obtain ⟨⟨t686, t689⟩, A310, H⟩ := H
       replace H : ((spec_l01Below.f s0_0 t684 t685 5).bind fun bt690 => ((spec_l01DrawBytes.f k2 s0_0 bt690.2.1 bt690.2.2 (wrap64 (1 + bt690.1))).bind fun bt693 => ((spec_WalAppend.f k2 t686 bt693.1).bind fun bt698 => (spec_l04DrawWal.l0 k2 (wrap64 (x6_2 - 1)) s0_0 bt693.2.1 bt693.2.2 bt698.1)))) = some (r1, r2, r3) := H
       have A31 := Zh A310
       clear A310
       replace H := Option.bind_eq_some_iff.mp H
       obtain ⟨⟨t690, t691, t692⟩, A320, H⟩ := H
       replace H : ((spec_l01DrawBytes.f k2 s0_0 t691 t692 (wrap64 (1 + t690))).bind fun bt693 => ((spec_WalAppend.f k2 t686 bt693.1).bind fun bt698 => (spec_l04DrawWal.l0 k2 (wrap64 (x6_2 - 1)) s0_0 bt693.2.1 bt693.2.2 bt698.1))) = some (r1, r2, r3) := H
       have A32 := Zh A320
       clear A320
       replace H := Option.bind_eq_some_iff.mp H
       obtain ⟨⟨t693, t696, t697⟩, A330, H⟩ := H
       replace H : ((spec_WalAppend.f k2 t686 t693).bind fun bt698 => (spec_l04DrawWal.l0 k2 (wrap64 (x6_2 - 1)) s0_0 t696 t697 bt698.1)) = some (r1, r2, r3) := H
       have A33 := Zh A330
       clear A330
       replace H := Option.bind_eq_some_iff.mp H
       obtain ⟨⟨t698, t701⟩, A340, H⟩ := H
       replace H : (spec_l04DrawWal.l0 k2 (wrap64 (x6_2 - 1)) s0_0 t696 t697 t698) = some (r1, r2, r3) := H
       have A34 := Zh A340
       clear A340
       have H' := Zh H
       clear H
       try go_wp2_with (first | ((with_reducible refine gate_callee (f := 97) rfl ?_); refine ZG (some 29) Tryd.func97 #[.pointer (some ⟨g, 0, none⟩), .int .i64 4] rfl ?_; (with_reducible refine (spec_l01Once.calls g s0_0 x1001_2 x1002_2 4 true t684 t685 w0 _ ?side1 ?side2 A29.out).mono ?_); (case side1 => repeat (first | (with_reducible first | exact HI0.out | apply IsS99.alloc | apply IsS99.drewN | apply IsS99.drew | apply IsS99.set_1 | apply IsS99.set_2 | refine IsS99.far ?_ NB0_659.out _ | refine IsS99.far ?_ NB0_660.out _) | exact HI0.out)); (case side2 => repeat (first | (with_reducible first | exact HB.out | apply Zf | apply Zd | apply Ze | refine Zg ?_ (IsS99.ge HI0.out) | refine Zg ?_ GE659.out | refine Zg ?_ GE660.out) | exact HB.out)); rintro e w35 ⟨rfl, hi, hb, hk⟩; refine ⟨_, rfl, ?_⟩; replace HO_661000 := Zh (S_mono (S_keep (IsS99.apartS (show IsS99 w0 _ g s0_0 x1001_2 x1002_2 from by repeat (first | (with_reducible first | exact HI0.out | apply IsS99.alloc | apply IsS99.drewN | apply IsS99.drew | apply IsS99.set_1 | apply IsS99.set_2 | refine IsS99.far ?_ NB0_659.out _ | refine IsS99.far ?_ NB0_660.out _) | exact HI0.out)) (ZS HO_661000.out) (by decide)) hk (fun _ h => h.2)) (fun _ h => h.1)); replace BK659 := Zh (KeepBut.blk hk (g' := gb659) (o := .cells #[.slice none 0 0] 28 (0, 0)) Zk NB659_0.out (by simp)); replace BK660 := Zh (KeepBut.blk hk (g' := gb660) (o := .cells #[u661000] 28 (0, 0)) Zk NB660_0.out (by simp)); replace HK := Zh (KeepBut.trans (by repeat (first | (with_reducible first | exact HK.out | apply KeepBut.set_ | apply keep_drewN | apply keep_drew | apply keep_alloc | refine keep_far ?_ GW659.out _ | refine keep_far ?_ GW660.out _) | exact HK.out)) hk (.inl rfl)); replace HB := Zh (hb); replace HI0 := Zh (hi); (try clear hb); (try clear hb2); (try clear hk); (try clear hi); have hnb36 := NB660_659.out; have hnc36 := NB659_660.out; have hnb37 := NB660_0.out; have hnc37 := NB0_660.out; have hcz38_0 : w35.cell? ⟨gb660, 0, none⟩ = some (u661000) := (blk_cell BK660.out 0).trans rfl; have hfz38_0 := Zn BK660.out 0; obtain ⟨Ao39, co39, eo39⟩ := S_slice HO_661000.out; subst eo39) | ((with_reducible refine gate_callee (f := 12) rfl ?_); refine ZG (some 32) Tryd.func12 #[.agg #[.slice Ao39 x661000_2.length co39]] rfl ?_; (with_reducible refine (spec_WalSync.calls k2 _ _ x661000_2 t686 t689 _ ?side1 ?side2 A31.out).mono ?_); (case side1 => repeat (first | exact (S_reads' HO_661000.out).2.2 | (with_reducible refine C_alloc ?_ _) | (with_reducible refine C_drewN ?_ _) | (with_reducible refine C_drew ?_))); (case side2 => exact (S_reads' HO_661000.out).2.1); rintro e w40 ⟨v687, rfl, ho0, hb⟩; refine ⟨_, rfl, ?_⟩; have HO688 := Zh (S_lower (S_new' ho0 (S_lt (ZS HO_661000.out))) (keep_size (w := w) (g := g) (row := none) (by repeat (first | (with_reducible first | exact HK.out | apply KeepBut.set_ | apply keep_drewN | apply keep_drew | apply keep_alloc | refine keep_far ?_ GW659.out _ | refine keep_far ?_ GW660.out _) | exact HK.out)))); replace HO_661000 := Zh (S_elder' (ZS HO_661000.out) (S_base ho0) hb); replace BK659 := Zh (Zm (g := gb659) (o := .cells #[.slice none 0 0] 28 (0, 0)) Zk hb); replace BK660 := Zh (Zm (g := gb660) (o := .cells #[.slice Ao39 x661000_2.length co39] 28 (0, 0)) Zk hb); replace HK := Zh (KeepBut.trans (by repeat (first | (with_reducible first | exact HK.out | apply KeepBut.set_ | apply keep_drewN | apply keep_drew | apply keep_alloc | refine keep_far ?_ GW659.out _ | refine keep_far ?_ GW660.out _) | exact HK.out)) (KeepBut.of_below hb g none) (.inl rfl)); replace HB := Zh (Zl (by repeat (first | (with_reducible first | exact HB.out | apply Zf | apply Zd | apply Ze | refine Zg ?_ (IsS99.ge HI0.out) | refine Zg ?_ GE659.out | refine Zg ?_ GE660.out) | exact HB.out)) hb); replace HI0 := Zh (IsS99.below (by repeat (first | (with_reducible first | exact HI0.out | apply IsS99.alloc | apply IsS99.drewN | apply IsS99.drew | apply IsS99.set_1 | apply IsS99.set_2 | refine IsS99.far ?_ NB0_659.out _ | refine IsS99.far ?_ NB0_660.out _) | exact HI0.out)) hb); (try clear hb); (try clear hb2); (try clear hk); (try clear hi); (try clear ho0); obtain ⟨Ao41, co41, eo41⟩ := S_slice HO688.out; subst eo41; have hcz42_0 : w40.cell? ⟨gb660, 0, none⟩ = some (.slice Ao39 x661000_2.length co39) := (blk_cell BK660.out 0).trans rfl; have hfz42_0 := Zn BK660.out 0))
       have n0_ : Aside0 (Kd.S k55 55 (w40.setCell ⟨gb660, 0, none⟩ (.slice Ao41 t686.length co41)) w.heap.size (fun k_ => some k_ ≠ (.slice Ao41 t686.length co41 : Value).ownBlock) (.slice Ao39 x661000_2.length co39) x661000_2) := ⟨ZS (S_mono (S_far (p := ⟨gb660, 0, none⟩) (S_types HO_661000.out BK660.out (by decide)) (fun _ hk => hk.2) (.slice Ao41 t686.length co41)) (fun _ hk => hk.1.2))⟩
       have n1_ : Aside0 (Kd.S k55 55 (w40.setCell ⟨gb660, 0, none⟩ (.slice Ao41 t686.length co41)) w.heap.size (fun k_ => some k_ ≠ (.slice Ao39 x661000_2.length co39 : Value).ownBlock) (.slice Ao41 t686.length co41) t686) := ⟨ZS (S_mono (S_far (p := ⟨gb660, 0, none⟩) (S_types HO688.out BK660.out (by decide)) (fun _ hk => hk.2) (.slice Ao41 t686.length co41)) (fun _ hk => hk.1.2))⟩
       have n2_ : Aside0 ((w40.setCell ⟨gb660, 0, none⟩ (.slice Ao41 t686.length co41)).heap[gb659]? = some (.cells #[.slice none 0 0] 28 (0, 0))) := ⟨by (with_reducible repeat (first | refine Za ?_ _ | refine Zb ?_ | refine blk_alloc ?_ _)); refine blk_far ?_ NB659_660.out _; (with_reducible repeat (first | refine Za ?_ _ | refine Zb ?_ | refine blk_alloc ?_ _)); exact BK659.out⟩
       have n3_ : Aside0 ((w40.setCell ⟨gb660, 0, none⟩ (.slice Ao41 t686.length co41)).heap[gb660]? = some (.cells #[.slice Ao41 t686.length co41] 28 (0, 0))) := ⟨by (with_reducible repeat (first | refine Za ?_ _ | refine Zb ?_ | refine blk_alloc ?_ _)); refine blk_put (cs := #[.slice Ao39 x661000_2.length co39]) ?_ 0 _ rfl; (with_reducible repeat (first | refine Za ?_ _ | refine Zb ?_ | refine blk_alloc ?_ _)); exact BK660.out⟩
       have n4_ : Aside0 (IsS99 w0 (w40.setCell ⟨gb660, 0, none⟩ (.slice Ao41 t686.length co41)) g s0_0 t684 t685) := ⟨by repeat (first | (with_reducible first | exact HI0.out | apply IsS99.alloc | apply IsS99.drewN | apply IsS99.drew | apply IsS99.set_1 | apply IsS99.set_2 | refine IsS99.far ?_ NB0_659.out _ | refine IsS99.far ?_ NB0_660.out _) | exact HI0.out)⟩
       have n5_ : Aside0 (KeepBut w (w40.setCell ⟨gb660, 0, none⟩ (.slice Ao41 t686.length co41)) g none) := ⟨by repeat (first | (with_reducible first | exact HK.out | apply KeepBut.set_ | apply keep_drewN | apply keep_drew | apply keep_alloc | refine keep_far ?_ GW659.out _ | refine keep_far ?_ GW660.out _) | exact HK.out)⟩
       have n6_ : Aside0 (Below w0.heap.size w0 (w40.setCell ⟨gb660, 0, none⟩ (.slice Ao41 t686.length co41))) := ⟨by repeat (first | (with_reducible first | exact HB.out | apply Zf | apply Zd | apply Ze | refine Zg ?_ (IsS99.ge HI0.out) | refine Zg ?_ GE659.out | refine Zg ?_ GE660.out) | exact HB.out)⟩
       (try clear HO_661000)
       (try clear HO688)
       (try clear BK659)
       (try clear BK660)
       (try clear HI0)
       (try clear HK)
       (try clear HB)
       generalize (w40.setCell ⟨gb660, 0, none⟩ (.slice Ao41 t686.length co41)) = w43 at n0_ n1_ n2_ n3_ n4_ n5_ n6_ ⊢
       have HO_661000 := n0_
       have HO688 := n1_
       have BK659 := n2_
       have BK660 := n3_
       have HI0 := n4_
       have HK := n5_
       have HB := n6_
       clear n0_ n1_ n2_ n3_ n4_ n5_ n6_
       replace HO_661000 := Zh (S_drew HO_661000.out)
       replace HO688 := Zh (S_drew HO688.out)
       replace BK659 := Zh (Zb BK659.out)
       replace BK660 := Zh (Zb BK660.out)
       replace HI0 := Zh (IsS99.drew HI0.out)
       replace HK := Zh (keep_drew HK.out)
       replace HB := Zh (Ze HB.out)
       refine start_ (n := 11) (S := fun w' => w'.cell? ⟨gb660, 0, none⟩ = some (.slice Ao41 t686.length co41)) (ds := [10]) #[false, false, false, false, false, false, false, false, false, false, false] (by kernel_rfl) rfl rfl ((blk_cell BK660.out 0).trans rfl) (fun hHeld => ?_); refine with_tabW spec_l04DrawWal.tab9 spec_l04DrawWal.bits9 (fun HT_ HW_ => ?_)
       generalize w43.drew = w44 at HO_661000 HO688 BK659 BK660 HI0 HK HB hHeld ⊢
       refine SQ.pu 1 37 HT_ ?_
       refine SQ.pu 2 38 HT_ ?_
       refine take_ (i := 0) (N := some 36) (v := ?_) (a' := ?_) #[true, true, true, false, false, false, false, false, false, false, false] rfl rfl (take_ofW HT_.out HW_.out (by kernel_rfl)) (fun _ _ _ h => h) (Or.inl ⟨by rfl, ?_⟩) hHeld ?_ ?_
       rotate_left
       ·
        intro w' s0
        go_simp
        with_reducible rfl
       rotate_left
       ·
        simp only [Act.put, List.setIfInBounds_toArray, List.set_cons_zero, List.set_cons_succ, i64_w, i32_w]
        rfl
       refine one_ (i := 3) (N := some 39) #[true, true, true, true, false, false, false, false, false, false, false] rfl rfl (one_of HT_.out (by kernel_rfl)) (by decide) (fun K hK => ?_)
       refine goes_ Tryd.func70 (by kernel_rfl) rfl #[.pointer (some ⟨g, 0, none⟩), .int .i64 5] (by rfl) rfl rfl (by (try simp only [List.map_toArray, List.map_cons, List.map_nil]); first | done | rfl | (simp only [List.length_drop, List.length_take]; rfl)) ?_
       with_reducible refine (spec_l01Below.calls g s0_0 t684 t685 5 t690 t691 t692 w0 _ ?side1 ?side2 A32.out).mono ?_
       (case side1 => repeat (first | (with_reducible first | exact HI0.out | apply IsS99.alloc | apply IsS99.drewN | apply IsS99.drew | apply IsS99.set_1 | apply IsS99.set_2 | refine IsS99.far ?_ NB0_659.out _ | refine IsS99.far ?_ NB0_660.out _) | exact HI0.out))
       (case side2 => repeat (first | (with_reducible first | exact HB.out | apply Zf | apply Zd | apply Ze | refine Zg ?_ (IsS99.ge HI0.out) | refine Zg ?_ GE659.out | refine Zg ?_ GE660.out) | exact HB.out))
       rintro e w45 ⟨rfl, hi, hb, hk⟩
       refine ⟨_, rfl, ?_⟩
       replace HO_661000 := Zh (S_mono (S_keep (IsS99.apartS (show IsS99 w0 _ g s0_0 t684 t685 from by repeat (first | (with_reducible first | exact HI0.out | apply IsS99.alloc | apply IsS99.drewN | apply IsS99.drew | apply IsS99.set_1 | apply IsS99.set_2 | refine IsS99.far ?_ NB0_659.out _ | refine IsS99.far ?_ NB0_660.out _) | exact HI0.out)) (ZS HO_661000.out) (by decide)) hk (fun _ h => h.2)) (fun _ h => h.1))
       replace BK659 := Zh (KeepBut.blk hk (g' := gb659) (o := .cells #[.slice none 0 0] 28 (0, 0)) Zk NB659_0.out (by simp))
       replace BK660 := Zh (KeepBut.blk hk (g' := gb660) (o := .cells #[.slice Ao41 t686.length co41] 28 (0, 0)) Zk NB660_0.out (by simp))
       replace HO688 := Zh (S_mono (S_keep (IsS99.apartS (show IsS99 w0 _ g s0_0 t684 t685 from by repeat (first | (with_reducible first | exact HI0.out | apply IsS99.alloc | apply IsS99.drewN | apply IsS99.drew | apply IsS99.set_1 | apply IsS99.set_2 | refine IsS99.far ?_ NB0_659.out _ | refine IsS99.far ?_ NB0_660.out _) | exact HI0.out)) (ZS HO688.out) (by decide)) hk (fun _ h => h.2)) (fun _ h => h.1))
       replace HK := Zh (KeepBut.trans (by repeat (first | (with_reducible first | exact HK.out | apply KeepBut.set_ | apply keep_drewN | apply keep_drew | apply keep_alloc | refine keep_far ?_ GW659.out _ | refine keep_far ?_ GW660.out _) | exact HK.out)) hk (.inl rfl))
       replace HB := Zh (hb)
       replace HI0 := Zh (hi)
       (try clear hb)
       (try clear hb2)
       (try clear hk)
       (try clear hi)
       refine hK.out _ _ ((blk_cell BK660.out 0).trans rfl) (fun hHeld => ?_)
       clear hK K
       refine norm_ (a' := ?_) ?_ ?_
       rotate_left
       ·
        show Act.put _ (some 39) _ = _
        simp only [Act.put, List.setIfInBounds_toArray, List.set_cons_zero, List.set_cons_succ, i64_w, i32_w]
        rfl
       refine SQ.pu 4 40 HT_ ?_
       refine one_ (i := 5) (N := some 41) #[true, true, true, true, true, true, false, false, false, false, false] rfl rfl (one_of HT_.out (by kernel_rfl)) (by decide) (fun K hK => ?_)
       refine goes_ Tryd.func71 (by kernel_rfl) rfl #[.pointer (some ⟨g, 0, none⟩), .int .i64 (wrap64 (1 + t690))] (by rfl) rfl rfl (by (try simp only [List.map_toArray, List.map_cons, List.map_nil]); first | done | rfl | (simp only [List.length_drop, List.length_take]; rfl)) ?_
       with_reducible refine (spec_l01DrawBytes.calls k2 g s0_0 t691 t692 (wrap64 (1 + t690)) t693 t696 t697 w0 _ ?side1 ?side2 A33.out).mono ?_
       (case side1 => repeat (first | (with_reducible first | exact HI0.out | apply IsS99.alloc | apply IsS99.drewN | apply IsS99.drew | apply IsS99.set_1 | apply IsS99.set_2 | refine IsS99.far ?_ NB0_659.out _ | refine IsS99.far ?_ NB0_660.out _) | exact HI0.out))
       (case side2 => repeat (first | (with_reducible first | exact HB.out | apply Zf | apply Zd | apply Ze | refine Zg ?_ (IsS99.ge HI0.out) | refine Zg ?_ GE659.out | refine Zg ?_ GE660.out) | exact HB.out))
       rintro e w46 ⟨v694, rfl, ho0, hi, hb, hk⟩
       refine ⟨_, rfl, ?_⟩
       replace HO_661000 := Zh (S_mono (S_told (S_oldK (IsS99.apartS (show IsS99 w0 _ g s0_0 t691 t692 from by repeat (first | (with_reducible first | exact HI0.out | apply IsS99.alloc | apply IsS99.drewN | apply IsS99.drew | apply IsS99.set_1 | apply IsS99.set_2 | refine IsS99.far ?_ NB0_659.out _ | refine IsS99.far ?_ NB0_660.out _) | exact HI0.out)) (ZS HO_661000.out) (by decide)) hk) (R_base ho0)) (fun _ h_ => h_.1))
       replace BK659 := Zh (KeepBut.blk hk (g' := gb659) (o := .cells #[.slice none 0 0] 28 (0, 0)) Zk NB659_0.out (by simp))
       replace BK660 := Zh (KeepBut.blk hk (g' := gb660) (o := .cells #[.slice Ao41 t686.length co41] 28 (0, 0)) Zk NB660_0.out (by simp))
       replace HO688 := Zh (S_mono (S_told (S_oldK (IsS99.apartS (show IsS99 w0 _ g s0_0 t691 t692 from by repeat (first | (with_reducible first | exact HI0.out | apply IsS99.alloc | apply IsS99.drewN | apply IsS99.drew | apply IsS99.set_1 | apply IsS99.set_2 | refine IsS99.far ?_ NB0_659.out _ | refine IsS99.far ?_ NB0_660.out _) | exact HI0.out)) (ZS HO688.out) (by decide)) hk) (R_base ho0)) (fun _ h_ => h_.1))
       have HO695 := Zh (R_lower ho0 (keep_size (w := w) (g := g) (row := none) (by repeat (first | (with_reducible first | exact HK.out | apply KeepBut.set_ | apply keep_drewN | apply keep_drew | apply keep_alloc | refine keep_far ?_ GW659.out _ | refine keep_far ?_ GW660.out _) | exact HK.out))))
       replace HK := Zh (KeepBut.trans (by repeat (first | (with_reducible first | exact HK.out | apply KeepBut.set_ | apply keep_drewN | apply keep_drew | apply keep_alloc | refine keep_far ?_ GW659.out _ | refine keep_far ?_ GW660.out _) | exact HK.out)) hk (.inl rfl))
       replace HB := Zh (hb)
       replace HI0 := Zh (hi)
       (try clear hb)
       (try clear hb2)
       (try clear hk)
       (try clear hi)
       (try clear ho0)
       obtain ⟨Ao47, co47, eo47⟩ := R_slice HO695.out
       (first | subst eo47 | (injection eo47 with f1_ f2_ f3_; have f4_ := f1_.symm; have f5_ := f3_.symm; clear f1_ f2_ f3_; subst f4_; subst f5_))
       refine hK.out _ _ ((blk_cell BK660.out 0).trans rfl) (fun hHeld => ?_)
       clear hK K
       refine norm_ (a' := ?_) ?_ ?_
       rotate_left
       ·
        show Act.put _ (some 41) _ = _
        simp only [Act.put, List.setIfInBounds_toArray, List.set_cons_zero, List.set_cons_succ, i64_w, i32_w]
        rfl
       refine one_ (i := 6) (N := some 42) #[true, true, true, true, true, true, true, false, false, false, false] rfl rfl (one_of HT_.out (by kernel_rfl)) (by decide) (fun K hK => ?_)
       refine goes_ Tryd.func27 (by kernel_rfl) rfl #[.agg #[.slice Ao41 t686.length co41], .slice Ao47 t693.length co47] (by rfl) rfl rfl (by (try simp only [List.map_toArray, List.map_cons, List.map_nil]); first | done | rfl | (simp only [List.length_drop, List.length_take]; rfl)) ?_
       with_reducible refine (spec_WalAppend.calls k2 _ _ t686 _ _ t693 t698 t701 _ ?side1 ?side2 ?side3 ?side4 A34.out).mono ?_
       (case side1 => repeat (first | exact (S_reads' HO688.out).2.2 | (with_reducible refine C_alloc ?_ _) | (with_reducible refine C_drewN ?_ _) | (with_reducible refine C_drew ?_)))
       (case side2 => exact (S_reads' HO688.out).2.1)
       (case side3 => repeat (first | exact (R_reads' HO695.out).2.2 | (with_reducible refine C_alloc ?_ _) | (with_reducible refine C_drewN ?_ _) | (with_reducible refine C_drew ?_)))
       (case side4 => exact (R_reads' HO695.out).2.1)
       rintro e w48 ⟨v699, rfl, ho0, hb⟩
       refine ⟨_, rfl, ?_⟩
       have HO700 := Zh (S_lower (S_new' (S_new' (S_new' ho0 (S_lt (ZS HO_661000.out))) (S_lt (ZS HO688.out))) (R_lt (ZR HO695.out))) (keep_size (w := w) (g := g) (row := none) (by repeat (first | (with_reducible first | exact HK.out | apply KeepBut.set_ | apply keep_drewN | apply keep_drew | apply keep_alloc | refine keep_far ?_ GW659.out _ | refine keep_far ?_ GW660.out _) | exact HK.out))))
       replace HO_661000 := Zh (S_elder' (ZS HO_661000.out) (S_base ho0) hb)
       replace HO688 := Zh (S_elder' (ZS HO688.out) (S_base ho0) hb)
       replace HO695 := Zh (R_below (ZR HO695.out) hb)
       replace BK659 := Zh (Zm (g := gb659) (o := .cells #[.slice none 0 0] 28 (0, 0)) Zk hb)
       replace BK660 := Zh (Zm (g := gb660) (o := .cells #[.slice Ao41 t686.length co41] 28 (0, 0)) Zk hb)
       replace HK := Zh (KeepBut.trans (by repeat (first | (with_reducible first | exact HK.out | apply KeepBut.set_ | apply keep_drewN | apply keep_drew | apply keep_alloc | refine keep_far ?_ GW659.out _ | refine keep_far ?_ GW660.out _) | exact HK.out)) (KeepBut.of_below hb g none) (.inl rfl))
       replace HB := Zh (Zl (by repeat (first | (with_reducible first | exact HB.out | apply Zf | apply Zd | apply Ze | refine Zg ?_ (IsS99.ge HI0.out) | refine Zg ?_ GE659.out | refine Zg ?_ GE660.out) | exact HB.out)) hb)
       replace HI0 := Zh (IsS99.below (by repeat (first | (with_reducible first | exact HI0.out | apply IsS99.alloc | apply IsS99.drewN | apply IsS99.drew | apply IsS99.set_1 | apply IsS99.set_2 | refine IsS99.far ?_ NB0_659.out _ | refine IsS99.far ?_ NB0_660.out _) | exact HI0.out)) hb)
       (try clear hb)
       (try clear hb2)
       (try clear hk)
       (try clear hi)
       (try clear ho0)
       obtain ⟨Ao49, co49, eo49⟩ := S_slice HO700.out
       (first | subst eo49 | (injection eo49 with f1_ f2_ f3_; have f4_ := f1_.symm; have f5_ := f3_.symm; clear f1_ f2_ f3_; subst f4_; subst f5_))
       refine hK.out _ _ ((blk_cell BK660.out 0).trans rfl) (fun hHeld => ?_)
       clear hK K
       refine norm_ (a' := ?_) ?_ ?_
       rotate_left
       ·
        show Act.put _ (some 42) _ = _
        simp only [Act.put, List.setIfInBounds_toArray, List.set_cons_zero, List.set_cons_succ, i64_w, i32_w]
        rfl
       refine SQ.pu 7 35 HT_ ?_
       refine SQ.pu 8 43 HT_ ?_
       refine SQ.pu 9 44 HT_ ?_
       refine last_ (i := 10) (N := none) #[true, true, true, true, true, true, true, true, true, true, true] rfl rfl (one_of HT_.out (by kernel_rfl)) (by decide) (fun K hK => ?_)
       have hs50 : w48.cell? ⟨gb660, 0, none⟩ = some (.slice Ao41 t686.length co41) := (blk_cell BK660.out 0).trans rfl
       have hfs50 := Zn BK660.out 0
       have hns50_0 := NB659_660.out
       have hms50_0 := NB660_659.out
       refine skip_ (w1 := ?_) (by rfl) rfl ?_ ?_
       rotate_left
       ·
        go_simp
        rfl
       refine hK.out _ _ ?_
       clear hK K
       refine done_ (done_of HT_.out (by kernel_rfl)) ?_
       try go_wp2
       go_roundg k2
       case measure => have := HJ3.out; have := HK2.out; omega
       case rel => exact ⟨(wrap64 (x6_2 - 1)), (t696), (t697), (t698), (.slice Ao49 t698.length co49), (by first | rfl | (simp; done) | (simp [*]; done)), H', ⟨by have := HJ3.out; have := HK2.out; omega⟩, ⟨ZS (S_mono (S_far (p := ⟨gb660, 0, none⟩) (S_types HO700.out BK660.out (by decide)) (fun _ hk => hk.2) (.slice Ao49 t698.length co49)) (fun _ hk => trivial))⟩, ⟨by (with_reducible repeat (first | refine Za ?_ _ | refine Zb ?_ | refine blk_alloc ?_ _)); refine blk_far ?_ NB659_660.out _; (with_reducible repeat (first | refine Za ?_ _ | refine Zb ?_ | refine blk_alloc ?_ _)); exact BK659.out⟩, ⟨by (with_reducible repeat (first | refine Za ?_ _ | refine Zb ?_ | refine blk_alloc ?_ _)); refine blk_put (cs := #[.slice Ao41 t686.length co41]) ?_ 0 _ rfl; (with_reducible repeat (first | refine Za ?_ _ | refine Zb ?_ | refine blk_alloc ?_ _)); exact BK660.out⟩, ⟨by repeat (first | (with_reducible first | exact HI0.out | apply IsS99.alloc | apply IsS99.drewN | apply IsS99.drew | apply IsS99.set_1 | apply IsS99.set_2 | refine IsS99.far ?_ NB0_659.out _ | refine IsS99.far ?_ NB0_660.out _) | exact HI0.out)⟩, ⟨by repeat (first | (with_reducible first | exact HK.out | apply KeepBut.set_ | apply keep_drewN | apply keep_drew | apply keep_alloc | refine keep_far ?_ GW659.out _ | refine keep_far ?_ GW660.out _) | exact HK.out)⟩, ⟨by repeat (first | (with_reducible first | exact HB.out | apply Zf | apply Zd | apply Ze | refine Zg ?_ (IsS99.ge HI0.out) | refine Zg ?_ GE659.out | refine Zg ?_ GE660.out) | exact HB.out)⟩⟩
      replace c30 := Bool.eq_false_iff.mpr c30
      subst c30
      have H1 : ((spec_l01Below.f s0_0 t684 t685 5).bind fun bt702 => ((spec_l01DrawBytes.f k2 s0_0 bt702.2.1 bt702.2.2 (wrap64 (1 + bt702.1))).bind fun bt705 => ((spec_WalAppend.f k2 x661000_2 bt705.1).bind fun bt710 => (spec_l04DrawWal.l0 k2 (wrap64 (x6_2 - 1)) s0_0 bt705.2.1 bt705.2.2 bt710.1)))) = some (r1, r2, r3) := by rw [if_neg (show ¬ (false = true) by decide)] at H; exact H
      clear H
      have H := H1
      clear H1
      replace H := Option.bind_eq_some_iff.mp H
      obtain ⟨⟨t702, t703, t704⟩, A510, H⟩ := H
      replace H : ((spec_l01DrawBytes.f k2 s0_0 t703 t704 (wrap64 (1 + t702))).bind fun bt705 => ((spec_WalAppend.f k2 x661000_2 bt705.1).bind fun bt710 => (spec_l04DrawWal.l0 k2 (wrap64 (x6_2 - 1)) s0_0 bt705.2.1 bt705.2.2 bt710.1))) = some (r1, r2, r3) := H
      have A51 := Zh A510
      clear A510
      replace H := Option.bind_eq_some_iff.mp H
      obtain ⟨⟨t705, t708, t709⟩, A520, H⟩ := H
      replace H : ((spec_WalAppend.f k2 x661000_2 t705).bind fun bt710 => (spec_l04DrawWal.l0 k2 (wrap64 (x6_2 - 1)) s0_0 t708 t709 bt710.1)) = some (r1, r2, r3) := H
      have A52 := Zh A520
      clear A520
      replace H := Option.bind_eq_some_iff.mp H
      obtain ⟨⟨t710, t713⟩, A530, H⟩ := H
      replace H : (spec_l04DrawWal.l0 k2 (wrap64 (x6_2 - 1)) s0_0 t708 t709 t710) = some (r1, r2, r3) := H
      have A53 := Zh A530
      clear A530
      have H' := Zh H
      clear H
      try go_wp2_with (first | ((with_reducible refine gate_callee (f := 97) rfl ?_); refine ZG (some 29) Tryd.func97 #[.pointer (some ⟨g, 0, none⟩), .int .i64 4] rfl ?_; (with_reducible refine (spec_l01Once.calls g s0_0 x1001_2 x1002_2 4 false t684 t685 w0 _ ?side1 ?side2 A29.out).mono ?_); (case side1 => repeat (first | (with_reducible first | exact HI0.out | apply IsS99.alloc | apply IsS99.drewN | apply IsS99.drew | apply IsS99.set_1 | apply IsS99.set_2 | refine IsS99.far ?_ NB0_659.out _ | refine IsS99.far ?_ NB0_660.out _) | exact HI0.out)); (case side2 => repeat (first | (with_reducible first | exact HB.out | apply Zf | apply Zd | apply Ze | refine Zg ?_ (IsS99.ge HI0.out) | refine Zg ?_ GE659.out | refine Zg ?_ GE660.out) | exact HB.out)); rintro e w54 ⟨rfl, hi, hb, hk⟩; refine ⟨_, rfl, ?_⟩; replace HO_661000 := Zh (S_mono (S_keep (IsS99.apartS (show IsS99 w0 _ g s0_0 x1001_2 x1002_2 from by repeat (first | (with_reducible first | exact HI0.out | apply IsS99.alloc | apply IsS99.drewN | apply IsS99.drew | apply IsS99.set_1 | apply IsS99.set_2 | refine IsS99.far ?_ NB0_659.out _ | refine IsS99.far ?_ NB0_660.out _) | exact HI0.out)) (ZS HO_661000.out) (by decide)) hk (fun _ h => h.2)) (fun _ h => h.1)); replace BK659 := Zh (KeepBut.blk hk (g' := gb659) (o := .cells #[.slice none 0 0] 28 (0, 0)) Zk NB659_0.out (by simp)); replace BK660 := Zh (KeepBut.blk hk (g' := gb660) (o := .cells #[u661000] 28 (0, 0)) Zk NB660_0.out (by simp)); replace HK := Zh (KeepBut.trans (by repeat (first | (with_reducible first | exact HK.out | apply KeepBut.set_ | apply keep_drewN | apply keep_drew | apply keep_alloc | refine keep_far ?_ GW659.out _ | refine keep_far ?_ GW660.out _) | exact HK.out)) hk (.inl rfl)); replace HB := Zh (hb); replace HI0 := Zh (hi); (try clear hb); (try clear hb2); (try clear hk); (try clear hi)))
      replace HO_661000 := Zh (S_drew HO_661000.out)
      replace BK659 := Zh (Zb BK659.out)
      replace BK660 := Zh (Zb BK660.out)
      replace HI0 := Zh (IsS99.drew HI0.out)
      replace HK := Zh (keep_drew HK.out)
      replace HB := Zh (Ze HB.out)
      refine start_ (n := 11) (S := fun w' => w'.cell? ⟨gb660, 0, none⟩ = some (u661000)) (ds := [10]) #[false, false, false, false, false, false, false, false, false, false, false] (by kernel_rfl) rfl rfl ((blk_cell BK660.out 0).trans rfl) (fun hHeld => ?_); refine with_tabW spec_l04DrawWal.tab9 spec_l04DrawWal.bits9 (fun HT_ HW_ => ?_)
      generalize w54.drew = w55 at HO_661000 BK659 BK660 HI0 HK HB hHeld ⊢
      refine SQ.pu 1 37 HT_ ?_
      refine SQ.pu 2 38 HT_ ?_
      refine take_ (i := 0) (N := some 36) (v := ?_) (a' := ?_) #[true, true, true, false, false, false, false, false, false, false, false] rfl rfl (take_ofW HT_.out HW_.out (by kernel_rfl)) (fun _ _ _ h => h) (Or.inl ⟨by rfl, ?_⟩) hHeld ?_ ?_
      rotate_left
      ·
       intro w' s0
       go_simp
       with_reducible rfl
      rotate_left
      ·
       simp only [Act.put, List.setIfInBounds_toArray, List.set_cons_zero, List.set_cons_succ, i64_w, i32_w]
       rfl
      refine one_ (i := 3) (N := some 39) #[true, true, true, true, false, false, false, false, false, false, false] rfl rfl (one_of HT_.out (by kernel_rfl)) (by decide) (fun K hK => ?_)
      refine goes_ Tryd.func70 (by kernel_rfl) rfl #[.pointer (some ⟨g, 0, none⟩), .int .i64 5] (by rfl) rfl rfl (by (try simp only [List.map_toArray, List.map_cons, List.map_nil]); first | done | rfl | (simp only [List.length_drop, List.length_take]; rfl)) ?_
      with_reducible refine (spec_l01Below.calls g s0_0 t684 t685 5 t702 t703 t704 w0 _ ?side1 ?side2 A51.out).mono ?_
      (case side1 => repeat (first | (with_reducible first | exact HI0.out | apply IsS99.alloc | apply IsS99.drewN | apply IsS99.drew | apply IsS99.set_1 | apply IsS99.set_2 | refine IsS99.far ?_ NB0_659.out _ | refine IsS99.far ?_ NB0_660.out _) | exact HI0.out))
      (case side2 => repeat (first | (with_reducible first | exact HB.out | apply Zf | apply Zd | apply Ze | refine Zg ?_ (IsS99.ge HI0.out) | refine Zg ?_ GE659.out | refine Zg ?_ GE660.out) | exact HB.out))
      rintro e w56 ⟨rfl, hi, hb, hk⟩
      refine ⟨_, rfl, ?_⟩
      replace HO_661000 := Zh (S_mono (S_keep (IsS99.apartS (show IsS99 w0 _ g s0_0 t684 t685 from by repeat (first | (with_reducible first | exact HI0.out | apply IsS99.alloc | apply IsS99.drewN | apply IsS99.drew | apply IsS99.set_1 | apply IsS99.set_2 | refine IsS99.far ?_ NB0_659.out _ | refine IsS99.far ?_ NB0_660.out _) | exact HI0.out)) (ZS HO_661000.out) (by decide)) hk (fun _ h => h.2)) (fun _ h => h.1))
      replace BK659 := Zh (KeepBut.blk hk (g' := gb659) (o := .cells #[.slice none 0 0] 28 (0, 0)) Zk NB659_0.out (by simp))
      replace BK660 := Zh (KeepBut.blk hk (g' := gb660) (o := .cells #[u661000] 28 (0, 0)) Zk NB660_0.out (by simp))
      replace HK := Zh (KeepBut.trans (by repeat (first | (with_reducible first | exact HK.out | apply KeepBut.set_ | apply keep_drewN | apply keep_drew | apply keep_alloc | refine keep_far ?_ GW659.out _ | refine keep_far ?_ GW660.out _) | exact HK.out)) hk (.inl rfl))
      replace HB := Zh (hb)
      replace HI0 := Zh (hi)
      (try clear hb)
      (try clear hb2)
      (try clear hk)
      (try clear hi)
      refine hK.out _ _ ((blk_cell BK660.out 0).trans rfl) (fun hHeld => ?_)
      clear hK K
      refine norm_ (a' := ?_) ?_ ?_
      rotate_left
      ·
       show Act.put _ (some 39) _ = _
       simp only [Act.put, List.setIfInBounds_toArray, List.set_cons_zero, List.set_cons_succ, i64_w, i32_w]
       rfl
      refine SQ.pu 4 40 HT_ ?_
      refine one_ (i := 5) (N := some 41) #[true, true, true, true, true, true, false, false, false, false, false] rfl rfl (one_of HT_.out (by kernel_rfl)) (by decide) (fun K hK => ?_)
      refine goes_ Tryd.func71 (by kernel_rfl) rfl #[.pointer (some ⟨g, 0, none⟩), .int .i64 (wrap64 (1 + t702))] (by rfl) rfl rfl (by (try simp only [List.map_toArray, List.map_cons, List.map_nil]); first | done | rfl | (simp only [List.length_drop, List.length_take]; rfl)) ?_
      with_reducible refine (spec_l01DrawBytes.calls k2 g s0_0 t703 t704 (wrap64 (1 + t702)) t705 t708 t709 w0 _ ?side1 ?side2 A52.out).mono ?_
      (case side1 => repeat (first | (with_reducible first | exact HI0.out | apply IsS99.alloc | apply IsS99.drewN | apply IsS99.drew | apply IsS99.set_1 | apply IsS99.set_2 | refine IsS99.far ?_ NB0_659.out _ | refine IsS99.far ?_ NB0_660.out _) | exact HI0.out))
      (case side2 => repeat (first | (with_reducible first | exact HB.out | apply Zf | apply Zd | apply Ze | refine Zg ?_ (IsS99.ge HI0.out) | refine Zg ?_ GE659.out | refine Zg ?_ GE660.out) | exact HB.out))
      rintro e w57 ⟨v706, rfl, ho0, hi, hb, hk⟩
      refine ⟨_, rfl, ?_⟩
      replace HO_661000 := Zh (S_mono (S_told (S_oldK (IsS99.apartS (show IsS99 w0 _ g s0_0 t703 t704 from by repeat (first | (with_reducible first | exact HI0.out | apply IsS99.alloc | apply IsS99.drewN | apply IsS99.drew | apply IsS99.set_1 | apply IsS99.set_2 | refine IsS99.far ?_ NB0_659.out _ | refine IsS99.far ?_ NB0_660.out _) | exact HI0.out)) (ZS HO_661000.out) (by decide)) hk) (R_base ho0)) (fun _ h_ => h_.1))
      replace BK659 := Zh (KeepBut.blk hk (g' := gb659) (o := .cells #[.slice none 0 0] 28 (0, 0)) Zk NB659_0.out (by simp))
      replace BK660 := Zh (KeepBut.blk hk (g' := gb660) (o := .cells #[u661000] 28 (0, 0)) Zk NB660_0.out (by simp))
      have HO707 := Zh (R_lower ho0 (keep_size (w := w) (g := g) (row := none) (by repeat (first | (with_reducible first | exact HK.out | apply KeepBut.set_ | apply keep_drewN | apply keep_drew | apply keep_alloc | refine keep_far ?_ GW659.out _ | refine keep_far ?_ GW660.out _) | exact HK.out))))
      replace HK := Zh (KeepBut.trans (by repeat (first | (with_reducible first | exact HK.out | apply KeepBut.set_ | apply keep_drewN | apply keep_drew | apply keep_alloc | refine keep_far ?_ GW659.out _ | refine keep_far ?_ GW660.out _) | exact HK.out)) hk (.inl rfl))
      replace HB := Zh (hb)
      replace HI0 := Zh (hi)
      (try clear hb)
      (try clear hb2)
      (try clear hk)
      (try clear hi)
      (try clear ho0)
      obtain ⟨Ao58, co58, eo58⟩ := S_slice HO_661000.out
      (first | subst eo58 | (injection eo58 with f1_ f2_ f3_; have f4_ := f1_.symm; have f5_ := f3_.symm; clear f1_ f2_ f3_; subst f4_; subst f5_))
      obtain ⟨Ao59, co59, eo59⟩ := R_slice HO707.out
      (first | subst eo59 | (injection eo59 with f1_ f2_ f3_; have f4_ := f1_.symm; have f5_ := f3_.symm; clear f1_ f2_ f3_; subst f4_; subst f5_))
      refine hK.out _ _ ((blk_cell BK660.out 0).trans rfl) (fun hHeld => ?_)
      clear hK K
      refine norm_ (a' := ?_) ?_ ?_
      rotate_left
      ·
       show Act.put _ (some 41) _ = _
       simp only [Act.put, List.setIfInBounds_toArray, List.set_cons_zero, List.set_cons_succ, i64_w, i32_w]
       rfl
      refine one_ (i := 6) (N := some 42) #[true, true, true, true, true, true, true, false, false, false, false] rfl rfl (one_of HT_.out (by kernel_rfl)) (by decide) (fun K hK => ?_)
      refine goes_ Tryd.func27 (by kernel_rfl) rfl #[.agg #[.slice Ao58 x661000_2.length co58], .slice Ao59 t705.length co59] (by rfl) rfl rfl (by (try simp only [List.map_toArray, List.map_cons, List.map_nil]); first | done | rfl | (simp only [List.length_drop, List.length_take]; rfl)) ?_
      with_reducible refine (spec_WalAppend.calls k2 _ _ x661000_2 _ _ t705 t710 t713 _ ?side1 ?side2 ?side3 ?side4 A53.out).mono ?_
      (case side1 => repeat (first | exact (S_reads' HO_661000.out).2.2 | (with_reducible refine C_alloc ?_ _) | (with_reducible refine C_drewN ?_ _) | (with_reducible refine C_drew ?_)))
      (case side2 => exact (S_reads' HO_661000.out).2.1)
      (case side3 => repeat (first | exact (R_reads' HO707.out).2.2 | (with_reducible refine C_alloc ?_ _) | (with_reducible refine C_drewN ?_ _) | (with_reducible refine C_drew ?_)))
      (case side4 => exact (R_reads' HO707.out).2.1)
      rintro e w60 ⟨v711, rfl, ho0, hb⟩
      refine ⟨_, rfl, ?_⟩
      have HO712 := Zh (S_lower (S_new' (S_new' ho0 (S_lt (ZS HO_661000.out))) (R_lt (ZR HO707.out))) (keep_size (w := w) (g := g) (row := none) (by repeat (first | (with_reducible first | exact HK.out | apply KeepBut.set_ | apply keep_drewN | apply keep_drew | apply keep_alloc | refine keep_far ?_ GW659.out _ | refine keep_far ?_ GW660.out _) | exact HK.out))))
      replace HO_661000 := Zh (S_elder' (ZS HO_661000.out) (S_base ho0) hb)
      replace HO707 := Zh (R_below (ZR HO707.out) hb)
      replace BK659 := Zh (Zm (g := gb659) (o := .cells #[.slice none 0 0] 28 (0, 0)) Zk hb)
      replace BK660 := Zh (Zm (g := gb660) (o := .cells #[.slice Ao58 x661000_2.length co58] 28 (0, 0)) Zk hb)
      replace HK := Zh (KeepBut.trans (by repeat (first | (with_reducible first | exact HK.out | apply KeepBut.set_ | apply keep_drewN | apply keep_drew | apply keep_alloc | refine keep_far ?_ GW659.out _ | refine keep_far ?_ GW660.out _) | exact HK.out)) (KeepBut.of_below hb g none) (.inl rfl))
      replace HB := Zh (Zl (by repeat (first | (with_reducible first | exact HB.out | apply Zf | apply Zd | apply Ze | refine Zg ?_ (IsS99.ge HI0.out) | refine Zg ?_ GE659.out | refine Zg ?_ GE660.out) | exact HB.out)) hb)
      replace HI0 := Zh (IsS99.below (by repeat (first | (with_reducible first | exact HI0.out | apply IsS99.alloc | apply IsS99.drewN | apply IsS99.drew | apply IsS99.set_1 | apply IsS99.set_2 | refine IsS99.far ?_ NB0_659.out _ | refine IsS99.far ?_ NB0_660.out _) | exact HI0.out)) hb)
      (try clear hb)
      (try clear hb2)
      (try clear hk)
      (try clear hi)
      (try clear ho0)
      obtain ⟨Ao61, co61, eo61⟩ := S_slice HO712.out
      (first | subst eo61 | (injection eo61 with f1_ f2_ f3_; have f4_ := f1_.symm; have f5_ := f3_.symm; clear f1_ f2_ f3_; subst f4_; subst f5_))
      refine hK.out _ _ ((blk_cell BK660.out 0).trans rfl) (fun hHeld => ?_)
      clear hK K
      refine norm_ (a' := ?_) ?_ ?_
      rotate_left
      ·
       show Act.put _ (some 42) _ = _
       simp only [Act.put, List.setIfInBounds_toArray, List.set_cons_zero, List.set_cons_succ, i64_w, i32_w]
       rfl
      refine SQ.pu 7 35 HT_ ?_
      refine SQ.pu 8 43 HT_ ?_
      refine SQ.pu 9 44 HT_ ?_
      refine last_ (i := 10) (N := none) #[true, true, true, true, true, true, true, true, true, true, true] rfl rfl (one_of HT_.out (by kernel_rfl)) (by decide) (fun K hK => ?_)
      have hs62 : w60.cell? ⟨gb660, 0, none⟩ = some (.slice Ao58 x661000_2.length co58) := (blk_cell BK660.out 0).trans rfl
      have hfs62 := Zn BK660.out 0
      have hns62_0 := NB659_660.out
      have hms62_0 := NB660_659.out
      refine skip_ (w1 := ?_) (by rfl) rfl ?_ ?_
      rotate_left
      ·
       go_simp
       rfl
      refine hK.out _ _ ?_
      clear hK K
      refine done_ (done_of HT_.out (by kernel_rfl)) ?_
      try go_wp2
      go_roundg k2
      case measure => have := HJ3.out; have := HK2.out; omega
      case rel => exact ⟨(wrap64 (x6_2 - 1)), (t708), (t709), (t710), (.slice Ao61 t710.length co61), (by first | rfl | (simp; done) | (simp [*]; done)), H', ⟨by have := HJ3.out; have := HK2.out; omega⟩, ⟨ZS (S_mono (S_far (p := ⟨gb660, 0, none⟩) (S_types HO712.out BK660.out (by decide)) (fun _ hk => hk.2) (.slice Ao61 t710.length co61)) (fun _ hk => trivial))⟩, ⟨by (with_reducible repeat (first | refine Za ?_ _ | refine Zb ?_ | refine blk_alloc ?_ _)); refine blk_far ?_ NB659_660.out _; (with_reducible repeat (first | refine Za ?_ _ | refine Zb ?_ | refine blk_alloc ?_ _)); exact BK659.out⟩, ⟨by (with_reducible repeat (first | refine Za ?_ _ | refine Zb ?_ | refine blk_alloc ?_ _)); refine blk_put (cs := #[.slice Ao58 x661000_2.length co58]) ?_ 0 _ rfl; (with_reducible repeat (first | refine Za ?_ _ | refine Zb ?_ | refine blk_alloc ?_ _)); exact BK660.out⟩, ⟨by repeat (first | (with_reducible first | exact HI0.out | apply IsS99.alloc | apply IsS99.drewN | apply IsS99.drew | apply IsS99.set_1 | apply IsS99.set_2 | refine IsS99.far ?_ NB0_659.out _ | refine IsS99.far ?_ NB0_660.out _) | exact HI0.out)⟩, ⟨by repeat (first | (with_reducible first | exact HK.out | apply KeepBut.set_ | apply keep_drewN | apply keep_drew | apply keep_alloc | refine keep_far ?_ GW659.out _ | refine keep_far ?_ GW660.out _) | exact HK.out)⟩, ⟨by repeat (first | (with_reducible first | exact HB.out | apply Zf | apply Zd | apply Ze | refine Zg ?_ (IsS99.ge HI0.out) | refine Zg ?_ GE659.out | refine Zg ?_ GE660.out) | exact HB.out)⟩⟩
     rw [if_neg c28] at H
     have c28b0 : decide (0 < x6_2) = false := decide_eq_false c28
     clear c28
     simp only [Option.some.injEq, Prod.mk.injEq] at H
     obtain ⟨rfl, rfl, rfl⟩ := H
     have hnb63 := NB660_659.out
     have hnc63 := NB659_660.out
     have hnb64 := NB660_0.out
     have hnc64 := NB0_660.out
     have hcz65_0 : wr.cell? ⟨gb660, 0, none⟩ = some (u661000) := (blk_cell BK660.out 0).trans rfl
     have hfz65_0 := Zn BK660.out 0
     obtain ⟨Ao66, co66, eo66⟩ := S_slice HO_661000.out
     subst eo66
     have hnb67 := NB659_0.out
     have hnc67 := NB0_659.out
     have hcz68_0 : wr.cell? ⟨gb659, 0, none⟩ = some (.slice none 0 0) := (blk_cell BK659.out 0).trans rfl
     have hfz68_0 := Zn BK659.out 0
     go_wp2
     refine Zq (results_cell_row rfl _ _ gb659 28 #[.slice Ao66 x661000_2.length co66] (0, 0) _ rfl (by (with_reducible repeat (first | refine Za ?_ _ | refine Zb ?_ | refine blk_alloc ?_ _)); refine blk_put (cs := #[.slice none 0 0]) ?_ 0 _ rfl; (with_reducible repeat (first | refine Za ?_ _ | refine Zb ?_ | refine blk_alloc ?_ _)); exact BK659.out) Tryd.underlying28 rfl (by kernel_rfl)) rfl ?_
     exact ⟨_, ZE, ZS (S_mono (S_far (p := ⟨gb659, 0, none⟩) (S_types HO_661000.out BK659.out (by decide)) (fun _ hk => hk.2) (.slice Ao66 x661000_2.length co66)) (fun _ hk => trivial)), by repeat (first | (with_reducible first | exact HI0.out | apply IsS99.alloc | apply IsS99.drewN | apply IsS99.drew | apply IsS99.set_1 | apply IsS99.set_2 | refine IsS99.far ?_ NB0_659.out _ | refine IsS99.far ?_ NB0_660.out _) | exact HI0.out), by repeat (first | (with_reducible first | exact HB.out | apply Zf | apply Zd | apply Ze | refine Zg ?_ (IsS99.ge HI0.out) | refine Zg ?_ GE659.out | refine Zg ?_ GE660.out) | exact HB.out), by repeat (first | (with_reducible first | exact HK.out | apply KeepBut.set_ | apply keep_drewN | apply keep_drew | apply keep_alloc | refine keep_far ?_ GW659.out _ | refine keep_far ?_ GW660.out _) | exact HK.out)⟩
end Go.Proofs.YtcgojdhbphocgaaDoor.F

namespace Go.Proofs.YtcgojdhbphocgaaDoor.F
open Go.RowKit Go.Proofs.YtcgojdhbphocgaaDoorW.PrintWords Go.Proofs.YtcgojdhbphocgaaDoorW.PrintWords.Kd Go.Proofs.YtcgojdhbphocgaaDoorW.PrintMore.Kd Go.Proofs.YtcgojdhbphocgaaDoorW.PrintLast Go.Proofs.YtcgojdhbphocgaaDoorW.PrintMore
attribute [local go_sem] max2_int min2_int max_two min_two max_three min_three max_four min_four   -- for this text's walks alone
set_option linter.unusedVariables false
set_option linter.unusedSimpArgs false
def spec_DrawRightWal.l0 : Nat → List (List Int) → Int → List Int → Int → Int → List (S55) → Option ((List (S55)) × (List (List Int)) × Int)
 | 0, _, _, _, _, _, _ => none
 | k + 1, x7, x8, x719000, x719001, x719002, x725000 => if x8 > 0 then ((spec_l01Below.f x719000 x719001 x719002 5).bind fun bt731 => ((spec_l01DrawBytes.f k x719000 bt731.2.1 bt731.2.2 (wrap64 (1 + bt731.1))).bind fun bt734 => (if x7.length < 5864062014805 then (spec_DrawRightWal.l0 k (x7 ++ [bt734.1]) (wrap64 (x8 - 1)) x719000 bt734.2.1 bt734.2.2 x725000) else (none)))) else ((spec_l01Below.f x719000 x719001 x719002 60).bind fun bt742 => (some (x725000, x7, bt742.1)))
def spec_DrawRightWal.f (k : Nat) (l0 : List Int) : Option ((List (S55)) × (List (List Int)) × Int) := (spec_l01New.f k l0).bind fun bt715 => ((spec_l04DrawWal.f k bt715.1 bt715.2.1 bt715.2.2 l0).bind fun bt719 => ((spec_l01Below.f bt715.1 bt719.2.1 bt719.2.2 5).bind fun bt728 => (spec_DrawRightWal.l0 k (([] : List (List Int))) bt728.1 bt715.1 bt728.2.1 bt728.2.2 bt719.1)))
set_option maxHeartbeats 8000000 in
set_option maxRecDepth 100000 in
theorem spec_DrawRightWal.calls (k : Nat) (A0 : Option Addr) (c0 : Nat) (l0 : List Int) (r1 : List (S55)) (r2 : List (List Int)) (r3 : Int) (w : World) (hr0 : Kd.C (Kd.int .u8) w A0 l0.length l0) (hc0 : l0.length ≤ c0) (h : spec_DrawRightWal.f k l0 = some (r1, r2, r3)) :
  Calls Tryd.prog 35 #[.slice A0 l0.length c0] w fun e w' => ∃ v0_ v1_ : Value, e = .returned (.tuple #[.agg #[v0_], v1_, .int .i64 r3]) ∧ Kd.S k55 55 w' w.heap.size (fun _ => True) v0_ r1 ∧ Kd.S (Kd.slice 5 (Kd.int .u8)) 41 w' w.heap.size (fun _ => True) v1_ r2 ∧ Below w.heap.size w w' := by
 have hu28 := Tryd.underlying28
 have HR0 := Zh hr0
 have HC0 := Zh hc0
 clear hr0 hc0
 have HB := Zh (Below.refl w.heap.size w)
 have H : ((spec_l01New.f k l0).bind fun bt715 => ((spec_l04DrawWal.f k bt715.1 bt715.2.1 bt715.2.2 l0).bind fun bt719 => ((spec_l01Below.f bt715.1 bt719.2.1 bt719.2.2 5).bind fun bt728 => (spec_DrawRightWal.l0 k (([] : List (List Int))) bt728.1 bt715.1 bt728.2.1 bt728.2.2 bt719.1)))) = some (r1, r2, r3) := h
 clear h
 replace H := Option.bind_eq_some_iff.mp H
 obtain ⟨⟨t715, t716, t717⟩, A20, H⟩ := H
 replace H : ((spec_l04DrawWal.f k t715 t716 t717 l0).bind fun bt719 => ((spec_l01Below.f t715 bt719.2.1 bt719.2.2 5).bind fun bt728 => (spec_DrawRightWal.l0 k (([] : List (List Int))) bt728.1 t715 bt728.2.1 bt728.2.2 bt719.1))) = some (r1, r2, r3) := H
 have A2 := Zh A20
 clear A20
 replace H := Option.bind_eq_some_iff.mp H
 obtain ⟨⟨t719, t722, t723⟩, A30, H⟩ := H
 replace H : ((spec_l01Below.f t715 t722 t723 5).bind fun bt728 => (spec_DrawRightWal.l0 k (([] : List (List Int))) bt728.1 t715 bt728.2.1 bt728.2.2 t719)) = some (r1, r2, r3) := H
 have A3 := Zh A30
 clear A30
 obtain ⟨y725, hy725⟩ : ∃ y_ : List (List Int), y_ = (([] : List (List Int))) := ⟨_, rfl⟩
 replace H : ((spec_l01Below.f t715 t722 t723 5).bind fun bt728 => (spec_DrawRightWal.l0 k y725 bt728.1 t715 bt728.2.1 bt728.2.2 t719)) = some (r1, r2, r3) := by first | (rw [hy725]; with_reducible exact H) | (have H2_ := (Option.bind_some _ _).symm.trans H; rw [hy725]; with_reducible exact H2_) | (have H2_ := (Option.bind_some _ _).symm.trans H; with_reducible exact H2_) | with_reducible exact H | (rw [hy725]; exact H) | exact H
 have Ny725 := Zh hy725
 clear hy725
 replace H := Option.bind_eq_some_iff.mp H
 obtain ⟨⟨t728, t729, t730⟩, A40, H⟩ := H
 replace H : (spec_DrawRightWal.l0 k y725 t728 t715 t729 t730 t719) = some (r1, r2, r3) := H
 have A4 := Zh A40
 clear A40
 have H' := Zh H
 clear H
 go_enter Tryd.func35, Tryd.ntmps35
 go_wp2_with (first | ((with_reducible refine gate_dst (N := 2) rfl ?_); refine box_event ?hg (N := 2) ?hd (cs := #[.slice none 0 0]) (t := 28) ?hr ?_; (case hd => rfl); (case hg => rfl); (case hr => first | (go_simp; done) | (go_simp; rfl)); intro gb714 hg w5 hbox hb; have BK714 := Zh (hbox); have GW714 := Zh ((by rw [hg]; exact (below_size Zs) : w.heap.size ≤ gb714)); have GE714 := Zh ((by rw [hg]; exact (below_size Zs) : w.heap.size ≤ gb714)); replace HB := Zh (Zl Zs hb); clear hb hbox hg) | ((with_reducible refine gate_callee (f := 68) rfl ?_); refine ZG (some 10) Tryd.func68 #[.slice A0 l0.length c0] rfl ?_; (with_reducible refine (spec_l01New.calls k _ _ l0 t715 t716 t717 w _ ?side1 ?side2 ?side3 A2.out).mono ?_); (case side1 => repeat (first | (with_reducible first | exact HB.out | apply Zf | apply Zd | apply Ze | refine Zg ?_ GE714.out) | exact HB.out)); (case side2 => exact HR0.out); (case side3 => exact HC0.out); rintro e w6 ⟨g718, rfl, hi, hb, hb2⟩; refine ⟨_, rfl, ?_⟩; replace HB := Zh (hb); have HI718 := Zh (hi); have NB718_714 := Zh (IsS99.ne_blk hi (Zm (g := gb714) (o := .cells #[.slice none 0 0] 28 (0, 0)) Zk hb2) (by decide)); have NB714_718 := Zh (Ne.symm (IsS99.ne_blk hi (Zm (g := gb714) (o := .cells #[.slice none 0 0] 28 (0, 0)) Zk hb2) (by decide))); replace BK714 := Zh (Zm (g := gb714) (o := .cells #[.slice none 0 0] 28 (0, 0)) Zk hb2); (try clear hb); (try clear hb2); (try clear hk); (try clear hi)) | ((with_reducible refine gate_callee (f := 69) rfl ?_); refine ZG (some 13) Tryd.func69 #[.pointer (some ⟨g718, 0, none⟩), .slice A0 l0.length c0] rfl ?_; (with_reducible refine (spec_l04DrawWal.calls k g718 t715 t716 t717 _ _ l0 t719 t722 t723 w _ ?side1 ?side2 ?side3 ?side4 ?side5 A3.out).mono ?_); (case side1 => repeat (first | (with_reducible first | exact HI718.out | apply IsS99.alloc | apply IsS99.drewN | apply IsS99.drew | apply IsS99.set_1 | apply IsS99.set_2 | refine IsS99.far ?_ NB718_714.out _) | exact HI718.out)); (case side2 => repeat (first | (with_reducible first | exact HB.out | apply Zf | apply Zd | apply Ze | refine Zg ?_ (IsS99.ge HI718.out) | refine Zg ?_ GE714.out) | exact HB.out)); (case side3 => repeat (first | exact (C_below HR0.out HB.out) | (with_reducible refine C_alloc ?_ _) | (with_reducible refine C_drewN ?_ _) | (with_reducible refine C_drew ?_))); (case side4 => exact HC0.out); (case side5 => exact Kd.far_C 0 HR0.out (IsS99.ge HI718.out)); rintro e w7 ⟨v720, rfl, ho0, hi, hb, hk⟩; refine ⟨_, rfl, ?_⟩; replace BK714 := Zh (KeepBut.blk hk (g' := gb714) (o := .cells #[.slice none 0 0] 28 (0, 0)) Zk NB714_718.out (by simp)); have HO721 := Zh (S_lower ho0 (below_size (by repeat (first | (with_reducible first | exact HB.out | apply Zf | apply Zd | apply Ze | refine Zg ?_ (IsS99.ge HI718.out) | refine Zg ?_ GE714.out) | exact HB.out)))); replace HB := Zh (hb); replace HI718 := Zh (hi); (try clear hb); (try clear hb2); (try clear hk); (try clear hi); (try clear ho0)) | ((with_reducible refine gate_dst (N := 6) rfl ?_); refine box_event ?hg (N := 6) ?hd (cs := #[.slice none 0 0]) (t := 28) ?hr ?_; (case hd => rfl); (case hg => rfl); (case hr => first | (go_simp; done) | (go_simp; rfl)); intro gb724 hg w8 hbox hb; replace HO721 := Zh (S_below (ZS HO721.out) hb); have BK724 := Zh (hbox); have GW724 := Zh ((by rw [hg]; exact (below_size (by repeat (first | (with_reducible first | exact HB.out | apply Zf | apply Zd | apply Ze | refine Zg ?_ (IsS99.ge HI718.out) | refine Zg ?_ GE714.out) | exact HB.out))) : w.heap.size ≤ gb724)); have GE724 := Zh ((by rw [hg]; exact (below_size (by repeat (first | (with_reducible first | exact HB.out | apply Zf | apply Zd | apply Ze | refine Zg ?_ (IsS99.ge HI718.out) | refine Zg ?_ GE714.out) | exact HB.out))) : w.heap.size ≤ gb724)); replace HB := Zh (Zl (by repeat (first | (with_reducible first | exact HB.out | apply Zf | apply Zd | apply Ze | refine Zg ?_ (IsS99.ge HI718.out) | refine Zg ?_ GE714.out) | exact HB.out)) hb); have NB714_724 := Zh ((by rw [hg]; exact Nat.ne_of_lt (blk_lt (g := gb714) (o := .cells #[.slice none 0 0] 28 (0, 0)) Zk) : gb714 ≠ gb724)); have NB724_714 := Zh ((by rw [hg]; exact Nat.ne_of_gt (blk_lt (g := gb714) (o := .cells #[.slice none 0 0] 28 (0, 0)) Zk) : gb724 ≠ gb714)); replace BK714 := Zh (Zm (g := gb714) (o := .cells #[.slice none 0 0] 28 (0, 0)) Zk hb); have NB718_724 := Zh ((by rw [hg]; exact Nat.ne_of_lt (IsS99.lt (show IsS99 w _ g718 t715 t722 t723 from by repeat (first | (with_reducible first | exact HI718.out | apply IsS99.alloc | apply IsS99.drewN | apply IsS99.drew | apply IsS99.set_1 | apply IsS99.set_2 | refine IsS99.far ?_ NB718_714.out _) | exact HI718.out))) : g718 ≠ gb724)); have NB724_718 := Zh ((by rw [hg]; exact Nat.ne_of_gt (IsS99.lt (show IsS99 w _ g718 t715 t722 t723 from by repeat (first | (with_reducible first | exact HI718.out | apply IsS99.alloc | apply IsS99.drewN | apply IsS99.drew | apply IsS99.set_1 | apply IsS99.set_2 | refine IsS99.far ?_ NB718_714.out _) | exact HI718.out))) : gb724 ≠ g718)); replace HI718 := Zh (IsS99.below (by repeat (first | (with_reducible first | exact HI718.out | apply IsS99.alloc | apply IsS99.drewN | apply IsS99.drew | apply IsS99.set_1 | apply IsS99.set_2 | refine IsS99.far ?_ NB718_714.out _) | exact HI718.out)) hb); clear hb hbox hg; obtain ⟨Ao9, co9, eo9⟩ := S_slice HO721.out; subst eo9; have hnb10 := NB724_714.out; have hnc10 := NB714_724.out; have hnb11 := NB724_718.out; have hnc11 := NB718_724.out; have hcz12_0 : w8.cell? ⟨gb724, 0, none⟩ = some (.slice none 0 0) := (blk_cell BK724.out 0).trans rfl; have hfz12_0 := Zn BK724.out 0) | ((with_reducible refine gate_dst (N := 14) rfl ?_); refine S_lit (Kd.slice 5 (Kd.int .u8)) _ 41 ?hg (N := 14) ?hd (xs := ([] : List (List Int))) (inner := []) (ok := fun _ => True) (okp := fun _ => True) ?hr ?hp (fun _ hk => hk) trivial (Below.refl _ _) (Nat.le_refl _) (by simp) ?_; (case hd => rfl); (case hg => rfl); (case hr => first | (go_simp; done) | (go_simp; rfl)); (case hp => exact (Reps.none _ _)); intro v726 w13 ho14 hb hg_ hnew_; clear hg_ hnew_; (first | rw [← Ny725.out] at ho14 | (simp only [Int.reduceToNat] at ho14; rw [← Ny725.out] at ho14)); replace HO721 := Zh (S_below (ZS (S_mono (S_far (p := ⟨gb724, 0, none⟩) (S_types HO721.out BK724.out (by decide)) (fun _ hk => hk.2) (.slice Ao9 t719.length co9)) (fun _ h_ => h_.1))) hb); have HO727 := Zh (S_lower ho14 (below_size (by repeat (first | (with_reducible first | exact HB.out | apply Zf | apply Zd | apply Ze | refine Zg ?_ (IsS99.ge HI718.out) | refine Zg ?_ GE714.out | refine Zg ?_ GE724.out) | exact HB.out)))); replace BK714 := Zh (Zm (g := gb714) (o := .cells #[.slice none 0 0] 28 (0, 0)) (by (with_reducible repeat (first | refine Za ?_ _ | refine Zb ?_ | refine blk_alloc ?_ _)); refine blk_far ?_ NB714_724.out _; (with_reducible repeat (first | refine Za ?_ _ | refine Zb ?_ | refine blk_alloc ?_ _)); exact BK714.out) hb); replace BK724 := Zh (Zm (g := gb724) (o := .cells #[.slice Ao9 t719.length co9] 28 (0, 0)) (by (with_reducible repeat (first | refine Za ?_ _ | refine Zb ?_ | refine blk_alloc ?_ _)); refine blk_put (cs := #[.slice none 0 0]) ?_ 0 _ rfl; (with_reducible repeat (first | refine Za ?_ _ | refine Zb ?_ | refine blk_alloc ?_ _)); exact BK724.out) hb); replace HB := Zh (Zl (by repeat (first | (with_reducible first | exact HB.out | apply Zf | apply Zd | apply Ze | refine Zg ?_ (IsS99.ge HI718.out) | refine Zg ?_ GE714.out | refine Zg ?_ GE724.out) | exact HB.out)) hb); replace HI718 := Zh (IsS99.below (show IsS99 w (w8.setCell ⟨gb724, 0, none⟩ (.slice Ao9 t719.length co9)) g718 t715 t722 t723 from by repeat (first | (with_reducible first | exact HI718.out | apply IsS99.alloc | apply IsS99.drewN | apply IsS99.drew | apply IsS99.set_1 | apply IsS99.set_2 | refine IsS99.far ?_ NB718_714.out _ | refine IsS99.far ?_ NB718_724.out _) | exact HI718.out)) hb); clear hb ho14) | ((with_reducible refine gate_callee (f := 70) rfl ?_); refine ZG (some 16) Tryd.func70 #[.pointer (some ⟨g718, 0, none⟩), .int .i64 5] rfl ?_; (with_reducible refine (spec_l01Below.calls g718 t715 t722 t723 5 t728 t729 t730 w _ ?side1 ?side2 A4.out).mono ?_); (case side1 => repeat (first | (with_reducible first | exact HI718.out | apply IsS99.alloc | apply IsS99.drewN | apply IsS99.drew | apply IsS99.set_1 | apply IsS99.set_2 | refine IsS99.far ?_ NB718_714.out _ | refine IsS99.far ?_ NB718_724.out _) | exact HI718.out)); (case side2 => repeat (first | (with_reducible first | exact HB.out | apply Zf | apply Zd | apply Ze | refine Zg ?_ (IsS99.ge HI718.out) | refine Zg ?_ GE714.out | refine Zg ?_ GE724.out) | exact HB.out)); rintro e w15 ⟨rfl, hi, hb, hk⟩; refine ⟨_, rfl, ?_⟩; replace BK714 := Zh (KeepBut.blk hk (g' := gb714) (o := .cells #[.slice none 0 0] 28 (0, 0)) Zk NB714_718.out (by simp)); replace HO721 := Zh (S_mono (S_keep (IsS99.apartS (show IsS99 w _ g718 t715 t722 t723 from by repeat (first | (with_reducible first | exact HI718.out | apply IsS99.alloc | apply IsS99.drewN | apply IsS99.drew | apply IsS99.set_1 | apply IsS99.set_2 | refine IsS99.far ?_ NB718_714.out _ | refine IsS99.far ?_ NB718_724.out _) | exact HI718.out)) (ZS HO721.out) (by decide)) hk (fun _ h => h.2)) (fun _ h => h.1)); replace BK724 := Zh (KeepBut.blk hk (g' := gb724) (o := .cells #[.slice Ao9 t719.length co9] 28 (0, 0)) Zk NB724_718.out (by simp)); replace HO727 := Zh (S_mono (S_keep (IsS99.apartS (show IsS99 w _ g718 t715 t722 t723 from by repeat (first | (with_reducible first | exact HI718.out | apply IsS99.alloc | apply IsS99.drewN | apply IsS99.drew | apply IsS99.set_1 | apply IsS99.set_2 | refine IsS99.far ?_ NB718_714.out _ | refine IsS99.far ?_ NB718_724.out _) | exact HI718.out)) (ZS HO727.out) (by decide)) hk (fun _ h => h.2)) (fun _ h => h.1)); replace HB := Zh (hb); replace HI718 := Zh (hi); (try clear hb); (try clear hb2); (try clear hk); (try clear hi)))
 go_loopg [7, 8] k (fun kq v7 v8 w' => ∃ (x7_1 : List (List Int)) (x8_1 : Int) (x719001_1 : Int) (x719002_1 : Int), v8 = .int .i64 x8_1 ∧ Aside0 (spec_DrawRightWal.l0 kq x7_1 x8_1 t715 x719001_1 x719002_1 t719 = some (r1, r2, r3)) ∧ Aside0 (kq ≤ k) ∧ Aside0 (Kd.S (Kd.slice 5 (Kd.int .u8)) 41 w' w.heap.size (fun _ => True) v7 x7_1) ∧ Aside0 (Kd.S k55 55 w' w.heap.size (fun _ => True) (.slice Ao9 t719.length co9) t719) ∧ Aside0 (w'.heap[gb714]? = some (.cells #[(.slice none 0 0)] 28 (0, 0))) ∧ Aside0 (w'.heap[gb724]? = some (.cells #[(.slice Ao9 t719.length co9)] 28 (0, 0))) ∧ Aside0 (IsS99 w w' g718 t715 x719001_1 x719002_1) ∧ Aside0 (Below w.heap.size w w'))
 case atStart => exact ⟨(y725), (t728), (t729), (t730), (by first | rfl | (simp; done) | (simp [*]; done)), H', ⟨Nat.le_refl _⟩, ⟨ZS HO727.out⟩, ⟨ZS HO721.out⟩, ⟨Zk⟩, ⟨Zk⟩, ⟨by repeat (first | (with_reducible first | exact HI718.out | apply IsS99.alloc | apply IsS99.drewN | apply IsS99.drew | apply IsS99.set_1 | apply IsS99.set_2 | refine IsS99.far ?_ NB718_714.out _ | refine IsS99.far ?_ NB718_724.out _) | exact HI718.out)⟩, ⟨by repeat (first | (with_reducible first | exact HB.out | apply Zf | apply Zd | apply Ze | refine Zg ?_ (IsS99.ge HI718.out) | refine Zg ?_ GE714.out | refine Zg ?_ GE724.out) | exact HB.out)⟩⟩
 case round =>
  clear H'
  try clear c1
  try clear p2
  try clear c3
  try clear c6
  try clear c7
  try clear c10
  try clear c11
  try clear hcz12_0
  try clear hfz12_0
  obtain ⟨x7_1, x8_1, x719001_1, x719002_1, rfl, HA, HK1, HO_7, HO_725000, BK714, BK724, HI718, HB⟩ := hrel
  cases gk with
  | zero => exact absurd HA.out (by simp [spec_DrawRightWal.l0])
  | succ k1 =>
   have H := HA.out
   clear HA
   simp only [spec_DrawRightWal.l0] at H
   by_cases c16 : x8_1 > 0
   ·
    rw [if_pos c16] at H
    have c16b0 : decide (0 < x8_1) = true := decide_eq_true c16
    clear c16
    replace H := Option.bind_eq_some_iff.mp H
    obtain ⟨⟨t731, t732, t733⟩, A170, H⟩ := H
    replace H : ((spec_l01DrawBytes.f k1 t715 t732 t733 (wrap64 (1 + t731))).bind fun bt734 => (if x7_1.length < 5864062014805 then (spec_DrawRightWal.l0 k1 (x7_1 ++ [bt734.1]) (wrap64 (x8_1 - 1)) t715 bt734.2.1 bt734.2.2 t719) else (none))) = some (r1, r2, r3) := H
    have A17 := Zh A170
    clear A170
    replace H := Option.bind_eq_some_iff.mp H
    obtain ⟨⟨t734, t737, t738⟩, A180, H⟩ := H
    replace H : (if x7_1.length < 5864062014805 then (spec_DrawRightWal.l0 k1 (x7_1 ++ [t734]) (wrap64 (x8_1 - 1)) t715 t737 t738 t719) else (none)) = some (r1, r2, r3) := H
    have A18 := Zh A180
    clear A180
    by_cases c19 : x7_1.length < 5864062014805
    ·
     rw [if_pos c19] at H
     have LMc19 := Zh c19
     clear c19
     obtain ⟨y739, hy739⟩ : ∃ y_ : List (List Int), y_ = (x7_1 ++ [t734]) := ⟨_, rfl⟩
     replace H : (spec_DrawRightWal.l0 k1 y739 (wrap64 (x8_1 - 1)) t715 t737 t738 t719) = some (r1, r2, r3) := by first | (rw [hy739]; with_reducible exact H) | (have H2_ := (Option.bind_some _ _).symm.trans H; rw [hy739]; with_reducible exact H2_) | (have H2_ := (Option.bind_some _ _).symm.trans H; with_reducible exact H2_) | with_reducible exact H | (rw [hy739]; exact H) | exact H
     have Ny739 := Zh hy739
     clear hy739
     have H' := Zh H
     clear H
     go_wp2_with (first | ((with_reducible refine gate_callee (f := 70) rfl ?_); refine ZG (some 24) Tryd.func70 #[.pointer (some ⟨g718, 0, none⟩), .int .i64 5] rfl ?_; (with_reducible refine (spec_l01Below.calls g718 t715 x719001_1 x719002_1 5 t731 t732 t733 w _ ?side1 ?side2 A17.out).mono ?_); (case side1 => repeat (first | (with_reducible first | exact HI718.out | apply IsS99.alloc | apply IsS99.drewN | apply IsS99.drew | apply IsS99.set_1 | apply IsS99.set_2 | refine IsS99.far ?_ NB718_714.out _ | refine IsS99.far ?_ NB718_724.out _) | exact HI718.out)); (case side2 => repeat (first | (with_reducible first | exact HB.out | apply Zf | apply Zd | apply Ze | refine Zg ?_ (IsS99.ge HI718.out) | refine Zg ?_ GE714.out | refine Zg ?_ GE724.out) | exact HB.out)); rintro e w20 ⟨rfl, hi, hb, hk⟩; refine ⟨_, rfl, ?_⟩; replace HO_7 := Zh (S_mono (S_keep (IsS99.apartS (show IsS99 w _ g718 t715 x719001_1 x719002_1 from by repeat (first | (with_reducible first | exact HI718.out | apply IsS99.alloc | apply IsS99.drewN | apply IsS99.drew | apply IsS99.set_1 | apply IsS99.set_2 | refine IsS99.far ?_ NB718_714.out _ | refine IsS99.far ?_ NB718_724.out _) | exact HI718.out)) (ZS HO_7.out) (by decide)) hk (fun _ h => h.2)) (fun _ h => h.1)); replace HO_725000 := Zh (S_mono (S_keep (IsS99.apartS (show IsS99 w _ g718 t715 x719001_1 x719002_1 from by repeat (first | (with_reducible first | exact HI718.out | apply IsS99.alloc | apply IsS99.drewN | apply IsS99.drew | apply IsS99.set_1 | apply IsS99.set_2 | refine IsS99.far ?_ NB718_714.out _ | refine IsS99.far ?_ NB718_724.out _) | exact HI718.out)) (ZS HO_725000.out) (by decide)) hk (fun _ h => h.2)) (fun _ h => h.1)); replace BK714 := Zh (KeepBut.blk hk (g' := gb714) (o := .cells #[.slice none 0 0] 28 (0, 0)) Zk NB714_718.out (by simp)); replace BK724 := Zh (KeepBut.blk hk (g' := gb724) (o := .cells #[.slice Ao9 t719.length co9] 28 (0, 0)) Zk NB724_718.out (by simp)); replace HB := Zh (hb); replace HI718 := Zh (hi); (try clear hb); (try clear hb2); (try clear hk); (try clear hi)) | ((with_reducible refine gate_callee (f := 71) rfl ?_); refine ZG (some 26) Tryd.func71 #[.pointer (some ⟨g718, 0, none⟩), .int .i64 (wrap64 (1 + t731))] rfl ?_; (with_reducible refine (spec_l01DrawBytes.calls k1 g718 t715 t732 t733 (wrap64 (1 + t731)) t734 t737 t738 w _ ?side1 ?side2 A18.out).mono ?_); (case side1 => repeat (first | (with_reducible first | exact HI718.out | apply IsS99.alloc | apply IsS99.drewN | apply IsS99.drew | apply IsS99.set_1 | apply IsS99.set_2 | refine IsS99.far ?_ NB718_714.out _ | refine IsS99.far ?_ NB718_724.out _) | exact HI718.out)); (case side2 => repeat (first | (with_reducible first | exact HB.out | apply Zf | apply Zd | apply Ze | refine Zg ?_ (IsS99.ge HI718.out) | refine Zg ?_ GE714.out | refine Zg ?_ GE724.out) | exact HB.out)); rintro e w21 ⟨v735, rfl, ho0, hi, hb, hk⟩; refine ⟨_, rfl, ?_⟩; replace HO_7 := Zh (S_mono (S_told (S_oldK (IsS99.apartS (show IsS99 w _ g718 t715 t732 t733 from by repeat (first | (with_reducible first | exact HI718.out | apply IsS99.alloc | apply IsS99.drewN | apply IsS99.drew | apply IsS99.set_1 | apply IsS99.set_2 | refine IsS99.far ?_ NB718_714.out _ | refine IsS99.far ?_ NB718_724.out _) | exact HI718.out)) (ZS HO_7.out) (by decide)) hk) (R_base ho0)) (fun _ h_ => h_.1)); replace HO_725000 := Zh (S_mono (S_told (S_oldK (IsS99.apartS (show IsS99 w _ g718 t715 t732 t733 from by repeat (first | (with_reducible first | exact HI718.out | apply IsS99.alloc | apply IsS99.drewN | apply IsS99.drew | apply IsS99.set_1 | apply IsS99.set_2 | refine IsS99.far ?_ NB718_714.out _ | refine IsS99.far ?_ NB718_724.out _) | exact HI718.out)) (ZS HO_725000.out) (by decide)) hk) (R_base ho0)) (fun _ h_ => h_.1)); replace BK714 := Zh (KeepBut.blk hk (g' := gb714) (o := .cells #[.slice none 0 0] 28 (0, 0)) Zk NB714_718.out (by simp)); replace BK724 := Zh (KeepBut.blk hk (g' := gb724) (o := .cells #[.slice Ao9 t719.length co9] 28 (0, 0)) Zk NB724_718.out (by simp)); have HO736 := Zh (R_lower ho0 (below_size (by repeat (first | (with_reducible first | exact HB.out | apply Zf | apply Zd | apply Ze | refine Zg ?_ (IsS99.ge HI718.out) | refine Zg ?_ GE714.out | refine Zg ?_ GE724.out) | exact HB.out)))); replace HB := Zh (hb); replace HI718 := Zh (hi); (try clear hb); (try clear hb2); (try clear hk); (try clear hi); (try clear ho0); obtain ⟨Ao23, co23, eo23⟩ := R_slice HO736.out; subst eo23) | ((with_reducible refine gate_builtin (b := .append) (xs := #[.tmp 21, .tmp 27]) rfl ?_); at_builtin; refine S_append (Kd.slice 5 (Kd.int .u8)) (w0 := w) w.heap.size rfl (.tmp 21) (.tmp 27) 36 41 (.slice none 0 0) 24 rfl Tryd.underlying36 info41 rfl (by decide) (by omega) u7 x7_1 t734 [.slice Ao23 t734.length co23] (fun _ => True) (fun k_ => some k_ = (.slice Ao23 t734.length co23 : Value).ownBlock) rfl rfl ?aP (fun k_ hk_ => ((R_mono (ok' := fun k_ => ((fun _ => True)) k_ ∧ some k_ ≠ (u7 : Value).ownBlock) (R_apart' (HO736.out) (S_typed HO_7.out) (by decide)) (fun k_ hk => ⟨trivial, hk.2⟩))).1 k_ hk_.symm) ?aF ?aO ?aB ?aS ?aL ?_; (case aP => exact M_row (R_mono (R_tight rfl (R_mono (ok' := fun k_ => ((fun _ => True)) k_ ∧ some k_ ≠ (u7 : Value).ownBlock) (R_apart' (HO736.out) (S_typed HO_7.out) (by decide)) (fun k_ hk => ⟨trivial, hk.2⟩))) (fun _ h_ => h_))); (case aB => exact (by repeat (first | (with_reducible first | exact HB.out | apply Zf | apply Zd | apply Ze | refine Zg ?_ (IsS99.ge HI718.out) | refine Zg ?_ GE714.out | refine Zg ?_ GE724.out) | exact HB.out))); (case aF => exact (fun _ _ => trivial)); (case aO => exact (ZS (S_mono HO_7.out (fun k_ hk => ⟨trivial, fun e_ => hk.2 e_⟩)))); (case aS => exact (below_size (by repeat (first | (with_reducible first | exact HB.out | apply Zf | apply Zd | apply Ze | refine Zg ?_ (IsS99.ge HI718.out) | refine Zg ?_ GE714.out | refine Zg ?_ GE724.out) | exact HB.out)))); (case aL => have := LMc19.out; omega); intro v740 w22 ho hb hg hat; rw [← Ny739.out] at ho; have n0_ := Zh (S_over' (ZS HO_725000.out) (S_typed (ZS HO_7.out)) (by decide) hg); have n1_ := Zh (blk_grown (g := gb714) (o := .cells #[.slice none 0 0] 28 (0, 0)) Zk hg (S_ne HO_7.out BK714.out (by decide))); have n2_ := Zh (blk_grown (g := gb724) (o := .cells #[.slice Ao9 t719.length co9] 28 (0, 0)) Zk hg (S_ne HO_7.out BK724.out (by decide))); have n3_ := Zh (IsS99.grown (show IsS99 w _ g718 t715 t737 t738 from by repeat (first | (with_reducible first | exact HI718.out | apply IsS99.alloc | apply IsS99.drewN | apply IsS99.drew | apply IsS99.set_1 | apply IsS99.set_2 | refine IsS99.far ?_ NB718_714.out _ | refine IsS99.far ?_ NB718_724.out _) | exact HI718.out)) hg (IsS99.own_neS HI718.out HO_7.out (by decide))); have n4_ := Zh (hb); have n5_ := Zh (ho); clear HO_725000; clear BK714; clear BK724; clear HI718; clear HB; clear HO_7; clear HO736; have HO_725000 := n0_; have BK714 := n1_; have BK724 := n2_; have HI718 := n3_; have HB := n4_; have HO741 := n5_; clear n0_ n1_ n2_ n3_ n4_ n5_; clear ho hb hg hat))
     go_roundg k1
     case measure => have := HK1.out; omega
     case rel => exact ⟨(y739), (wrap64 (x8_1 - 1)), (t737), (t738), (by first | rfl | (simp; done) | (simp [*]; done)), H', ⟨by have := HK1.out; omega⟩, ⟨ZS HO741.out⟩, ⟨ZS (S_mono HO_725000.out (fun _ hk => trivial))⟩, ⟨Zk⟩, ⟨Zk⟩, ⟨by repeat (first | (with_reducible first | exact HI718.out | apply IsS99.alloc | apply IsS99.drewN | apply IsS99.drew | apply IsS99.set_1 | apply IsS99.set_2 | refine IsS99.far ?_ NB718_714.out _ | refine IsS99.far ?_ NB718_724.out _) | exact HI718.out)⟩, ⟨by repeat (first | (with_reducible first | exact HB.out | apply Zf | apply Zd | apply Ze | refine Zg ?_ (IsS99.ge HI718.out) | refine Zg ?_ GE714.out | refine Zg ?_ GE724.out) | exact HB.out)⟩⟩
    rw [if_neg c19] at H
    exact absurd H (by simp)
   rw [if_neg c16] at H
   have c16b0 : decide (0 < x8_1) = false := decide_eq_false c16
   clear c16
   replace H := Option.bind_eq_some_iff.mp H
   obtain ⟨⟨t742, t743, t744⟩, A240, H⟩ := H
   replace H : (some (t719, x7_1, t742)) = some (r1, r2, r3) := H
   have A24 := Zh A240
   clear A240
   simp only [Option.some.injEq, Prod.mk.injEq] at H
   obtain ⟨rfl, rfl, rfl⟩ := H
   try go_wp2
   replace HO_7 := Zh (S_drew HO_7.out)
   replace HO_725000 := Zh (S_drew HO_725000.out)
   replace BK714 := Zh (Zb BK714.out)
   replace BK724 := Zh (Zb BK724.out)
   replace HI718 := Zh (IsS99.drew HI718.out)
   replace HB := Zh (Ze HB.out)
   refine start_ (n := 7) (S := fun w' => w'.cell? ⟨gb724, 0, none⟩ = some (.slice Ao9 t719.length co9)) (ds := []) #[false, false, false, false, false, false, false] (by kernel_rfl) rfl rfl ((blk_cell BK724.out 0).trans rfl) (fun hHeld => ?_)
   generalize wr.drew = w25 at HO_7 HO_725000 BK714 BK724 HI718 HB hHeld ⊢
   refine pure_ (i := 1) (N := some 30) (v := ?_) (a' := ?_) #[false, true, false, false, false, false, false] rfl rfl (by kernel_rfl) (fun _ _ _ h => h) (Or.inl ⟨by rfl, ?_⟩) ?_ ?_
   rotate_left
   ·
    intro w'
    go_simp
    with_reducible rfl
   rotate_left
   ·
    simp only [Act.put, List.setIfInBounds_toArray, List.set_cons_zero, List.set_cons_succ, i64_w, i32_w]
    rfl
   refine pure_ (i := 2) (N := some 31) (v := ?_) (a' := ?_) #[false, true, true, false, false, false, false] rfl rfl (by kernel_rfl) (fun _ _ _ h => h) (Or.inl ⟨by rfl, ?_⟩) ?_ ?_
   rotate_left
   ·
    intro w'
    go_simp
    with_reducible rfl
   rotate_left
   ·
    simp only [Act.put, List.setIfInBounds_toArray, List.set_cons_zero, List.set_cons_succ, i64_w, i32_w]
    rfl
   refine take_ (i := 0) (N := some 29) (v := ?_) (a' := ?_) #[true, true, true, false, false, false, false] rfl rfl (by kernel_rfl) (fun _ _ _ h => h) (Or.inl ⟨by rfl, ?_⟩) hHeld ?_ ?_
   rotate_left
   ·
    intro w' s0
    go_simp
    with_reducible rfl
   rotate_left
   ·
    simp only [Act.put, List.setIfInBounds_toArray, List.set_cons_zero, List.set_cons_succ, i64_w, i32_w]
    rfl
   refine one_ (i := 3) (N := some 32) #[true, true, true, true, false, false, false] rfl rfl (by kernel_rfl) (by decide) (fun K hK => ?_)
   refine goes_ Tryd.func70 (by kernel_rfl) rfl #[.pointer (some ⟨g718, 0, none⟩), .int .i64 60] (by rfl) rfl rfl (by (try simp only [List.map_toArray, List.map_cons, List.map_nil]); first | done | rfl | (simp only [List.length_drop, List.length_take]; rfl)) ?_
   with_reducible refine (spec_l01Below.calls g718 t715 x719001_1 x719002_1 60 t742 t743 t744 w _ ?side1 ?side2 A24.out).mono ?_
   (case side1 => repeat (first | (with_reducible first | exact HI718.out | apply IsS99.alloc | apply IsS99.drewN | apply IsS99.drew | apply IsS99.set_1 | apply IsS99.set_2 | refine IsS99.far ?_ NB718_714.out _ | refine IsS99.far ?_ NB718_724.out _) | exact HI718.out))
   (case side2 => repeat (first | (with_reducible first | exact HB.out | apply Zf | apply Zd | apply Ze | refine Zg ?_ (IsS99.ge HI718.out) | refine Zg ?_ GE714.out | refine Zg ?_ GE724.out) | exact HB.out))
   rintro e w26 ⟨rfl, hi, hb, hk⟩
   refine ⟨_, rfl, ?_⟩
   replace HO_7 := Zh (S_mono (S_keep (IsS99.apartS (show IsS99 w _ g718 t715 x719001_1 x719002_1 from by repeat (first | (with_reducible first | exact HI718.out | apply IsS99.alloc | apply IsS99.drewN | apply IsS99.drew | apply IsS99.set_1 | apply IsS99.set_2 | refine IsS99.far ?_ NB718_714.out _ | refine IsS99.far ?_ NB718_724.out _) | exact HI718.out)) (ZS HO_7.out) (by decide)) hk (fun _ h => h.2)) (fun _ h => h.1))
   replace HO_725000 := Zh (S_mono (S_keep (IsS99.apartS (show IsS99 w _ g718 t715 x719001_1 x719002_1 from by repeat (first | (with_reducible first | exact HI718.out | apply IsS99.alloc | apply IsS99.drewN | apply IsS99.drew | apply IsS99.set_1 | apply IsS99.set_2 | refine IsS99.far ?_ NB718_714.out _ | refine IsS99.far ?_ NB718_724.out _) | exact HI718.out)) (ZS HO_725000.out) (by decide)) hk (fun _ h => h.2)) (fun _ h => h.1))
   replace BK714 := Zh (KeepBut.blk hk (g' := gb714) (o := .cells #[.slice none 0 0] 28 (0, 0)) Zk NB714_718.out (by simp))
   replace BK724 := Zh (KeepBut.blk hk (g' := gb724) (o := .cells #[.slice Ao9 t719.length co9] 28 (0, 0)) Zk NB724_718.out (by simp))
   replace HB := Zh (hb)
   replace HI718 := Zh (hi)
   (try clear hb)
   (try clear hb2)
   (try clear hk)
   (try clear hi)
   refine hK.out _ _ ((blk_cell BK724.out 0).trans rfl) (fun hHeld => ?_)
   clear hK K
   refine norm_ (a' := ?_) ?_ ?_
   rotate_left
   ·
    show Act.put _ (some 32) _ = _
    simp only [Act.put, List.setIfInBounds_toArray, List.set_cons_zero, List.set_cons_succ, i64_w, i32_w]
    rfl
   refine one_ (i := 4) (N := none) #[true, true, true, true, true, false, false] rfl rfl (by kernel_rfl) (by decide) (fun K hK => ?_)
   have hs27 : w26.cell? ⟨gb714, 0, none⟩ = some (.slice none 0 0) := (blk_cell BK714.out 0).trans rfl
   have hfs27 := Zn BK714.out 0
   have hns27_1 := NB724_714.out
   have hms27_1 := NB714_724.out
   refine skip_ (w1 := ?_) (by rfl) rfl ?_ ?_
   rotate_left
   ·
    go_simp
    rfl
   refine hK.out _ _ (((cell_far (p := ⟨gb714, _, none⟩) NB724_714.out _).trans (hHeld))) (fun hHeld => ?_)
   clear hK K
   refine pure_ (i := 5) (N := some 3) (v := ?_) (a' := ?_) #[true, true, true, true, true, true, false] rfl rfl (by kernel_rfl) (fun _ _ _ h => h) (Or.inl ⟨by rfl, ?_⟩) ?_ ?_
   rotate_left
   ·
    intro w'
    go_simp
    with_reducible rfl
   rotate_left
   ·
    simp only [Act.put, List.setIfInBounds_toArray, List.set_cons_zero, List.set_cons_succ, i64_w, i32_w]
    rfl
   refine pure_ (i := 6) (N := some 4) (v := ?_) (a' := ?_) #[true, true, true, true, true, true, true] rfl rfl (by kernel_rfl) (fun _ _ _ h => h) (Or.inl ⟨by rfl, ?_⟩) ?_ ?_
   rotate_left
   ·
    intro w'
    go_simp
    with_reducible rfl
   rotate_left
   ·
    simp only [Act.put, List.setIfInBounds_toArray, List.set_cons_zero, List.set_cons_succ, i64_w, i32_w]
    rfl
   refine done_ (by kernel_rfl) ?_
   try go_wp2
   refine Zq (results_ctt rfl _ _ gb714 28 #[.slice Ao9 t719.length co9] (0, 0) _ rfl (by (with_reducible repeat (first | refine Za ?_ _ | refine Zb ?_ | refine blk_alloc ?_ _)); refine blk_put (cs := #[.slice none 0 0]) ?_ 0 _ rfl; (with_reducible repeat (first | refine Za ?_ _ | refine Zb ?_ | refine blk_alloc ?_ _)); exact BK714.out) Tryd.underlying28 rfl (by kernel_rfl)) rfl ?_
   exact ⟨_, _, ZE, ZS (S_mono (S_far (p := ⟨gb714, 0, none⟩) (S_types HO_725000.out BK714.out (by decide)) (fun _ hk => hk.2) (.slice Ao9 t719.length co9)) (fun _ hk => trivial)), ZS (S_mono (S_far (p := ⟨gb714, 0, none⟩) (S_types HO_7.out BK714.out (by decide)) (fun _ hk => hk.2) (.slice Ao9 t719.length co9)) (fun _ hk => trivial)), by repeat (first | (with_reducible first | exact HB.out | apply Zf | apply Zd | apply Ze | refine Zg ?_ (IsS99.ge HI718.out) | refine Zg ?_ GE714.out | refine Zg ?_ GE724.out) | exact HB.out)⟩
def laws_samePayloads.l0 : Nat → List (List Int) → List (List Int) → Int → Option (Bool)
 | 0, _, _, _ => none
 | k + 1, x0, x1, x5 => if x5 < (x0.length : Int) then (if 0 ≤ x5 then (if x5 < (x1.length : Int) then (if (strOfNums (rd_L2 x0 x5)).toList = (strOfNums (rd_L2 x1 x5)).toList then (laws_samePayloads.l0 k x0 x1 (wrap64 (x5 + 1))) else (some false)) else (none)) else (none)) else (some true)
def laws_samePayloads.f (k : Nat) (l0 : List (List Int)) (l1 : List (List Int)) : Option (Bool) := if (l0.length : Int) = (l1.length : Int) then (laws_samePayloads.l0 k l0 l1 0) else (some false)
set_option maxHeartbeats 8000000 in
set_option maxRecDepth 100000 in
theorem laws_samePayloads.calls (k : Nat) (A0 : Option Addr) (c0 : Nat) (l0 : List (List Int)) (A1 : Option Addr) (c1 : Nat) (l1 : List (List Int)) (r : Bool) (w : World) (hr0 : Kd.C (Kd.slice 5 (Kd.int .u8)) w A0 l0.length l0) (hc0 : l0.length ≤ c0) (hr1 : Kd.C (Kd.slice 5 (Kd.int .u8)) w A1 l1.length l1) (hc1 : l1.length ≤ c1) (h : laws_samePayloads.f k l0 l1 = some r) :
  Calls Tryd.prog 36 #[.slice A0 l0.length c0, .slice A1 l1.length c1] w fun e w' => e = .returned (.bool r) ∧ Drawn0 w w' := by
 have HR0 := Zh hr0
 have HC0 := Zh hc0
 clear hr0 hc0
 have HR1 := Zh hr1
 have HC1 := Zh hc1
 clear hr1 hc1
 have H : (if (l0.length : Int) = (l1.length : Int) then (laws_samePayloads.l0 k l0 l1 0) else (some false)) = some r := h
 clear h
 by_cases c3 : (l0.length : Int) = (l1.length : Int)
 ·
  rw [if_pos c3] at H
  have c3b0 : ((l0.length : Int) == (l1.length : Int)) = true := beq_iff_eq.mpr c3
  have c3b1 : ((l0.length : Int) != (l1.length : Int)) = false := bne_eq_false_iff_eq.mpr c3
  have c3b2 : (l0.length == l1.length) = true := by first | simpa using c3 | (simp at c3 ⊢; omega)
  clear c3
  have H' := Zh H
  clear H
  go_enter Tryd.func36, Tryd.ntmps36
  go_wp2
  repeat (go_quiet (fail); try go_wp2)
  go_loopg [5] k (fun kq v5 w' => ∃ (x5_1 : Int), v5 = .int .i64 x5_1 ∧ Aside0 (laws_samePayloads.l0 kq l0 l1 x5_1 = some r) ∧ Aside0 (kq ≤ k) ∧ Drawn0 w w')
  case atStart => exact ⟨(0), (by first | rfl | (simp; done) | (simp [*]; done)), H', ⟨Nat.le_refl _⟩, by repeat (first | exact Drawn0.refl _ | apply Drawn0.step)⟩
  case round =>
   clear H'
   try clear c1
   try clear p2
   try clear c3
   try clear c3b0
   try clear c3b1
   try clear c3b2
   obtain ⟨x5_1, rfl, HA, HK1, ⟨m1, rfl⟩⟩ := hrel
   cases gk with
   | zero => exact absurd HA.out (by simp [laws_samePayloads.l0])
   | succ k1 =>
    have H := HA.out
    clear HA
    simp only [laws_samePayloads.l0] at H
    by_cases c4 : x5_1 < (l0.length : Int)
    ·
     rw [if_pos c4] at H
     have c4b0 : decide (x5_1 < (l0.length : Int)) = true := decide_eq_true c4
     clear c4
     by_cases c5 : 0 ≤ x5_1
     ·
      rw [if_pos c5] at H
      have c5b0 : decide (0 ≤ x5_1) = true := decide_eq_true c5
      clear c5
      by_cases c6 : x5_1 < (l1.length : Int)
      ·
       rw [if_pos c6] at H
       have c6b0 : decide (x5_1 < (l1.length : Int)) = true := decide_eq_true c6
       clear c6
       by_cases c7 : (strOfNums (rd_L2 l0 x5_1)).toList = (strOfNums (rd_L2 l1 x5_1)).toList
       ·
        rw [if_pos c7] at H
        have c7b0 : ((strOfNums (rd_L2 l0 x5_1)).toList == (strOfNums (rd_L2 l1 x5_1)).toList) = true := beq_iff_eq.mpr c7
        have c7b1 : ((strOfNums (rd_L2 l0 x5_1)).toList != (strOfNums (rd_L2 l1 x5_1)).toList) = false := bne_eq_false_iff_eq.mpr c7
        clear c7
        have H' := Zh H
        clear H
        have p745 : 0 ≤ (x5_1 : Int) := Zo
        have q745 : x5_1 < (l0.length : Int) := Zo
        obtain ⟨ad745, A745_0, c745_0, e745, hx745_0, hl745_0, hi745_0⟩ := at_L2 HR0.out x5_1 p745 q745
        cases e745
        have HR745_0 := Zh hi745_0
        have HC745_0 := Zh hl745_0
        clear hi745_0 hl745_0
        replace p745 := eq_true p745
        replace q745 := eq_true q745
        have hcv8 := C_string (P := Tryd.prog) (A := A745_0) (c := c745_0) Tryd.underlying41 Tryd.underlying5 Tryd.underlying9 HR745_0.out
        have hcv9 := fun (nq_ : Nat) => C_string (P := Tryd.prog) (A := A745_0) (c := c745_0) Tryd.underlying41 Tryd.underlying5 Tryd.underlying9 (C_drewN HR745_0.out nq_)
        have p746 : 0 ≤ (x5_1 : Int) := Zo
        have q746 : x5_1 < (l1.length : Int) := Zo
        obtain ⟨ad746, A746_0, c746_0, e746, hx746_0, hl746_0, hi746_0⟩ := at_L2 HR1.out x5_1 p746 q746
        cases e746
        have HR746_0 := Zh hi746_0
        have HC746_0 := Zh hl746_0
        clear hi746_0 hl746_0
        replace p746 := eq_true p746
        replace q746 := eq_true q746
        have hcv10 := C_string (P := Tryd.prog) (A := A746_0) (c := c746_0) Tryd.underlying41 Tryd.underlying5 Tryd.underlying9 HR746_0.out
        have hcv11 := fun (nq_ : Nat) => C_string (P := Tryd.prog) (A := A746_0) (c := c746_0) Tryd.underlying41 Tryd.underlying5 Tryd.underlying9 (C_drewN HR746_0.out nq_)
        go_wp2
        repeat (go_quiet (fail); try go_wp2)
        go_roundg k1
        case measure => have := HK1.out; omega
        case rel => exact ⟨(wrap64 (x5_1 + 1)), (by first | rfl | (simp; done) | (simp [*]; done)), H', ⟨by have := HK1.out; omega⟩, by repeat (first | exact Drawn0.refl _ | apply Drawn0.step)⟩
       rw [if_neg c7] at H
       have c7b0 : ((strOfNums (rd_L2 l0 x5_1)).toList == (strOfNums (rd_L2 l1 x5_1)).toList) = false := beq_eq_false_iff_ne.mpr c7
       have c7b1 : ((strOfNums (rd_L2 l0 x5_1)).toList != (strOfNums (rd_L2 l1 x5_1)).toList) = true := bne_iff_ne.mpr c7
       obtain rfl := Option.some.inj H
       have p745 : 0 ≤ (x5_1 : Int) := Zo
       have q745 : x5_1 < (l0.length : Int) := Zo
       obtain ⟨ad745, A745_0, c745_0, e745, hx745_0, hl745_0, hi745_0⟩ := at_L2 HR0.out x5_1 p745 q745
       cases e745
       have HR745_0 := Zh hi745_0
       have HC745_0 := Zh hl745_0
       clear hi745_0 hl745_0
       replace p745 := eq_true p745
       replace q745 := eq_true q745
       have hcv12 := C_string (P := Tryd.prog) (A := A745_0) (c := c745_0) Tryd.underlying41 Tryd.underlying5 Tryd.underlying9 HR745_0.out
       have hcv13 := fun (nq_ : Nat) => C_string (P := Tryd.prog) (A := A745_0) (c := c745_0) Tryd.underlying41 Tryd.underlying5 Tryd.underlying9 (C_drewN HR745_0.out nq_)
       have p746 : 0 ≤ (x5_1 : Int) := Zo
       have q746 : x5_1 < (l1.length : Int) := Zo
       obtain ⟨ad746, A746_0, c746_0, e746, hx746_0, hl746_0, hi746_0⟩ := at_L2 HR1.out x5_1 p746 q746
       cases e746
       have HR746_0 := Zh hi746_0
       have HC746_0 := Zh hl746_0
       clear hi746_0 hl746_0
       replace p746 := eq_true p746
       replace q746 := eq_true q746
       have hcv14 := C_string (P := Tryd.prog) (A := A746_0) (c := c746_0) Tryd.underlying41 Tryd.underlying5 Tryd.underlying9 HR746_0.out
       have hcv15 := fun (nq_ : Nat) => C_string (P := Tryd.prog) (A := A746_0) (c := c746_0) Tryd.underlying41 Tryd.underlying5 Tryd.underlying9 (C_drewN HR746_0.out nq_)
       go_wp2
       repeat (go_quiet (fail); try go_wp2)
       go_ret
       exact ⟨by first | rfl | (simp; done) | (simp [*]; done), by repeat (first | exact Drawn0.refl _ | apply Drawn0.step)⟩
      rw [if_neg c6] at H
      exact absurd H (by simp)
     rw [if_neg c5] at H
     exact absurd H (by simp)
    rw [if_neg c4] at H
    have c4b0 : decide (x5_1 < (l0.length : Int)) = false := decide_eq_false c4
    clear c4
    obtain rfl := Option.some.inj H
    go_wp2
    repeat (go_quiet (fail); try go_wp2)
    go_ret
    exact ⟨by first | rfl | (simp; done) | (simp [*]; done), by repeat (first | exact Drawn0.refl _ | apply Drawn0.step)⟩
 rw [if_neg c3] at H
 have c3b0 : ((l0.length : Int) == (l1.length : Int)) = false := beq_eq_false_iff_ne.mpr c3
 have c3b1 : ((l0.length : Int) != (l1.length : Int)) = true := bne_iff_ne.mpr c3
 have c3b2 : (l0.length == l1.length) = false := by first | simpa using c3 | (simp at c3 ⊢; omega)
 obtain rfl := Option.some.inj H
 go_enter Tryd.func36, Tryd.ntmps36
 go_wp2
 repeat (go_quiet (fail); try go_wp2)
 go_ret
 exact ⟨by first | rfl | (simp; done) | (simp [*]; done), by repeat (first | exact Drawn0.refl _ | apply Drawn0.step)⟩
end Go.Proofs.YtcgojdhbphocgaaDoor.F

namespace Go.Proofs.YtcgojdhbphocgaaDoor.F
open Go.Proofs.YtcgojdhbphocgaaDoor
open Go.RowKit Go.Proofs.YtcgojdhbphocgaaDoorW.PrintWords Go.Proofs.YtcgojdhbphocgaaDoorW.PrintWords.Kd Go.Proofs.YtcgojdhbphocgaaDoorW.PrintMore.Kd Go.Proofs.YtcgojdhbphocgaaDoorW.PrintLast Go.Proofs.YtcgojdhbphocgaaDoorW.PrintMore
attribute [local go_sem] max2_int min2_int max_two min_two max_three min_three max_four min_four   -- for this text's walks alone
set_option linter.unusedVariables false
set_option linter.unusedSimpArgs false
def laws_sameDisk.l0 : Nat → Int → List (S55) → List (S55) → Option (Bool)
 | 0, _, _, _ => none
 | k + 1, x5, x829000, x830000 => if x5 < (x829000.length : Int) then (if 0 ≤ x5 then (if x5 < (x830000.length : Int) then (if ((rd_T55 x829000 x5).f0).toList = ((rd_T55 x830000 x5).f0).toList then (if (strOfNums ((rd_T55 x829000 x5).f1)).toList = (strOfNums ((rd_T55 x830000 x5).f1)).toList then (if (strOfNums ((rd_T55 x829000 x5).f2)).toList = (strOfNums ((rd_T55 x830000 x5).f2)).toList then (laws_sameDisk.l0 k (wrap64 (x5 + 1)) x829000 x830000) else (some false)) else (some false)) else (some false)) else (none)) else (none)) else (some true)
def laws_sameDisk.f (k : Nat) (l0_0 : List (S55)) (l1_0 : List (S55)) : Option (Bool) := if (l0_0.length : Int) = (l1_0.length : Int) then (laws_sameDisk.l0 k 0 l0_0 l1_0) else (some false)
def laws_sameDisk.T6 : Bool × List (List Nat × List Nat) := (true, [([], []), ([0], [0]), ([], []), ([1, 2], [1, 2]), ([3], [3]), ([], []), ([5], [5]), ([], []), ([6, 7], [6, 7]), ([8], [8]), ([], []), ([], []), ([10, 4, 0, 1, 2, 3, 4, 10, 11], [4, 10]), ([11, 9, 12, 0, 1, 2, 3, 4, 5, 6, 7, 8, 9, 10, 11, 12], [9, 11])])
def laws_sameDisk.B6 : List Nat := [0, 1, 0, 7, 15, 0, 32, 0, 224, 480, 0, 0, 3103, 8191]
theorem laws_sameDisk.tab6 : rtab .any (opsOf Tryd.f39 6) = laws_sameDisk.T6 := by kernel_rfl
theorem laws_sameDisk.bits6 : waitsOk laws_sameDisk.T6.2 laws_sameDisk.B6 = true := by kernel_rfl
set_option maxHeartbeats 8000000 in
set_option maxRecDepth 100000 in
theorem laws_sameDisk.calls (k : Nat) (A0_0 : Option Addr) (c0_0 : Nat) (l0_0 : List (S55)) (A1_0 : Option Addr) (c1_0 : Nat) (l1_0 : List (S55)) (r : Bool) (w : World) (hr0_0 : Kd.C k55 w A0_0 l0_0.length l0_0) (hc0_0 : l0_0.length ≤ c0_0) (hr1_0 : Kd.C k55 w A1_0 l1_0.length l1_0) (hc1_0 : l1_0.length ≤ c1_0) (h : laws_sameDisk.f k l0_0 l1_0 = some r) :
  Calls Tryd.prog 39 #[.agg #[.slice A0_0 l0_0.length c0_0], .agg #[.slice A1_0 l1_0.length c1_0]] w fun e w' => e = .returned (.bool r) ∧ Below w.heap.size w w' := by
 have hu28 := Tryd.underlying28
 have hu55 := Tryd.underlying55
 have HR0_0 := Zh hr0_0
 have HC0_0 := Zh hc0_0
 clear hr0_0 hc0_0
 have HR1_0 := Zh hr1_0
 have HC1_0 := Zh hc1_0
 clear hr1_0 hc1_0
 have HB := Zh (Below.refl w.heap.size w)
 have H : (if (l0_0.length : Int) = (l1_0.length : Int) then (laws_sameDisk.l0 k 0 l0_0 l1_0) else (some false)) = some r := h
 clear h
 by_cases c3 : (l0_0.length : Int) = (l1_0.length : Int)
 ·
  rw [if_pos c3] at H
  have c3b0 : ((l0_0.length : Int) == (l1_0.length : Int)) = true := beq_iff_eq.mpr c3
  have c3b1 : ((l0_0.length : Int) != (l1_0.length : Int)) = false := bne_eq_false_iff_eq.mpr c3
  have c3b2 : (l0_0.length == l1_0.length) = true := by first | simpa using c3 | (simp at c3 ⊢; omega)
  clear c3
  have H' := Zh H
  clear H
  go_enter Tryd.func39, Tryd.ntmps39
  go_wp2_with (first | ((with_reducible refine gate_dst (N := 2) rfl ?_); refine box_event ?hg (N := 2) ?hd (cs := #[.slice A0_0 l0_0.length c0_0]) (t := 28) ?hr ?_; (case hd => rfl); (case hg => rfl); (case hr => first | (go_simp; done) | (go_simp; rfl)); intro gb828 hg w4 hbox hb; have BK828 := Zh (hbox); have GW828 := Zh ((by rw [hg]; exact (below_size Zs) : w.heap.size ≤ gb828)); have GE828 := Zh ((by rw [hg]; exact (below_size Zs) : w.heap.size ≤ gb828)); replace HB := Zh (Zl Zs hb); clear hb hbox hg) | ((with_reducible refine gate_dst (N := 3) rfl ?_); refine box_event ?hg (N := 3) ?hd (cs := #[.slice A1_0 l1_0.length c1_0]) (t := 28) ?hr ?_; (case hd => rfl); (case hg => rfl); (case hr => first | (go_simp; done) | (go_simp; rfl)); intro gb829 hg w5 hbox hb; have BK829 := Zh (hbox); have GW829 := Zh ((by rw [hg]; exact (below_size Zs) : w.heap.size ≤ gb829)); have GE829 := Zh ((by rw [hg]; exact (below_size Zs) : w.heap.size ≤ gb829)); replace HB := Zh (Zl Zs hb); have NB828_829 := Zh ((by rw [hg]; exact Nat.ne_of_lt (blk_lt (g := gb828) (o := .cells #[.slice A0_0 l0_0.length c0_0] 28 (0, 0)) Zk) : gb828 ≠ gb829)); have NB829_828 := Zh ((by rw [hg]; exact Nat.ne_of_gt (blk_lt (g := gb828) (o := .cells #[.slice A0_0 l0_0.length c0_0] 28 (0, 0)) Zk) : gb829 ≠ gb828)); replace BK828 := Zh (Zm (g := gb828) (o := .cells #[.slice A0_0 l0_0.length c0_0] 28 (0, 0)) Zk hb); clear hb hbox hg; have hnb6 := NB828_829.out; have hnc6 := NB829_828.out; have hcz7_0 : w5.cell? ⟨gb828, 0, none⟩ = some (.slice A0_0 l0_0.length c0_0) := (blk_cell BK828.out 0).trans rfl; have hfz7_0 := Zn BK828.out 0; have hcz8_0 : w5.cell? ⟨gb829, 0, none⟩ = some (.slice A1_0 l1_0.length c1_0) := (blk_cell BK829.out 0).trans rfl; have hfz8_0 := Zn BK829.out 0))
  go_loopg [5] k (fun kq v5 w' => ∃ (x5_1 : Int), v5 = .int .i64 x5_1 ∧ Aside0 (laws_sameDisk.l0 kq x5_1 l0_0 l1_0 = some r) ∧ Aside0 (kq ≤ k) ∧ Aside0 (w'.heap[gb828]? = some (.cells #[(.slice A0_0 l0_0.length c0_0)] 28 (0, 0))) ∧ Aside0 (w'.heap[gb829]? = some (.cells #[(.slice A1_0 l1_0.length c1_0)] 28 (0, 0))) ∧ Aside0 (Below w.heap.size w w'))
  case atStart => exact ⟨(0), (by first | rfl | (simp; done) | (simp [*]; done)), H', ⟨Nat.le_refl _⟩, ⟨Zk⟩, ⟨Zk⟩, ⟨Zs⟩⟩
  case round =>
   clear H'
   try clear c1
   try clear p2
   try clear c3
   try clear c3b0
   try clear c3b1
   try clear c3b2
   try clear c6
   try clear hcz7_0
   try clear hcz8_0
   try clear hfz7_0
   try clear hfz8_0
   obtain ⟨x5_1, rfl, HA, HK1, BK828, BK829, HB⟩ := hrel
   cases gk with
   | zero => exact absurd HA.out (by simp [laws_sameDisk.l0])
   | succ k1 =>
    have H := HA.out
    clear HA
    simp only [laws_sameDisk.l0] at H
    by_cases c9 : x5_1 < (l0_0.length : Int)
    ·
     rw [if_pos c9] at H
     have c9b0 : decide (x5_1 < (l0_0.length : Int)) = true := decide_eq_true c9
     clear c9
     by_cases c10 : 0 ≤ x5_1
     ·
      rw [if_pos c10] at H
      have c10b0 : decide (0 ≤ x5_1) = true := decide_eq_true c10
      clear c10
      by_cases c11 : x5_1 < (l1_0.length : Int)
      ·
       rw [if_pos c11] at H
       have c11b0 : decide (x5_1 < (l1_0.length : Int)) = true := decide_eq_true c11
       clear c11
       have HX_ := Zh H
       clear H
       have hnb15 := NB828_829.out
       have hnc15 := NB829_828.out
       have hcz16_0 : wr.cell? ⟨gb828, 0, none⟩ = some (.slice A0_0 l0_0.length c0_0) := (blk_cell BK828.out 0).trans rfl
       have hfz16_0 := Zn BK828.out 0
       try go_wp2
       replace BK828 := Zh (Zb BK828.out)
       replace BK829 := Zh (Zb BK829.out)
       replace HB := Zh (Ze HB.out)
       have p830 : 0 ≤ (x5_1 : Int) := Zo
       have q830 : x5_1 < (l0_0.length : Int) := Zo
       obtain ⟨ad830, A830_1, c830_1, A830_2, c830_2, e830, hx830_0, hx830_1, hx830_2, hl830_1, hi830_1, hl830_2, hi830_2⟩ := at_T55 HR0_0.out x5_1 p830 q830
       have hw830_2 := hx830_2
       have hw830_1 := hx830_1
       have hw830_0 := hx830_0
       cases e830
       replace hx830_0 := Zc HB.out hx830_0
       replace hx830_1 := Zc HB.out hx830_1
       replace hx830_2 := Zc HB.out hx830_2
       have HR830_1 := Zh hi830_1
       have HC830_1 := Zh hl830_1
       clear hi830_1 hl830_1
       have HR830_2 := Zh hi830_2
       have HC830_2 := Zh hl830_2
       clear hi830_2 hl830_2
       replace p830 := eq_true p830
       replace q830 := eq_true q830
       have p831 : 0 ≤ (x5_1 : Int) := Zo
       have q831 : x5_1 < (l1_0.length : Int) := Zo
       obtain ⟨ad831, A831_1, c831_1, A831_2, c831_2, e831, hx831_0, hx831_1, hx831_2, hl831_1, hi831_1, hl831_2, hi831_2⟩ := at_T55 HR1_0.out x5_1 p831 q831
       have hw831_2 := hx831_2
       have hw831_1 := hx831_1
       have hw831_0 := hx831_0
       cases e831
       replace hx831_0 := Zc HB.out hx831_0
       replace hx831_1 := Zc HB.out hx831_1
       replace hx831_2 := Zc HB.out hx831_2
       have HR831_1 := Zh hi831_1
       have HC831_1 := Zh hl831_1
       clear hi831_1 hl831_1
       have HR831_2 := Zh hi831_2
       have HC831_2 := Zh hl831_2
       clear hi831_2 hl831_2
       replace p831 := eq_true p831
       replace q831 := eq_true q831
       refine start_ (n := 14) (S := fun w' => w'.cell? ⟨gb828, 0, none⟩ = some (.slice (some ad830) l0_0.length c0_0) ∧ w'.cell? ⟨gb829, 0, none⟩ = some (.slice (some ad831) l1_0.length c1_0) ∧ w'.cell? (ad830.add ((x5_1).toNat * 3)) = some (.string ((rd_T55 l0_0 x5_1).f0)) ∧ w'.cell? ⟨(ad830.add ((x5_1).toNat * 3)).block, (ad830.add ((x5_1).toNat * 3)).off + 1, none⟩ = some (.slice A830_1 ((rd_T55 l0_0 x5_1).f1).length c830_1) ∧ w'.cell? ⟨(ad830.add ((x5_1).toNat * 3)).block, (ad830.add ((x5_1).toNat * 3)).off + 2, none⟩ = some (.slice A830_2 ((rd_T55 l0_0 x5_1).f2).length c830_2) ∧ w'.cell? (ad831.add ((x5_1).toNat * 3)) = some (.string ((rd_T55 l1_0 x5_1).f0)) ∧ w'.cell? ⟨(ad831.add ((x5_1).toNat * 3)).block, (ad831.add ((x5_1).toNat * 3)).off + 1, none⟩ = some (.slice A831_1 ((rd_T55 l1_0 x5_1).f1).length c831_1) ∧ w'.cell? ⟨(ad831.add ((x5_1).toNat * 3)).block, (ad831.add ((x5_1).toNat * 3)).off + 2, none⟩ = some (.slice A831_2 ((rd_T55 l1_0 x5_1).f2).length c831_2)) (ds := []) #[false, false, false, false, false, false, false, false, false, false, false, false, false, false] (by kernel_rfl) rfl rfl ⟨(blk_cell BK828.out 0).trans rfl, (blk_cell BK829.out 0).trans rfl, ((HB.out.cell (Zi w _ hw830_0)).trans hw830_0), ((HB.out.cell (Zi w _ hw830_1)).trans hw830_1), ((HB.out.cell (Zi w _ hw830_2)).trans hw830_2), ((HB.out.cell (Zi w _ hw831_0)).trans hw831_0), ((HB.out.cell (Zi w _ hw831_1)).trans hw831_1), ((HB.out.cell (Zi w _ hw831_2)).trans hw831_2)⟩ (fun hHeld => ?_); refine with_tabW laws_sameDisk.tab6 laws_sameDisk.bits6 (fun HT_ HW_ => ?_)
       generalize wr.drew = w17 at BK828 BK829 HB HR830_1 HR830_2 HR831_1 HR831_2 hx830_0 hx830_1 hx830_2 hx831_0 hx831_1 hx831_2 hHeld ⊢
       refine SQ.pu 0 22 HT_ ?_
       refine SQ.pu 2 24 HT_ ?_
       refine SQ.pu 5 27 HT_ ?_
       refine SQ.pu 7 29 HT_ ?_
       refine SQ.tk 1 23 HT_ HW_ hHeld ?_
       refine SQ.pu 3 25 HT_ ?_
       refine SQ.tk 4 26 HT_ HW_ hHeld ?_
       refine SQ.tk 6 28 HT_ HW_ hHeld ?_
       refine SQ.pu 8 30 HT_ ?_
       refine SQ.tk 9 31 HT_ HW_ hHeld ?_
       refine join_ (σ := Nat × Nat) 2 #[true, true, true, true, true, true, true, true, true, true, true, true, false, false] (fun s_ => [(6, .pointer (some ⟨s_.1, 0, none⟩)), (7, .pointer (some ⟨s_.2, 0, none⟩))]) (fun s_ w' => (w'.cell? ⟨gb828, 0, none⟩ = some (.slice (some ad830) l0_0.length c0_0) ∧ w'.cell? ⟨gb829, 0, none⟩ = some (.slice (some ad831) l1_0.length c1_0) ∧ w'.cell? (ad830.add ((x5_1).toNat * 3)) = some (.string ((rd_T55 l0_0 x5_1).f0)) ∧ w'.cell? ⟨(ad830.add ((x5_1).toNat * 3)).block, (ad830.add ((x5_1).toNat * 3)).off + 1, none⟩ = some (.slice A830_1 ((rd_T55 l0_0 x5_1).f1).length c830_1) ∧ w'.cell? ⟨(ad830.add ((x5_1).toNat * 3)).block, (ad830.add ((x5_1).toNat * 3)).off + 2, none⟩ = some (.slice A830_2 ((rd_T55 l0_0 x5_1).f2).length c830_2) ∧ w'.cell? (ad831.add ((x5_1).toNat * 3)) = some (.string ((rd_T55 l1_0 x5_1).f0)) ∧ w'.cell? ⟨(ad831.add ((x5_1).toNat * 3)).block, (ad831.add ((x5_1).toNat * 3)).off + 1, none⟩ = some (.slice A831_1 ((rd_T55 l1_0 x5_1).f1).length c831_1) ∧ w'.cell? ⟨(ad831.add ((x5_1).toNat * 3)).block, (ad831.add ((x5_1).toNat * 3)).off + 2, none⟩ = some (.slice A831_2 ((rd_T55 l1_0 x5_1).f2).length c831_2)) ∧ (w'.heap[gb828]? = some (.cells #[.slice (some ad830) l0_0.length c0_0] 28 (0, 0))) ∧ (w'.heap[gb829]? = some (.cells #[.slice (some ad831) l1_0.length c1_0] 28 (0, 0))) ∧ (w'.heap[s_.1]? = some (.cells #[.string (⟨#[]⟩ : ByteArray), .slice none 0 0, .slice none 0 0] 55 (0, 0))) ∧ (w'.heap[s_.2]? = some (.cells #[.string (⟨#[]⟩ : ByteArray), .slice none 0 0, .slice none 0 0] 55 (0, 0))) ∧ (w.heap.size ≤ s_.1) ∧ (w.heap.size ≤ s_.1) ∧ (gb828 ≠ s_.1) ∧ (s_.1 ≠ gb828) ∧ (gb829 ≠ s_.1) ∧ (s_.1 ≠ gb829) ∧ (s_.2 ≠ s_.1) ∧ (s_.1 ≠ s_.2) ∧ (w.heap.size ≤ s_.2) ∧ (w.heap.size ≤ s_.2) ∧ (gb828 ≠ s_.2) ∧ (s_.2 ≠ gb828) ∧ (gb829 ≠ s_.2) ∧ (s_.2 ≠ gb829) ∧ (Below w.heap.size w w')) ?_ ?_
       rotate_left
       ·
        intro hCont
        refine two_ (i := 10) (j := 11) (Ni := some 6) (Nj := some 7) #[true, true, true, true, true, true, true, true, true, true, true, false, false, false] #[true, true, true, true, true, true, true, true, true, true, false, true, false, false] rfl rfl rfl rfl (two_of HT_.out (by kernel_rfl)) (by decide) (by decide) (fun K hK => ?_) (fun K hK => ?_)
        ·
         skip
         refine box_step ?hg (N := 6) ?hd (cs := #[.string (⟨#[]⟩ : ByteArray), .slice none 0 0, .slice none 0 0]) (t := 55) ?hr ?_; (case hd => rfl); (case hg => rfl); (case hr => first | (go_simp; done) | (go_simp; rfl))
         intro gb832 hg w18 hbox hb
         have BK832 := Zh (hbox)
         have GW832 := Zh ((by rw [hg]; exact (below_size Zs) : w.heap.size ≤ gb832))
         have GE832 := Zh ((by rw [hg]; exact (below_size Zs) : w.heap.size ≤ gb832))
         replace HB := Zh (Zl Zs hb)
         have NB828_832 := Zh ((by rw [hg]; exact Nat.ne_of_lt (blk_lt (g := gb828) (o := .cells #[.slice (some ad830) l0_0.length c0_0] 28 (0, 0)) Zk) : gb828 ≠ gb832))
         have NB832_828 := Zh ((by rw [hg]; exact Nat.ne_of_gt (blk_lt (g := gb828) (o := .cells #[.slice (some ad830) l0_0.length c0_0] 28 (0, 0)) Zk) : gb832 ≠ gb828))
         replace BK828 := Zh (Zm (g := gb828) (o := .cells #[.slice (some ad830) l0_0.length c0_0] 28 (0, 0)) Zk hb)
         have NB829_832 := Zh ((by rw [hg]; exact Nat.ne_of_lt (blk_lt (g := gb829) (o := .cells #[.slice (some ad831) l1_0.length c1_0] 28 (0, 0)) Zk) : gb829 ≠ gb832))
         have NB832_829 := Zh ((by rw [hg]; exact Nat.ne_of_gt (blk_lt (g := gb829) (o := .cells #[.slice (some ad831) l1_0.length c1_0] 28 (0, 0)) Zk) : gb832 ≠ gb829))
         replace BK829 := Zh (Zm (g := gb829) (o := .cells #[.slice (some ad831) l1_0.length c1_0] 28 (0, 0)) Zk hb)
         clear hb hbox hg
         refine hK.out _ _ ⟨(blk_cell BK828.out 0).trans rfl, (blk_cell BK829.out 0).trans rfl, ((HB.out.cell (Zi w _ hw830_0)).trans hw830_0), ((HB.out.cell (Zi w _ hw830_1)).trans hw830_1), ((HB.out.cell (Zi w _ hw830_2)).trans hw830_2), ((HB.out.cell (Zi w _ hw831_0)).trans hw831_0), ((HB.out.cell (Zi w _ hw831_1)).trans hw831_1), ((HB.out.cell (Zi w _ hw831_2)).trans hw831_2)⟩ (fun hHeld => ?_)
         clear hK K
         refine norm_ (a' := ?_) ?_ ?_
         rotate_left
         ·
          show Act.put _ (some 6) _ = _
          simp only [Act.put, List.setIfInBounds_toArray, List.set_cons_zero, List.set_cons_succ, i64_w, i32_w]
          rfl
         refine one_ (i := 11) (N := some 7) #[true, true, true, true, true, true, true, true, true, true, true, true, false, false] rfl rfl (one_of HT_.out (by kernel_rfl)) (by decide) (fun K hK => ?_)
         refine box_step ?hg (N := 7) ?hd (cs := #[.string (⟨#[]⟩ : ByteArray), .slice none 0 0, .slice none 0 0]) (t := 55) ?hr ?_; (case hd => rfl); (case hg => rfl); (case hr => first | (go_simp; done) | (go_simp; rfl))
         intro gb833 hg w19 hbox hb
         have BK833 := Zh (hbox)
         have GW833 := Zh ((by rw [hg]; exact (below_size Zs) : w.heap.size ≤ gb833))
         have GE833 := Zh ((by rw [hg]; exact (below_size Zs) : w.heap.size ≤ gb833))
         replace HB := Zh (Zl Zs hb)
         have NB828_833 := Zh ((by rw [hg]; exact Nat.ne_of_lt (blk_lt (g := gb828) (o := .cells #[.slice (some ad830) l0_0.length c0_0] 28 (0, 0)) Zk) : gb828 ≠ gb833))
         have NB833_828 := Zh ((by rw [hg]; exact Nat.ne_of_gt (blk_lt (g := gb828) (o := .cells #[.slice (some ad830) l0_0.length c0_0] 28 (0, 0)) Zk) : gb833 ≠ gb828))
         replace BK828 := Zh (Zm (g := gb828) (o := .cells #[.slice (some ad830) l0_0.length c0_0] 28 (0, 0)) Zk hb)
         have NB829_833 := Zh ((by rw [hg]; exact Nat.ne_of_lt (blk_lt (g := gb829) (o := .cells #[.slice (some ad831) l1_0.length c1_0] 28 (0, 0)) Zk) : gb829 ≠ gb833))
         have NB833_829 := Zh ((by rw [hg]; exact Nat.ne_of_gt (blk_lt (g := gb829) (o := .cells #[.slice (some ad831) l1_0.length c1_0] 28 (0, 0)) Zk) : gb833 ≠ gb829))
         replace BK829 := Zh (Zm (g := gb829) (o := .cells #[.slice (some ad831) l1_0.length c1_0] 28 (0, 0)) Zk hb)
         have NB832_833 := Zh ((by rw [hg]; exact Nat.ne_of_lt (blk_lt (g := gb832) (o := .cells #[.string (⟨#[]⟩ : ByteArray), .slice none 0 0, .slice none 0 0] 55 (0, 0)) Zk) : gb832 ≠ gb833))
         have NB833_832 := Zh ((by rw [hg]; exact Nat.ne_of_gt (blk_lt (g := gb832) (o := .cells #[.string (⟨#[]⟩ : ByteArray), .slice none 0 0, .slice none 0 0] 55 (0, 0)) Zk) : gb833 ≠ gb832))
         replace BK832 := Zh (Zm (g := gb832) (o := .cells #[.string (⟨#[]⟩ : ByteArray), .slice none 0 0, .slice none 0 0] 55 (0, 0)) Zk hb)
         clear hb hbox hg
         refine hK.out _ _ ⟨(blk_cell BK828.out 0).trans rfl, (blk_cell BK829.out 0).trans rfl, ((HB.out.cell (Zi w _ hw830_0)).trans hw830_0), ((HB.out.cell (Zi w _ hw830_1)).trans hw830_1), ((HB.out.cell (Zi w _ hw830_2)).trans hw830_2), ((HB.out.cell (Zi w _ hw831_0)).trans hw831_0), ((HB.out.cell (Zi w _ hw831_1)).trans hw831_1), ((HB.out.cell (Zi w _ hw831_2)).trans hw831_2)⟩ (fun hHeld => ?_)
         clear hK K
         refine norm_ (a' := ?_) ?_ ?_
         rotate_left
         ·
          show Act.put _ (some 7) _ = _
          simp only [Act.put, List.setIfInBounds_toArray, List.set_cons_zero, List.set_cons_succ, i64_w, i32_w]
          rfl
         exact norm_ (by simp only [putAll, Act.put, List.setIfInBounds_toArray, List.set_cons_zero, List.set_cons_succ]) (hCont (gb832, gb833) _ ⟨hHeld, Zk, Zk, Zk, Zk, GW832.out, GE832.out, NB828_832.out, NB832_828.out, NB829_832.out, NB832_829.out, NB833_832.out, NB832_833.out, GW833.out, GE833.out, NB828_833.out, NB833_828.out, NB829_833.out, NB833_829.out, Zs⟩)
        skip
        refine box_step ?hg (N := 7) ?hd (cs := #[.string (⟨#[]⟩ : ByteArray), .slice none 0 0, .slice none 0 0]) (t := 55) ?hr ?_; (case hd => rfl); (case hg => rfl); (case hr => first | (go_simp; done) | (go_simp; rfl))
        intro gb833 hg w18 hbox hb
        have BK833 := Zh (hbox)
        have GW833 := Zh ((by rw [hg]; exact (below_size Zs) : w.heap.size ≤ gb833))
        have GE833 := Zh ((by rw [hg]; exact (below_size Zs) : w.heap.size ≤ gb833))
        replace HB := Zh (Zl Zs hb)
        have NB828_833 := Zh ((by rw [hg]; exact Nat.ne_of_lt (blk_lt (g := gb828) (o := .cells #[.slice (some ad830) l0_0.length c0_0] 28 (0, 0)) Zk) : gb828 ≠ gb833))
        have NB833_828 := Zh ((by rw [hg]; exact Nat.ne_of_gt (blk_lt (g := gb828) (o := .cells #[.slice (some ad830) l0_0.length c0_0] 28 (0, 0)) Zk) : gb833 ≠ gb828))
        replace BK828 := Zh (Zm (g := gb828) (o := .cells #[.slice (some ad830) l0_0.length c0_0] 28 (0, 0)) Zk hb)
        have NB829_833 := Zh ((by rw [hg]; exact Nat.ne_of_lt (blk_lt (g := gb829) (o := .cells #[.slice (some ad831) l1_0.length c1_0] 28 (0, 0)) Zk) : gb829 ≠ gb833))
        have NB833_829 := Zh ((by rw [hg]; exact Nat.ne_of_gt (blk_lt (g := gb829) (o := .cells #[.slice (some ad831) l1_0.length c1_0] 28 (0, 0)) Zk) : gb833 ≠ gb829))
        replace BK829 := Zh (Zm (g := gb829) (o := .cells #[.slice (some ad831) l1_0.length c1_0] 28 (0, 0)) Zk hb)
        clear hb hbox hg
        refine hK.out _ _ ⟨(blk_cell BK828.out 0).trans rfl, (blk_cell BK829.out 0).trans rfl, ((HB.out.cell (Zi w _ hw830_0)).trans hw830_0), ((HB.out.cell (Zi w _ hw830_1)).trans hw830_1), ((HB.out.cell (Zi w _ hw830_2)).trans hw830_2), ((HB.out.cell (Zi w _ hw831_0)).trans hw831_0), ((HB.out.cell (Zi w _ hw831_1)).trans hw831_1), ((HB.out.cell (Zi w _ hw831_2)).trans hw831_2)⟩ (fun hHeld => ?_)
        clear hK K
        refine norm_ (a' := ?_) ?_ ?_
        rotate_left
        ·
         show Act.put _ (some 7) _ = _
         simp only [Act.put, List.setIfInBounds_toArray, List.set_cons_zero, List.set_cons_succ, i64_w, i32_w]
         rfl
        refine one_ (i := 10) (N := some 6) #[true, true, true, true, true, true, true, true, true, true, true, true, false, false] rfl rfl (one_of HT_.out (by kernel_rfl)) (by decide) (fun K hK => ?_)
        refine box_step ?hg (N := 6) ?hd (cs := #[.string (⟨#[]⟩ : ByteArray), .slice none 0 0, .slice none 0 0]) (t := 55) ?hr ?_; (case hd => rfl); (case hg => rfl); (case hr => first | (go_simp; done) | (go_simp; rfl))
        intro gb832 hg w19 hbox hb
        have BK832 := Zh (hbox)
        have GW832 := Zh ((by rw [hg]; exact (below_size Zs) : w.heap.size ≤ gb832))
        have GE832 := Zh ((by rw [hg]; exact (below_size Zs) : w.heap.size ≤ gb832))
        replace HB := Zh (Zl Zs hb)
        have NB828_832 := Zh ((by rw [hg]; exact Nat.ne_of_lt (blk_lt (g := gb828) (o := .cells #[.slice (some ad830) l0_0.length c0_0] 28 (0, 0)) Zk) : gb828 ≠ gb832))
        have NB832_828 := Zh ((by rw [hg]; exact Nat.ne_of_gt (blk_lt (g := gb828) (o := .cells #[.slice (some ad830) l0_0.length c0_0] 28 (0, 0)) Zk) : gb832 ≠ gb828))
        replace BK828 := Zh (Zm (g := gb828) (o := .cells #[.slice (some ad830) l0_0.length c0_0] 28 (0, 0)) Zk hb)
        have NB829_832 := Zh ((by rw [hg]; exact Nat.ne_of_lt (blk_lt (g := gb829) (o := .cells #[.slice (some ad831) l1_0.length c1_0] 28 (0, 0)) Zk) : gb829 ≠ gb832))
        have NB832_829 := Zh ((by rw [hg]; exact Nat.ne_of_gt (blk_lt (g := gb829) (o := .cells #[.slice (some ad831) l1_0.length c1_0] 28 (0, 0)) Zk) : gb832 ≠ gb829))
        replace BK829 := Zh (Zm (g := gb829) (o := .cells #[.slice (some ad831) l1_0.length c1_0] 28 (0, 0)) Zk hb)
        have NB833_832 := Zh ((by rw [hg]; exact Nat.ne_of_lt (blk_lt (g := gb833) (o := .cells #[.string (⟨#[]⟩ : ByteArray), .slice none 0 0, .slice none 0 0] 55 (0, 0)) Zk) : gb833 ≠ gb832))
        have NB832_833 := Zh ((by rw [hg]; exact Nat.ne_of_gt (blk_lt (g := gb833) (o := .cells #[.string (⟨#[]⟩ : ByteArray), .slice none 0 0, .slice none 0 0] 55 (0, 0)) Zk) : gb832 ≠ gb833))
        replace BK833 := Zh (Zm (g := gb833) (o := .cells #[.string (⟨#[]⟩ : ByteArray), .slice none 0 0, .slice none 0 0] 55 (0, 0)) Zk hb)
        clear hb hbox hg
        refine hK.out _ _ ⟨(blk_cell BK828.out 0).trans rfl, (blk_cell BK829.out 0).trans rfl, ((HB.out.cell (Zi w _ hw830_0)).trans hw830_0), ((HB.out.cell (Zi w _ hw830_1)).trans hw830_1), ((HB.out.cell (Zi w _ hw830_2)).trans hw830_2), ((HB.out.cell (Zi w _ hw831_0)).trans hw831_0), ((HB.out.cell (Zi w _ hw831_1)).trans hw831_1), ((HB.out.cell (Zi w _ hw831_2)).trans hw831_2)⟩ (fun hHeld => ?_)
        clear hK K
        refine norm_ (a' := ?_) ?_ ?_
        rotate_left
        ·
         show Act.put _ (some 6) _ = _
         simp only [Act.put, List.setIfInBounds_toArray, List.set_cons_zero, List.set_cons_succ, i64_w, i32_w]
         rfl
        exact norm_ (by simp only [putAll, Act.put, List.setIfInBounds_toArray, List.set_cons_zero, List.set_cons_succ]) (hCont (gb832, gb833) _ ⟨hHeld, Zk, Zk, Zk, Zk, GW832.out, GE832.out, NB828_832.out, NB832_828.out, NB829_832.out, NB832_829.out, NB833_832.out, NB832_833.out, GW833.out, GE833.out, NB828_833.out, NB833_828.out, NB829_833.out, NB833_829.out, Zs⟩)
       rintro ⟨gb832, gb833⟩ w20 ⟨hS_, h0_, h1_, h2_, h3_, h4_, h5_, h6_, h7_, h8_, h9_, h10_, h11_, h12_, h13_, h14_, h15_, h16_, h17_, h18_⟩
       have n0_ : Aside0 (w20.heap[gb828]? = some (.cells #[.slice (some ad830) l0_0.length c0_0] 28 (0, 0))) := ⟨h0_⟩
       have n1_ : Aside0 (w20.heap[gb829]? = some (.cells #[.slice (some ad831) l1_0.length c1_0] 28 (0, 0))) := ⟨h1_⟩
       have n2_ : Aside0 (w20.heap[gb832]? = some (.cells #[.string (⟨#[]⟩ : ByteArray), .slice none 0 0, .slice none 0 0] 55 (0, 0))) := ⟨h2_⟩
       have n3_ : Aside0 (w20.heap[gb833]? = some (.cells #[.string (⟨#[]⟩ : ByteArray), .slice none 0 0, .slice none 0 0] 55 (0, 0))) := ⟨h3_⟩
       have n4_ : Aside0 (w.heap.size ≤ gb832) := ⟨h4_⟩
       have n5_ : Aside0 (w.heap.size ≤ gb832) := ⟨h5_⟩
       have n6_ : Aside0 (gb828 ≠ gb832) := ⟨h6_⟩
       have n7_ : Aside0 (gb832 ≠ gb828) := ⟨h7_⟩
       have n8_ : Aside0 (gb829 ≠ gb832) := ⟨h8_⟩
       have n9_ : Aside0 (gb832 ≠ gb829) := ⟨h9_⟩
       have n10_ : Aside0 (gb833 ≠ gb832) := ⟨h10_⟩
       have n11_ : Aside0 (gb832 ≠ gb833) := ⟨h11_⟩
       have n12_ : Aside0 (w.heap.size ≤ gb833) := ⟨h12_⟩
       have n13_ : Aside0 (w.heap.size ≤ gb833) := ⟨h13_⟩
       have n14_ : Aside0 (gb828 ≠ gb833) := ⟨h14_⟩
       have n15_ : Aside0 (gb833 ≠ gb828) := ⟨h15_⟩
       have n16_ : Aside0 (gb829 ≠ gb833) := ⟨h16_⟩
       have n17_ : Aside0 (gb833 ≠ gb829) := ⟨h17_⟩
       have n18_ : Aside0 (Below w.heap.size w w20) := ⟨h18_⟩
       clear BK828
       clear BK829
       clear HB
       clear h0_ h1_ h2_ h3_ h4_ h5_ h6_ h7_ h8_ h9_ h10_ h11_ h12_ h13_ h14_ h15_ h16_ h17_ h18_
       have BK828 := n0_
       have BK829 := n1_
       have BK832 := n2_
       have BK833 := n3_
       have GW832 := n4_
       have GE832 := n5_
       have NB828_832 := n6_
       have NB832_828 := n7_
       have NB829_832 := n8_
       have NB832_829 := n9_
       have NB833_832 := n10_
       have NB832_833 := n11_
       have GW833 := n12_
       have GE833 := n13_
       have NB828_833 := n14_
       have NB833_828 := n15_
       have NB829_833 := n16_
       have NB833_829 := n17_
       have HB := n18_
       clear n0_ n1_ n2_ n3_ n4_ n5_ n6_ n7_ n8_ n9_ n10_ n11_ n12_ n13_ n14_ n15_ n16_ n17_ n18_
       have hHeld : w20.cell? ⟨gb828, 0, none⟩ = some (.slice (some ad830) l0_0.length c0_0) ∧ w20.cell? ⟨gb829, 0, none⟩ = some (.slice (some ad831) l1_0.length c1_0) ∧ w20.cell? (ad830.add ((x5_1).toNat * 3)) = some (.string ((rd_T55 l0_0 x5_1).f0)) ∧ w20.cell? ⟨(ad830.add ((x5_1).toNat * 3)).block, (ad830.add ((x5_1).toNat * 3)).off + 1, none⟩ = some (.slice A830_1 ((rd_T55 l0_0 x5_1).f1).length c830_1) ∧ w20.cell? ⟨(ad830.add ((x5_1).toNat * 3)).block, (ad830.add ((x5_1).toNat * 3)).off + 2, none⟩ = some (.slice A830_2 ((rd_T55 l0_0 x5_1).f2).length c830_2) ∧ w20.cell? (ad831.add ((x5_1).toNat * 3)) = some (.string ((rd_T55 l1_0 x5_1).f0)) ∧ w20.cell? ⟨(ad831.add ((x5_1).toNat * 3)).block, (ad831.add ((x5_1).toNat * 3)).off + 1, none⟩ = some (.slice A831_1 ((rd_T55 l1_0 x5_1).f1).length c831_1) ∧ w20.cell? ⟨(ad831.add ((x5_1).toNat * 3)).block, (ad831.add ((x5_1).toNat * 3)).off + 2, none⟩ = some (.slice A831_2 ((rd_T55 l1_0 x5_1).f2).length c831_2) := hS_
       refine norm_ (a' := ?_) ?_ ?_
       rotate_left
       ·
        simp only [putAll, Act.put, List.setIfInBounds_toArray, List.set_cons_zero, List.set_cons_succ]
        rfl
       refine one_ (i := 12) (N := none) #[true, true, true, true, true, true, true, true, true, true, true, true, true, false] rfl rfl (one_of HT_.out (by kernel_rfl)) (by decide) (fun K hK => ?_)
       have hs21 : w20.cell? ⟨gb832, 0, none⟩ = some (.string (⟨#[]⟩ : ByteArray)) := (blk_cell BK832.out 0).trans rfl
       have hfs21 := Zn BK832.out 0
       have hns21_0 := NB828_832.out
       have hns21_1 := NB829_832.out
       have hns21_3 := NB833_832.out
       have hms21_0 := NB832_828.out
       have hms21_1 := NB832_829.out
       have hms21_3 := NB832_833.out
       have hs22 : w20.cell? ⟨gb832, 1, none⟩ = some (.slice none 0 0) := (blk_cell BK832.out 1).trans rfl
       have hfs22 := Zn BK832.out 1
       have hns22_0 := NB828_832.out
       have hns22_1 := NB829_832.out
       have hns22_3 := NB833_832.out
       have hms22_0 := NB832_828.out
       have hms22_1 := NB832_829.out
       have hms22_3 := NB832_833.out
       have hs23 : w20.cell? ⟨gb832, 2, none⟩ = some (.slice none 0 0) := (blk_cell BK832.out 2).trans rfl
       have hfs23 := Zn BK832.out 2
       have hns23_0 := NB828_832.out
       have hns23_1 := NB829_832.out
       have hns23_3 := NB833_832.out
       have hms23_0 := NB832_828.out
       have hms23_1 := NB832_829.out
       have hms23_3 := NB832_833.out
       refine skip_ (w1 := ?_) (by rfl) rfl ?_ ?_
       rotate_left
       ·
        go_simp
        rfl
       refine hK.out _ _ ⟨((cell_far (p := ⟨gb832, _, none⟩) NB828_832.out _).trans (((cell_far (p := ⟨gb832, _, none⟩) NB828_832.out _).trans (((cell_far (p := ⟨gb832, _, none⟩) NB828_832.out _).trans (hHeld.1)))))), ((cell_far (p := ⟨gb832, _, none⟩) NB829_832.out _).trans (((cell_far (p := ⟨gb832, _, none⟩) NB829_832.out _).trans (((cell_far (p := ⟨gb832, _, none⟩) NB829_832.out _).trans (hHeld.2.1)))))), ((cell_far (p := ⟨gb832, _, none⟩) (by first | exact Nat.ne_of_lt (Nat.lt_of_lt_of_le (by have := Zi _ _ hw830_0; first | rwa [add_block] at this | exact this) GW832.out) | (rw [add_block]; exact Nat.ne_of_lt (Nat.lt_of_lt_of_le (by have := Zi _ _ hw830_0; first | rwa [add_block] at this | exact this) GW832.out)) | (show (Addr.add _ _).block ≠ _; rw [add_block]; exact Nat.ne_of_lt (Nat.lt_of_lt_of_le (by have := Zi _ _ hw830_0; first | rwa [add_block] at this | exact this) GW832.out)) | (dsimp only; exact Nat.ne_of_lt (Nat.lt_of_lt_of_le (by have := Zi _ _ hw830_0; first | rwa [add_block] at this | exact this) GW832.out))) _).trans (((cell_far (p := ⟨gb832, _, none⟩) (by first | exact Nat.ne_of_lt (Nat.lt_of_lt_of_le (by have := Zi _ _ hw830_0; first | rwa [add_block] at this | exact this) GW832.out) | (rw [add_block]; exact Nat.ne_of_lt (Nat.lt_of_lt_of_le (by have := Zi _ _ hw830_0; first | rwa [add_block] at this | exact this) GW832.out)) | (show (Addr.add _ _).block ≠ _; rw [add_block]; exact Nat.ne_of_lt (Nat.lt_of_lt_of_le (by have := Zi _ _ hw830_0; first | rwa [add_block] at this | exact this) GW832.out)) | (dsimp only; exact Nat.ne_of_lt (Nat.lt_of_lt_of_le (by have := Zi _ _ hw830_0; first | rwa [add_block] at this | exact this) GW832.out))) _).trans (((cell_far (p := ⟨gb832, _, none⟩) (by first | exact Nat.ne_of_lt (Nat.lt_of_lt_of_le (by have := Zi _ _ hw830_0; first | rwa [add_block] at this | exact this) GW832.out) | (rw [add_block]; exact Nat.ne_of_lt (Nat.lt_of_lt_of_le (by have := Zi _ _ hw830_0; first | rwa [add_block] at this | exact this) GW832.out)) | (show (Addr.add _ _).block ≠ _; rw [add_block]; exact Nat.ne_of_lt (Nat.lt_of_lt_of_le (by have := Zi _ _ hw830_0; first | rwa [add_block] at this | exact this) GW832.out)) | (dsimp only; exact Nat.ne_of_lt (Nat.lt_of_lt_of_le (by have := Zi _ _ hw830_0; first | rwa [add_block] at this | exact this) GW832.out))) _).trans (hHeld.2.2.1)))))), ((cell_far (p := ⟨gb832, _, none⟩) (by first | exact Nat.ne_of_lt (Nat.lt_of_lt_of_le (by have := Zi _ _ hw830_1; first | rwa [add_block] at this | exact this) GW832.out) | (rw [add_block]; exact Nat.ne_of_lt (Nat.lt_of_lt_of_le (by have := Zi _ _ hw830_1; first | rwa [add_block] at this | exact this) GW832.out)) | (show (Addr.add _ _).block ≠ _; rw [add_block]; exact Nat.ne_of_lt (Nat.lt_of_lt_of_le (by have := Zi _ _ hw830_1; first | rwa [add_block] at this | exact this) GW832.out)) | (dsimp only; exact Nat.ne_of_lt (Nat.lt_of_lt_of_le (by have := Zi _ _ hw830_1; first | rwa [add_block] at this | exact this) GW832.out))) _).trans (((cell_far (p := ⟨gb832, _, none⟩) (by first | exact Nat.ne_of_lt (Nat.lt_of_lt_of_le (by have := Zi _ _ hw830_1; first | rwa [add_block] at this | exact this) GW832.out) | (rw [add_block]; exact Nat.ne_of_lt (Nat.lt_of_lt_of_le (by have := Zi _ _ hw830_1; first | rwa [add_block] at this | exact this) GW832.out)) | (show (Addr.add _ _).block ≠ _; rw [add_block]; exact Nat.ne_of_lt (Nat.lt_of_lt_of_le (by have := Zi _ _ hw830_1; first | rwa [add_block] at this | exact this) GW832.out)) | (dsimp only; exact Nat.ne_of_lt (Nat.lt_of_lt_of_le (by have := Zi _ _ hw830_1; first | rwa [add_block] at this | exact this) GW832.out))) _).trans (((cell_far (p := ⟨gb832, _, none⟩) (by first | exact Nat.ne_of_lt (Nat.lt_of_lt_of_le (by have := Zi _ _ hw830_1; first | rwa [add_block] at this | exact this) GW832.out) | (rw [add_block]; exact Nat.ne_of_lt (Nat.lt_of_lt_of_le (by have := Zi _ _ hw830_1; first | rwa [add_block] at this | exact this) GW832.out)) | (show (Addr.add _ _).block ≠ _; rw [add_block]; exact Nat.ne_of_lt (Nat.lt_of_lt_of_le (by have := Zi _ _ hw830_1; first | rwa [add_block] at this | exact this) GW832.out)) | (dsimp only; exact Nat.ne_of_lt (Nat.lt_of_lt_of_le (by have := Zi _ _ hw830_1; first | rwa [add_block] at this | exact this) GW832.out))) _).trans (hHeld.2.2.2.1)))))), ((cell_far (p := ⟨gb832, _, none⟩) (by first | exact Nat.ne_of_lt (Nat.lt_of_lt_of_le (by have := Zi _ _ hw830_2; first | rwa [add_block] at this | exact this) GW832.out) | (rw [add_block]; exact Nat.ne_of_lt (Nat.lt_of_lt_of_le (by have := Zi _ _ hw830_2; first | rwa [add_block] at this | exact this) GW832.out)) | (show (Addr.add _ _).block ≠ _; rw [add_block]; exact Nat.ne_of_lt (Nat.lt_of_lt_of_le (by have := Zi _ _ hw830_2; first | rwa [add_block] at this | exact this) GW832.out)) | (dsimp only; exact Nat.ne_of_lt (Nat.lt_of_lt_of_le (by have := Zi _ _ hw830_2; first | rwa [add_block] at this | exact this) GW832.out))) _).trans (((cell_far (p := ⟨gb832, _, none⟩) (by first | exact Nat.ne_of_lt (Nat.lt_of_lt_of_le (by have := Zi _ _ hw830_2; first | rwa [add_block] at this | exact this) GW832.out) | (rw [add_block]; exact Nat.ne_of_lt (Nat.lt_of_lt_of_le (by have := Zi _ _ hw830_2; first | rwa [add_block] at this | exact this) GW832.out)) | (show (Addr.add _ _).block ≠ _; rw [add_block]; exact Nat.ne_of_lt (Nat.lt_of_lt_of_le (by have := Zi _ _ hw830_2; first | rwa [add_block] at this | exact this) GW832.out)) | (dsimp only; exact Nat.ne_of_lt (Nat.lt_of_lt_of_le (by have := Zi _ _ hw830_2; first | rwa [add_block] at this | exact this) GW832.out))) _).trans (((cell_far (p := ⟨gb832, _, none⟩) (by first | exact Nat.ne_of_lt (Nat.lt_of_lt_of_le (by have := Zi _ _ hw830_2; first | rwa [add_block] at this | exact this) GW832.out) | (rw [add_block]; exact Nat.ne_of_lt (Nat.lt_of_lt_of_le (by have := Zi _ _ hw830_2; first | rwa [add_block] at this | exact this) GW832.out)) | (show (Addr.add _ _).block ≠ _; rw [add_block]; exact Nat.ne_of_lt (Nat.lt_of_lt_of_le (by have := Zi _ _ hw830_2; first | rwa [add_block] at this | exact this) GW832.out)) | (dsimp only; exact Nat.ne_of_lt (Nat.lt_of_lt_of_le (by have := Zi _ _ hw830_2; first | rwa [add_block] at this | exact this) GW832.out))) _).trans (hHeld.2.2.2.2.1)))))), ((cell_far (p := ⟨gb832, _, none⟩) (by first | exact Nat.ne_of_lt (Nat.lt_of_lt_of_le (by have := Zi _ _ hw831_0; first | rwa [add_block] at this | exact this) GW832.out) | (rw [add_block]; exact Nat.ne_of_lt (Nat.lt_of_lt_of_le (by have := Zi _ _ hw831_0; first | rwa [add_block] at this | exact this) GW832.out)) | (show (Addr.add _ _).block ≠ _; rw [add_block]; exact Nat.ne_of_lt (Nat.lt_of_lt_of_le (by have := Zi _ _ hw831_0; first | rwa [add_block] at this | exact this) GW832.out)) | (dsimp only; exact Nat.ne_of_lt (Nat.lt_of_lt_of_le (by have := Zi _ _ hw831_0; first | rwa [add_block] at this | exact this) GW832.out))) _).trans (((cell_far (p := ⟨gb832, _, none⟩) (by first | exact Nat.ne_of_lt (Nat.lt_of_lt_of_le (by have := Zi _ _ hw831_0; first | rwa [add_block] at this | exact this) GW832.out) | (rw [add_block]; exact Nat.ne_of_lt (Nat.lt_of_lt_of_le (by have := Zi _ _ hw831_0; first | rwa [add_block] at this | exact this) GW832.out)) | (show (Addr.add _ _).block ≠ _; rw [add_block]; exact Nat.ne_of_lt (Nat.lt_of_lt_of_le (by have := Zi _ _ hw831_0; first | rwa [add_block] at this | exact this) GW832.out)) | (dsimp only; exact Nat.ne_of_lt (Nat.lt_of_lt_of_le (by have := Zi _ _ hw831_0; first | rwa [add_block] at this | exact this) GW832.out))) _).trans (((cell_far (p := ⟨gb832, _, none⟩) (by first | exact Nat.ne_of_lt (Nat.lt_of_lt_of_le (by have := Zi _ _ hw831_0; first | rwa [add_block] at this | exact this) GW832.out) | (rw [add_block]; exact Nat.ne_of_lt (Nat.lt_of_lt_of_le (by have := Zi _ _ hw831_0; first | rwa [add_block] at this | exact this) GW832.out)) | (show (Addr.add _ _).block ≠ _; rw [add_block]; exact Nat.ne_of_lt (Nat.lt_of_lt_of_le (by have := Zi _ _ hw831_0; first | rwa [add_block] at this | exact this) GW832.out)) | (dsimp only; exact Nat.ne_of_lt (Nat.lt_of_lt_of_le (by have := Zi _ _ hw831_0; first | rwa [add_block] at this | exact this) GW832.out))) _).trans (hHeld.2.2.2.2.2.1)))))), ((cell_far (p := ⟨gb832, _, none⟩) (by first | exact Nat.ne_of_lt (Nat.lt_of_lt_of_le (by have := Zi _ _ hw831_1; first | rwa [add_block] at this | exact this) GW832.out) | (rw [add_block]; exact Nat.ne_of_lt (Nat.lt_of_lt_of_le (by have := Zi _ _ hw831_1; first | rwa [add_block] at this | exact this) GW832.out)) | (show (Addr.add _ _).block ≠ _; rw [add_block]; exact Nat.ne_of_lt (Nat.lt_of_lt_of_le (by have := Zi _ _ hw831_1; first | rwa [add_block] at this | exact this) GW832.out)) | (dsimp only; exact Nat.ne_of_lt (Nat.lt_of_lt_of_le (by have := Zi _ _ hw831_1; first | rwa [add_block] at this | exact this) GW832.out))) _).trans (((cell_far (p := ⟨gb832, _, none⟩) (by first | exact Nat.ne_of_lt (Nat.lt_of_lt_of_le (by have := Zi _ _ hw831_1; first | rwa [add_block] at this | exact this) GW832.out) | (rw [add_block]; exact Nat.ne_of_lt (Nat.lt_of_lt_of_le (by have := Zi _ _ hw831_1; first | rwa [add_block] at this | exact this) GW832.out)) | (show (Addr.add _ _).block ≠ _; rw [add_block]; exact Nat.ne_of_lt (Nat.lt_of_lt_of_le (by have := Zi _ _ hw831_1; first | rwa [add_block] at this | exact this) GW832.out)) | (dsimp only; exact Nat.ne_of_lt (Nat.lt_of_lt_of_le (by have := Zi _ _ hw831_1; first | rwa [add_block] at this | exact this) GW832.out))) _).trans (((cell_far (p := ⟨gb832, _, none⟩) (by first | exact Nat.ne_of_lt (Nat.lt_of_lt_of_le (by have := Zi _ _ hw831_1; first | rwa [add_block] at this | exact this) GW832.out) | (rw [add_block]; exact Nat.ne_of_lt (Nat.lt_of_lt_of_le (by have := Zi _ _ hw831_1; first | rwa [add_block] at this | exact this) GW832.out)) | (show (Addr.add _ _).block ≠ _; rw [add_block]; exact Nat.ne_of_lt (Nat.lt_of_lt_of_le (by have := Zi _ _ hw831_1; first | rwa [add_block] at this | exact this) GW832.out)) | (dsimp only; exact Nat.ne_of_lt (Nat.lt_of_lt_of_le (by have := Zi _ _ hw831_1; first | rwa [add_block] at this | exact this) GW832.out))) _).trans (hHeld.2.2.2.2.2.2.1)))))), ((cell_far (p := ⟨gb832, _, none⟩) (by first | exact Nat.ne_of_lt (Nat.lt_of_lt_of_le (by have := Zi _ _ hw831_2; first | rwa [add_block] at this | exact this) GW832.out) | (rw [add_block]; exact Nat.ne_of_lt (Nat.lt_of_lt_of_le (by have := Zi _ _ hw831_2; first | rwa [add_block] at this | exact this) GW832.out)) | (show (Addr.add _ _).block ≠ _; rw [add_block]; exact Nat.ne_of_lt (Nat.lt_of_lt_of_le (by have := Zi _ _ hw831_2; first | rwa [add_block] at this | exact this) GW832.out)) | (dsimp only; exact Nat.ne_of_lt (Nat.lt_of_lt_of_le (by have := Zi _ _ hw831_2; first | rwa [add_block] at this | exact this) GW832.out))) _).trans (((cell_far (p := ⟨gb832, _, none⟩) (by first | exact Nat.ne_of_lt (Nat.lt_of_lt_of_le (by have := Zi _ _ hw831_2; first | rwa [add_block] at this | exact this) GW832.out) | (rw [add_block]; exact Nat.ne_of_lt (Nat.lt_of_lt_of_le (by have := Zi _ _ hw831_2; first | rwa [add_block] at this | exact this) GW832.out)) | (show (Addr.add _ _).block ≠ _; rw [add_block]; exact Nat.ne_of_lt (Nat.lt_of_lt_of_le (by have := Zi _ _ hw831_2; first | rwa [add_block] at this | exact this) GW832.out)) | (dsimp only; exact Nat.ne_of_lt (Nat.lt_of_lt_of_le (by have := Zi _ _ hw831_2; first | rwa [add_block] at this | exact this) GW832.out))) _).trans (((cell_far (p := ⟨gb832, _, none⟩) (by first | exact Nat.ne_of_lt (Nat.lt_of_lt_of_le (by have := Zi _ _ hw831_2; first | rwa [add_block] at this | exact this) GW832.out) | (rw [add_block]; exact Nat.ne_of_lt (Nat.lt_of_lt_of_le (by have := Zi _ _ hw831_2; first | rwa [add_block] at this | exact this) GW832.out)) | (show (Addr.add _ _).block ≠ _; rw [add_block]; exact Nat.ne_of_lt (Nat.lt_of_lt_of_le (by have := Zi _ _ hw831_2; first | rwa [add_block] at this | exact this) GW832.out)) | (dsimp only; exact Nat.ne_of_lt (Nat.lt_of_lt_of_le (by have := Zi _ _ hw831_2; first | rwa [add_block] at this | exact this) GW832.out))) _).trans (hHeld.2.2.2.2.2.2.2))))))⟩ (fun hHeld => ?_)
       clear hK K
       refine one_ (i := 13) (N := none) #[true, true, true, true, true, true, true, true, true, true, true, true, true, true] rfl rfl (one_of HT_.out (by kernel_rfl)) (by decide) (fun K hK => ?_)
       have hs24 : w20.cell? ⟨gb833, 0, none⟩ = some (.string (⟨#[]⟩ : ByteArray)) := (blk_cell BK833.out 0).trans rfl
       have hfs24 := Zn BK833.out 0
       have hns24_0 := NB828_833.out
       have hns24_1 := NB829_833.out
       have hns24_2 := NB832_833.out
       have hms24_0 := NB833_828.out
       have hms24_1 := NB833_829.out
       have hms24_2 := NB833_832.out
       have hs25 : w20.cell? ⟨gb833, 1, none⟩ = some (.slice none 0 0) := (blk_cell BK833.out 1).trans rfl
       have hfs25 := Zn BK833.out 1
       have hns25_0 := NB828_833.out
       have hns25_1 := NB829_833.out
       have hns25_2 := NB832_833.out
       have hms25_0 := NB833_828.out
       have hms25_1 := NB833_829.out
       have hms25_2 := NB833_832.out
       have hs26 : w20.cell? ⟨gb833, 2, none⟩ = some (.slice none 0 0) := (blk_cell BK833.out 2).trans rfl
       have hfs26 := Zn BK833.out 2
       have hns26_0 := NB828_833.out
       have hns26_1 := NB829_833.out
       have hns26_2 := NB832_833.out
       have hms26_0 := NB833_828.out
       have hms26_1 := NB833_829.out
       have hms26_2 := NB833_832.out
       refine skip_ (w1 := ?_) (by rfl) rfl ?_ ?_
       rotate_left
       ·
        go_simp
        rfl
       refine hK.out _ _ ⟨((cell_far (p := ⟨gb833, _, none⟩) NB828_833.out _).trans (((cell_far (p := ⟨gb833, _, none⟩) NB828_833.out _).trans (((cell_far (p := ⟨gb833, _, none⟩) NB828_833.out _).trans (hHeld.1)))))), ((cell_far (p := ⟨gb833, _, none⟩) NB829_833.out _).trans (((cell_far (p := ⟨gb833, _, none⟩) NB829_833.out _).trans (((cell_far (p := ⟨gb833, _, none⟩) NB829_833.out _).trans (hHeld.2.1)))))), ((cell_far (p := ⟨gb833, _, none⟩) (by first | exact Nat.ne_of_lt (Nat.lt_of_lt_of_le (by have := Zi _ _ hw830_0; first | rwa [add_block] at this | exact this) GW833.out) | (rw [add_block]; exact Nat.ne_of_lt (Nat.lt_of_lt_of_le (by have := Zi _ _ hw830_0; first | rwa [add_block] at this | exact this) GW833.out)) | (show (Addr.add _ _).block ≠ _; rw [add_block]; exact Nat.ne_of_lt (Nat.lt_of_lt_of_le (by have := Zi _ _ hw830_0; first | rwa [add_block] at this | exact this) GW833.out)) | (dsimp only; exact Nat.ne_of_lt (Nat.lt_of_lt_of_le (by have := Zi _ _ hw830_0; first | rwa [add_block] at this | exact this) GW833.out))) _).trans (((cell_far (p := ⟨gb833, _, none⟩) (by first | exact Nat.ne_of_lt (Nat.lt_of_lt_of_le (by have := Zi _ _ hw830_0; first | rwa [add_block] at this | exact this) GW833.out) | (rw [add_block]; exact Nat.ne_of_lt (Nat.lt_of_lt_of_le (by have := Zi _ _ hw830_0; first | rwa [add_block] at this | exact this) GW833.out)) | (show (Addr.add _ _).block ≠ _; rw [add_block]; exact Nat.ne_of_lt (Nat.lt_of_lt_of_le (by have := Zi _ _ hw830_0; first | rwa [add_block] at this | exact this) GW833.out)) | (dsimp only; exact Nat.ne_of_lt (Nat.lt_of_lt_of_le (by have := Zi _ _ hw830_0; first | rwa [add_block] at this | exact this) GW833.out))) _).trans (((cell_far (p := ⟨gb833, _, none⟩) (by first | exact Nat.ne_of_lt (Nat.lt_of_lt_of_le (by have := Zi _ _ hw830_0; first | rwa [add_block] at this | exact this) GW833.out) | (rw [add_block]; exact Nat.ne_of_lt (Nat.lt_of_lt_of_le (by have := Zi _ _ hw830_0; first | rwa [add_block] at this | exact this) GW833.out)) | (show (Addr.add _ _).block ≠ _; rw [add_block]; exact Nat.ne_of_lt (Nat.lt_of_lt_of_le (by have := Zi _ _ hw830_0; first | rwa [add_block] at this | exact this) GW833.out)) | (dsimp only; exact Nat.ne_of_lt (Nat.lt_of_lt_of_le (by have := Zi _ _ hw830_0; first | rwa [add_block] at this | exact this) GW833.out))) _).trans (hHeld.2.2.1)))))), ((cell_far (p := ⟨gb833, _, none⟩) (by first | exact Nat.ne_of_lt (Nat.lt_of_lt_of_le (by have := Zi _ _ hw830_1; first | rwa [add_block] at this | exact this) GW833.out) | (rw [add_block]; exact Nat.ne_of_lt (Nat.lt_of_lt_of_le (by have := Zi _ _ hw830_1; first | rwa [add_block] at this | exact this) GW833.out)) | (show (Addr.add _ _).block ≠ _; rw [add_block]; exact Nat.ne_of_lt (Nat.lt_of_lt_of_le (by have := Zi _ _ hw830_1; first | rwa [add_block] at this | exact this) GW833.out)) | (dsimp only; exact Nat.ne_of_lt (Nat.lt_of_lt_of_le (by have := Zi _ _ hw830_1; first | rwa [add_block] at this | exact this) GW833.out))) _).trans (((cell_far (p := ⟨gb833, _, none⟩) (by first | exact Nat.ne_of_lt (Nat.lt_of_lt_of_le (by have := Zi _ _ hw830_1; first | rwa [add_block] at this | exact this) GW833.out) | (rw [add_block]; exact Nat.ne_of_lt (Nat.lt_of_lt_of_le (by have := Zi _ _ hw830_1; first | rwa [add_block] at this | exact this) GW833.out)) | (show (Addr.add _ _).block ≠ _; rw [add_block]; exact Nat.ne_of_lt (Nat.lt_of_lt_of_le (by have := Zi _ _ hw830_1; first | rwa [add_block] at this | exact this) GW833.out)) | (dsimp only; exact Nat.ne_of_lt (Nat.lt_of_lt_of_le (by have := Zi _ _ hw830_1; first | rwa [add_block] at this | exact this) GW833.out))) _).trans (((cell_far (p := ⟨gb833, _, none⟩) (by first | exact Nat.ne_of_lt (Nat.lt_of_lt_of_le (by have := Zi _ _ hw830_1; first | rwa [add_block] at this | exact this) GW833.out) | (rw [add_block]; exact Nat.ne_of_lt (Nat.lt_of_lt_of_le (by have := Zi _ _ hw830_1; first | rwa [add_block] at this | exact this) GW833.out)) | (show (Addr.add _ _).block ≠ _; rw [add_block]; exact Nat.ne_of_lt (Nat.lt_of_lt_of_le (by have := Zi _ _ hw830_1; first | rwa [add_block] at this | exact this) GW833.out)) | (dsimp only; exact Nat.ne_of_lt (Nat.lt_of_lt_of_le (by have := Zi _ _ hw830_1; first | rwa [add_block] at this | exact this) GW833.out))) _).trans (hHeld.2.2.2.1)))))), ((cell_far (p := ⟨gb833, _, none⟩) (by first | exact Nat.ne_of_lt (Nat.lt_of_lt_of_le (by have := Zi _ _ hw830_2; first | rwa [add_block] at this | exact this) GW833.out) | (rw [add_block]; exact Nat.ne_of_lt (Nat.lt_of_lt_of_le (by have := Zi _ _ hw830_2; first | rwa [add_block] at this | exact this) GW833.out)) | (show (Addr.add _ _).block ≠ _; rw [add_block]; exact Nat.ne_of_lt (Nat.lt_of_lt_of_le (by have := Zi _ _ hw830_2; first | rwa [add_block] at this | exact this) GW833.out)) | (dsimp only; exact Nat.ne_of_lt (Nat.lt_of_lt_of_le (by have := Zi _ _ hw830_2; first | rwa [add_block] at this | exact this) GW833.out))) _).trans (((cell_far (p := ⟨gb833, _, none⟩) (by first | exact Nat.ne_of_lt (Nat.lt_of_lt_of_le (by have := Zi _ _ hw830_2; first | rwa [add_block] at this | exact this) GW833.out) | (rw [add_block]; exact Nat.ne_of_lt (Nat.lt_of_lt_of_le (by have := Zi _ _ hw830_2; first | rwa [add_block] at this | exact this) GW833.out)) | (show (Addr.add _ _).block ≠ _; rw [add_block]; exact Nat.ne_of_lt (Nat.lt_of_lt_of_le (by have := Zi _ _ hw830_2; first | rwa [add_block] at this | exact this) GW833.out)) | (dsimp only; exact Nat.ne_of_lt (Nat.lt_of_lt_of_le (by have := Zi _ _ hw830_2; first | rwa [add_block] at this | exact this) GW833.out))) _).trans (((cell_far (p := ⟨gb833, _, none⟩) (by first | exact Nat.ne_of_lt (Nat.lt_of_lt_of_le (by have := Zi _ _ hw830_2; first | rwa [add_block] at this | exact this) GW833.out) | (rw [add_block]; exact Nat.ne_of_lt (Nat.lt_of_lt_of_le (by have := Zi _ _ hw830_2; first | rwa [add_block] at this | exact this) GW833.out)) | (show (Addr.add _ _).block ≠ _; rw [add_block]; exact Nat.ne_of_lt (Nat.lt_of_lt_of_le (by have := Zi _ _ hw830_2; first | rwa [add_block] at this | exact this) GW833.out)) | (dsimp only; exact Nat.ne_of_lt (Nat.lt_of_lt_of_le (by have := Zi _ _ hw830_2; first | rwa [add_block] at this | exact this) GW833.out))) _).trans (hHeld.2.2.2.2.1)))))), ((cell_far (p := ⟨gb833, _, none⟩) (by first | exact Nat.ne_of_lt (Nat.lt_of_lt_of_le (by have := Zi _ _ hw831_0; first | rwa [add_block] at this | exact this) GW833.out) | (rw [add_block]; exact Nat.ne_of_lt (Nat.lt_of_lt_of_le (by have := Zi _ _ hw831_0; first | rwa [add_block] at this | exact this) GW833.out)) | (show (Addr.add _ _).block ≠ _; rw [add_block]; exact Nat.ne_of_lt (Nat.lt_of_lt_of_le (by have := Zi _ _ hw831_0; first | rwa [add_block] at this | exact this) GW833.out)) | (dsimp only; exact Nat.ne_of_lt (Nat.lt_of_lt_of_le (by have := Zi _ _ hw831_0; first | rwa [add_block] at this | exact this) GW833.out))) _).trans (((cell_far (p := ⟨gb833, _, none⟩) (by first | exact Nat.ne_of_lt (Nat.lt_of_lt_of_le (by have := Zi _ _ hw831_0; first | rwa [add_block] at this | exact this) GW833.out) | (rw [add_block]; exact Nat.ne_of_lt (Nat.lt_of_lt_of_le (by have := Zi _ _ hw831_0; first | rwa [add_block] at this | exact this) GW833.out)) | (show (Addr.add _ _).block ≠ _; rw [add_block]; exact Nat.ne_of_lt (Nat.lt_of_lt_of_le (by have := Zi _ _ hw831_0; first | rwa [add_block] at this | exact this) GW833.out)) | (dsimp only; exact Nat.ne_of_lt (Nat.lt_of_lt_of_le (by have := Zi _ _ hw831_0; first | rwa [add_block] at this | exact this) GW833.out))) _).trans (((cell_far (p := ⟨gb833, _, none⟩) (by first | exact Nat.ne_of_lt (Nat.lt_of_lt_of_le (by have := Zi _ _ hw831_0; first | rwa [add_block] at this | exact this) GW833.out) | (rw [add_block]; exact Nat.ne_of_lt (Nat.lt_of_lt_of_le (by have := Zi _ _ hw831_0; first | rwa [add_block] at this | exact this) GW833.out)) | (show (Addr.add _ _).block ≠ _; rw [add_block]; exact Nat.ne_of_lt (Nat.lt_of_lt_of_le (by have := Zi _ _ hw831_0; first | rwa [add_block] at this | exact this) GW833.out)) | (dsimp only; exact Nat.ne_of_lt (Nat.lt_of_lt_of_le (by have := Zi _ _ hw831_0; first | rwa [add_block] at this | exact this) GW833.out))) _).trans (hHeld.2.2.2.2.2.1)))))), ((cell_far (p := ⟨gb833, _, none⟩) (by first | exact Nat.ne_of_lt (Nat.lt_of_lt_of_le (by have := Zi _ _ hw831_1; first | rwa [add_block] at this | exact this) GW833.out) | (rw [add_block]; exact Nat.ne_of_lt (Nat.lt_of_lt_of_le (by have := Zi _ _ hw831_1; first | rwa [add_block] at this | exact this) GW833.out)) | (show (Addr.add _ _).block ≠ _; rw [add_block]; exact Nat.ne_of_lt (Nat.lt_of_lt_of_le (by have := Zi _ _ hw831_1; first | rwa [add_block] at this | exact this) GW833.out)) | (dsimp only; exact Nat.ne_of_lt (Nat.lt_of_lt_of_le (by have := Zi _ _ hw831_1; first | rwa [add_block] at this | exact this) GW833.out))) _).trans (((cell_far (p := ⟨gb833, _, none⟩) (by first | exact Nat.ne_of_lt (Nat.lt_of_lt_of_le (by have := Zi _ _ hw831_1; first | rwa [add_block] at this | exact this) GW833.out) | (rw [add_block]; exact Nat.ne_of_lt (Nat.lt_of_lt_of_le (by have := Zi _ _ hw831_1; first | rwa [add_block] at this | exact this) GW833.out)) | (show (Addr.add _ _).block ≠ _; rw [add_block]; exact Nat.ne_of_lt (Nat.lt_of_lt_of_le (by have := Zi _ _ hw831_1; first | rwa [add_block] at this | exact this) GW833.out)) | (dsimp only; exact Nat.ne_of_lt (Nat.lt_of_lt_of_le (by have := Zi _ _ hw831_1; first | rwa [add_block] at this | exact this) GW833.out))) _).trans (((cell_far (p := ⟨gb833, _, none⟩) (by first | exact Nat.ne_of_lt (Nat.lt_of_lt_of_le (by have := Zi _ _ hw831_1; first | rwa [add_block] at this | exact this) GW833.out) | (rw [add_block]; exact Nat.ne_of_lt (Nat.lt_of_lt_of_le (by have := Zi _ _ hw831_1; first | rwa [add_block] at this | exact this) GW833.out)) | (show (Addr.add _ _).block ≠ _; rw [add_block]; exact Nat.ne_of_lt (Nat.lt_of_lt_of_le (by have := Zi _ _ hw831_1; first | rwa [add_block] at this | exact this) GW833.out)) | (dsimp only; exact Nat.ne_of_lt (Nat.lt_of_lt_of_le (by have := Zi _ _ hw831_1; first | rwa [add_block] at this | exact this) GW833.out))) _).trans (hHeld.2.2.2.2.2.2.1)))))), ((cell_far (p := ⟨gb833, _, none⟩) (by first | exact Nat.ne_of_lt (Nat.lt_of_lt_of_le (by have := Zi _ _ hw831_2; first | rwa [add_block] at this | exact this) GW833.out) | (rw [add_block]; exact Nat.ne_of_lt (Nat.lt_of_lt_of_le (by have := Zi _ _ hw831_2; first | rwa [add_block] at this | exact this) GW833.out)) | (show (Addr.add _ _).block ≠ _; rw [add_block]; exact Nat.ne_of_lt (Nat.lt_of_lt_of_le (by have := Zi _ _ hw831_2; first | rwa [add_block] at this | exact this) GW833.out)) | (dsimp only; exact Nat.ne_of_lt (Nat.lt_of_lt_of_le (by have := Zi _ _ hw831_2; first | rwa [add_block] at this | exact this) GW833.out))) _).trans (((cell_far (p := ⟨gb833, _, none⟩) (by first | exact Nat.ne_of_lt (Nat.lt_of_lt_of_le (by have := Zi _ _ hw831_2; first | rwa [add_block] at this | exact this) GW833.out) | (rw [add_block]; exact Nat.ne_of_lt (Nat.lt_of_lt_of_le (by have := Zi _ _ hw831_2; first | rwa [add_block] at this | exact this) GW833.out)) | (show (Addr.add _ _).block ≠ _; rw [add_block]; exact Nat.ne_of_lt (Nat.lt_of_lt_of_le (by have := Zi _ _ hw831_2; first | rwa [add_block] at this | exact this) GW833.out)) | (dsimp only; exact Nat.ne_of_lt (Nat.lt_of_lt_of_le (by have := Zi _ _ hw831_2; first | rwa [add_block] at this | exact this) GW833.out))) _).trans (((cell_far (p := ⟨gb833, _, none⟩) (by first | exact Nat.ne_of_lt (Nat.lt_of_lt_of_le (by have := Zi _ _ hw831_2; first | rwa [add_block] at this | exact this) GW833.out) | (rw [add_block]; exact Nat.ne_of_lt (Nat.lt_of_lt_of_le (by have := Zi _ _ hw831_2; first | rwa [add_block] at this | exact this) GW833.out)) | (show (Addr.add _ _).block ≠ _; rw [add_block]; exact Nat.ne_of_lt (Nat.lt_of_lt_of_le (by have := Zi _ _ hw831_2; first | rwa [add_block] at this | exact this) GW833.out)) | (dsimp only; exact Nat.ne_of_lt (Nat.lt_of_lt_of_le (by have := Zi _ _ hw831_2; first | rwa [add_block] at this | exact this) GW833.out))) _).trans (hHeld.2.2.2.2.2.2.2))))))⟩ (fun hHeld => ?_)
       clear hK K
       refine done_ (done_of HT_.out (by kernel_rfl)) ?_
       have hnb27 := NB832_828.out
       have hnc27 := NB828_832.out
       have hnb28 := NB832_829.out
       have hnc28 := NB829_832.out
       have hnb29 := NB832_833.out
       have hnc29 := NB833_832.out
       have hcz30_0 : w20.cell? ⟨gb832, 0, none⟩ = some (.string (⟨#[]⟩ : ByteArray)) := (blk_cell BK832.out 0).trans rfl
       have hcz30_1 : w20.cell? ⟨gb832, 1, none⟩ = some (.slice none 0 0) := (blk_cell BK832.out 1).trans rfl
       have hcz30_2 : w20.cell? ⟨gb832, 2, none⟩ = some (.slice none 0 0) := (blk_cell BK832.out 2).trans rfl
       have hfz30_0 := Zn BK832.out 0
       have hfz30_1 := Zn BK832.out 1
       have hfz30_2 := Zn BK832.out 2
       have hnb31 := NB833_828.out
       have hnc31 := NB828_833.out
       have hnb32 := NB833_829.out
       have hnc32 := NB829_833.out
       have hcz33_0 : w20.cell? ⟨gb833, 0, none⟩ = some (.string (⟨#[]⟩ : ByteArray)) := (blk_cell BK833.out 0).trans rfl
       have hcz33_1 : w20.cell? ⟨gb833, 1, none⟩ = some (.slice none 0 0) := (blk_cell BK833.out 1).trans rfl
       have hcz33_2 : w20.cell? ⟨gb833, 2, none⟩ = some (.slice none 0 0) := (blk_cell BK833.out 2).trans rfl
       have hfz33_0 := Zn BK833.out 0
       have hfz33_1 := Zn BK833.out 1
       have hfz33_2 := Zn BK833.out 2
       have HWS := Zh (fun (v1 v2 v3 v4 v5 v6 : Value) => (Zg (Zg (Zg (Zg (Zg (Zg HB.out GE832.out) GE832.out) GE832.out) GE833.out) GE833.out) GE833.out : Below w.heap.size w ((((((w20.setCell ⟨gb832, 0, none⟩ v1).setCell ⟨gb832, 1, none⟩ v2).setCell ⟨gb832, 2, none⟩ v3).setCell ⟨gb833, 0, none⟩ v4).setCell ⟨gb833, 1, none⟩ v5).setCell ⟨gb833, 2, none⟩ v6)))
       have hcs34 := fun (v1 v2 v3 v4 v5 v6 : Value) => C_string (P := Tryd.prog) (A := A830_1) (c := c830_1) Tryd.underlying41 Tryd.underlying5 Tryd.underlying9 (C_below HR830_1.out (HWS.out v1 v2 v3 v4 v5 v6))
       have hcs36 := fun (v1 v2 v3 v4 v5 v6 : Value) => C_string (P := Tryd.prog) (A := A831_1) (c := c831_1) Tryd.underlying41 Tryd.underlying5 Tryd.underlying9 (C_below HR831_1.out (HWS.out v1 v2 v3 v4 v5 v6))
       have hcs38 := fun (v1 v2 v3 v4 v5 v6 : Value) => C_string (P := Tryd.prog) (A := A830_2) (c := c830_2) Tryd.underlying41 Tryd.underlying5 Tryd.underlying9 (C_below HR830_2.out (HWS.out v1 v2 v3 v4 v5 v6))
       have hcs40 := fun (v1 v2 v3 v4 v5 v6 : Value) => C_string (P := Tryd.prog) (A := A831_2) (c := c831_2) Tryd.underlying41 Tryd.underlying5 Tryd.underlying9 (C_below HR831_2.out (HWS.out v1 v2 v3 v4 v5 v6))
       have H := HX_.out
       clear HX_
       by_cases c12 : ((rd_T55 l0_0 x5_1).f0).toList = ((rd_T55 l1_0 x5_1).f0).toList
       ·
        rw [if_pos c12] at H
        have c12b0 := beq_iff_eq.mpr c12
        have c12b1 := bne_eq_false_iff_eq.mpr c12
        clear c12
        by_cases c13 : (strOfNums ((rd_T55 l0_0 x5_1).f1)).toList = (strOfNums ((rd_T55 l1_0 x5_1).f1)).toList
        ·
         rw [if_pos c13] at H
         have c13b0 := beq_iff_eq.mpr c13
         have c13b1 := bne_eq_false_iff_eq.mpr c13
         clear c13
         by_cases c14 : (strOfNums ((rd_T55 l0_0 x5_1).f2)).toList = (strOfNums ((rd_T55 l1_0 x5_1).f2)).toList
         ·
          rw [if_pos c14] at H
          have c14b0 := beq_iff_eq.mpr c14
          have c14b1 := bne_eq_false_iff_eq.mpr c14
          clear c14
          have H' := Zh H
          clear H
          try go_wp2
          go_roundg k1
          case measure => have := HK1.out; omega
          case rel => exact ⟨(wrap64 (x5_1 + 1)), (by first | rfl | (simp; done) | (simp [*]; done)), H', ⟨by have := HK1.out; omega⟩, ⟨by (with_reducible repeat (first | refine Za ?_ _ | refine Zb ?_ | refine blk_alloc ?_ _)); refine blk_far ?_ NB828_833.out _; (with_reducible repeat (first | refine Za ?_ _ | refine Zb ?_ | refine blk_alloc ?_ _)); refine blk_far ?_ NB828_833.out _; (with_reducible repeat (first | refine Za ?_ _ | refine Zb ?_ | refine blk_alloc ?_ _)); refine blk_far ?_ NB828_833.out _; (with_reducible repeat (first | refine Za ?_ _ | refine Zb ?_ | refine blk_alloc ?_ _)); refine blk_far ?_ NB828_832.out _; (with_reducible repeat (first | refine Za ?_ _ | refine Zb ?_ | refine blk_alloc ?_ _)); refine blk_far ?_ NB828_832.out _; (with_reducible repeat (first | refine Za ?_ _ | refine Zb ?_ | refine blk_alloc ?_ _)); refine blk_far ?_ NB828_832.out _; (with_reducible repeat (first | refine Za ?_ _ | refine Zb ?_ | refine blk_alloc ?_ _)); exact BK828.out⟩, ⟨by (with_reducible repeat (first | refine Za ?_ _ | refine Zb ?_ | refine blk_alloc ?_ _)); refine blk_far ?_ NB829_833.out _; (with_reducible repeat (first | refine Za ?_ _ | refine Zb ?_ | refine blk_alloc ?_ _)); refine blk_far ?_ NB829_833.out _; (with_reducible repeat (first | refine Za ?_ _ | refine Zb ?_ | refine blk_alloc ?_ _)); refine blk_far ?_ NB829_833.out _; (with_reducible repeat (first | refine Za ?_ _ | refine Zb ?_ | refine blk_alloc ?_ _)); refine blk_far ?_ NB829_832.out _; (with_reducible repeat (first | refine Za ?_ _ | refine Zb ?_ | refine blk_alloc ?_ _)); refine blk_far ?_ NB829_832.out _; (with_reducible repeat (first | refine Za ?_ _ | refine Zb ?_ | refine blk_alloc ?_ _)); refine blk_far ?_ NB829_832.out _; (with_reducible repeat (first | refine Za ?_ _ | refine Zb ?_ | refine blk_alloc ?_ _)); exact BK829.out⟩, ⟨Zs⟩⟩
         rw [if_neg c14] at H
         have c14b0 := beq_eq_false_iff_ne.mpr c14
         have c14b1 := bne_iff_ne.mpr c14
         obtain rfl := Option.some.inj H
         try go_wp2
         go_ret
         exact ⟨ZE, Zs⟩
        rw [if_neg c13] at H
        have c13b0 := beq_eq_false_iff_ne.mpr c13
        have c13b1 := bne_iff_ne.mpr c13
        obtain rfl := Option.some.inj H
        try go_wp2
        go_ret
        exact ⟨ZE, Zs⟩
       rw [if_neg c12] at H
       have c12b0 := beq_eq_false_iff_ne.mpr c12
       have c12b1 := bne_iff_ne.mpr c12
       obtain rfl := Option.some.inj H
       try go_wp2
       go_ret
       exact ⟨ZE, Zs⟩
      rw [if_neg c11] at H
      exact absurd H (by simp)
     rw [if_neg c10] at H
     exact absurd H (by simp)
    rw [if_neg c9] at H
    have c9b0 : decide (x5_1 < (l0_0.length : Int)) = false := decide_eq_false c9
    clear c9
    obtain rfl := Option.some.inj H
    have hnb111 := NB828_829.out
    have hnc111 := NB829_828.out
    have hcz112_0 : wr.cell? ⟨gb828, 0, none⟩ = some (.slice A0_0 l0_0.length c0_0) := (blk_cell BK828.out 0).trans rfl
    have hfz112_0 := Zn BK828.out 0
    go_wp2
    go_ret
    exact ⟨ZE, Zs⟩
 rw [if_neg c3] at H
 have c3b0 : ((l0_0.length : Int) == (l1_0.length : Int)) = false := beq_eq_false_iff_ne.mpr c3
 have c3b1 : ((l0_0.length : Int) != (l1_0.length : Int)) = true := bne_iff_ne.mpr c3
 have c3b2 : (l0_0.length == l1_0.length) = false := by first | simpa using c3 | (simp at c3 ⊢; omega)
 obtain rfl := Option.some.inj H
 go_enter Tryd.func39, Tryd.ntmps39
 go_wp2_with (first | ((with_reducible refine gate_dst (N := 2) rfl ?_); refine box_event ?hg (N := 2) ?hd (cs := #[.slice A0_0 l0_0.length c0_0]) (t := 28) ?hr ?_; (case hd => rfl); (case hg => rfl); (case hr => first | (go_simp; done) | (go_simp; rfl)); intro gb828 hg w113 hbox hb; have BK828 := Zh (hbox); have GW828 := Zh ((by rw [hg]; exact (below_size Zs) : w.heap.size ≤ gb828)); have GE828 := Zh ((by rw [hg]; exact (below_size Zs) : w.heap.size ≤ gb828)); replace HB := Zh (Zl Zs hb); clear hb hbox hg) | ((with_reducible refine gate_dst (N := 3) rfl ?_); refine box_event ?hg (N := 3) ?hd (cs := #[.slice A1_0 l1_0.length c1_0]) (t := 28) ?hr ?_; (case hd => rfl); (case hg => rfl); (case hr => first | (go_simp; done) | (go_simp; rfl)); intro gb829 hg w114 hbox hb; have BK829 := Zh (hbox); have GW829 := Zh ((by rw [hg]; exact (below_size Zs) : w.heap.size ≤ gb829)); have GE829 := Zh ((by rw [hg]; exact (below_size Zs) : w.heap.size ≤ gb829)); replace HB := Zh (Zl Zs hb); have NB828_829 := Zh ((by rw [hg]; exact Nat.ne_of_lt (blk_lt (g := gb828) (o := .cells #[.slice A0_0 l0_0.length c0_0] 28 (0, 0)) Zk) : gb828 ≠ gb829)); have NB829_828 := Zh ((by rw [hg]; exact Nat.ne_of_gt (blk_lt (g := gb828) (o := .cells #[.slice A0_0 l0_0.length c0_0] 28 (0, 0)) Zk) : gb829 ≠ gb828)); replace BK828 := Zh (Zm (g := gb828) (o := .cells #[.slice A0_0 l0_0.length c0_0] 28 (0, 0)) Zk hb); clear hb hbox hg; have hnb115 := NB828_829.out; have hnc115 := NB829_828.out; have hcz116_0 : w114.cell? ⟨gb828, 0, none⟩ = some (.slice A0_0 l0_0.length c0_0) := (blk_cell BK828.out 0).trans rfl; have hfz116_0 := Zn BK828.out 0; have hcz117_0 : w114.cell? ⟨gb829, 0, none⟩ = some (.slice A1_0 l1_0.length c1_0) := (blk_cell BK829.out 0).trans rfl; have hfz117_0 := Zn BK829.out 0))
 go_ret
 exact ⟨ZE, Zs⟩
end Go.Proofs.YtcgojdhbphocgaaDoor.F

namespace Go.Proofs.YtcgojdhbphocgaaDoor.F
open Go.RowKit Go.Proofs.YtcgojdhbphocgaaDoorW.PrintWords Go.Proofs.YtcgojdhbphocgaaDoorW.PrintWords.Kd Go.Proofs.YtcgojdhbphocgaaDoorW.PrintMore.Kd Go.Proofs.YtcgojdhbphocgaaDoorW.PrintLast Go.Proofs.YtcgojdhbphocgaaDoorW.PrintMore
attribute [local go_sem] max2_int min2_int max_two min_two max_three min_three max_four min_four   -- for this text's walks alone
set_option linter.unusedVariables false
set_option linter.unusedSimpArgs false
def laws_at.f (l0 : List Int) (a1 : Int) : Option (Int) := if a1 < (l0.length : Int) then (if 0 ≤ a1 then (some (wrap64 (rd l0 a1))) else (none)) else (some (Int.tmod (wrap64 ((wrap64 (a1 * 13)) + (wrap64 ((l0.length : Int) * 5)))) 256))
set_option maxHeartbeats 8000000 in
set_option maxRecDepth 100000 in
theorem laws_at.calls (A0 : Option Addr) (c0 : Nat) (l0 : List Int) (a1 : Int) (r : Int) (w : World) (hr0 : Kd.C (Kd.int .u8) w A0 l0.length l0) (hc0 : l0.length ≤ c0) (h : laws_at.f l0 a1 = some r) :
  Calls Tryd.prog 40 #[.slice A0 l0.length c0, .int .i64 a1] w fun e w' => e = .returned (.int .i64 r) ∧ Drawn0 w w' := by
 have HR0 := Zh hr0
 have HC0 := Zh hc0
 clear hr0 hc0
 have H : (if a1 < (l0.length : Int) then (if 0 ≤ a1 then (some (wrap64 (rd l0 a1))) else (none)) else (some (Int.tmod (wrap64 ((wrap64 (a1 * 13)) + (wrap64 ((l0.length : Int) * 5)))) 256))) = some r := h
 clear h
 by_cases c3 : a1 < (l0.length : Int)
 ·
  rw [if_pos c3] at H
  have c3b0 : decide (a1 < (l0.length : Int)) = true := decide_eq_true c3
  clear c3
  by_cases c4 : 0 ≤ a1
  ·
   rw [if_pos c4] at H
   have c4b0 : decide (0 ≤ a1) = true := decide_eq_true c4
   clear c4
   obtain rfl := Option.some.inj H
   have p834 : 0 ≤ (a1 : Int) := Zo
   have q834 : a1 < (l0.length : Int) := Zo
   obtain ⟨ad834, e834, hx834_0⟩ := Kd.at_int HR0.out a1 p834 q834
   cases e834
   replace p834 := eq_true p834
   replace q834 := eq_true q834
   go_enter Tryd.func40, Tryd.ntmps40
   go_wp2
   go_ret
   exact ⟨by first | rfl | (simp; done) | (simp [*]; done), by repeat (first | exact Drawn0.refl _ | apply Drawn0.step)⟩
  rw [if_neg c4] at H
  exact absurd H (by simp)
 rw [if_neg c3] at H
 have c3b0 : decide (a1 < (l0.length : Int)) = false := decide_eq_false c3
 clear c3
 obtain rfl := Option.some.inj H
 go_enter Tryd.func40, Tryd.ntmps40
 go_wp2
 go_ret
 exact ⟨by first | rfl | (simp; done) | (simp [*]; done), by repeat (first | exact Drawn0.refl _ | apply Drawn0.step)⟩
def impl_Content.f (k : Nat) (l0_0 : List (S55)) (a1 : ByteArray) : Option (List Int × Bool) := (impl_fileOf.f l0_0 a1).bind fun t836 => ((impl_isDisk.f k l0_0).bind fun t837 => (if t837 = true then (if t836 < 0 then (some (([] : List Int), false)) else (if 0 ≤ t836 then (if t836 < (l0_0.length : Int) then ((impl_File_content.f ((rd_T55 l0_0 t836).f0) ((rd_T55 l0_0 t836).f1) ((rd_T55 l0_0 t836).f2)).bind fun t839 => (some (t839, true))) else (none)) else (none))) else (some (([] : List Int), false))))
set_option maxHeartbeats 8000000 in
set_option maxRecDepth 100000 in
theorem impl_Content.calls (k : Nat) (A0_0 : Option Addr) (c0_0 : Nat) (l0_0 : List (S55)) (a1 : ByteArray) (r1 : List Int) (r2 : Bool) (w : World) (hr0_0 : Kd.C k55 w A0_0 l0_0.length l0_0) (hc0_0 : l0_0.length ≤ c0_0) (h : impl_Content.f k l0_0 a1 = some (r1, r2)) :
  Calls Tryd.prog 41 #[.agg #[.slice A0_0 l0_0.length c0_0], .string a1] w fun e w' => ∃ v0_ : Value, e = .returned (.tuple #[v0_, .bool r2]) ∧ Kd.R (Kd.int .u8) 5 w' w.heap.size (fun _ => True) v0_ r1 ∧ Below w.heap.size w w' := by
 have hu28 := Tryd.underlying28
 have hu55 := Tryd.underlying55
 have HR0_0 := Zh hr0_0
 have HC0_0 := Zh hc0_0
 clear hr0_0 hc0_0
 have HB := Zh (Below.refl w.heap.size w)
 have H : ((impl_fileOf.f l0_0 a1).bind fun t836 => ((impl_isDisk.f k l0_0).bind fun t837 => (if t837 = true then (if t836 < 0 then (some (([] : List Int), false)) else (if 0 ≤ t836 then (if t836 < (l0_0.length : Int) then ((impl_File_content.f ((rd_T55 l0_0 t836).f0) ((rd_T55 l0_0 t836).f1) ((rd_T55 l0_0 t836).f2)).bind fun t839 => (some (t839, true))) else (none)) else (none))) else (some (([] : List Int), false))))) = some (r1, r2) := h
 clear h
 replace H := Option.bind_eq_some_iff.mp H
 obtain ⟨t836, A30, H⟩ := H
 replace H : ((impl_isDisk.f k l0_0).bind fun t837 => (if t837 = true then (if t836 < 0 then (some (([] : List Int), false)) else (if 0 ≤ t836 then (if t836 < (l0_0.length : Int) then ((impl_File_content.f ((rd_T55 l0_0 t836).f0) ((rd_T55 l0_0 t836).f1) ((rd_T55 l0_0 t836).f2)).bind fun t839 => (some (t839, true))) else (none)) else (none))) else (some (([] : List Int), false)))) = some (r1, r2) := H
 have A3 := Zh A30
 clear A30
 replace H := Option.bind_eq_some_iff.mp H
 obtain ⟨t837, A40, H⟩ := H
 replace H : (if t837 = true then (if t836 < 0 then (some (([] : List Int), false)) else (if 0 ≤ t836 then (if t836 < (l0_0.length : Int) then ((impl_File_content.f ((rd_T55 l0_0 t836).f0) ((rd_T55 l0_0 t836).f1) ((rd_T55 l0_0 t836).f2)).bind fun t839 => (some (t839, true))) else (none)) else (none))) else (some (([] : List Int), false))) = some (r1, r2) := H
 have A4 := Zh A40
 clear A40
 by_cases c5 : t837 = true
 ·
  subst c5
  have H1 : (if t836 < 0 then (some (([] : List Int), false)) else (if 0 ≤ t836 then (if t836 < (l0_0.length : Int) then ((impl_File_content.f ((rd_T55 l0_0 t836).f0) ((rd_T55 l0_0 t836).f1) ((rd_T55 l0_0 t836).f2)).bind fun t839 => (some (t839, true))) else (none)) else (none))) = some (r1, r2) := by rw [if_pos rfl] at H; exact H
  clear H
  have H := H1
  clear H1
  by_cases c6 : t836 < 0
  ·
   rw [if_pos c6] at H
   have c6b0 : decide (t836 < 0) = true := decide_eq_true c6
   clear c6
   simp only [Option.some.injEq, Prod.mk.injEq] at H
   obtain ⟨rfl, rfl⟩ := H
   go_enter Tryd.func41, Tryd.ntmps41
   go_wp2_with (first | ((with_reducible refine gate_dst (N := 2) rfl ?_); refine box_event ?hg (N := 2) ?hd (cs := #[.slice A0_0 l0_0.length c0_0]) (t := 28) ?hr ?_; (case hd => rfl); (case hg => rfl); (case hr => first | (go_simp; done) | (go_simp; rfl)); intro gb835 hg w7 hbox hb; have BK835 := Zh (hbox); have GW835 := Zh ((by rw [hg]; exact (below_size Zs) : w.heap.size ≤ gb835)); have GE835 := Zh ((by rw [hg]; exact (below_size Zs) : w.heap.size ≤ gb835)); replace HB := Zh (Zl Zs hb); clear hb hbox hg; have hcz8_0 : w7.cell? ⟨gb835, 0, none⟩ = some (.slice A0_0 l0_0.length c0_0) := (blk_cell BK835.out 0).trans rfl; have hfz8_0 := Zn BK835.out 0) | ((with_reducible refine gate_callee (f := 74) rfl ?_); refine ZG (some 9) Tryd.func74 #[.agg #[.slice A0_0 l0_0.length c0_0], .string a1] rfl ?_; (with_reducible refine (impl_fileOf.calls _ _ l0_0 a1 t836 _ ?side1 ?side2 A3.out).mono ?_); (case side1 => repeat (first | exact (C_below HR0_0.out HB.out) | (with_reducible refine C_alloc ?_ _) | (with_reducible refine C_drewN ?_ _) | (with_reducible refine C_drew ?_))); (case side2 => exact HC0_0.out); rintro e w9 ⟨rfl, hb⟩; refine ⟨_, rfl, ?_⟩; replace BK835 := Zh (Zm (g := gb835) (o := .cells #[.slice A0_0 l0_0.length c0_0] 28 (0, 0)) Zk hb); replace HB := Zh (Zl Zs hb); (try clear hb); (try clear hb2); (try clear hk); (try clear hi); have hcz10_0 : w9.cell? ⟨gb835, 0, none⟩ = some (.slice A0_0 l0_0.length c0_0) := (blk_cell BK835.out 0).trans rfl; have hfz10_0 := Zn BK835.out 0) | ((with_reducible refine gate_callee (f := 72) rfl ?_); refine ZG (some 11) Tryd.func72 #[.agg #[.slice A0_0 l0_0.length c0_0]] rfl ?_; (with_reducible refine (impl_isDisk.calls k _ _ l0_0 true _ ?side1 ?side2 A4.out).mono ?_); (case side1 => repeat (first | exact (C_below HR0_0.out HB.out) | (with_reducible refine C_alloc ?_ _) | (with_reducible refine C_drewN ?_ _) | (with_reducible refine C_drew ?_))); (case side2 => exact HC0_0.out); rintro e w11 ⟨rfl, hb⟩; refine ⟨_, rfl, ?_⟩; replace BK835 := Zh (Zm (g := gb835) (o := .cells #[.slice A0_0 l0_0.length c0_0] 28 (0, 0)) Zk hb); replace HB := Zh (Zl Zs hb); (try clear hb); (try clear hb2); (try clear hk); (try clear hi)))
   go_ret2
   exact ⟨_, ZE, by first | exact R_nil _ _ _ _ _ | exact N_nil _ _ _ _ _ | exact V_nil _ _ _ _ _ | exact Q_nil _ _ _ _ _ | exact S_nil _ _ _ _ _, Zs⟩
  rw [if_neg c6] at H
  have c6b0 : decide (t836 < 0) = false := decide_eq_false c6
  clear c6
  by_cases c12 : 0 ≤ t836
  ·
   rw [if_pos c12] at H
   have c12b0 : decide (0 ≤ t836) = true := decide_eq_true c12
   clear c12
   by_cases c13 : t836 < (l0_0.length : Int)
   ·
    rw [if_pos c13] at H
    have c13b0 : decide (t836 < (l0_0.length : Int)) = true := decide_eq_true c13
    clear c13
    replace H := Option.bind_eq_some_iff.mp H
    obtain ⟨t839, A140, H⟩ := H
    replace H : (some (t839, true)) = some (r1, r2) := H
    have A14 := Zh A140
    clear A140
    simp only [Option.some.injEq, Prod.mk.injEq] at H
    obtain ⟨rfl, rfl⟩ := H
    go_enter Tryd.func41, Tryd.ntmps41
    go_wp2_with (first | ((with_reducible refine gate_dst (N := 2) rfl ?_); refine box_event ?hg (N := 2) ?hd (cs := #[.slice A0_0 l0_0.length c0_0]) (t := 28) ?hr ?_; (case hd => rfl); (case hg => rfl); (case hr => first | (go_simp; done) | (go_simp; rfl)); intro gb835 hg w15 hbox hb; have BK835 := Zh (hbox); have GW835 := Zh ((by rw [hg]; exact (below_size Zs) : w.heap.size ≤ gb835)); have GE835 := Zh ((by rw [hg]; exact (below_size Zs) : w.heap.size ≤ gb835)); replace HB := Zh (Zl Zs hb); clear hb hbox hg; have hcz16_0 : w15.cell? ⟨gb835, 0, none⟩ = some (.slice A0_0 l0_0.length c0_0) := (blk_cell BK835.out 0).trans rfl; have hfz16_0 := Zn BK835.out 0) | ((with_reducible refine gate_callee (f := 74) rfl ?_); refine ZG (some 9) Tryd.func74 #[.agg #[.slice A0_0 l0_0.length c0_0], .string a1] rfl ?_; (with_reducible refine (impl_fileOf.calls _ _ l0_0 a1 t836 _ ?side1 ?side2 A3.out).mono ?_); (case side1 => repeat (first | exact (C_below HR0_0.out HB.out) | (with_reducible refine C_alloc ?_ _) | (with_reducible refine C_drewN ?_ _) | (with_reducible refine C_drew ?_))); (case side2 => exact HC0_0.out); rintro e w17 ⟨rfl, hb⟩; refine ⟨_, rfl, ?_⟩; replace BK835 := Zh (Zm (g := gb835) (o := .cells #[.slice A0_0 l0_0.length c0_0] 28 (0, 0)) Zk hb); replace HB := Zh (Zl Zs hb); (try clear hb); (try clear hb2); (try clear hk); (try clear hi); have hcz18_0 : w17.cell? ⟨gb835, 0, none⟩ = some (.slice A0_0 l0_0.length c0_0) := (blk_cell BK835.out 0).trans rfl; have hfz18_0 := Zn BK835.out 0) | ((with_reducible refine gate_callee (f := 72) rfl ?_); refine ZG (some 11) Tryd.func72 #[.agg #[.slice A0_0 l0_0.length c0_0]] rfl ?_; (with_reducible refine (impl_isDisk.calls k _ _ l0_0 true _ ?side1 ?side2 A4.out).mono ?_); (case side1 => repeat (first | exact (C_below HR0_0.out HB.out) | (with_reducible refine C_alloc ?_ _) | (with_reducible refine C_drewN ?_ _) | (with_reducible refine C_drew ?_))); (case side2 => exact HC0_0.out); rintro e w19 ⟨rfl, hb⟩; refine ⟨_, rfl, ?_⟩; replace BK835 := Zh (Zm (g := gb835) (o := .cells #[.slice A0_0 l0_0.length c0_0] 28 (0, 0)) Zk hb); replace HB := Zh (Zl Zs hb); (try clear hb); (try clear hb2); (try clear hk); (try clear hi); have hcz20_0 : w19.cell? ⟨gb835, 0, none⟩ = some (.slice A0_0 l0_0.length c0_0) := (blk_cell BK835.out 0).trans rfl; have hfz20_0 := Zn BK835.out 0; have p838 : 0 ≤ (t836 : Int) := Zo; have q838 : t836 < (l0_0.length : Int) := Zo; obtain ⟨ad838, A838_1, c838_1, A838_2, c838_2, e838, hx838_0, hx838_1, hx838_2, hl838_1, hi838_1, hl838_2, hi838_2⟩ := at_T55 HR0_0.out t836 p838 q838; cases e838; replace hx838_0 := Zc HB.out hx838_0; replace hx838_1 := Zc HB.out hx838_1; replace hx838_2 := Zc HB.out hx838_2; have HR838_1 := Zh hi838_1; have HC838_1 := Zh hl838_1; clear hi838_1 hl838_1; have HR838_2 := Zh hi838_2; have HC838_2 := Zh hl838_2; clear hi838_2 hl838_2; replace p838 := eq_true p838; replace q838 := eq_true q838) | ((with_reducible refine gate_callee (f := 75) rfl ?_); refine ZG (some 22) Tryd.func75 #[.agg #[.string ((rd_T55 l0_0 t836).f0), .slice A838_1 ((rd_T55 l0_0 t836).f1).length c838_1, .slice A838_2 ((rd_T55 l0_0 t836).f2).length c838_2]] rfl ?_; (with_reducible refine (impl_File_content.calls ((rd_T55 l0_0 t836).f0) _ _ ((rd_T55 l0_0 t836).f1) _ _ ((rd_T55 l0_0 t836).f2) t839 _ ?side1 ?side2 ?side3 ?side4 A14.out).mono ?_); (case side1 => repeat (first | exact (C_below HR838_1.out HB.out) | (with_reducible refine C_alloc ?_ _) | (with_reducible refine C_drewN ?_ _) | (with_reducible refine C_drew ?_))); (case side2 => exact HC838_1.out); (case side3 => repeat (first | exact (C_below HR838_2.out HB.out) | (with_reducible refine C_alloc ?_ _) | (with_reducible refine C_drewN ?_ _) | (with_reducible refine C_drew ?_))); (case side4 => exact HC838_2.out); rintro e w21 ⟨v840, rfl, ho0, hb⟩; refine ⟨_, rfl, ?_⟩; have HO841 := Zh (R_lower ho0 (below_size Zs)); replace BK835 := Zh (Zm (g := gb835) (o := .cells #[.slice (some ad838) l0_0.length c0_0] 28 (0, 0)) Zk hb); replace HB := Zh (Zl Zs hb); (try clear hb); (try clear hb2); (try clear hk); (try clear hi); (try clear ho0)))
    go_ret2
    exact ⟨_, ZE, ZR HO841.out, Zs⟩
   rw [if_neg c13] at H
   exact absurd H (by simp)
  rw [if_neg c12] at H
  exact absurd H (by simp)
 replace c5 := Bool.eq_false_iff.mpr c5
 subst c5
 have H1 : (some (([] : List Int), false)) = some (r1, r2) := by rw [if_neg (show ¬ (false = true) by decide)] at H; exact H
 clear H
 have H := H1
 clear H1
 simp only [Option.some.injEq, Prod.mk.injEq] at H
 obtain ⟨rfl, rfl⟩ := H
 go_enter Tryd.func41, Tryd.ntmps41
 go_wp2_with (first | ((with_reducible refine gate_dst (N := 2) rfl ?_); refine box_event ?hg (N := 2) ?hd (cs := #[.slice A0_0 l0_0.length c0_0]) (t := 28) ?hr ?_; (case hd => rfl); (case hg => rfl); (case hr => first | (go_simp; done) | (go_simp; rfl)); intro gb835 hg w22 hbox hb; have BK835 := Zh (hbox); have GW835 := Zh ((by rw [hg]; exact (below_size Zs) : w.heap.size ≤ gb835)); have GE835 := Zh ((by rw [hg]; exact (below_size Zs) : w.heap.size ≤ gb835)); replace HB := Zh (Zl Zs hb); clear hb hbox hg; have hcz23_0 : w22.cell? ⟨gb835, 0, none⟩ = some (.slice A0_0 l0_0.length c0_0) := (blk_cell BK835.out 0).trans rfl; have hfz23_0 := Zn BK835.out 0) | ((with_reducible refine gate_callee (f := 74) rfl ?_); refine ZG (some 9) Tryd.func74 #[.agg #[.slice A0_0 l0_0.length c0_0], .string a1] rfl ?_; (with_reducible refine (impl_fileOf.calls _ _ l0_0 a1 t836 _ ?side1 ?side2 A3.out).mono ?_); (case side1 => repeat (first | exact (C_below HR0_0.out HB.out) | (with_reducible refine C_alloc ?_ _) | (with_reducible refine C_drewN ?_ _) | (with_reducible refine C_drew ?_))); (case side2 => exact HC0_0.out); rintro e w24 ⟨rfl, hb⟩; refine ⟨_, rfl, ?_⟩; replace BK835 := Zh (Zm (g := gb835) (o := .cells #[.slice A0_0 l0_0.length c0_0] 28 (0, 0)) Zk hb); replace HB := Zh (Zl Zs hb); (try clear hb); (try clear hb2); (try clear hk); (try clear hi); have hcz25_0 : w24.cell? ⟨gb835, 0, none⟩ = some (.slice A0_0 l0_0.length c0_0) := (blk_cell BK835.out 0).trans rfl; have hfz25_0 := Zn BK835.out 0) | ((with_reducible refine gate_callee (f := 72) rfl ?_); refine ZG (some 11) Tryd.func72 #[.agg #[.slice A0_0 l0_0.length c0_0]] rfl ?_; (with_reducible refine (impl_isDisk.calls k _ _ l0_0 false _ ?side1 ?side2 A4.out).mono ?_); (case side1 => repeat (first | exact (C_below HR0_0.out HB.out) | (with_reducible refine C_alloc ?_ _) | (with_reducible refine C_drewN ?_ _) | (with_reducible refine C_drew ?_))); (case side2 => exact HC0_0.out); rintro e w26 ⟨rfl, hb⟩; refine ⟨_, rfl, ?_⟩; replace BK835 := Zh (Zm (g := gb835) (o := .cells #[.slice A0_0 l0_0.length c0_0] 28 (0, 0)) Zk hb); replace HB := Zh (Zl Zs hb); (try clear hb); (try clear hb2); (try clear hk); (try clear hi)))
 go_ret2
 exact ⟨_, ZE, by first | exact R_nil _ _ _ _ _ | exact N_nil _ _ _ _ _ | exact V_nil _ _ _ _ _ | exact Q_nil _ _ _ _ _ | exact S_nil _ _ _ _ _, Zs⟩
end Go.Proofs.YtcgojdhbphocgaaDoor.F

namespace Go.Proofs.YtcgojdhbphocgaaDoor.F
open Go.RowKit Go.Proofs.YtcgojdhbphocgaaDoorW.PrintWords Go.Proofs.YtcgojdhbphocgaaDoorW.PrintLast Go.Proofs.YtcgojdhbphocgaaDoorW.PrintMore
set_option linter.unusedVariables false
set_option linter.unusedSimpArgs false
theorem impl_frame.nonempty (k : Nat) (l0 r : List Int) (h : impl_frame.f k l0 = some r) (hb : ¬ ((l0.length : Int) < 1 ∨ (l0.length : Int) > 600)) : r ≠ [] := by
  unfold impl_frame.f at h
  rw [if_neg (fun e => hb (.inl e)), decide_eq_false (fun e => hb (.inr e))] at h
  cases k with
  | zero => exact absurd h (by simp [impl_frame.j0])
  | succ k =>
    simp only [impl_frame.j0, Bool.false_eq_true, if_false] at h
    obtain ⟨t1, _, h⟩ := Option.bind_eq_some_iff.mp h
    obtain ⟨t2, _, h⟩ := Option.bind_eq_some_iff.mp h
    obtain ⟨t3, _, h⟩ := Option.bind_eq_some_iff.mp h
    split at h
    · have e := Option.some.inj h
      intro hr
      rw [hr] at e
      have := congrArg List.length e
      simp only [List.length_append, List.length_nil] at this
      omega
    exact absurd h (by simp)
set_option maxHeartbeats 8000000 in
set_option maxRecDepth 100000 in
theorem impl_frame.strong (k : Nat) (A0 : Option Addr) (c0 : Nat) (l0 : List Int) (r : List Int) (w : World) (hr0 : Kd.C (Kd.int .u8) w A0 l0.length l0) (hc0 : l0.length ≤ c0) (h : impl_frame.f k l0 = some r) :
    Calls Tryd.prog 60 #[.slice A0 l0.length c0] w fun e w' => ∃ v0_ : Value, e = .returned (v0_) ∧ Kd.R (Kd.int .u8) 5 w' w.heap.size (fun _ => True) v0_ r ∧ Below w.heap.size w w' ∧ (r = [] → v0_ = .slice none 0 0) := by
  by_cases hb : (l0.length : Int) < 1 ∨ (l0.length : Int) > 600
  · have hr : r = [] := by
      unfold impl_frame.f at h
      have hj : impl_frame.j0 k l0 true = some r := by
        rcases hb with hb | hb
        · rwa [if_pos hb] at h
        rwa [if_neg (by omega), decide_eq_true hb] at h
      cases k with
      | zero => exact absurd hj (by simp [impl_frame.j0])
      | succ k => simp only [impl_frame.j0, if_true] at hj; exact (Option.some.inj hj).symm
    subst hr
    clear h hr0 hc0
    by_cases h1 : (l0.length : Int) < 1
    · have b1 : decide ((l0.length : Int) < 1) = true := decide_eq_true h1
      clear h1 hb
      go_enter Tryd.func60, Tryd.ntmps60
      go_wp2
      go_ret
      exact ⟨_, rfl, Kd.R_nil _ _ _ _ _, Below.refl _ _, fun _ => rfl⟩
    have b1 : decide ((l0.length : Int) < 1) = false := decide_eq_false h1
    have b2 : decide ((l0.length : Int) > 600) = true := decide_eq_true (by omega)
    clear h1 hb
    go_enter Tryd.func60, Tryd.ntmps60
    go_wp2
    go_ret
    exact ⟨_, rfl, Kd.R_nil _ _ _ _ _, Below.refl _ _, fun _ => rfl⟩
  refine (impl_frame.calls k A0 c0 l0 r w hr0 hc0 h).mono ?_
  rintro e w' ⟨v, rfl, ho, hw⟩
  exact ⟨v, rfl, ho, hw, fun hr => absurd hr (impl_frame.nonempty k l0 r h hb)⟩
theorem R_beyond {α : Type} {d : Kd α} {e base n c g o : Nat} {W : World} {ok : Nat → Prop} {xs : List α} (h : d.R e W base ok (.slice (some ⟨g, 0, none⟩) n c) xs) (vs : List Value) (ho : n * d.sz ≤ o) (hc : o + vs.length ≤ c * d.sz) :
    d.R e (W.setCells g o vs) base ok (.slice (some ⟨g, 0, none⟩) n c) xs := by
  have hn := (Kd.R_reads' h).1
  have hgo : some g = (Value.slice (some ⟨g, 0, none⟩) n c).ownBlock := by simp [Value.ownBlock]
  obtain ⟨hok, inner, ⟨hl, hown⟩, hr⟩ := h
  rcases hown with ⟨hv, _⟩ | ⟨g', cap', cur, hv, hb, hh, hnc, hcm, hcs, htake⟩
  · cases hv
  injection hv with ha _ hc'
  injection ha with ha
  injection ha with hg
  subst hg; subst hc'
  obtain ⟨cur', h1, h2, h3⟩ := setCells_row vs o W cur hh (by omega)
  refine ⟨hok, inner, ⟨hl, .inr ⟨g, c, cur', by rw [← hn], hb, h1, hnc, hcm, by omega, ?_⟩⟩, hr.1, fun j p hj => d.M_move (fun k hk => setCells_far vs o k (fun he => hk.2 (by rw [he]; exact hgo))) (hr.2 j p hj)⟩
  rw [← htake, h3, ← hn, List.append_assoc, List.take_append_of_le_length (by rw [List.length_take, Array.length_toList]; omega), List.take_take]
  congr 1
  omega
theorem S_beyond {α : Type} {d : Kd α} {e base n c g o : Nat} {W : World} {ok : Nat → Prop} {xs : List α} (h : Kd.S d e W base ok (.slice (some ⟨g, 0, none⟩) n c) xs) (vs : List Value) (ho : n * d.sz ≤ o) (hc : o + vs.length ≤ c * d.sz) :
    Kd.S d e (W.setCells g o vs) base ok (.slice (some ⟨g, 0, none⟩) n c) xs := by
  obtain ⟨f, h⟩ := h
  exact ⟨f, R_beyond h vs ho hc⟩
theorem S_there {α : Type} {d : Kd α} {e base n c g : Nat} {W : World} {ok : Nat → Prop} {xs : List α} (h : Kd.S d e W base ok (.slice (some ⟨g, 0, none⟩) n c) xs) (j : Nat) (hj : j < c * d.sz) : (W.cell? ⟨g, j, none⟩).isSome = true ∧ W.frozen? ⟨g, j, none⟩ = false := by
  obtain ⟨inner, _, hown⟩ := Kd.S_own h
  rcases hown with ⟨hv, _⟩ | ⟨g', cap', cur, hv, hb, hh, hnc, hcm, hcs, htake⟩
  · cases hv
  injection hv with ha _ hc'
  injection ha with ha
  injection ha with hg
  subst hg; subst hc'
  refine ⟨?_, Zn hh j⟩
  rw [blk_cell hh j, Array.getElem?_eq_getElem (by omega)]
  rfl
theorem S_cap {α : Type} {d : Kd α} {e base n c g : Nat} {W : World} {ok : Nat → Prop} {xs : List α} (h : Kd.S d e W base ok (.slice (some ⟨g, 0, none⟩) n c) xs) : c ≤ 9223372036854775807 := by
  obtain ⟨inner, _, hown⟩ := Kd.S_own h
  rcases hown with ⟨hv, _⟩ | ⟨g', cap', cur, hv, hb, hh, hnc, hcm, hcs, htake⟩
  · cases hv
  injection hv with ha _ hc'
  subst hc'
  exact hcm
theorem info55s : (Tryd.prog.info? 55).map (·.size) = some k55.sz := by kernel_rfl
theorem below_setCells {g : Nat} {a : World} (hg : a.heap.size ≤ g) : ∀ (vs : List Value) (o : Nat) {w : World}, Below a.heap.size a w → Below a.heap.size a (w.setCells g o vs)
  | [], _, _, hb => hb
  | _ :: r, o, _, hb => below_setCells hg r (o + 1) (Zg hb hg)
theorem zeroed3 (W : World) (g o c ty : Nat) (hc : ∀ j, j < 3 → (W.cell? ⟨g, o + j, none⟩).isSome = true ∧ W.frozen? ⟨g, o + j, none⟩ = false) :
    (Builtin.clear_ #[26] ty #[.slice (some ⟨g, o, none⟩) 1 c]).run Tryd.prog W = .ok (.tuple #[]) (W.setCells g o [.string ⟨#[]⟩, .slice none 0 0, .slice none 0 0]) := by
  have hst := run_storeCells_cells (P := Tryd.prog) g o [.string ⟨#[]⟩, .slice none 0 0, .slice none 0 0] 0 W (fun j hj => by rw [Nat.add_zero]; exact (hc j hj).1) (fun j hj => by rw [Nat.add_zero]; exact (hc j hj).2) (by intro v hv; simp at hv; rcases hv with rfl | rfl <;> rfl)
  rw [Nat.add_zero] at hst
  have hz : (Builtin.zeroCells (Value.agg #[.string ⟨#[]⟩, .slice none 0 0, .slice none 0 0]).cells 1).toList = [.string ⟨#[]⟩, .slice none 0 0, .slice none 0 0] := by kernel_rfl
  simp [Builtin.clear_, run_underlying Tryd.underlying26, Tryd.zeroValue55, hz, hst]
theorem S_delete_law {P : Program} {ops : Array Oper} {o : Oper} {a : Act} {Q : Exit → Act → World → Prop} {α : Type} {Kc : Act → World → Prop} {E : Prop} (d : Kd α) {w0 W : World} (base : Nat) (hgd : o.guard = none) (s x : Operand) (t e : TypeId) (ho : o.op = .call { callee := .builtin .append, args := #[s, x], argTypes := #[t, t] })
    (ht : P.underlying t = some (.slice e)) (hinfo : (P.info? e).map (·.size) = some d.sz) {g n c k m c2 : Nat} {A : Option Addr} {xs : List α} {ok : Nat → Prop}
    (hs : a.eval s = .slice (some ⟨g, 0, none⟩) k c) (hx : a.eval x = .slice A m c2) (hA : A = if c = k + 1 then some ⟨g, 0, none⟩ else (some (⟨g, 0, none⟩ : Addr)).map (·.add ((k + 1) * d.sz))) (hm : m = n - (k + 1))
    (HO : Kd.S d e W base ok (.slice (some ⟨g, 0, none⟩) n c) xs) (hk : k < n) (HB : Below base w0 W) (hbase : base ≤ W.heap.size)
    (h : ∀ w1, Kd.S d e w1 base ok (.slice (some ⟨g, 0, none⟩) (n - 1) c) (xs.eraseIdx k) → Below base w0 w1 → W.grownBy w1 (some g) → Kc (a.put o.dst (.slice (some ⟨g, 0, none⟩) (n - 1) c)) w1) :
    if Region.wanted o (yielded ops a.tmps) = true then Oper.wp P o a W Kc Q else E := by
  have hw : Region.wanted o (yielded ops a.tmps) = true := by simp [Region.wanted, hgd]
  have := Kd.S_delete_step (Q := Q) d base hw s x t e ho ht hinfo hs hx hA hm HO hk HB hbase h
  rw [if_pos hw] at this ⊢
  exact this
set_option maxHeartbeats 4000000 in
set_option maxRecDepth 100000 in
theorem sDelete.calls (i : Nat) (P : Nat → Prop) (v : Value) (l : List S55) (w0 w : World) (hB : Below w0.heap.size w0 w) (ho : Kd.S k55 55 w w0.heap.size P v l) (hi : i < l.length) :
    Calls Tryd.prog 96 #[v, .int .i64 i, .int .i64 (i + 1)] w fun e w' => ∃ v' : Value, e = .returned v' ∧ Kd.S k55 55 w' w0.heap.size P v' (l.eraseIdx i) ∧ Below w0.heap.size w0 w' ∧ Kept w w' P := by
  obtain ⟨g, c, rfl, hbg, hgw, _⟩ := Kd.S_form ho (by omega)
  have hnc := (Kd.S_reads' ho).2.1
  have hcm := S_cap ho
  have hPg : P g := (Kd.S_R ho).1 g (by simp [Value.ownBlock])
  have HO := Zh (Kd.S_drew ho)
  have HB := Zh (Ze hB)
  have HK := Zh (Kept.of_below (Ze (Below.refl w.heap.size w)) P)
  have HS := Zh (show w0.heap.size ≤ w.drew.heap.size from Nat.le_of_lt (Nat.lt_of_le_of_lt hbg hgw))
  have HG := Zh hPg
  have HBG := Zh hbg
  have hic : i ≤ c := by omega
  have hjc : i + 1 ≤ c := by omega
  have hjl : i + 1 ≤ l.length := by omega
  have hj0 : (0 : Int) ≤ (i : Int) + 1 := by omega
  have hj1 : (i : Int) + 1 ≤ (l.length : Int) := by omega
  have hil : (i : Int) < (l.length : Int) := by omega
  have hi1 : ((i : Int) == (i : Int) + 1) = false := by simp; omega
  clear ho hB hbg hPg
  by_cases hci : c = i + 1
  · subst hci
    have hii : (i : Int) ≤ (i : Int) + 1 := by omega
    go_enter Tryd.func96, Tryd.ntmps96
    go_wp2
    go_region_law (refine S_delete_law (w0 := w0) k55 w0.heap.size rfl (.tmp 22) (.tmp 25) 26 55 rfl Tryd.underlying26 info55s (g := g) (n := l.length) (c := i + 1) (k := i) (m := 0) (c2 := 0) (A := some ⟨g, 0, none⟩) (ok := P) (by simp [Act.eval, Act.put]) (by simp [Act.eval, Act.put]) (by simp) (by omega) HO.out hi HB.out HS.out ?_; intro w1 hS1 hB1 hG1)
    all_goals
      have hnc1 : l.length - 1 < l.length := by omega
      have hth := fun j (hj : j < (i + 1) * 3) => S_there hS1 j hj
      have HC := Zh (fun ty => zeroed3 w1 g ((l.length - 1) * 3) (i + 1 - (l.length - 1)) ty (fun j hj => hth _ (by omega)))
      have HS1 := Zh (S_beyond hS1 [.string ⟨#[]⟩, .slice none 0 0, .slice none 0 0] (o := (l.length - 1) * 3) (Nat.le_refl _) (by show (l.length - 1) * 3 + 3 ≤ (i + 1) * 3; omega))
      have e1 : l.length - (l.length - 1) = 1 := by omega
      have hlc : l.length - 1 ≤ i + 1 := by omega
      have hcl := HC.out
      clear hS1 hth
      go_wp2
      go_ret
      refine ⟨.slice (some ⟨g, 0, none⟩) (l.length - 1) _, rfl, HS1.out, below_setCells HBG.out _ _ hB1, ?_⟩
      refine ⟨by rw [(setCells_same g _ _ w1).2.2.2]; exact hG1.size, fun k hk hn => ?_⟩
      have hkg : k ≠ g := fun he => hn (he ▸ HG.out)
      rw [setCells_far _ _ k hkg]
      exact hG1.block k hk (fun he => hkg (Option.some.inj he))
  have hcf : (c = i + 1) = False := eq_false hci
  clear hci
  go_enter Tryd.func96, Tryd.ntmps96
  go_wp2
  go_region_law (refine S_delete_law (w0 := w0) k55 w0.heap.size rfl (.tmp 22) (.tmp 25) 26 55 rfl Tryd.underlying26 info55s (g := g) (n := l.length) (c := c) (k := i) (m := l.length - (i + 1)) (c2 := c - (i + 1)) (A := some ⟨g, (i + 1) * 3, none⟩) (ok := P) (by simp [Act.eval, Act.put, hcf]) (by simp [Act.eval, Act.put, hcf]) (by rw [if_neg (of_eq_false hcf)]; exact congrArg some (add_at g 0 ((i + 1) * 3) |>.trans (by rw [Nat.zero_add])).symm) rfl HO.out hi HB.out HS.out ?_; intro w1 hS1 hB1 hG1)
  all_goals
    have hnc1 : l.length - 1 < l.length := by omega
    have hth := fun j (hj : j < (c) * 3) => S_there hS1 j hj
    have HC := Zh (fun ty => zeroed3 w1 g ((l.length - 1) * 3) (c - (l.length - 1)) ty (fun j hj => hth _ (by omega)))
    have HS1 := Zh (S_beyond hS1 [.string ⟨#[]⟩, .slice none 0 0, .slice none 0 0] (o := (l.length - 1) * 3) (Nat.le_refl _) (by show (l.length - 1) * 3 + 3 ≤ (c) * 3; omega))
    have e1 : l.length - (l.length - 1) = 1 := by omega
    have hlc : l.length - 1 ≤ c := by omega
    have hcl := HC.out
    clear hS1 hth
    go_wp2
    go_ret
    refine ⟨.slice (some ⟨g, 0, none⟩) (l.length - 1) _, rfl, HS1.out, below_setCells HBG.out _ _ hB1, ?_⟩
    refine ⟨by rw [(setCells_same g _ _ w1).2.2.2]; exact hG1.size, fun k hk hn => ?_⟩
    have hkg : k ≠ g := fun he => hn (he ▸ HG.out)
    rw [setCells_far _ _ k hkg]
    exact hG1.block k hk (fun he => hkg (Option.some.inj he))
theorem run_copy_k {P : Program} (w : World) (dT sT ty elem : TypeId) (size : Nat) (b o dLen dCap : Nat) (a : Addr) (sLen sCap : Nat) (cs : List Value)
    (hu : P.underlying dT = some (.slice elem)) (hs : (P.info? elem).map (·.size) = some size) (hn : cs.length = Nat.min sLen dLen * size)
    (hsrc : ∀ j v, cs[j]? = some v → w.cell? (a.add j) = some v) (hc : ∀ j, j < cs.length → (w.cell? ⟨b, o + j, none⟩).isSome = true) (hf : ∀ j, j < cs.length → w.frozen? ⟨b, o + j, none⟩ = false) (h1 : ∀ v ∈ cs, v.oneCell' = true) :
    (Builtin.copy_ #[dT, sT] ty #[.slice (some ⟨b, o, none⟩) dLen dCap, .slice (some a) sLen sCap]).run P w = .ok (goInt (Nat.min sLen dLen)) (w.setCells b o cs) := by
  have hl := run_loadCells_list (P := P) w a cs hsrc
  have hst := run_storeCells_cells (P := P) b o cs 0 w (by simpa using hc) (by simpa using hf) h1
  cases hq : P.info? elem with
  | none => simp [hq] at hs
  | some i =>
    have hi : i.size = size := by simpa [hq] using hs
    simp [Builtin.copy_, run_underlying hu, Builtin.lenOf, Builtin.firstCells, sizeOf, typeInfo, hq, hi, ← hn, hl, hst]
theorem wpList_copy_run {P : Program} (w : World) {ops : Array Oper} {rest : List Oper} {o : Oper} {a : Act} {Q : Exit → Act → World → Prop} (hgd : o.guard = none) (d s : Operand) (t t' : TypeId)
    (ho : o.op = .call { callee := .builtin .copy, args := #[d, s], argTypes := #[t, t'] }) (v u : Value) (hd : a.eval d = v) (hs : a.eval s = u) {v' : Value} {w' : World}
    (hr : (Builtin.copy_ #[t, t'] o.type #[v, u]).run P w = .ok v' w') (h : wpList P ops Q rest (a.put o.dst v') w') : wpList P ops Q (o :: rest) a w :=
  wpList_plain hgd fun _ hK => by
    unfold Oper.wp execOp
    simp only [ho, resolve, invoke, builtin, Sem.run_bind, Sem.run_pure, Result.andThen_ok, List.map_toArray, List.map_cons, List.map_nil, hd, hs, hr]
    exact hK _ _ h
theorem step_copy_run {P : Program} {ops : Array Oper} {o : Oper} {a : Act} {w : World} {K : Act → World → Prop} {Q : Exit → Act → World → Prop} {E : Prop}
    (hg : o.guard = none) (d x : Operand) (dT sT : TypeId) (hop : o.op = Op.call { callee := Callee.builtin Builtin.copy, args := #[d, x], argTypes := #[dT, sT] })
    (v u : Value) (hd : a.eval d = v) (hx : a.eval x = u) {v' : Value} {w' : World} (hr : (Builtin.copy_ #[dT, sT] o.type #[v, u]).run P w = .ok v' w') (hK : K (a.put o.dst v') w') :
    if Region.wanted o (yielded ops a.tmps) = true then Oper.wp P o a w K Q else E := by
  have hw : Region.wanted o (yielded ops a.tmps) = true := by simp [Region.wanted, hg]
  rw [if_pos hw]
  unfold Oper.wp
  simp [execOp, hop, resolve, invoke, builtin, hd, hx, hr, Result.andThen]
  exact hK
theorem S_parts {α : Type} {d : Kd α} {e base : Nat} {W : World} {ok : Nat → Prop} {v : Value} {xs : List α} (h : Kd.S d e W base ok v xs) :
    ∃ (inner : List Value) (okj : Nat → Nat → Prop), W.ownsRow base e d.sz v xs.length inner ∧ inner.length = xs.length * d.sz ∧ (∀ k, v.ownBlock = some k → ok k) ∧ (∀ i j k, okj i k → okj j k → i = j) ∧ (∀ j k, okj j k → ok k ∧ some k ≠ v.ownBlock) ∧ ∀ j x, xs[j]? = some x → d.M W base (okj j) x ((inner.drop (j * d.sz)).take d.sz) := by
  obtain ⟨f, h0, inner, ho, hr⟩ := h
  rw [List.length_zipIdx] at ho
  have hl : inner.length = xs.length * d.sz := by have := hr.1; rw [List.length_zipIdx] at this; exact this
  exact ⟨inner, fun j k => (ok k ∧ some k ≠ v.ownBlock) ∧ f k = j, ho, hl, h0, fun i j k h1 h2 => h1.2.symm.trans h2.2, fun j k hk => hk.1, fun j x hx => hr.2 j (x, j) (Kd.zip_at hx)⟩
theorem ins_get {α : Type} (l : List α) (x : α) (i : Nat) (hi : i ≤ l.length) (j : Nat) (y : α) (h : (l.take i ++ x :: l.drop i)[j]? = some y) : (j < i ∧ l[j]? = some y) ∨ (j = i ∧ y = x) ∨ (i < j ∧ l[j - 1]? = some y) := by
  have hl : (l.take i).length = i := by rw [List.length_take]; omega
  by_cases h1 : j < i
  · rw [List.getElem?_append_left (by omega), List.getElem?_take, if_pos h1] at h
    exact .inl ⟨h1, h⟩
  rw [List.getElem?_append_right (by omega), hl] at h
  by_cases h2 : j = i
  · subst h2
    rw [Nat.sub_self, List.getElem?_cons_zero] at h
    exact .inr (.inl ⟨rfl, (Option.some.inj h).symm⟩)
  obtain ⟨m, hm⟩ : ∃ m, j - i = m + 1 := ⟨j - i - 1, by omega⟩
  rw [hm, List.getElem?_cons_succ, List.getElem?_drop] at h
  exact .inr (.inr ⟨by omega, by rw [show j - 1 = i + m by omega]; exact h⟩)
theorem ins_cells {inner cx : List Value} {n i sz : Nat} (hin : inner.length = n * sz) (hcx : cx.length = sz) (hi : i ≤ n) (j : Nat) :
    (j < i → ((inner.take (i * sz) ++ cx ++ inner.drop (i * sz)).drop (j * sz)).take sz = (inner.drop (j * sz)).take sz) ∧ (j = i → ((inner.take (i * sz) ++ cx ++ inner.drop (i * sz)).drop (j * sz)).take sz = cx) ∧ (i < j → ((inner.take (i * sz) ++ cx ++ inner.drop (i * sz)).drop (j * sz)).take sz = (inner.drop ((j - 1) * sz)).take sz) := by
  have hil : i * sz ≤ inner.length := by rw [hin]; exact Nat.mul_le_mul_right _ hi
  have htl : (inner.take (i * sz)).length = i * sz := by rw [List.length_take]; omega
  refine ⟨fun h => ?_, fun h => ?_, fun h => ?_⟩
  · have h1 : j * sz + sz ≤ i * sz := by rw [← Nat.succ_mul]; exact Nat.mul_le_mul_right _ h
    rw [List.append_assoc, List.drop_append_of_le_length (by omega), List.take_append_of_le_length (by rw [List.length_drop]; omega), List.drop_take, List.take_take]
    congr 1
    omega
  · subst h
    rw [List.append_assoc, List.drop_append, htl, Nat.sub_self, List.drop_zero, List.drop_eq_nil_of_le (by omega), List.nil_append, List.take_append_of_le_length (by omega), List.take_of_length_le (by omega)]
  have h1 : i * sz + sz ≤ j * sz := by rw [← Nat.succ_mul]; exact Nat.mul_le_mul_right _ h
  have h2 : (j - 1) * sz = j * sz - sz := by rw [Nat.sub_mul, Nat.one_mul]
  rw [List.drop_append, List.drop_eq_nil_of_le (by rw [List.length_append]; omega), List.nil_append, List.length_append, htl, hcx, List.drop_drop]
  congr 2
  omega
theorem S_put {α : Type} {d : Kd α} {e base g' c' i : Nat} {W w1 : World} {ok G : Nat → Prop} {v : Value} {xs : List α} {x : α} {cx inner : List Value} {okj : Nat → Nat → Prop} {cur' : Array Value}
    (hin : inner.length = xs.length * d.sz) (h0 : ∀ k, v.ownBlock = some k → ok k) (hap : ∀ i j k, okj i k → okj j k → i = j) (hok : ∀ j k, okj j k → ok k ∧ some k ≠ v.ownBlock) (hrep : ∀ j x, xs[j]? = some x → d.M W base (okj j) x ((inner.drop (j * d.sz)).take d.sz))
    (hx : d.M W base G x cx) (hG : ∀ k, G k → ¬ ok k) (hi : i ≤ xs.length) (hb : base ≤ g') (hg' : v.ownBlock = some g' ∨ W.heap.size ≤ g')
    (hcur : w1.heap[g']? = some (.cells cur' e (0, 0))) (hsz : cur'.size = c' * d.sz) (hnc : xs.length + 1 ≤ c') (hcm : c' ≤ maxLen) (htk : cur'.toList.take ((xs.length + 1) * d.sz) = inner.take (i * d.sz) ++ cx ++ inner.drop (i * d.sz))
    (hmv : ∀ k, k < W.heap.size → some k ≠ v.ownBlock → w1.heap[k]? = W.heap[k]?) :
    Kd.S d e w1 base (fun k => ok k ∨ G k ∨ (W.heap.size ≤ k ∧ k < w1.heap.size)) (.slice (some ⟨g', 0, none⟩) (xs.length + 1) c') (xs.take i ++ x :: xs.drop i) := by
  have hlen : (xs.take i ++ x :: xs.drop i).length = xs.length + 1 := by simp; omega
  have hcx : cx.length = d.sz := d.K_len (d.K_of_M hx)
  have hgl : g' < w1.heap.size := blk_lt hcur
  have hcells := fun j => ins_cells (inner := inner) (cx := cx) hin hcx hi j
  have hmove : ∀ (q : Nat → Prop) (y : α) (cs : List Value), (∀ k, q k → some k ≠ v.ownBlock) → d.M W base q y cs → d.M w1 base (fun k => q k ∧ k < W.heap.size) y cs := fun q y cs hq hM =>
    d.M_move (fun k hk => hmv k hk.2 (hq k hk.1)) (d.M_mono (fun k hk => ⟨hk.1, hk.2.2.1⟩) (d.M_bound hM))
  have hGv : ∀ k, G k → some k ≠ v.ownBlock := fun k hk he => hG k hk (h0 k he.symm)
  have hnew : ∀ q : Nat → Prop, (∀ k, q k → some k ≠ v.ownBlock) → ∀ k, (q k ∧ k < W.heap.size) → some k ≠ some g' := fun q hq k hk he => by
    injection he with he
    rcases hg' with h | h
    · exact hq k hk.1 (by rw [h, he])
    have := hk.2; omega
  obtain ⟨f, hr⟩ := Kd.reps_tag (d := d) (w := w1) (base := base) (ok := fun k => (ok k ∨ G k ∨ (W.heap.size ≤ k ∧ k < w1.heap.size)) ∧ some k ≠ (Value.slice (some ⟨g', 0, none⟩) (xs.length + 1) c').ownBlock) (xs := xs.take i ++ x :: xs.drop i) (inner := inner.take (i * d.sz) ++ cx ++ inner.drop (i * d.sz))
    (fun j k => ((j < i ∧ okj j k) ∨ (j = i ∧ G k) ∨ (i < j ∧ okj (j - 1) k)) ∧ k < W.heap.size)
    (fun a b k h1 h2 => by
      rcases h1.1 with ⟨a1, a2⟩ | ⟨a1, a2⟩ | ⟨a1, a2⟩ <;> rcases h2.1 with ⟨b1, b2⟩ | ⟨b1, b2⟩ | ⟨b1, b2⟩
      · exact hap _ _ k a2 b2
      · exact absurd (hok _ k a2).1 (hG k b2)
      · have := hap _ _ k a2 b2; omega
      · exact absurd (hok _ k b2).1 (hG k a2)
      · omega
      · exact absurd (hok _ k b2).1 (hG k a2)
      · have := hap _ _ k a2 b2; omega
      · exact absurd (hok _ k a2).1 (hG k b2)
      have := hap _ _ k a2 b2; omega)
    (fun j k hk => by
      show _ ∧ some k ≠ (Value.slice (some ⟨g', 0, none⟩) (xs.length + 1) c').ownBlock
      have ho : (Value.slice (some ⟨g', 0, none⟩) (xs.length + 1) c').ownBlock = some g' := by simp [Value.ownBlock]
      rw [ho]
      rcases hk.1 with ⟨_, a2⟩ | ⟨_, a2⟩ | ⟨_, a2⟩
      · exact ⟨.inl (hok _ k a2).1, hnew (okj j) (fun k hk => (hok _ k hk).2) k ⟨a2, hk.2⟩⟩
      · exact ⟨.inr (.inl a2), hnew G hGv k ⟨a2, hk.2⟩⟩
      exact ⟨.inl (hok _ k a2).1, hnew (okj (j - 1)) (fun k hk => (hok _ k hk).2) k ⟨a2, hk.2⟩⟩)
    (by rw [hlen]; simp only [List.length_append, List.length_take, List.length_drop, hcx]; have : i * d.sz ≤ inner.length := by rw [hin]; exact Nat.mul_le_mul_right _ hi
        rw [Nat.add_mul, Nat.one_mul, ← hin]; omega)
    (fun j y hy => by
      rcases ins_get xs x i hi j y hy with ⟨h1, h2⟩ | ⟨h1, rfl⟩ | ⟨h1, h2⟩
      · rw [(hcells j).1 h1]
        exact d.M_mono (fun k hk => ⟨.inl ⟨h1, hk.1⟩, hk.2⟩) (hmove (okj j) y _ (fun k hk => (hok _ k hk).2) (hrep j y h2))
      · rw [(hcells j).2.1 h1]
        exact d.M_mono (fun k hk => ⟨.inr (.inl ⟨h1, hk.1⟩), hk.2⟩) (hmove G y _ hGv hx)
      rw [(hcells j).2.2 h1]
      exact d.M_mono (fun k hk => ⟨.inr (.inr ⟨h1, hk.1⟩), hk.2⟩) (hmove (okj (j - 1)) y _ (fun k hk => (hok _ k hk).2) (hrep (j - 1) y h2)))
  refine ⟨f, fun k hk => ?_, inner.take (i * d.sz) ++ cx ++ inner.drop (i * d.sz), ⟨?_, .inr ⟨g', c', cur', ?_, hb, hcur, ?_, hcm, hsz, ?_⟩⟩, hr⟩
  · have : g' = k := by simpa [Value.ownBlock] using hk
    subst this
    rcases hg' with h | h
    · exact .inl (h0 _ h)
    exact .inr (.inr ⟨h, hgl⟩)
  · rw [List.length_zipIdx]; have := hr.1; rw [List.length_zipIdx] at this; exact this
  · rw [List.length_zipIdx, hlen]
  · rw [List.length_zipIdx, hlen]; exact hnc
  rw [List.length_zipIdx, hlen]; exact htk
theorem S_putO {α : Type} {d : Kd α} {e base i : Nat} {W w1 : World} {ok G : Nat → Prop} {v v' : Value} {xs : List α} {x : α} {cx inner : List Value} {okj : Nat → Nat → Prop}
    (hin : inner.length = xs.length * d.sz) (h0 : ∀ k, v.ownBlock = some k → ok k) (hap : ∀ i j k, okj i k → okj j k → i = j) (hok : ∀ j k, okj j k → ok k ∧ some k ≠ v.ownBlock) (hrep : ∀ j x, xs[j]? = some x → d.M W base (okj j) x ((inner.drop (j * d.sz)).take d.sz))
    (hx : d.M W base G x cx) (hG : ∀ k, G k → ¬ ok k) (hi : i ≤ xs.length) (hown : w1.ownsRow base e d.sz v' (xs.length + 1) (inner.take (i * d.sz) ++ cx ++ inner.drop (i * d.sz))) (hat : v'.ownBlock = v.ownBlock ∨ ∃ b, v'.ownBlock = some b ∧ W.heap.size ≤ b)
    (hmv : ∀ k, k < W.heap.size → some k ≠ v.ownBlock → w1.heap[k]? = W.heap[k]?) :
    Kd.S d e w1 base (fun k => ok k ∨ G k ∨ (W.heap.size ≤ k ∧ k < w1.heap.size)) v' (xs.take i ++ x :: xs.drop i) := by
  rcases hown.2 with ⟨_, hn⟩ | ⟨g', c', cur', rfl, hb, hcur, hnc, hcm, hsz, htk⟩
  · omega
  refine S_put hin h0 hap hok hrep hx hG hi hb ?_ hcur hsz hnc hcm htk hmv
  have hg : (Value.slice (some ⟨g', 0, none⟩) (xs.length + 1) c').ownBlock = some g' := by simp [Value.ownBlock]
  rw [hg] at hat
  rcases hat with h | ⟨b, h, hb'⟩
  · exact .inl h.symm
  injection h with h
  subst h
  exact .inr hb'
theorem ins_row {cur cur1 cur2 inner cx : List Value} {n i : Nat} (hin : inner.length = n * 3) (hcx : cx.length = 3) (hi : i < n) (hcl : (n + 1) * 3 ≤ cur.length) (htk : cur.take (n * 3) = inner)
    (h1 : cur1 = cur.take ((i + 1) * 3) ++ inner.drop (i * 3) ++ cur.drop ((i + 1) * 3 + (inner.drop (i * 3)).length)) (h2 : cur2 = cur1.take (i * 3) ++ cx ++ cur1.drop (i * 3 + cx.length)) :
    cur2.take ((n + 1) * 3) = inner.take (i * 3) ++ cx ++ inner.drop (i * 3) := by
  have e0 : (cur.take ((i + 1) * 3)).length = i * 3 + 3 := by rw [List.length_take]; omega
  have e1 : cur1.take (i * 3) = inner.take (i * 3) := by
    rw [h1, List.append_assoc, List.take_append_of_le_length (by omega), List.take_take, ← htk, List.take_take, Nat.min_eq_left (by omega), Nat.min_eq_left (by omega)]
  have e2 : cur1.drop (i * 3 + cx.length) = inner.drop (i * 3) ++ cur.drop ((i + 1) * 3 + (inner.drop (i * 3)).length) := by
    rw [h1, List.append_assoc, List.drop_left' (by rw [e0, hcx])]
  rw [h2, e1, e2, ← List.append_assoc, List.take_left']
  simp only [List.length_append, List.length_take, List.length_drop, hcx, hin]
  omega
def InsPost (w0 w : World) (P G : Nat → Prop) (l : List S55) (e : Ending) (w' : World) : Prop := ∃ v' : Value, e = .returned v' ∧ Kd.S k55 55 w' w0.heap.size (fun k => P k ∨ G k ∨ (w.heap.size ≤ k ∧ k < w'.heap.size)) v' l ∧ Below w0.heap.size w0 w' ∧ Kept w w' P
theorem kept_of_grown {w w1 : World} {v : Value} {P : Nat → Prop} (hg : w.grownBy w1 v.ownBlock) (h0 : ∀ k, v.ownBlock = some k → P k) : Kept w w1 P := ⟨hg.size, fun k hk hn => hg.block k hk (fun he => hn (h0 k he.symm))⟩
set_option maxHeartbeats 4000000 in
set_option maxRecDepth 100000 in
theorem sInsert_end (P G : Nat → Prop) (v : Value) (l : List S55) (x : S55) (cx : List Value) (gv : Nat) (w0 w : World) (hB : Below w0.heap.size w0 w) (ho : Kd.S k55 55 w w0.heap.size P v l) (hlen : (l.length + 1) * 64 ≤ 140737488355328)
    (hx : k55.M w w0.heap.size G x cx) (hgv : w.heap[gv]? = some (.cells cx.toArray 55 (0, 0))) (hPG : ∀ k, G k → ¬ P k) (r : List S55) (hr : r = l.take l.length ++ x :: l.drop l.length) :
    Calls Tryd.prog 108 #[v, .int .i64 l.length, .slice (some ⟨gv, 0, none⟩) 1 1] w (InsPost w0 w P G r) := by
  obtain ⟨inner, okj, hown, hin, h0, hap, hok, hrep⟩ := S_parts ho
  obtain ⟨A, c, rfl⟩ := Kd.S_slice ho
  obtain ⟨i0, hi0, hz0, hz1, hz2⟩ := info_parts info55
  have hcx : cx.length = 3 := k55.K_len (k55.K_of_M hx)
  have hone := k55.K_one (k55.K_of_M hx)
  have hnc := (Kd.S_reads' ho).2.1
  have HOW := Zh hown
  have HB := Zh hB
  have HV := Zh (World.news_of_block hgv)
  have HX := Zh hone
  have HS := Zh hB.size
  have K1 := Zh (And.intro hin (And.intro h0 (And.intro hap (And.intro hok (And.intro hrep (And.intro hx hPG))))))
  have hl63 : l.length + 1 ≤ maxLen := by simp only [maxLen]; omega
  have hll : (l.length : Int) ≤ (l.length : Int) := Int.le_refl _
  have fin : ∀ (v' : Value) (w' : World), w'.ownsRow w0.heap.size 55 3 v' (l.length + 1) (inner ++ cx) → w.grownBy w' (Value.slice A l.length c).ownBlock → (v'.ownBlock = (Value.slice A l.length c).ownBlock ∨ v'.ownBlock = some w.heap.size) → InsPost w0 w P G r (.returned v') w' := by
    intro v' w' h1 h2 h3
    subst hr
    refine ⟨v', rfl, S_putO (i := l.length) hin h0 hap hok hrep hx hPG (Nat.le_refl _) ?_ ?_ (fun k hk hn => h2.block k hk hn), hB.grown h2 hB.size (Kd.S_base ho), kept_of_grown h2 h0⟩
    · have e1 : inner.take (l.length * k55.sz) = inner := List.take_of_length_le (by omega)
      have e2 : inner.drop (l.length * k55.sz) = [] := List.drop_eq_nil_of_le (by omega)
      rw [e1, e2, List.append_nil]
      exact h1
    rcases h3 with h3 | h3
    · exact .inl h3
    exact .inr ⟨_, h3, Nat.le_refl _⟩
  have FIN := Zh fin
  clear hown hB hgv hone ho hin h0 hap hok hrep hx hPG fin K1 hr
  have hA : (A = none ∧ l.length = 0 ∧ c = 0) ∨ ∃ g, A = some ⟨g, 0, none⟩ := by
    rcases HOW.out.2 with ⟨hv, hn⟩ | ⟨g, cap, cur, hv, _⟩
    · injection hv with h1 h2 h3; exact .inl ⟨h1, h2, h3⟩
    injection hv with h1 _ _; exact .inr ⟨g, h1⟩
  rcases hA with ⟨rfl, hn0, rfl⟩ | ⟨g, rfl⟩
  all_goals
    go_enter Tryd.func108, Tryd.ntmps108
    go_wp2_with (at_builtin; refine wpList_append_own_at _ rfl _ _ 26 rfl w0.heap.size 55 i0 _ 3 64 Tryd.underlying26 hi0 hz0 hz1 hz2 rfl (by decide) _ l.length inner rfl HOW.out ⟨gv, 0, none⟩ 1 1 cx rfl (by rw [hcx]) HV.out HX.out hl63 hlen HS.out ?_; intro v' w' h1 h2 _ h3; have F := Zh (FIN.out v' w' h1 h2 h3); clear h1 h2 h3)
    all_goals (go_ret; exact F.out)
set_option maxHeartbeats 4000000 in
set_option maxRecDepth 100000 in
theorem sInsert_room (i : Nat) (P G : Nat → Prop) (g n c : Nat) (l : List S55) (x : S55) (cx : List Value) (gv : Nat) (w0 w : World) (hB : Below w0.heap.size w0 w) (ho : Kd.S k55 55 w w0.heap.size P (.slice (some ⟨g, 0, none⟩) n c) l) (hlen : (l.length + 1) * 64 ≤ 140737488355328)
    (hx : k55.M w w0.heap.size G x cx) (hgv : w.heap[gv]? = some (.cells cx.toArray 55 (0, 0))) (hPG : ∀ k, G k → ¬ P k) (hgP : ¬ P gv) (hi : i < n) (hroom : n + 1 ≤ c) (r : List S55) (hr : r = l.take i ++ x :: l.drop i) :
    Calls Tryd.prog 108 #[.slice (some ⟨g, 0, none⟩) n c, .int .i64 i, .slice (some ⟨gv, 0, none⟩) 1 1] w (InsPost w0 w P G r) := by
  obtain ⟨inner, okj, hown, hin, h0, hap, hok, hrep⟩ := S_parts ho
  have hn := (Kd.S_reads' ho).1
  have hcx : cx.length = 3 := k55.K_len (k55.K_of_M hx)
  have hone := k55.K_one (k55.K_of_M hx)
  have hPg : P g := h0 g (by simp [Value.ownBlock])
  have hvb : gv ≠ g := fun he => hgP (he ▸ hPg)
  have hcm := S_cap ho
  have hin3 : inner.length = n * 3 := by rw [hin, hn]; rfl
  obtain ⟨cur, hh, hcs, htk, hbg⟩ : ∃ cur, w.heap[g]? = some (.cells cur 55 (0, 0)) ∧ cur.size = c * 3 ∧ cur.toList.take (n * 3) = inner ∧ w0.heap.size ≤ g := by
    rcases hown.2 with ⟨hv, _⟩ | ⟨g', cap', cur, hv, hb, hh, hnc, hcm, hcs, htake⟩
    · cases hv
    injection hv with ha _ hc'
    injection ha with ha
    injection ha with hg
    subst hg; subst hc'
    exact ⟨cur, hh, hcs, by rw [hn]; exact htake, hb⟩
  have hgw : g < w.heap.size := blk_lt hh
  have hone2 : ∀ u ∈ inner, u.oneCell' = true := by
    intro u hu
    obtain ⟨q, hq⟩ := List.mem_iff_getElem?.1 hu
    have hql := (List.getElem?_eq_some_iff.1 hq).1
    have hqn : q / 3 < l.length := by omega
    have hM := hrep (q / 3) _ (List.getElem?_eq_getElem hqn)
    refine k55.K_one (k55.K_of_M hM) u (List.mem_iff_getElem?.2 ⟨q % 3, ?_⟩)
    show ((inner.drop (q / 3 * 3)).take 3)[q % 3]? = some u
    rw [List.getElem?_take, if_pos (Nat.mod_lt _ (by decide)), List.getElem?_drop, show q / 3 * 3 + q % 3 = q by omega]
    exact hq
  have hc0 : ∀ j u, inner[j]? = some u → w.cell? ⟨g, j, none⟩ = some u := fun j u hu => by
    rw [blk_cell hh j]
    rw [← htk, List.getElem?_take] at hu
    split at hu
    · simpa using hu
    cases hu
  have hsp : ∀ j, j < c * 3 → (w.cell? ⟨g, j, none⟩).isSome = true := fun j hj => by rw [blk_cell hh j, Array.getElem?_eq_getElem (by omega)]; rfl
  have hfz : ∀ j, w.frozen? ⟨g, j, none⟩ = false := fun j => Zn hh j
  have hvs : ∀ j u, cx[j]? = some u → w.cell? ⟨gv, j, none⟩ = some u := fun j u hu => by rw [blk_cell hgv j]; simpa using hu
  have hdl : (inner.drop (i * 3)).length = (n - i) * 3 := by rw [List.length_drop, hin3, Nat.sub_mul]
  have hov : ∀ lb cb, (callFunc 116 #[.slice (some ⟨gv, 0, none⟩) 1 1, .slice (some ⟨g, (i + 1) * 3, none⟩) lb cb]).run Tryd.prog w = .ok (.value (.bool false)) w := fun lb cb => by
    rw [run_callFunc_extern Tryd.func116 (by kernel_rfl) (by kernel_rfl) (by kernel_rfl) (e := Extern.SlicesOverlaps.overlaps #[26, 26] #[4]) (by kernel_rfl),
      Lib.run_overlaps_apart w 26 4 55 Tryd.underlying26 3 Tryd.sizeOf55 ⟨gv, 0, none⟩ ⟨g, (i + 1) * 3, none⟩ 1 1 lb cb hvb 55 55 3 (c * 3) (by simp [World.shape?, hgv, hcx]) (by simp [World.shape?, hh, hcs]) (by omega) (Zn hgv 0) (Zn hgv 3)]
    rfl
  have hmin1 : Nat.min (n + 1 - i) (n - i) = n - i := by simp only [Nat.min_def]; split <;> omega
  have hmin2 : Nat.min 1 (n + 1 - i) = 1 := by simp only [Nat.min_def]; split <;> omega
  have hcp1 : ∀ ty dc sc, (Builtin.copy_ #[26, 26] ty #[.slice (some ⟨g, (i + 1) * 3, none⟩) (n - i) dc, .slice (some ⟨g, i * 3, none⟩) (n + 1 - i) sc]).run Tryd.prog w.drew = .ok (goInt ((n - i : Nat) : Int)) (w.drew.setCells g ((i + 1) * 3) (inner.drop (i * 3))) := fun ty dc sc => by
    have h := run_copy_k (P := Tryd.prog) w.drew 26 26 ty 55 3 g ((i + 1) * 3) (n - i) dc ⟨g, i * 3, none⟩ (n + 1 - i) sc (inner.drop (i * 3)) Tryd.underlying26 info55s (by rw [hmin1]; exact hdl)
      (fun j u hj => by rw [Addr.add_lit]; exact hc0 (i * 3 + j) u (by rwa [List.getElem?_drop] at hj))
      (fun j hj => hsp _ (by rw [hdl, Nat.sub_mul] at hj; omega)) (fun j hj => hfz _) (fun u hu => hone2 u (List.mem_of_mem_drop hu))
    rw [hmin1] at h
    exact h
  obtain ⟨cur1, hh1, hcs1, hl1⟩ := setCells_row (inner.drop (i * 3)) ((i + 1) * 3) w.drew cur hh (by rw [hdl, Nat.sub_mul]; omega)
  obtain ⟨W1, hW1⟩ : ∃ W1, W1 = w.drew.setCells g ((i + 1) * 3) (inner.drop (i * 3)) := ⟨_, rfl⟩
  rw [← hW1] at hcp1 hh1
  have hgv1 : W1.heap[gv]? = some (.cells cx.toArray 55 (0, 0)) := by rw [hW1, setCells_far _ _ gv hvb]; exact hgv
  have hcp2 : ∀ ty dc, (Builtin.copy_ #[26, 26] ty #[.slice (some ⟨g, i * 3, none⟩) (n + 1 - i) dc, .slice (some ⟨gv, 0, none⟩) 1 1]).run Tryd.prog W1 = .ok (goInt ((1 : Nat) : Int)) (W1.setCells g (i * 3) cx) := fun ty dc => by
    have h := run_copy_k (P := Tryd.prog) W1 26 26 ty 55 3 g (i * 3) (n + 1 - i) dc ⟨gv, 0, none⟩ 1 1 cx Tryd.underlying26 info55s (by rw [hmin2, hcx])
      (fun j u hj => by rw [Addr.add_lit, Nat.zero_add, blk_cell hgv1 j]; simpa using hj)
      (fun j hj => by rw [blk_cell hh1, Array.getElem?_eq_getElem (by omega)]; rfl) (fun j hj => Zn hh1 _) hone
    rw [hmin2] at h
    exact h
  obtain ⟨cur2, hh2, hcs2, hl2⟩ := setCells_row cx (i * 3) W1 cur1 hh1 (by omega)
  have hfin : InsPost w0 w P G r (.returned (.slice (some ⟨g, 0, none⟩) (n + 1) c)) (W1.setCells g (i * 3) cx) := by
    subst hr
    have hB1 : Below w0.heap.size w0 (W1.setCells g (i * 3) cx) := by rw [hW1]; exact below_setCells hbg _ _ (below_setCells hbg _ _ (Ze hB))
    have hfar : ∀ k, k ≠ g → (W1.setCells g (i * 3) cx).heap[k]? = w.heap[k]? := fun k hk => by rw [setCells_far _ _ k hk, hW1, setCells_far _ _ k hk]; rfl
    have hsz2 : (W1.setCells g (i * 3) cx).heap.size = w.heap.size := by rw [(setCells_same g _ _ W1).2.2.2, hW1, (setCells_same g _ _ w.drew).2.2.2]; rfl
    have ho' : (Value.slice (some ⟨g, 0, none⟩) n c).ownBlock = some g := by simp [Value.ownBlock]
    refine ⟨_, rfl, S_putO (i := i) hin h0 hap hok hrep hx hPG (by omega) ⟨?_, .inr ⟨g, c, cur2, by rw [hn], hbg, hh2, by omega, by simp only [maxLen]; omega, ?_, ?_⟩⟩ (.inl (by simp [Value.ownBlock])) (fun k hk hne => hfar k (fun he => hne (by rw [ho', he]))), hB1, by omega, fun k hk hne => hfar k (fun he => hne (he ▸ hPg))⟩
    · simp only [List.length_append, List.length_take, List.length_drop, hcx, hin3]
      show min (i * 3) (n * 3) + 3 + (n * 3 - i * 3) = (l.length + 1) * 3
      omega
    · show cur2.size = c * 3; omega
    show cur2.toList.take ((l.length + 1) * 3) = inner.take (i * 3) ++ cx ++ inner.drop (i * 3)
    rw [← hn]
    exact ins_row hin3 hcx hi (by rw [Array.length_toList]; omega) htk hl1 hl2
  have FIN := Zh hfin
  have hcp1' := Zh hcp1
  have hcp2' := Zh hcp2
  have hic : i ≤ c := by omega
  have hi1c : i + 1 ≤ c := by omega
  have hinz : ¬ ((i : Int) = (n : Int)) := by omega
  have hin1 : (i : Int) ≤ (n : Int) := by omega
  have hii0 : (0 : Int) ≤ (i : Int) + 1 := by omega
  have hii1 : (i : Int) + 1 ≤ (n : Int) + 1 := by omega
  have hii2 : (i : Int) ≤ (n : Int) + 1 := by omega
  have hnn0 : (0 : Int) ≤ (n : Int) + 1 := by omega
  have hnn1 : (n : Int) + 1 ≤ (c : Int) := by omega
  have hnc : n ≤ c := by omega
  have hcgt : ¬ ((c : Int) < (n : Int) + 1) := by omega
  have hb2 : ¬ (c = i + 1) := by omega
  have hb4 : ¬ (c = i) := by omega
  have hnt : ((n : Int) + 1).toNat = n + 1 := by omega
  have hit : ((i : Int) + 1).toNat = i + 1 := by omega
  clear hown hin h0 hap hok hrep ho hx hPG hr hfin hcp1 hcp2 hone hone2 hc0 hsp hfz hvs hdl hh hh1 hh2 hl1 hl2 hcs hcs1 hcs2 htk hmin1 hmin2 hgv hgv1 hB hn hW1 hgP hPg
  clear hlen
  go_enter Tryd.func108, Tryd.ntmps108
  go_wp2_with (simp only [hov])
  have hw1 : IntKind.i64.wrap ((i : Int) + 1) = (i : Int) + 1 := by rw [IntKind.wrap_i64]; omega
  go_region_law (refine step_copy_run rfl (.tmp 73) (.tmp 76) 26 26 rfl _ _ (by simp [Act.eval, Act.put]) (by simp [Act.eval, Act.put]) (hcp1'.out _ (c - (i + 1)) (c - i)) ?_)
  go_wp2_with ((with_reducible refine gate_builtin (b := .copy) (xs := #[.tmp 80, .tmp 81]) rfl ?_); refine wpList_copy_run _ rfl (.tmp 80) (.tmp 81) 26 26 rfl _ _ rfl rfl (hcp2'.out _ _) ?_)
  go_ret
  exact FIN.out
theorem wpList_append_run {P : Program} (w : World) {ops : Array Oper} {rest : List Oper} {o : Oper} {a : Act} {Q : Exit → Act → World → Prop} (hgd : o.guard = none) (d s : Operand) (t t' : TypeId)
    (ho : o.op = .call { callee := .builtin .append, args := #[d, s], argTypes := #[t, t'] }) (v u : Value) (hd : a.eval d = v) (hs : a.eval s = u) {v' : Value} {w' : World}
    (hr : (Builtin.append_ #[t, t'] o.type #[v, u]).run P w = .ok v' w') (h : wpList P ops Q rest (a.put o.dst v') w') : wpList P ops Q (o :: rest) a w :=
  wpList_plain hgd fun _ hK => by
    unfold Oper.wp execOp
    simp only [ho, resolve, invoke, builtin, Sem.run_bind, Sem.run_pure, Result.andThen_ok, List.map_toArray, List.map_cons, List.map_nil, hd, hs, hr]
    exact hK _ _ h
theorem ins_new {cur cur1 cur2 inner cx z : List Value} {n i : Nat} (hin : inner.length = n * 3) (hcx : cx.length = 3) (hi : i < n) (hcl : (n + 1) * 3 ≤ cur.length) (h0 : cur.take (i * 3) = inner.take (i * 3))
    (h1 : cur1 = cur.take (i * 3) ++ cx ++ cur.drop (i * 3 + cx.length)) (h2 : cur2 = cur1.take ((i + 1) * 3) ++ inner.drop (i * 3) ++ cur1.drop ((i + 1) * 3 + (inner.drop (i * 3)).length)) :
    cur2.take ((n + 1) * 3) = inner.take (i * 3) ++ cx ++ inner.drop (i * 3) := by
  have e0 : (inner.take (i * 3)).length = i * 3 := by rw [List.length_take]; omega
  have e1 : cur1.take ((i + 1) * 3) = inner.take (i * 3) ++ cx := by
    rw [h1, h0, List.take_left']
    rw [List.length_append, e0, hcx]; omega
  rw [h2, e1, List.take_left']
  simp only [List.length_append, List.length_drop, hcx, hin, e0]
  omega
set_option maxHeartbeats 4000000 in
set_option maxRecDepth 100000 in
theorem sInsert_grow (i : Nat) (P G : Nat → Prop) (g n c : Nat) (l : List S55) (x : S55) (cx : List Value) (gv : Nat) (w0 w : World) (hB : Below w0.heap.size w0 w) (ho : Kd.S k55 55 w w0.heap.size P (.slice (some ⟨g, 0, none⟩) n c) l) (hlen : (l.length + 1) * 64 ≤ 140737488355328)
    (hx : k55.M w w0.heap.size G x cx) (hgv : w.heap[gv]? = some (.cells cx.toArray 55 (0, 0))) (hPG : ∀ k, G k → ¬ P k) (hgP : ¬ P gv) (hi : i < n) (hroom : c < n + 1) (r : List S55) (hr : r = l.take i ++ x :: l.drop i) :
    Calls Tryd.prog 108 #[.slice (some ⟨g, 0, none⟩) n c, .int .i64 i, .slice (some ⟨gv, 0, none⟩) 1 1] w (InsPost w0 w P G r) := by
  obtain ⟨inner, okj, hown, hin, h0, hap, hok, hrep⟩ := S_parts ho
  have hn := (Kd.S_reads' ho).1
  have hcx : cx.length = 3 := k55.K_len (k55.K_of_M hx)
  have hone := k55.K_one (k55.K_of_M hx)
  have hPg : P g := h0 g (by simp [Value.ownBlock])
  have hvb : gv ≠ g := fun he => hgP (he ▸ hPg)
  have hin3 : inner.length = n * 3 := by rw [hin, hn]; rfl
  obtain ⟨cur, hh, hcs, htk, hbg⟩ : ∃ cur, w.heap[g]? = some (.cells cur 55 (0, 0)) ∧ cur.size = c * 3 ∧ cur.toList.take (n * 3) = inner ∧ w0.heap.size ≤ g := by
    rcases hown.2 with ⟨hv, _⟩ | ⟨g', cap', cur, hv, hb, hh, hnc, hcm, hcs, htake⟩
    · cases hv
    injection hv with ha _ hc'
    injection ha with ha
    injection ha with hg
    subst hg; subst hc'
    exact ⟨cur, hh, hcs, by rw [hn]; exact htake, hb⟩
  have hgw : g < w.heap.size := blk_lt hh
  have hone2 : ∀ u ∈ inner, u.oneCell' = true := by
    intro u hu
    obtain ⟨q, hq⟩ := List.mem_iff_getElem?.1 hu
    have hql := (List.getElem?_eq_some_iff.1 hq).1
    have hqn : q / 3 < l.length := by omega
    have hM := hrep (q / 3) _ (List.getElem?_eq_getElem hqn)
    refine k55.K_one (k55.K_of_M hM) u (List.mem_iff_getElem?.2 ⟨q % 3, ?_⟩)
    show ((inner.drop (q / 3 * 3)).take 3)[q % 3]? = some u
    rw [List.getElem?_take, if_pos (Nat.mod_lt _ (by decide)), List.getElem?_drop, show q / 3 * 3 + q % 3 = q by omega]
    exact hq
  have hc0 : ∀ j u, inner[j]? = some u → w.cell? ⟨g, j, none⟩ = some u := fun j u hu => by
    rw [blk_cell hh j]
    rw [← htk, List.getElem?_take] at hu
    split at hu
    · simpa using hu
    cases hu
  have hsp : ∀ j, j < c * 3 → (w.cell? ⟨g, j, none⟩).isSome = true := fun j hj => by rw [blk_cell hh j, Array.getElem?_eq_getElem (by omega)]; rfl
  have hfz : ∀ j, w.frozen? ⟨g, j, none⟩ = false := fun j => Zn hh j
  have hvs : ∀ j u, cx[j]? = some u → w.cell? ⟨gv, j, none⟩ = some u := fun j u hu => by rw [blk_cell hgv j]; simpa using hu
  have hdl : (inner.drop (i * 3)).length = (n - i) * 3 := by rw [List.length_drop, hin3, Nat.sub_mul]
  obtain ⟨i0, hi0, hz0, hz1, hz2⟩ := info_parts info55
  have hnc : n ≤ c := (Kd.S_reads' ho).2.1
  have hgvw : gv < w.heap.size := blk_lt hgv
  have hold : (Builtin.firstCells i0.size i (.slice (some ⟨g, 0, none⟩) i c)).run Tryd.prog w.drew = .ok (inner.take (i * 3)).toArray w.drew := by
    rw [hz1]
    exact run_firstCells_some w.drew 3 i ⟨g, 0, none⟩ i c (inner.take (i * 3)) (by rw [List.length_take]; omega) (fun j v hj => by
      rw [Addr.add_lit, Nat.zero_add]
      rw [List.getElem?_take] at hj
      split at hj
      · exact hc0 j v hj
      cases hj)
  have hik : i + (n + 1 - i) = n + 1 := by omega
  obtain ⟨GC, hGC⟩ : ∃ GC, GC = grownCap w (n + 1) c 55 := ⟨_, rfl⟩
  have hGn : n + 1 ≤ GC := by rw [hGC]; exact grownCap_ge w _ _ _
  have hGm : GC ≤ maxLen := by rw [hGC]; exact grownCap_le_maxLen w (n + 1) c 55 (by simp only [maxLen]; omega)
  obtain ⟨ROW, hROW⟩ : ∃ ROW : Array Value, ROW = (inner.take (i * 3)).toArray ++ Builtin.zeroCells (Value.agg #[.string ⟨#[]⟩, .slice none 0 0, .slice none 0 0]).cells (n + 1 - i) ++ Builtin.zeroCells (Value.agg #[.string ⟨#[]⟩, .slice none 0 0, .slice none 0 0]).cells (GC - (n + 1)) := ⟨_, rfl⟩
  have hRs : ROW.size = GC * 3 := by
    rw [hROW]
    simp only [Array.size_append, List.size_toArray, List.length_take, size_zeroCells, show (Value.agg #[.string ⟨#[]⟩, .slice none 0 0, .slice none 0 0]).cells.size = 3 from rfl]
    omega
  have hRt : ROW.toList.take (i * 3) = inner.take (i * 3) := by
    rw [hROW]
    simp only [Array.toList_append]
    rw [List.append_assoc, List.take_left']
    rw [List.length_take]; omega
  obtain ⟨W1, hW1⟩ : ∃ W1, W1 = w.drew.alloc (.cells ROW 55) := ⟨_, rfl⟩
  have hrz : ∀ ty, (Builtin.append_ #[26, 3] ty #[.slice (some ⟨g, 0, none⟩) i c, .int .i64 ((n + 1 - i : Nat) : Int)]).run Tryd.prog w = .ok (.slice (some ⟨w.heap.size, 0, none⟩) (n + 1) GC) W1 := fun ty => by
    have h := Lib.run_append_grow_zeros (P := Tryd.prog) w 26 3 ty 55 i0 _ .i64 .i64 Tryd.underlying26 Tryd.underlying3 hi0 hz0 (some ⟨g, 0, none⟩) i c (inner.take (i * 3)) hold (n + 1 - i) (by omega) (by omega) (by omega) (by omega) (by rw [hz2]; omega) (by rw [hz2, hik]; exact growslice_fits hroom (by omega))
    rw [hik, ← hGC, ← hROW, ← hW1] at h
    exact h
  have hW1n : W1.heap[w.heap.size]? = some (.cells ROW 55 (0, 0)) := by rw [hW1]; exact heap_alloc_new w.drew _
  have hW1o : ∀ k, k < w.heap.size → W1.heap[k]? = w.heap[k]? := fun k hk => by rw [hW1]; exact heap_alloc_old (w := w.drew) _ hk
  have hW1s : W1.heap.size = w.heap.size + 1 := by rw [hW1]; simp
  have hB1 : Below w0.heap.size w0 W1 := by rw [hW1]; exact Zf (Ze hB) _
  have hmin2 : Nat.min 1 (n + 1 - i) = 1 := by simp only [Nat.min_def]; split <;> omega
  have hmin1 : Nat.min (n - i) (n - i) = n - i := by simp only [Nat.min_def]; split <;> omega
  have hcpA : ∀ ty dc, (Builtin.copy_ #[26, 26] ty #[.slice (some ⟨w.heap.size, i * 3, none⟩) (n + 1 - i) dc, .slice (some ⟨gv, 0, none⟩) 1 1]).run Tryd.prog W1 = .ok (goInt ((1 : Nat) : Int)) (W1.setCells w.heap.size (i * 3) cx) := fun ty dc => by
    have h := run_copy_k (P := Tryd.prog) W1 26 26 ty 55 3 w.heap.size (i * 3) (n + 1 - i) dc ⟨gv, 0, none⟩ 1 1 cx Tryd.underlying26 info55s (by rw [hmin2, hcx])
      (fun j u hj => by rw [Addr.add_lit, Nat.zero_add, blk_cell ((hW1o gv hgvw).trans hgv) j]; simpa using hj)
      (fun j hj => by rw [blk_cell hW1n, Array.getElem?_eq_getElem (by omega)]; rfl) (fun j hj => Zn hW1n _) hone
    rw [hmin2] at h
    exact h
  obtain ⟨cur1, hh1, hcs1, hl1⟩ := setCells_row cx (i * 3) W1 ROW hW1n (by omega)
  obtain ⟨W2, hW2⟩ : ∃ W2, W2 = W1.setCells w.heap.size (i * 3) cx := ⟨_, rfl⟩
  rw [← hW2] at hcpA hh1
  have hgW2 : W2.heap[g]? = some (.cells cur 55 (0, 0)) := by rw [hW2, setCells_far _ _ g (by omega)]; exact (hW1o g hgw).trans hh
  have hcpB : ∀ ty dc sc, (Builtin.copy_ #[26, 26] ty #[.slice (some ⟨w.heap.size, (i + 1) * 3, none⟩) (n - i) dc, .slice (some ⟨g, i * 3, none⟩) (n - i) sc]).run Tryd.prog W2.drew = .ok (goInt ((n - i : Nat) : Int)) (W2.drew.setCells w.heap.size ((i + 1) * 3) (inner.drop (i * 3))) := fun ty dc sc => by
    have h := run_copy_k (P := Tryd.prog) W2.drew 26 26 ty 55 3 w.heap.size ((i + 1) * 3) (n - i) dc ⟨g, i * 3, none⟩ (n - i) sc (inner.drop (i * 3)) Tryd.underlying26 info55s (by rw [hmin1]; exact hdl)
      (fun j u hj => by
        have hj2 : inner[i * 3 + j]? = some u := by rwa [List.getElem?_drop] at hj
        rw [Addr.add_lit]
        show W2.cell? ⟨g, i * 3 + j, none⟩ = some u
        rw [blk_cell hgW2]
        rw [← htk, List.getElem?_take] at hj2
        split at hj2
        · simpa using hj2
        cases hj2)
      (fun j hj => by show (W2.cell? _).isSome = true; rw [blk_cell hh1, Array.getElem?_eq_getElem (by rw [hdl, Nat.sub_mul] at hj; omega)]; rfl) (fun j hj => Zn (w := W2) hh1 _) (fun u hu => hone2 u (List.mem_of_mem_drop hu))
    rw [hmin1] at h
    exact h
  obtain ⟨cur2, hh2, hcs2, hl2⟩ := setCells_row (inner.drop (i * 3)) ((i + 1) * 3) W2.drew cur1 hh1 (by rw [hdl, Nat.sub_mul]; omega)
  obtain ⟨W3, hW3⟩ : ∃ W3, W3 = W2.drew.setCells w.heap.size ((i + 1) * 3) (inner.drop (i * 3)) := ⟨_, rfl⟩
  rw [← hW3] at hcpB hh2
  have hfin : InsPost w0 w P G r (.returned (.slice (some ⟨w.heap.size, 0, none⟩) (n + 1) GC)) W3 := by
    subst hr
    have hws : w0.heap.size ≤ w.heap.size := hB.size
    have hB3 : Below w0.heap.size w0 W3 := by rw [hW3, hW2]; exact below_setCells hws _ _ (Ze (below_setCells hws _ _ hB1))
    have hfar : ∀ k, k < w.heap.size → W3.heap[k]? = w.heap[k]? := fun k hk => by
      rw [hW3, setCells_far _ _ k (by omega)]
      show W2.heap[k]? = _
      rw [hW2, setCells_far _ _ k (by omega)]
      exact hW1o k hk
    have hs3 : W3.heap.size = w.heap.size + 1 := by
      rw [hW3, (setCells_same _ _ _ W2.drew).2.2.2]
      show W2.heap.size = _
      rw [hW2, (setCells_same _ _ _ W1).2.2.2, hW1s]
    refine ⟨_, rfl, S_putO (i := i) hin h0 hap hok hrep hx hPG (by omega) ⟨?_, .inr ⟨w.heap.size, GC, cur2, by rw [hn], hws, hh2, by omega, hGm, ?_, ?_⟩⟩ (.inr ⟨w.heap.size, by simp [Value.ownBlock], Nat.le_refl _⟩) (fun k hk hne => hfar k hk), hB3, by omega, fun k hk hne => hfar k hk⟩
    · simp only [List.length_append, List.length_take, List.length_drop, hcx, hin3]
      show min (i * 3) (n * 3) + 3 + (n * 3 - i * 3) = (l.length + 1) * 3
      omega
    · show cur2.size = GC * 3; omega
    show cur2.toList.take ((l.length + 1) * 3) = inner.take (i * 3) ++ cx ++ inner.drop (i * 3)
    rw [← hn]
    exact ins_new (z := []) hin3 hcx hi (by rw [Array.length_toList]; omega) hRt hl1 hl2
  have FIN := Zh hfin
  have hrz' := Zh hrz
  have hcpA' := Zh hcpA
  have hcpB' := Zh hcpB
  have hnb : n + 1 ≤ 9223372036854775807 := by omega
  have hinz : ¬ ((i : Int) = (n : Int)) := by omega
  have hin1 : (i : Int) ≤ (n : Int) := by omega
  have hii0 : (0 : Int) ≤ (i : Int) + 1 := by omega
  have hii1 : (i : Int) + 1 ≤ (n : Int) + 1 := by omega
  have hii2 : (i : Int) ≤ (n : Int) + 1 := by omega
  have hcgt : ((c : Int) < (n : Int) + 1) := by omega
  have hic : i ≤ c := by omega
  have hb4 : ¬ (c = i) := by omega
  have hGi : ¬ (GC = i) := by omega
  have hGi1 : ¬ (GC = i + 1) := by omega
  have hiG : i ≤ GC := by omega
  have hi1G : i + 1 ≤ GC := by omega
  have hkk : (n : Int) + 1 - (i : Int) = ((n + 1 - i : Nat) : Int) := by omega
  have hit : ((i : Int) + 1).toNat = i + 1 := by omega
  have hwn : IntKind.i64.wrap ((n : Int) + 1) = (n : Int) + 1 := by rw [IntKind.wrap_i64]; omega
  have hwk : IntKind.i64.wrap ((n : Int) + 1 - (i : Int)) = ((n + 1 - i : Nat) : Int) := by rw [IntKind.wrap_i64]; omega
  have hw1 : IntKind.i64.wrap ((i : Int) + 1) = (i : Int) + 1 := by rw [IntKind.wrap_i64]; omega
  clear hown hin h0 hap hok hrep ho hx hPG hr hfin hrz hcpA hcpB hone hone2 hc0 hsp hfz hvs hdl hh hh1 hh2 hl1 hl2 hcs hcs1 hcs2 htk hmin1 hmin2 hgv hB hB1 hn hW1 hW2 hW3 hgP hPg hlen hW1n hW1o hW1s hRs hRt hROW hGC hold hik hgW2 hi0 hz0 hz1 hz2 hGm
  go_enter Tryd.func108, Tryd.ntmps108
  go_wp2_with (first
    | ((with_reducible refine gate_builtin (b := .append) (xs := #[.tmp 34, .tmp 39]) rfl ?_); refine wpList_append_run _ rfl (.tmp 34) (.tmp 39) 26 3 rfl _ _ rfl rfl (hrz'.out _) ?_)
    | ((with_reducible refine gate_builtin (b := .copy) (xs := #[.tmp 43, .tmp 44]) rfl ?_); refine wpList_copy_run _ rfl (.tmp 43) (.tmp 44) 26 26 rfl _ _ rfl rfl (hcpA'.out _ _) ?_))
  go_region_law (refine step_copy_run rfl (.tmp 50) (.tmp 53) 26 26 rfl _ _ (by simp [Act.eval, Act.put]) (by simp [Act.eval, Act.put]) (hcpB'.out _ (GC - (i + 1)) (c - i)) ?_)
  go_wp2
  go_ret
  exact FIN.out
end Go.Proofs.YtcgojdhbphocgaaDoor.F
