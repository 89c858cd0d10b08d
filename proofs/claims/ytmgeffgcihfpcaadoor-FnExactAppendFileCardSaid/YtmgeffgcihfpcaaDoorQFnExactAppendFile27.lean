/- Merged texts below the law FnExactAppendFile: Go functions as Lean functions, their contracts, and plain lemmas. -/
import Derived.Test.YtmgeffgcihfpcaaDoorQFnExactAppendFile25
import Derived.Test.YtmgeffgcihfpcaaDoorQFnExactAppendFile23
import Derived.Test.YtmgeffgcihfpcaaDoorQFnExactAppendFile26
namespace Go.Proofs.YtmgeffgcihfpcaaDoor.F
open Go.Proofs.YtmgeffgcihfpcaaDoor
open Go.RowKit Go.Proofs.YtmgeffgcihfpcaaDoorW.PrintWords Go.Proofs.YtmgeffgcihfpcaaDoorW.PrintWords.Kd Go.Proofs.YtmgeffgcihfpcaaDoorW.PrintMore.Kd Go.Proofs.YtmgeffgcihfpcaaDoorW.PrintLast Go.Proofs.YtmgeffgcihfpcaaDoorW.PrintMore
attribute [local go_sem] max2_int min2_int max_two min_two max_three min_three max_four min_four   -- for this text's walks alone
set_option linter.unusedVariables false
set_option linter.unusedSimpArgs false
mutual
def spec_l03Put.l0 : Nat → Bool → Int → List (S74) → ByteArray → List Int → List Int → List (S74) → Option ((List (S74)))
 | 0, _, _, _, _, _, _, _ => none
 | k + 1, x6, x7, x298000, x299000, x299001, x299002, x301000 => if x7 < (x298000.length : Int) then (if x6 = true then (spec_l03Put.j1 k x6 x7 false x298000 x299000 x299001 x299002 x301000) else (if 0 ≤ x7 then (spec_l03Put.j1 k x6 x7 (!(Op.bytesLess (((rd_T74 x298000 x7).f0).toList) x299000.toList)) x298000 x299000 x299001 x299002 x301000) else (none))) else (if x6 = true then ((spec_l03Copy.f k x301000).bind fun t301 => (some t301)) else (if x301000.length < 2199023255552 then ((spec_l03Copy.f k (x301000 ++ [(⟨x299000, x299001, x299002⟩ : S74)])).bind fun t307 => (some t307)) else (none)))
def spec_l03Put.j1 : Nat → Bool → Int → Bool → List (S74) → ByteArray → List Int → List Int → List (S74) → Option ((List (S74)))
 | 0, _, _, _, _, _, _, _, _ => none
 | k + 1, x6, x7, x28, x298000, x299000, x299001, x299002, x301000 => if x28 = true then (if x301000.length < 2199023255552 then ((some (x301000 ++ [(⟨x299000, x299001, x299002⟩ : S74)] : List (S74))).bind fun y311 => (if 0 ≤ x7 then (if x7 < (x298000.length : Int) then (if ((rd_T74 x298000 x7).f0).toList = x299000.toList then (spec_l03Put.l0 k true (wrap64 (x7 + 1)) x298000 x299000 x299001 x299002 y311) else (if y311.length < 2199023255552 then (spec_l03Put.l0 k true (wrap64 (x7 + 1)) x298000 x299000 x299001 x299002 (y311 ++ [(⟨(rd_T74 x298000 x7).f0, (rd_T74 x298000 x7).f1, (rd_T74 x298000 x7).f2⟩ : S74)])) else (none))) else (none)) else (none))) else (none)) else (if 0 ≤ x7 then (if x7 < (x298000.length : Int) then (if ((rd_T74 x298000 x7).f0).toList = x299000.toList then (spec_l03Put.l0 k x6 (wrap64 (x7 + 1)) x298000 x299000 x299001 x299002 x301000) else (if x301000.length < 2199023255552 then (spec_l03Put.l0 k x6 (wrap64 (x7 + 1)) x298000 x299000 x299001 x299002 (x301000 ++ [(⟨(rd_T74 x298000 x7).f0, (rd_T74 x298000 x7).f1, (rd_T74 x298000 x7).f2⟩ : S74)])) else (none))) else (none)) else (none))
end
def spec_l03Put.f (k : Nat) (l0_0 : List (S74)) (a1_0 : ByteArray) (l1_1 : List Int) (l1_2 : List Int) : Option ((List (S74))) := spec_l03Put.l0 k false 0 l0_0 a1_0 l1_1 l1_2 ([] : List (S74))
def spec_l03Put.T6 : Bool × List (List Nat × List Nat) := (true, [([], []), ([0], [0]), ([1], [1]), ([2], [2]), ([3, 2], [2, 3]), ([2], [2]), ([4, 5, 2], [2, 4, 5]), ([6, 2], [2, 6]), ([7, 2], [2, 7]), ([2], [2]), ([9, 2], [2, 9]), ([8, 10, 2], [2, 8, 10]), ([2, 11], [2, 11])])
def spec_l03Put.B6 : List Nat := [0, 1, 3, 7, 15, 7, 63, 127, 255, 7, 519, 2047, 4095]
theorem spec_l03Put.tab6 : rtab .any (opsOf Tryd.f70 6) = spec_l03Put.T6 := by kernel_rfl
theorem spec_l03Put.bits6 : waitsOk spec_l03Put.T6.2 spec_l03Put.B6 = true := by kernel_rfl
def spec_l03Put.T9 : Bool × List (List Nat × List Nat) := (true, [([], []), ([0], [0]), ([], []), ([1, 2], [1, 2]), ([3], [3]), ([4], [4]), ([], []), ([6], [6]), ([5, 7], [5, 7])])
def spec_l03Put.B9 : List Nat := [0, 1, 0, 7, 15, 31, 0, 64, 255]
theorem spec_l03Put.tab9 : rtab .any (opsOf Tryd.f70 9) = spec_l03Put.T9 := by kernel_rfl
theorem spec_l03Put.bits9 : waitsOk spec_l03Put.T9.2 spec_l03Put.B9 = true := by kernel_rfl
def spec_l03Put.T10 : Bool × List (List Nat × List Nat) := (true, [([], []), ([0], [0]), ([], []), ([2], [2]), ([], []), ([3, 4], [3, 4]), ([5], [5]), ([6], [6]), ([1, 7], [1, 7]), ([0, 1, 2, 3, 4, 5, 6, 7, 8], []), ([9, 8, 8, 0, 1, 2, 3, 4, 5, 6, 7, 8], [8, 9])])
def spec_l03Put.B10 : List Nat := [0, 1, 0, 4, 0, 28, 60, 124, 255, 511, 1023]
theorem spec_l03Put.tab10 : rtab .any (opsOf Tryd.f70 10) = spec_l03Put.T10 := by kernel_rfl
theorem spec_l03Put.bits10 : waitsOk spec_l03Put.T10.2 spec_l03Put.B10 = true := by kernel_rfl
set_option maxHeartbeats 8000000 in
set_option maxRecDepth 100000 in
theorem spec_l03Put.calls (k : Nat) (P0_0_ : Nat → Prop) (A0_0 : Option Addr) (c0_0 : Nat) (l0_0 : List (S74)) (a1_0 : ByteArray) (P1_1_ : Nat → Prop) (A1_1 : Option Addr) (c1_1 : Nat) (l1_1 : List Int) (P1_2_ : Nat → Prop) (A1_2 : Option Addr) (c1_2 : Nat) (l1_2 : List Int) (r : List (S74)) (w : World) (hs0_0 : Kd.V k74 74 w w.heap.size (fun k_ => P0_0_ k_) (.slice A0_0 l0_0.length c0_0) l0_0) (hs1_1 : Kd.V (Kd.int .u8) 5 w w.heap.size (fun k_ => P1_1_ k_) (.slice A1_1 l1_1.length c1_1) l1_1) (hs1_2 : Kd.V (Kd.int .u8) 5 w w.heap.size (fun k_ => P1_2_ k_) (.slice A1_2 l1_2.length c1_2) l1_2) (h : spec_l03Put.f k l0_0 a1_0 l1_1 l1_2 = some r) :
  Calls Tryd.prog 70 #[.agg #[.slice A0_0 l0_0.length c0_0], .agg #[.string a1_0, .slice A1_1 l1_1.length c1_1, .slice A1_2 l1_2.length c1_2]] w fun e w' => ∃ v0_ : Value, e = .returned (.agg #[v0_]) ∧ Kd.N k74 74 w' w.heap.size (fun k_ => ((P0_0_ k_ ∨ P1_1_ k_ ∨ P1_2_ k_) ∨ w.heap.size ≤ k_)) v0_ r ∧ Below w.heap.size w w' := by
 have hu29 := Tryd.underlying29
 have hu74 := Tryd.underlying74
 have HO0_0 := Zh (show Kd.V k74 74 w w.heap.size (fun k_ => ((P0_0_ k_ ∨ P1_1_ k_ ∨ P1_2_ k_) ∨ w.heap.size ≤ k_)) (.slice A0_0 l0_0.length c0_0) l0_0 from V_mono hs0_0 (fun k_ hk => .inl (.inl hk)))
 have HO1_1 := Zh (show Kd.V (Kd.int .u8) 5 w w.heap.size (fun k_ => ((P0_0_ k_ ∨ P1_1_ k_ ∨ P1_2_ k_) ∨ w.heap.size ≤ k_)) (.slice A1_1 l1_1.length c1_1) l1_1 from V_mono hs1_1 (fun k_ hk => .inl (.inr (.inl hk))))
 have HO1_2 := Zh (show Kd.V (Kd.int .u8) 5 w w.heap.size (fun k_ => ((P0_0_ k_ ∨ P1_1_ k_ ∨ P1_2_ k_) ∨ w.heap.size ≤ k_)) (.slice A1_2 l1_2.length c1_2) l1_2 from V_mono hs1_2 (fun k_ hk => .inl (.inr (.inr hk))))
 have HB := Zh (Below.refl w.heap.size w)
 have H : (spec_l03Put.l0 k false 0 l0_0 a1_0 l1_1 l1_2 ([] : List (S74))) = some r := h
 clear h
 have H' := Zh H
 clear H
 go_enter Tryd.func70, Tryd.ntmps70
 go_wp2_with (first | ((with_reducible refine gate_dst (N := 2) rfl ?_); refine box_event ?hg (N := 2) ?hd (cs := #[.slice A0_0 l0_0.length c0_0]) (t := 29) ?hr ?_; (case hd => rfl); (case hg => rfl); (case hr => first | (go_simp; done) | (go_simp; rfl)); intro gb297 hg w3 hbox hb; have n0_ := Zh (V_below (V_elderB (by (with_reducible repeat (first | apply V_alloc | apply V_drewN | apply V_drew)); exact HO0_0.out) gb297 (Nat.le_of_eq hg.symm)) hb); have n1_ := Zh (V_below (V_elderB (by (with_reducible repeat (first | apply V_alloc | apply V_drewN | apply V_drew)); exact HO1_1.out) gb297 (Nat.le_of_eq hg.symm)) hb); have n2_ := Zh (V_below (V_elderB (by (with_reducible repeat (first | apply V_alloc | apply V_drewN | apply V_drew)); exact HO1_2.out) gb297 (Nat.le_of_eq hg.symm)) hb); have n3_ := Zh (Zl Zs hb); have n4_ := Zh (hbox); have n5_ := Zh ((by rw [hg]; exact (below_size Zs) : w.heap.size ≤ gb297)); have n6_ := Zh ((by rw [hg]; exact (below_size Zs) : w.heap.size ≤ gb297)); clear HO0_0; clear HO1_1; clear HO1_2; clear HB; have HO0_0 := n0_; have HO1_1 := n1_; have HO1_2 := n2_; have HB := n3_; have BK297 := n4_; have GW297 := n5_; have GE297 := n6_; clear n0_ n1_ n2_ n3_ n4_ n5_ n6_; clear hb hbox hg) | ((with_reducible refine gate_dst (N := 3) rfl ?_); refine box_event ?hg (N := 3) ?hd (cs := #[.string a1_0, .slice A1_1 l1_1.length c1_1, .slice A1_2 l1_2.length c1_2]) (t := 74) ?hr ?_; (case hd => rfl); (case hg => rfl); (case hr => first | (go_simp; done) | (go_simp; rfl)); intro gb298 hg w4 hbox hb; have n0_ := Zh (V_below (V_elderB (by (with_reducible repeat (first | apply V_alloc | apply V_drewN | apply V_drew)); exact HO0_0.out) gb298 (Nat.le_of_eq hg.symm)) hb); have n1_ := Zh (V_below (V_elderB (by (with_reducible repeat (first | apply V_alloc | apply V_drewN | apply V_drew)); exact HO1_1.out) gb298 (Nat.le_of_eq hg.symm)) hb); have n2_ := Zh (V_below (V_elderB (by (with_reducible repeat (first | apply V_alloc | apply V_drewN | apply V_drew)); exact HO1_2.out) gb298 (Nat.le_of_eq hg.symm)) hb); have n3_ := Zh (Zm (g := gb297) (o := .cells #[.slice A0_0 l0_0.length c0_0] 29 (0, 0)) Zk hb); have n4_ := Zh (Zl Zs hb); have n5_ := Zh (hbox); have n6_ := Zh ((by rw [hg]; exact (below_size Zs) : w.heap.size ≤ gb298)); have n7_ := Zh ((by rw [hg]; exact (below_size Zs) : w.heap.size ≤ gb298)); have n8_ := Zh ((by rw [hg]; exact Nat.ne_of_lt (blk_lt (g := gb297) (o := .cells #[.slice A0_0 l0_0.length c0_0] 29 (0, 0)) Zk) : gb297 ≠ gb298)); have n9_ := Zh ((by rw [hg]; exact Nat.ne_of_gt (blk_lt (g := gb297) (o := .cells #[.slice A0_0 l0_0.length c0_0] 29 (0, 0)) Zk) : gb298 ≠ gb297)); clear HO0_0; clear HO1_1; clear HO1_2; clear BK297; clear HB; have HO0_0 := n0_; have HO1_1 := n1_; have HO1_2 := n2_; have BK297 := n3_; have HB := n4_; have BK298 := n5_; have GW298 := n6_; have GE298 := n7_; have NB297_298 := n8_; have NB298_297 := n9_; clear n0_ n1_ n2_ n3_ n4_ n5_ n6_ n7_ n8_ n9_; clear hb hbox hg) | ((with_reducible refine gate_dst (N := 4) rfl ?_); refine box_event ?hg (N := 4) ?hd (cs := #[.slice none 0 0]) (t := 29) ?hr ?_; (case hd => rfl); (case hg => rfl); (case hr => first | (go_simp; done) | (go_simp; rfl)); intro gb299 hg w5 hbox hb; have n0_ := Zh (V_below (V_elderB (by (with_reducible repeat (first | apply V_alloc | apply V_drewN | apply V_drew)); exact HO0_0.out) gb299 (Nat.le_of_eq hg.symm)) hb); have n1_ := Zh (V_below (V_elderB (by (with_reducible repeat (first | apply V_alloc | apply V_drewN | apply V_drew)); exact HO1_1.out) gb299 (Nat.le_of_eq hg.symm)) hb); have n2_ := Zh (V_below (V_elderB (by (with_reducible repeat (first | apply V_alloc | apply V_drewN | apply V_drew)); exact HO1_2.out) gb299 (Nat.le_of_eq hg.symm)) hb); have n3_ := Zh (Zm (g := gb297) (o := .cells #[.slice A0_0 l0_0.length c0_0] 29 (0, 0)) Zk hb); have n4_ := Zh (Zm (g := gb298) (o := .cells #[.string a1_0, .slice A1_1 l1_1.length c1_1, .slice A1_2 l1_2.length c1_2] 74 (0, 0)) Zk hb); have n5_ := Zh (Zl Zs hb); have n6_ := Zh (hbox); have n7_ := Zh ((by rw [hg]; exact (below_size Zs) : w.heap.size ≤ gb299)); have n8_ := Zh ((by rw [hg]; exact (below_size Zs) : w.heap.size ≤ gb299)); have n9_ := Zh ((by rw [hg]; exact Nat.ne_of_lt (blk_lt (g := gb297) (o := .cells #[.slice A0_0 l0_0.length c0_0] 29 (0, 0)) Zk) : gb297 ≠ gb299)); have n10_ := Zh ((by rw [hg]; exact Nat.ne_of_gt (blk_lt (g := gb297) (o := .cells #[.slice A0_0 l0_0.length c0_0] 29 (0, 0)) Zk) : gb299 ≠ gb297)); have n11_ := Zh ((by rw [hg]; exact Nat.ne_of_lt (blk_lt (g := gb298) (o := .cells #[.string a1_0, .slice A1_1 l1_1.length c1_1, .slice A1_2 l1_2.length c1_2] 74 (0, 0)) Zk) : gb298 ≠ gb299)); have n12_ := Zh ((by rw [hg]; exact Nat.ne_of_gt (blk_lt (g := gb298) (o := .cells #[.string a1_0, .slice A1_1 l1_1.length c1_1, .slice A1_2 l1_2.length c1_2] 74 (0, 0)) Zk) : gb299 ≠ gb298)); clear HO0_0; clear HO1_1; clear HO1_2; clear BK297; clear BK298; clear HB; have HO0_0 := n0_; have HO1_1 := n1_; have HO1_2 := n2_; have BK297 := n3_; have BK298 := n4_; have HB := n5_; have BK299 := n6_; have GW299 := n7_; have GE299 := n8_; have NB297_299 := n9_; have NB299_297 := n10_; have NB298_299 := n11_; have NB299_298 := n12_; clear n0_ n1_ n2_ n3_ n4_ n5_ n6_ n7_ n8_ n9_ n10_ n11_ n12_; clear hb hbox hg) | ((with_reducible refine gate_dst (N := 5) rfl ?_); refine box_event ?hg (N := 5) ?hd (cs := #[.slice none 0 0]) (t := 29) ?hr ?_; (case hd => rfl); (case hg => rfl); (case hr => first | (go_simp; done) | (go_simp; rfl)); intro gb300 hg w6 hbox hb; have n0_ := Zh (V_below (V_elderB (by (with_reducible repeat (first | apply V_alloc | apply V_drewN | apply V_drew)); exact HO0_0.out) gb300 (Nat.le_of_eq hg.symm)) hb); have n1_ := Zh (V_below (V_elderB (by (with_reducible repeat (first | apply V_alloc | apply V_drewN | apply V_drew)); exact HO1_1.out) gb300 (Nat.le_of_eq hg.symm)) hb); have n2_ := Zh (V_below (V_elderB (by (with_reducible repeat (first | apply V_alloc | apply V_drewN | apply V_drew)); exact HO1_2.out) gb300 (Nat.le_of_eq hg.symm)) hb); have n3_ := Zh (Zm (g := gb297) (o := .cells #[.slice A0_0 l0_0.length c0_0] 29 (0, 0)) Zk hb); have n4_ := Zh (Zm (g := gb298) (o := .cells #[.string a1_0, .slice A1_1 l1_1.length c1_1, .slice A1_2 l1_2.length c1_2] 74 (0, 0)) Zk hb); have n5_ := Zh (Zm (g := gb299) (o := .cells #[.slice none 0 0] 29 (0, 0)) Zk hb); have n6_ := Zh (Zl Zs hb); have n7_ := Zh (hbox); have n8_ := Zh ((by rw [hg]; exact (below_size Zs) : w.heap.size ≤ gb300)); have n9_ := Zh ((by rw [hg]; exact (below_size Zs) : w.heap.size ≤ gb300)); have n10_ := Zh ((by rw [hg]; exact Nat.ne_of_lt (blk_lt (g := gb297) (o := .cells #[.slice A0_0 l0_0.length c0_0] 29 (0, 0)) Zk) : gb297 ≠ gb300)); have n11_ := Zh ((by rw [hg]; exact Nat.ne_of_gt (blk_lt (g := gb297) (o := .cells #[.slice A0_0 l0_0.length c0_0] 29 (0, 0)) Zk) : gb300 ≠ gb297)); have n12_ := Zh ((by rw [hg]; exact Nat.ne_of_lt (blk_lt (g := gb298) (o := .cells #[.string a1_0, .slice A1_1 l1_1.length c1_1, .slice A1_2 l1_2.length c1_2] 74 (0, 0)) Zk) : gb298 ≠ gb300)); have n13_ := Zh ((by rw [hg]; exact Nat.ne_of_gt (blk_lt (g := gb298) (o := .cells #[.string a1_0, .slice A1_1 l1_1.length c1_1, .slice A1_2 l1_2.length c1_2] 74 (0, 0)) Zk) : gb300 ≠ gb298)); have n14_ := Zh ((by rw [hg]; exact Nat.ne_of_lt (blk_lt (g := gb299) (o := .cells #[.slice none 0 0] 29 (0, 0)) Zk) : gb299 ≠ gb300)); have n15_ := Zh ((by rw [hg]; exact Nat.ne_of_gt (blk_lt (g := gb299) (o := .cells #[.slice none 0 0] 29 (0, 0)) Zk) : gb300 ≠ gb299)); clear HO0_0; clear HO1_1; clear HO1_2; clear BK297; clear BK298; clear BK299; clear HB; have HO0_0 := n0_; have HO1_1 := n1_; have HO1_2 := n2_; have BK297 := n3_; have BK298 := n4_; have BK299 := n5_; have HB := n6_; have BK300 := n7_; have GW300 := n8_; have GE300 := n9_; have NB297_300 := n10_; have NB300_297 := n11_; have NB298_300 := n12_; have NB300_298 := n13_; have NB299_300 := n14_; have NB300_299 := n15_; clear n0_ n1_ n2_ n3_ n4_ n5_ n6_ n7_ n8_ n9_ n10_ n11_ n12_ n13_ n14_ n15_; clear hb hbox hg; have hnb7 := NB300_297.out; have hnc7 := NB297_300.out; have hnb8 := NB300_298.out; have hnc8 := NB298_300.out; have hnb9 := NB300_299.out; have hnc9 := NB299_300.out; have hcz10_0 : w6.cell? ⟨gb300, 0, none⟩ = some (.slice none 0 0) := (blk_cell BK300.out 0).trans rfl; have hfz10_0 := Zn BK300.out 0))
 go_loopg [6, 7] k (fun kq v6 v7 w' => ∃ (x6_1 : Bool) (x7_1 : Int) (x301000_1 : List (S74)) (u301000 : Value), v6 = .bool x6_1 ∧ v7 = .int .i64 x7_1 ∧ Aside0 (spec_l03Put.l0 kq x6_1 x7_1 l0_0 a1_0 l1_1 l1_2 x301000_1 = some r) ∧ Aside0 (kq ≤ k) ∧ Aside0 (Kd.V k74 74 w' w.heap.size (fun k_ => ((P0_0_ k_ ∨ P1_1_ k_ ∨ P1_2_ k_) ∨ w.heap.size ≤ k_) ∧ some k_ ≠ (u301000 : Value).ownBlock ∧ k_ ≠ gb297 ∧ k_ ≠ gb298 ∧ k_ ≠ gb299 ∧ k_ ≠ gb300) (.slice A0_0 l0_0.length c0_0) l0_0) ∧ Aside0 (Kd.V (Kd.int .u8) 5 w' w.heap.size (fun k_ => ((P0_0_ k_ ∨ P1_1_ k_ ∨ P1_2_ k_) ∨ w.heap.size ≤ k_) ∧ some k_ ≠ (u301000 : Value).ownBlock ∧ k_ ≠ gb297 ∧ k_ ≠ gb298 ∧ k_ ≠ gb299 ∧ k_ ≠ gb300) (.slice A1_1 l1_1.length c1_1) l1_1) ∧ Aside0 (Kd.V (Kd.int .u8) 5 w' w.heap.size (fun k_ => ((P0_0_ k_ ∨ P1_1_ k_ ∨ P1_2_ k_) ∨ w.heap.size ≤ k_) ∧ some k_ ≠ (u301000 : Value).ownBlock ∧ k_ ≠ gb297 ∧ k_ ≠ gb298 ∧ k_ ≠ gb299 ∧ k_ ≠ gb300) (.slice A1_2 l1_2.length c1_2) l1_2) ∧ Aside0 (Kd.N k74 74 w' w.heap.size (fun k_ => ((P0_0_ k_ ∨ P1_1_ k_ ∨ P1_2_ k_) ∨ w.heap.size ≤ k_) ∧ k_ ≠ gb297 ∧ k_ ≠ gb298 ∧ k_ ≠ gb299 ∧ k_ ≠ gb300) u301000 x301000_1) ∧ Aside0 (w'.heap[gb297]? = some (.cells #[(.slice A0_0 l0_0.length c0_0)] 29 (0, 0))) ∧ Aside0 (w'.heap[gb298]? = some (.cells #[.string a1_0, (.slice A1_1 l1_1.length c1_1), (.slice A1_2 l1_2.length c1_2)] 74 (0, 0))) ∧ Aside0 (w'.heap[gb299]? = some (.cells #[(.slice none 0 0)] 29 (0, 0))) ∧ Aside0 (w'.heap[gb300]? = some (.cells #[u301000] 29 (0, 0))) ∧ Aside0 (Below w.heap.size w w'))
 case atStart => exact ⟨(false), (0), (([] : List (S74))), (.slice none 0 0), (by first | rfl | (simp; done) | (simp [*]; done)), (by first | rfl | (simp; done) | (simp [*]; done)), H', ⟨Nat.le_refl _⟩, ⟨by (with_reducible repeat (first | apply V_alloc | apply V_drewN | apply V_drew)); exact V_mono (V_far (p := ⟨gb300, 0, none⟩) (V_mono HO0_0.out (fun k_ hk => (⟨hk, hk.2⟩ : _ ∧ k_ ≠ gb300))) (fun _ hk => hk.2) (.slice none 0 0)) (fun _ hk => ⟨hk.1.1.1.1.1, ⟨(by simp [Value.ownBlock]), ⟨hk.1.1.1.1.2, ⟨hk.1.1.1.2, ⟨hk.1.1.2, hk.1.2⟩⟩⟩⟩⟩)⟩, ⟨by (with_reducible repeat (first | apply V_alloc | apply V_drewN | apply V_drew)); exact V_mono (V_far (p := ⟨gb300, 0, none⟩) (V_mono HO1_1.out (fun k_ hk => (⟨hk, hk.2⟩ : _ ∧ k_ ≠ gb300))) (fun _ hk => hk.2) (.slice none 0 0)) (fun _ hk => ⟨hk.1.1.1.1.1, ⟨(by simp [Value.ownBlock]), ⟨hk.1.1.1.1.2, ⟨hk.1.1.1.2, ⟨hk.1.1.2, hk.1.2⟩⟩⟩⟩⟩)⟩, ⟨by (with_reducible repeat (first | apply V_alloc | apply V_drewN | apply V_drew)); exact V_mono (V_far (p := ⟨gb300, 0, none⟩) (V_mono HO1_2.out (fun k_ hk => (⟨hk, hk.2⟩ : _ ∧ k_ ≠ gb300))) (fun _ hk => hk.2) (.slice none 0 0)) (fun _ hk => ⟨hk.1.1.1.1.1, ⟨(by simp [Value.ownBlock]), ⟨hk.1.1.1.1.2, ⟨hk.1.1.1.2, ⟨hk.1.1.2, hk.1.2⟩⟩⟩⟩⟩)⟩, ⟨by first | exact S_nil _ _ _ _ _ | exact N_nil _ _ _ _ _ | exact V_nil _ _ _ _ _ | exact Q_nil _ _ _ _ _ | exact R_nil _ _ _ _ _⟩, ⟨by (with_reducible repeat (first | refine Za ?_ _ | refine Zb ?_ | refine blk_alloc ?_ _)); refine Zp ?_ NB297_300.out _; (with_reducible repeat (first | refine Za ?_ _ | refine Zb ?_ | refine blk_alloc ?_ _)); exact BK297.out⟩, ⟨by (with_reducible repeat (first | refine Za ?_ _ | refine Zb ?_ | refine blk_alloc ?_ _)); refine Zp ?_ NB298_300.out _; (with_reducible repeat (first | refine Za ?_ _ | refine Zb ?_ | refine blk_alloc ?_ _)); exact BK298.out⟩, ⟨by (with_reducible repeat (first | refine Za ?_ _ | refine Zb ?_ | refine blk_alloc ?_ _)); refine Zp ?_ NB299_300.out _; (with_reducible repeat (first | refine Za ?_ _ | refine Zb ?_ | refine blk_alloc ?_ _)); exact BK299.out⟩, ⟨by (with_reducible repeat (first | refine Za ?_ _ | refine Zb ?_ | refine blk_alloc ?_ _)); refine blk_put (cs := #[.slice none 0 0]) ?_ 0 _ rfl; (with_reducible repeat (first | refine Za ?_ _ | refine Zb ?_ | refine blk_alloc ?_ _)); exact BK300.out⟩, ⟨by repeat (first | (with_reducible first | exact HB.out | apply Zf | apply Zd | apply Ze | refine Zg ?_ GE297.out | refine Zg ?_ GE298.out | refine Zg ?_ GE299.out | refine Zg ?_ GE300.out) | exact HB.out)⟩⟩
 case round =>
  clear H'
  try clear c1
  try clear p2
  try clear c7
  try clear c8
  try clear c9
  try clear hcz10_0
  try clear hfz10_0
  obtain ⟨x6_1, x7_1, x301000_1, u301000, rfl, rfl, HA, HK1, HO_298000, HO_299001, HO_299002, HO_301000, BK297, BK298, BK299, BK300, HB⟩ := hrel
  cases gk with
  | zero => exact absurd HA.out (by simp [spec_l03Put.l0])
  | succ k1 =>
   have H := HA.out
   clear HA
   simp only [spec_l03Put.l0] at H
   by_cases c11 : x7_1 < (l0_0.length : Int)
   ·
    rw [if_pos c11] at H
    have c11b0 : decide (x7_1 < (l0_0.length : Int)) = true := decide_eq_true c11
    clear c11
    have HC12 := Zh H
    clear H
    have hnb13 := NB297_298.out
    have hnc13 := NB298_297.out
    have hnb14 := NB297_299.out
    have hnc14 := NB299_297.out
    have hnb15 := NB297_300.out
    have hnc15 := NB300_297.out
    have hcz16_0 : wr.cell? ⟨gb297, 0, none⟩ = some (.slice A0_0 l0_0.length c0_0) := (blk_cell BK297.out 0).trans rfl
    have hfz16_0 := Zn BK297.out 0
    go_upto_region 6 with (fail)
    go_cut [28] (fun v28 wc => ∃ (kq : Nat) (x28_11 : Bool), v28 = .bool x28_11 ∧ Aside0 (spec_l03Put.j1 kq x6_1 x7_1 x28_11 l0_0 a1_0 l1_1 l1_2 x301000_1 = some r) ∧ Aside0 (kq ≤ k1) ∧ Aside0 (Kd.V k74 74 wc w.heap.size (fun k_ => ((P0_0_ k_ ∨ P1_1_ k_ ∨ P1_2_ k_) ∨ w.heap.size ≤ k_) ∧ some k_ ≠ (u301000 : Value).ownBlock ∧ k_ ≠ gb297 ∧ k_ ≠ gb298 ∧ k_ ≠ gb299 ∧ k_ ≠ gb300) (.slice A0_0 l0_0.length c0_0) l0_0) ∧ Aside0 (Kd.V (Kd.int .u8) 5 wc w.heap.size (fun k_ => ((P0_0_ k_ ∨ P1_1_ k_ ∨ P1_2_ k_) ∨ w.heap.size ≤ k_) ∧ some k_ ≠ (u301000 : Value).ownBlock ∧ k_ ≠ gb297 ∧ k_ ≠ gb298 ∧ k_ ≠ gb299 ∧ k_ ≠ gb300) (.slice A1_1 l1_1.length c1_1) l1_1) ∧ Aside0 (Kd.V (Kd.int .u8) 5 wc w.heap.size (fun k_ => ((P0_0_ k_ ∨ P1_1_ k_ ∨ P1_2_ k_) ∨ w.heap.size ≤ k_) ∧ some k_ ≠ (u301000 : Value).ownBlock ∧ k_ ≠ gb297 ∧ k_ ≠ gb298 ∧ k_ ≠ gb299 ∧ k_ ≠ gb300) (.slice A1_2 l1_2.length c1_2) l1_2) ∧ Aside0 (Kd.N k74 74 wc w.heap.size (fun k_ => ((P0_0_ k_ ∨ P1_1_ k_ ∨ P1_2_ k_) ∨ w.heap.size ≤ k_) ∧ k_ ≠ gb297 ∧ k_ ≠ gb298 ∧ k_ ≠ gb299 ∧ k_ ≠ gb300) u301000 x301000_1) ∧ Aside0 (wc.heap[gb297]? = some (.cells #[(.slice A0_0 l0_0.length c0_0)] 29 (0, 0))) ∧ Aside0 (wc.heap[gb298]? = some (.cells #[.string a1_0, (.slice A1_1 l1_1.length c1_1), (.slice A1_2 l1_2.length c1_2)] 74 (0, 0))) ∧ Aside0 (wc.heap[gb299]? = some (.cells #[(.slice none 0 0)] 29 (0, 0))) ∧ Aside0 (wc.heap[gb300]? = some (.cells #[u301000] 29 (0, 0))) ∧ Aside0 (Below w.heap.size w wc))
    case first =>
     have H := HC12.out
     clear HC12
     by_cases c17 : x6_1 = true
     ·
      subst c17
      have H1 : (spec_l03Put.j1 k1 true x7_1 false l0_0 a1_0 l1_1 l1_2 x301000_1) = some r := by rw [if_pos rfl] at H; exact H
      clear H
      have H := H1
      clear H1
      have H' := Zh H
      clear H
      try go_wp2
      have n0_ := Zh (V_drew HO_298000.out)
      have n1_ := Zh (V_drew HO_299001.out)
      have n2_ := Zh (V_drew HO_299002.out)
      have n3_ := Zh (N_drew HO_301000.out)
      have n4_ := Zh (Zb BK297.out)
      have n5_ := Zh (Zb BK298.out)
      have n6_ := Zh (Zb BK299.out)
      have n7_ := Zh (Zb BK300.out)
      have n8_ := Zh (Ze HB.out)
      clear HO_298000
      clear HO_299001
      clear HO_299002
      clear HO_301000
      clear BK297
      clear BK298
      clear BK299
      clear BK300
      clear HB
      have HO_298000 := n0_
      have HO_299001 := n1_
      have HO_299002 := n2_
      have HO_301000 := n3_
      have BK297 := n4_
      have BK298 := n5_
      have BK299 := n6_
      have BK300 := n7_
      have HB := n8_
      clear n0_ n1_ n2_ n3_ n4_ n5_ n6_ n7_ n8_
      refine start_ (n := 13) (S := fun w' => True) (ds := []) #[false, false, false, false, false, false, false, false, false, false, false, false, false] (by kernel_rfl) rfl rfl trivial (fun hHeld => ?_); refine with_tabW spec_l03Put.tab6 spec_l03Put.bits6 (fun HT_ HW_ => ?_)
      generalize wr.drew = w18 at HO_298000 HO_299001 HO_299002 HO_301000 BK297 BK298 BK299 BK300 HB hHeld ⊢
      refine SQ.pu 0 16 HT_ ?_
      refine SQ.pu 1 17 HT_ ?_
      refine SQ.pu 2 18 HT_ ?_
      refine SQ.of 3 19 HT_ ?_
      refine SQ.of 4 20 HT_ ?_
      refine SQ.of 5 21 HT_ ?_
      refine SQ.of 6 22 HT_ ?_
      refine SQ.of 7 23 HT_ ?_
      refine SQ.of 8 24 HT_ ?_
      refine SQ.of 9 25 HT_ ?_
      refine SQ.of 10 26 HT_ ?_
      refine SQ.of 11 27 HT_ ?_
      refine SQ.pu 12 28 HT_ ?_
      refine done_ (done_of HT_.out (by kernel_rfl)) ?_
      try go_wp2
      go_meet
      case rel => exact ⟨_, (false), (by first | rfl | (simp; done) | (simp [*]; done)), H', ⟨by have := HK1.out; first | omega | exact Nat.le_refl _⟩, ⟨by (with_reducible repeat (first | apply V_alloc | apply V_drewN | apply V_drew)); exact HO_298000.out⟩, ⟨by (with_reducible repeat (first | apply V_alloc | apply V_drewN | apply V_drew)); exact HO_299001.out⟩, ⟨by (with_reducible repeat (first | apply V_alloc | apply V_drewN | apply V_drew)); exact HO_299002.out⟩, ⟨by (with_reducible repeat (first | apply N_alloc | apply N_drewN | apply N_drew)); exact HO_301000.out⟩, ⟨by (with_reducible repeat (first | refine Za ?_ _ | refine Zb ?_ | refine blk_alloc ?_ _)); exact BK297.out⟩, ⟨by (with_reducible repeat (first | refine Za ?_ _ | refine Zb ?_ | refine blk_alloc ?_ _)); exact BK298.out⟩, ⟨by (with_reducible repeat (first | refine Za ?_ _ | refine Zb ?_ | refine blk_alloc ?_ _)); exact BK299.out⟩, ⟨by (with_reducible repeat (first | refine Za ?_ _ | refine Zb ?_ | refine blk_alloc ?_ _)); exact BK300.out⟩, ⟨by repeat (first | (with_reducible first | exact HB.out | apply Zf | apply Zd | apply Ze | refine Zg ?_ GE297.out | refine Zg ?_ GE298.out | refine Zg ?_ GE299.out | refine Zg ?_ GE300.out) | exact HB.out)⟩⟩
     replace c17 := Bool.eq_false_iff.mpr c17
     subst c17
     have H1 : (if 0 ≤ x7_1 then (spec_l03Put.j1 k1 false x7_1 (!(Op.bytesLess (((rd_T74 l0_0 x7_1).f0).toList) a1_0.toList)) l0_0 a1_0 l1_1 l1_2 x301000_1) else (none)) = some r := by rw [if_neg (show ¬ (false = true) by decide)] at H; exact H
     clear H
     have H := H1
     clear H1
     by_cases c19 : 0 ≤ x7_1
     ·
      rw [if_pos c19] at H
      have c19b0 : decide (0 ≤ x7_1) = true := decide_eq_true c19
      clear c19
      (first | rw [c19b0] | (simp only [i64_w, i32_w]; rw [c19b0]) | skip)
      have H' := Zh H
      clear H
      try go_wp2
      have n0_ := Zh (V_drew HO_298000.out)
      have n1_ := Zh (V_drew HO_299001.out)
      have n2_ := Zh (V_drew HO_299002.out)
      have n3_ := Zh (N_drew HO_301000.out)
      have n4_ := Zh (Zb BK297.out)
      have n5_ := Zh (Zb BK298.out)
      have n6_ := Zh (Zb BK299.out)
      have n7_ := Zh (Zb BK300.out)
      have n8_ := Zh (Ze HB.out)
      clear HO_298000
      clear HO_299001
      clear HO_299002
      clear HO_301000
      clear BK297
      clear BK298
      clear BK299
      clear BK300
      clear HB
      have HO_298000 := n0_
      have HO_299001 := n1_
      have HO_299002 := n2_
      have HO_301000 := n3_
      have BK297 := n4_
      have BK298 := n5_
      have BK299 := n6_
      have BK300 := n7_
      have HB := n8_
      clear n0_ n1_ n2_ n3_ n4_ n5_ n6_ n7_ n8_
      have p310 : 0 ≤ (x7_1 : Int) := Zo
      have q310 : x7_1 < (l0_0.length : Int) := Zo
      obtain ⟨ad310, A310_1, c310_1, A310_2, c310_2, e310, hx310_0, hx310_1, hx310_2, hl310_1, hi310_1, hl310_2, hi310_2⟩ := at_T74 (V_reads' HO_298000.out).2.2 x7_1 p310 q310
      cases e310
      obtain ⟨ce310, hce310, hMe310, hcc310⟩ := V_get HO_298000.out z74 x7_1 p310 (by first | exact q310 | exact Zo | (have e_ := (V_reads' HO_298000.out).1; omega))
      obtain ⟨ua310_1, uc310_1, ua310_2, uc310_2, rfl, ul310_1, ge310_1, ul310_2, ge310_2⟩ := k74_openF hMe310
      have hv310_1 := hcc310 1 _ rfl
      rw [add_field _ _ 1 (by omega)] at hv310_1
      replace hv310_1 := Option.some.inj (hv310_1.symm.trans hx310_1)
      injection hv310_1 with hva_ hvn_ hvc_
      rw [hva_] at ge310_1
      rw [hvc_] at ul310_1
      have HL310_1 := Zh (show Kd.V (Kd.int .u8) 5 _ w.heap.size _ _ ((rd_T74 l0_0 x7_1).f1) from V_mk ul310_1 ge310_1)
      clear hva_ hvn_ hvc_ ge310_1 ul310_1
      have hv310_2 := hcc310 2 _ rfl
      rw [add_field _ _ 2 (by omega)] at hv310_2
      replace hv310_2 := Option.some.inj (hv310_2.symm.trans hx310_2)
      injection hv310_2 with hva_ hvn_ hvc_
      rw [hva_] at ge310_2
      rw [hvc_] at ul310_2
      have HL310_2 := Zh (show Kd.V (Kd.int .u8) 5 _ w.heap.size _ _ ((rd_T74 l0_0 x7_1).f2) from V_mk ul310_2 ge310_2)
      clear hva_ hvn_ hvc_ ge310_2 ul310_2
      clear hcc310 hce310
      have HR310_1 := Zh hi310_1
      have HC310_1 := Zh hl310_1
      clear hi310_1 hl310_1
      have HR310_2 := Zh hi310_2
      have HC310_2 := Zh hl310_2
      clear hi310_2 hl310_2
      replace p310 := eq_true p310
      replace q310 := eq_true q310
      refine start_ (n := 13) (S := fun w' => w'.cell? ⟨gb297, 0, none⟩ = some (.slice (some ad310) l0_0.length c0_0) ∧ w'.cell? ⟨gb298, 0, none⟩ = some (.string a1_0) ∧ w'.cell? ⟨gb298, 1, none⟩ = some (.slice A1_1 l1_1.length c1_1) ∧ w'.cell? ⟨gb298, 2, none⟩ = some (.slice A1_2 l1_2.length c1_2) ∧ w'.cell? (ad310.add ((x7_1).toNat * 3)) = some (.string ((rd_T74 l0_0 x7_1).f0)) ∧ w'.cell? ⟨(ad310.add ((x7_1).toNat * 3)).block, (ad310.add ((x7_1).toNat * 3)).off + 1, none⟩ = some (.slice A310_1 ((rd_T74 l0_0 x7_1).f1).length c310_1) ∧ w'.cell? ⟨(ad310.add ((x7_1).toNat * 3)).block, (ad310.add ((x7_1).toNat * 3)).off + 2, none⟩ = some (.slice A310_2 ((rd_T74 l0_0 x7_1).f2).length c310_2)) (ds := []) #[false, false, false, false, false, false, false, false, false, false, false, false, false] (by kernel_rfl) rfl rfl ⟨(blk_cell BK297.out 0).trans rfl, (blk_cell BK298.out 0).trans rfl, (blk_cell BK298.out 1).trans rfl, (blk_cell BK298.out 2).trans rfl, hx310_0, hx310_1, hx310_2⟩ (fun hHeld => ?_); refine with_tabW spec_l03Put.tab6 spec_l03Put.bits6 (fun HT_ HW_ => ?_)
      generalize wr.drew = w20 at HO_298000 HO_299001 HO_299002 HO_301000 BK297 BK298 BK299 BK300 HB HL310_1 HL310_2 HR310_1 HR310_2 hx310_0 hx310_1 hx310_2 hHeld ⊢
      refine SQ.pu 0 16 HT_ ?_
      refine SQ.pu 1 17 HT_ ?_
      refine SQ.pu 2 18 HT_ ?_
      refine SQ.pu 3 19 HT_ ?_
      refine SQ.pu 5 21 HT_ ?_
      refine SQ.pu 9 25 HT_ ?_
      refine SQ.tk 4 20 HT_ HW_ hHeld ?_
      refine SQ.pu 6 22 HT_ ?_
      refine SQ.pu 7 23 HT_ ?_
      refine SQ.tk 8 24 HT_ HW_ hHeld ?_
      refine SQ.tk 10 26 HT_ HW_ hHeld ?_
      refine SQ.pu 11 27 HT_ ?_
      refine SQ.pu 12 28 HT_ ?_
      refine done_ (done_of HT_.out (by kernel_rfl)) ?_
      try go_wp2
      go_meet
      case rel => exact ⟨_, (!(Op.bytesLess (((rd_T74 l0_0 x7_1).f0).toList) a1_0.toList)), (by first | rfl | (simp; done) | (simp [*]; done)), H', ⟨by have := HK1.out; first | omega | exact Nat.le_refl _⟩, ⟨by (with_reducible repeat (first | apply V_alloc | apply V_drewN | apply V_drew)); exact HO_298000.out⟩, ⟨by (with_reducible repeat (first | apply V_alloc | apply V_drewN | apply V_drew)); exact HO_299001.out⟩, ⟨by (with_reducible repeat (first | apply V_alloc | apply V_drewN | apply V_drew)); exact HO_299002.out⟩, ⟨by (with_reducible repeat (first | apply N_alloc | apply N_drewN | apply N_drew)); exact HO_301000.out⟩, ⟨by (with_reducible repeat (first | refine Za ?_ _ | refine Zb ?_ | refine blk_alloc ?_ _)); exact BK297.out⟩, ⟨by (with_reducible repeat (first | refine Za ?_ _ | refine Zb ?_ | refine blk_alloc ?_ _)); exact BK298.out⟩, ⟨by (with_reducible repeat (first | refine Za ?_ _ | refine Zb ?_ | refine blk_alloc ?_ _)); exact BK299.out⟩, ⟨by (with_reducible repeat (first | refine Za ?_ _ | refine Zb ?_ | refine blk_alloc ?_ _)); exact BK300.out⟩, ⟨by repeat (first | (with_reducible first | exact HB.out | apply Zf | apply Zd | apply Ze | refine Zg ?_ GE297.out | refine Zg ?_ GE298.out | refine Zg ?_ GE299.out | refine Zg ?_ GE300.out) | exact HB.out)⟩⟩
     rw [if_neg c19] at H
     exact absurd H (by simp)
    case rest =>
     clear HC12
     try clear c1
     try clear p2
     try clear c3
     try clear p3
     try clear q3
     try clear hx3
     try clear c7
     try clear c8
     try clear c9
     try clear c11
     try clear c11b0
     try clear c13
     try clear c14
     try clear c15
     try clear c17
     try clear c19
     try clear c19b0
     try clear hcz10_0
     try clear hcz16_0
     try clear hfz10_0
     try clear hfz16_0
     try clear hx310_0
     try clear hx310_1
     try clear hx310_2
     try clear p2
     try clear p310
     try clear q310
     obtain ⟨kq, x28_11, rfl, HA, HJ11, HO_298000, HO_299001, HO_299002, HO_301000, BK297, BK298, BK299, BK300, HB⟩ := hcut
     cases kq with
     | zero => exact absurd HA.out (by simp [spec_l03Put.j1])
     | succ kj11 =>
      have H := HA.out
      clear HA
      simp only [spec_l03Put.j1] at H
      by_cases c21 : x28_11 = true
      ·
       subst c21
       have H1 : (if x301000_1.length < 2199023255552 then ((some (x301000_1 ++ [(⟨a1_0, l1_1, l1_2⟩ : S74)] : List (S74))).bind fun y311 => (if 0 ≤ x7_1 then (if x7_1 < (l0_0.length : Int) then (if ((rd_T74 l0_0 x7_1).f0).toList = a1_0.toList then (spec_l03Put.l0 kj11 true (wrap64 (x7_1 + 1)) l0_0 a1_0 l1_1 l1_2 y311) else (if y311.length < 2199023255552 then (spec_l03Put.l0 kj11 true (wrap64 (x7_1 + 1)) l0_0 a1_0 l1_1 l1_2 (y311 ++ [(⟨(rd_T74 l0_0 x7_1).f0, (rd_T74 l0_0 x7_1).f1, (rd_T74 l0_0 x7_1).f2⟩ : S74)])) else (none))) else (none)) else (none))) else (none)) = some r := by rw [if_pos rfl] at H; exact H
       clear H
       have H := H1
       clear H1
       by_cases c22 : x301000_1.length < 2199023255552
       ·
        rw [if_pos c22] at H
        have LMc22 := Zh c22
        clear c22
        obtain ⟨y311, hy311⟩ : ∃ y_ : List (S74), y_ = (x301000_1 ++ [(⟨a1_0, l1_1, l1_2⟩ : S74)]) := ⟨_, rfl⟩
        replace H : (if 0 ≤ x7_1 then (if x7_1 < (l0_0.length : Int) then (if ((rd_T74 l0_0 x7_1).f0).toList = a1_0.toList then (spec_l03Put.l0 kj11 true (wrap64 (x7_1 + 1)) l0_0 a1_0 l1_1 l1_2 y311) else (if y311.length < 2199023255552 then (spec_l03Put.l0 kj11 true (wrap64 (x7_1 + 1)) l0_0 a1_0 l1_1 l1_2 (y311 ++ [(⟨(rd_T74 l0_0 x7_1).f0, (rd_T74 l0_0 x7_1).f1, (rd_T74 l0_0 x7_1).f2⟩ : S74)])) else (none))) else (none)) else (none)) = some r := by first | (rw [hy311]; with_reducible exact H) | (have H2_ := (Option.bind_some _ _).symm.trans H; rw [hy311]; with_reducible exact H2_) | (have H2_ := (Option.bind_some _ _).symm.trans H; with_reducible exact H2_) | with_reducible exact H | (rw [hy311]; exact H) | exact H
        have Ny311 := Zh hy311
        clear hy311
        by_cases c23 : 0 ≤ x7_1
        ·
         rw [if_pos c23] at H
         have c23b0 : decide (0 ≤ x7_1) = true := decide_eq_true c23
         clear c23
         by_cases c24 : x7_1 < (l0_0.length : Int)
         ·
          rw [if_pos c24] at H
          have c24b0 : decide (x7_1 < (l0_0.length : Int)) = true := decide_eq_true c24
          clear c24
          by_cases c25 : ((rd_T74 l0_0 x7_1).f0).toList = a1_0.toList
          ·
           rw [if_pos c25] at H
           have c25b0 : (((rd_T74 l0_0 x7_1).f0).toList == a1_0.toList) = true := beq_iff_eq.mpr c25
           have c25b1 : (((rd_T74 l0_0 x7_1).f0).toList != a1_0.toList) = false := bne_eq_false_iff_eq.mpr c25
           clear c25
           have H' := Zh H
           clear H
           have hnb26 := NB300_297.out
           have hnc26 := NB297_300.out
           have hnb27 := NB300_298.out
           have hnc27 := NB298_300.out
           have hnb28 := NB300_299.out
           have hnc28 := NB299_300.out
           have hcz29_0 : wc.cell? ⟨gb300, 0, none⟩ = some (u301000) := (blk_cell BK300.out 0).trans rfl
           have hfz29_0 := Zn BK300.out 0
           have hnb30 := NB298_297.out
           have hnc30 := NB297_298.out
           have hnb31 := NB298_299.out
           have hnc31 := NB299_298.out
           have hcz32_0 : wc.cell? ⟨gb298, 0, none⟩ = some (.string a1_0) := (blk_cell BK298.out 0).trans rfl
           have hcz32_1 : wc.cell? ⟨gb298, 1, none⟩ = some (.slice A1_1 l1_1.length c1_1) := (blk_cell BK298.out 1).trans rfl
           have hcz32_2 : wc.cell? ⟨gb298, 2, none⟩ = some (.slice A1_2 l1_2.length c1_2) := (blk_cell BK298.out 2).trans rfl
           have hfz32_0 := Zn BK298.out 0
           have hfz32_1 := Zn BK298.out 1
           have hfz32_2 := Zn BK298.out 2
           try go_wp2_with (first | ((with_reducible refine gate_builtin (b := .append) (xs := #[.tmp 30, .tmp 32]) rfl ?_); at_builtin; refine N_append k74 (w0 := w) w.heap.size rfl (.tmp 30) (.tmp 32) 27 74 (.agg #[(.string ⟨#[]⟩), (.slice none 0 0), (.slice none 0 0)]) 64 rfl Tryd.underlying27 info74 rfl (by decide) (by omega) u301000 x301000_1 (⟨a1_0, l1_1, l1_2⟩ : S74) [.string a1_0, .slice A1_1 l1_1.length c1_1, .slice A1_2 l1_2.length c1_2] (fun k_ => ((P0_0_ k_ ∨ P1_1_ k_ ∨ P1_2_ k_) ∨ w.heap.size ≤ k_) ∧ k_ ≠ gb297 ∧ k_ ≠ gb298 ∧ k_ ≠ gb299 ∧ k_ ≠ gb300) (fun k_ => ((fun k_ => ((P0_0_ k_ ∨ P1_1_ k_ ∨ P1_2_ k_) ∨ w.heap.size ≤ k_) ∧ k_ ≠ gb297 ∧ k_ ≠ gb298 ∧ k_ ≠ gb299 ∧ k_ ≠ gb300)) k_ ∧ some k_ ≠ (u301000 : Value).ownBlock) rfl rfl ?aP (fun _ hk => hk) ?aF ?aO ?aB ?aS ?aL ?_; (case aP => exact (k74_mkF _ _ (⟨a1_0, l1_1, l1_2⟩ : S74) (V_reads' (V_mono (ok' := (fun k_ => ((fun k_ => ((P0_0_ k_ ∨ P1_1_ k_ ∨ P1_2_ k_) ∨ w.heap.size ≤ k_) ∧ k_ ≠ gb297 ∧ k_ ≠ gb298 ∧ k_ ≠ gb299 ∧ k_ ≠ gb300)) k_ ∧ some k_ ≠ (u301000 : Value).ownBlock)) (HO_299001.out) (fun k_ hk => ⟨⟨hk.1, ⟨hk.2.2.1, ⟨hk.2.2.2.1, ⟨hk.2.2.2.2.1, hk.2.2.2.2.2⟩⟩⟩⟩, hk.2.1⟩))).2.1 (V_F (V_mono (ok' := (fun k_ => ((fun k_ => ((P0_0_ k_ ∨ P1_1_ k_ ∨ P1_2_ k_) ∨ w.heap.size ≤ k_) ∧ k_ ≠ gb297 ∧ k_ ≠ gb298 ∧ k_ ≠ gb299 ∧ k_ ≠ gb300)) k_ ∧ some k_ ≠ (u301000 : Value).ownBlock)) (HO_299001.out) (fun k_ hk => ⟨⟨hk.1, ⟨hk.2.2.1, ⟨hk.2.2.2.1, ⟨hk.2.2.2.2.1, hk.2.2.2.2.2⟩⟩⟩⟩, hk.2.1⟩))) (V_reads' (V_mono (ok' := (fun k_ => ((fun k_ => ((P0_0_ k_ ∨ P1_1_ k_ ∨ P1_2_ k_) ∨ w.heap.size ≤ k_) ∧ k_ ≠ gb297 ∧ k_ ≠ gb298 ∧ k_ ≠ gb299 ∧ k_ ≠ gb300)) k_ ∧ some k_ ≠ (u301000 : Value).ownBlock)) (HO_299002.out) (fun k_ hk => ⟨⟨hk.1, ⟨hk.2.2.1, ⟨hk.2.2.2.1, ⟨hk.2.2.2.2.1, hk.2.2.2.2.2⟩⟩⟩⟩, hk.2.1⟩))).2.1 (V_F (V_mono (ok' := (fun k_ => ((fun k_ => ((P0_0_ k_ ∨ P1_1_ k_ ∨ P1_2_ k_) ∨ w.heap.size ≤ k_) ∧ k_ ≠ gb297 ∧ k_ ≠ gb298 ∧ k_ ≠ gb299 ∧ k_ ≠ gb300)) k_ ∧ some k_ ≠ (u301000 : Value).ownBlock)) (HO_299002.out) (fun k_ hk => ⟨⟨hk.1, ⟨hk.2.2.1, ⟨hk.2.2.2.1, ⟨hk.2.2.2.2.1, hk.2.2.2.2.2⟩⟩⟩⟩, hk.2.1⟩))))); (case aB => exact Zs); (case aF => exact (fun k_ hk => ⟨(.inr (Nat.le_trans (below_size Zs) hk)), Kd.freshB (g := gb297) (o := .cells #[.slice A0_0 l0_0.length c0_0] 29 (0, 0)) Zk k_ hk, Kd.freshB (g := gb298) (o := .cells #[.string a1_0, .slice A1_1 l1_1.length c1_1, .slice A1_2 l1_2.length c1_2] 74 (0, 0)) Zk k_ hk, Kd.freshB (g := gb299) (o := .cells #[.slice none 0 0] 29 (0, 0)) Zk k_ hk, Kd.freshB (g := gb300) (o := .cells #[u301000] 29 (0, 0)) Zk k_ hk⟩)); (case aO => exact (by (with_reducible repeat (first | apply N_alloc | apply N_drewN | apply N_drew)); exact HO_301000.out)); (case aS => exact (below_size Zs)); (case aL => have := LMc22.out; omega); intro v312 w33 ho hb hg hat; rw [← Ny311.out] at ho; have n0_ := Zh (V_afterv (ok := (fun k_ => ((P0_0_ k_ ∨ P1_1_ k_ ∨ P1_2_ k_) ∨ w.heap.size ≤ k_) ∧ k_ ≠ gb297 ∧ k_ ≠ gb298 ∧ k_ ≠ gb299 ∧ k_ ≠ gb300)) (by (with_reducible repeat (first | apply V_alloc | apply V_drewN | apply V_drew)); exact V_mono HO_298000.out (fun _ hk => ⟨⟨hk.1, ⟨hk.2.2.1, ⟨hk.2.2.2.1, ⟨hk.2.2.2.2.1, hk.2.2.2.2.2⟩⟩⟩⟩, hk.2.1⟩)) hg hat); have n1_ := Zh (V_afterv (ok := (fun k_ => ((P0_0_ k_ ∨ P1_1_ k_ ∨ P1_2_ k_) ∨ w.heap.size ≤ k_) ∧ k_ ≠ gb297 ∧ k_ ≠ gb298 ∧ k_ ≠ gb299 ∧ k_ ≠ gb300)) (by (with_reducible repeat (first | apply V_alloc | apply V_drewN | apply V_drew)); exact V_mono HO_299001.out (fun _ hk => ⟨⟨hk.1, ⟨hk.2.2.1, ⟨hk.2.2.2.1, ⟨hk.2.2.2.2.1, hk.2.2.2.2.2⟩⟩⟩⟩, hk.2.1⟩)) hg hat); have n2_ := Zh (V_afterv (ok := (fun k_ => ((P0_0_ k_ ∨ P1_1_ k_ ∨ P1_2_ k_) ∨ w.heap.size ≤ k_) ∧ k_ ≠ gb297 ∧ k_ ≠ gb298 ∧ k_ ≠ gb299 ∧ k_ ≠ gb300)) (by (with_reducible repeat (first | apply V_alloc | apply V_drewN | apply V_drew)); exact V_mono HO_299002.out (fun _ hk => ⟨⟨hk.1, ⟨hk.2.2.1, ⟨hk.2.2.2.1, ⟨hk.2.2.2.2.1, hk.2.2.2.2.2⟩⟩⟩⟩, hk.2.1⟩)) hg hat); have n3_ := Zh (blk_grown (g := gb297) (o := .cells #[.slice A0_0 l0_0.length c0_0] 29 (0, 0)) Zk hg (N_ne HO_301000.out BK297.out (by decide))); have n4_ := Zh (blk_grown (g := gb298) (o := .cells #[.string a1_0, .slice A1_1 l1_1.length c1_1, .slice A1_2 l1_2.length c1_2] 74 (0, 0)) Zk hg (N_away HO_301000.out (fun _ hk => hk.2.2.1))); have n5_ := Zh (blk_grown (g := gb299) (o := .cells #[.slice none 0 0] 29 (0, 0)) Zk hg (N_ne HO_301000.out BK299.out (by decide))); have n6_ := Zh (blk_grown (g := gb300) (o := .cells #[u301000] 29 (0, 0)) Zk hg (N_ne HO_301000.out BK300.out (by decide))); have n7_ := Zh (hb); have n8_ := Zh (ho); clear HO_298000; clear HO_299001; clear HO_299002; clear BK297; clear BK298; clear BK299; clear BK300; clear HB; clear HO_301000; have HO_298000 := n0_; have HO_299001 := n1_; have HO_299002 := n2_; have BK297 := n3_; have BK298 := n4_; have BK299 := n5_; have BK300 := n6_; have HB := n7_; have HO313 := n8_; clear n0_ n1_ n2_ n3_ n4_ n5_ n6_ n7_ n8_; clear ho hb hg hat; obtain ⟨Ao34, co34, eo34⟩ := N_slice HO313.out; subst eo34; have hcz35_0 : w33.cell? ⟨gb300, 0, none⟩ = some (u301000) := (blk_cell BK300.out 0).trans rfl; have hfz35_0 := Zn BK300.out 0))
           have n0_ : Aside0 (Kd.V k74 74 (w33.setCell ⟨gb300, 0, none⟩ (.slice Ao34 y311.length co34)) w.heap.size (fun k_ => ((P0_0_ k_ ∨ P1_1_ k_ ∨ P1_2_ k_) ∨ w.heap.size ≤ k_) ∧ some k_ ≠ (.slice Ao34 y311.length co34 : Value).ownBlock ∧ k_ ≠ gb297 ∧ k_ ≠ gb298 ∧ k_ ≠ gb299 ∧ k_ ≠ gb300) (.slice A0_0 l0_0.length c0_0) l0_0) := ⟨by (with_reducible repeat (first | apply V_alloc | apply V_drewN | apply V_drew)); exact V_mono (V_far (p := ⟨gb300, 0, none⟩) (V_mono HO_298000.out (fun k_ hk => (⟨hk, hk.1.2.2.2.2⟩ : _ ∧ k_ ≠ gb300))) (fun _ hk => hk.2) (.slice Ao34 y311.length co34)) (fun _ hk => ⟨hk.1.1.1, ⟨hk.1.2, ⟨hk.1.1.2.1, ⟨hk.1.1.2.2.1, ⟨hk.1.1.2.2.2.1, hk.1.1.2.2.2.2⟩⟩⟩⟩⟩)⟩
           have n1_ : Aside0 (Kd.V (Kd.int .u8) 5 (w33.setCell ⟨gb300, 0, none⟩ (.slice Ao34 y311.length co34)) w.heap.size (fun k_ => ((P0_0_ k_ ∨ P1_1_ k_ ∨ P1_2_ k_) ∨ w.heap.size ≤ k_) ∧ some k_ ≠ (.slice Ao34 y311.length co34 : Value).ownBlock ∧ k_ ≠ gb297 ∧ k_ ≠ gb298 ∧ k_ ≠ gb299 ∧ k_ ≠ gb300) (.slice A1_1 l1_1.length c1_1) l1_1) := ⟨by (with_reducible repeat (first | apply V_alloc | apply V_drewN | apply V_drew)); exact V_mono (V_far (p := ⟨gb300, 0, none⟩) (V_mono HO_299001.out (fun k_ hk => (⟨hk, hk.1.2.2.2.2⟩ : _ ∧ k_ ≠ gb300))) (fun _ hk => hk.2) (.slice Ao34 y311.length co34)) (fun _ hk => ⟨hk.1.1.1, ⟨hk.1.2, ⟨hk.1.1.2.1, ⟨hk.1.1.2.2.1, ⟨hk.1.1.2.2.2.1, hk.1.1.2.2.2.2⟩⟩⟩⟩⟩)⟩
           have n2_ : Aside0 (Kd.V (Kd.int .u8) 5 (w33.setCell ⟨gb300, 0, none⟩ (.slice Ao34 y311.length co34)) w.heap.size (fun k_ => ((P0_0_ k_ ∨ P1_1_ k_ ∨ P1_2_ k_) ∨ w.heap.size ≤ k_) ∧ some k_ ≠ (.slice Ao34 y311.length co34 : Value).ownBlock ∧ k_ ≠ gb297 ∧ k_ ≠ gb298 ∧ k_ ≠ gb299 ∧ k_ ≠ gb300) (.slice A1_2 l1_2.length c1_2) l1_2) := ⟨by (with_reducible repeat (first | apply V_alloc | apply V_drewN | apply V_drew)); exact V_mono (V_far (p := ⟨gb300, 0, none⟩) (V_mono HO_299002.out (fun k_ hk => (⟨hk, hk.1.2.2.2.2⟩ : _ ∧ k_ ≠ gb300))) (fun _ hk => hk.2) (.slice Ao34 y311.length co34)) (fun _ hk => ⟨hk.1.1.1, ⟨hk.1.2, ⟨hk.1.1.2.1, ⟨hk.1.1.2.2.1, ⟨hk.1.1.2.2.2.1, hk.1.1.2.2.2.2⟩⟩⟩⟩⟩)⟩
           have n3_ : Aside0 (Kd.N k74 74 (w33.setCell ⟨gb300, 0, none⟩ (.slice Ao34 y311.length co34)) w.heap.size (fun k_ => ((P0_0_ k_ ∨ P1_1_ k_ ∨ P1_2_ k_) ∨ w.heap.size ≤ k_) ∧ k_ ≠ gb297 ∧ k_ ≠ gb298 ∧ k_ ≠ gb299 ∧ k_ ≠ gb300) (.slice Ao34 y311.length co34) y311) := ⟨by (with_reducible repeat (first | apply N_alloc | apply N_drewN | apply N_drew)); exact N_mono (N_far (p := ⟨gb300, 0, none⟩) (N_mono HO313.out (fun k_ hk => (⟨hk, hk.2.2.2.2⟩ : _ ∧ k_ ≠ gb300))) (fun _ hk => hk.2) (.slice Ao34 y311.length co34)) (fun _ hk => ⟨hk.1.1, ⟨hk.1.2.1, ⟨hk.1.2.2.1, ⟨hk.1.2.2.2.1, hk.1.2.2.2.2⟩⟩⟩⟩)⟩
           have n4_ : Aside0 ((w33.setCell ⟨gb300, 0, none⟩ (.slice Ao34 y311.length co34)).heap[gb297]? = some (.cells #[.slice A0_0 l0_0.length c0_0] 29 (0, 0))) := ⟨by (with_reducible repeat (first | refine Za ?_ _ | refine Zb ?_ | refine blk_alloc ?_ _)); refine Zp ?_ NB297_300.out _; (with_reducible repeat (first | refine Za ?_ _ | refine Zb ?_ | refine blk_alloc ?_ _)); exact BK297.out⟩
           have n5_ : Aside0 ((w33.setCell ⟨gb300, 0, none⟩ (.slice Ao34 y311.length co34)).heap[gb298]? = some (.cells #[.string a1_0, .slice A1_1 l1_1.length c1_1, .slice A1_2 l1_2.length c1_2] 74 (0, 0))) := ⟨by (with_reducible repeat (first | refine Za ?_ _ | refine Zb ?_ | refine blk_alloc ?_ _)); refine Zp ?_ NB298_300.out _; (with_reducible repeat (first | refine Za ?_ _ | refine Zb ?_ | refine blk_alloc ?_ _)); exact BK298.out⟩
           have n6_ : Aside0 ((w33.setCell ⟨gb300, 0, none⟩ (.slice Ao34 y311.length co34)).heap[gb299]? = some (.cells #[.slice none 0 0] 29 (0, 0))) := ⟨by (with_reducible repeat (first | refine Za ?_ _ | refine Zb ?_ | refine blk_alloc ?_ _)); refine Zp ?_ NB299_300.out _; (with_reducible repeat (first | refine Za ?_ _ | refine Zb ?_ | refine blk_alloc ?_ _)); exact BK299.out⟩
           have n7_ : Aside0 ((w33.setCell ⟨gb300, 0, none⟩ (.slice Ao34 y311.length co34)).heap[gb300]? = some (.cells #[.slice Ao34 y311.length co34] 29 (0, 0))) := ⟨by (with_reducible repeat (first | refine Za ?_ _ | refine Zb ?_ | refine blk_alloc ?_ _)); refine blk_put (cs := #[u301000]) ?_ 0 _ rfl; (with_reducible repeat (first | refine Za ?_ _ | refine Zb ?_ | refine blk_alloc ?_ _)); exact BK300.out⟩
           have n8_ : Aside0 (Below w.heap.size w (w33.setCell ⟨gb300, 0, none⟩ (.slice Ao34 y311.length co34))) := ⟨by repeat (first | (with_reducible first | exact HB.out | apply Zf | apply Zd | apply Ze | refine Zg ?_ GE297.out | refine Zg ?_ GE298.out | refine Zg ?_ GE299.out | refine Zg ?_ GE300.out) | exact HB.out)⟩
           (try clear HO_298000)
           (try clear HO_299001)
           (try clear HO_299002)
           (try clear HO313)
           (try clear BK297)
           (try clear BK298)
           (try clear BK299)
           (try clear BK300)
           (try clear HB)
           generalize (w33.setCell ⟨gb300, 0, none⟩ (.slice Ao34 y311.length co34)) = w36 at n0_ n1_ n2_ n3_ n4_ n5_ n6_ n7_ n8_ ⊢
           have HO_298000 := n0_
           have HO_299001 := n1_
           have HO_299002 := n2_
           have HO313 := n3_
           have BK297 := n4_
           have BK298 := n5_
           have BK299 := n6_
           have BK300 := n7_
           have HB := n8_
           clear n0_ n1_ n2_ n3_ n4_ n5_ n6_ n7_ n8_
           have n0_ := Zh (V_drew HO_298000.out)
           have n1_ := Zh (V_drew HO_299001.out)
           have n2_ := Zh (V_drew HO_299002.out)
           have n3_ := Zh (N_drew HO313.out)
           have n4_ := Zh (Zb BK297.out)
           have n5_ := Zh (Zb BK298.out)
           have n6_ := Zh (Zb BK299.out)
           have n7_ := Zh (Zb BK300.out)
           have n8_ := Zh (Ze HB.out)
           clear HO_298000
           clear HO_299001
           clear HO_299002
           clear HO313
           clear BK297
           clear BK298
           clear BK299
           clear BK300
           clear HB
           have HO_298000 := n0_
           have HO_299001 := n1_
           have HO_299002 := n2_
           have HO313 := n3_
           have BK297 := n4_
           have BK298 := n5_
           have BK299 := n6_
           have BK300 := n7_
           have HB := n8_
           clear n0_ n1_ n2_ n3_ n4_ n5_ n6_ n7_ n8_
           have p314 : 0 ≤ (x7_1 : Int) := Zo
           have q314 : x7_1 < (l0_0.length : Int) := Zo
           obtain ⟨ad314, A314_1, c314_1, A314_2, c314_2, e314, hx314_0, hx314_1, hx314_2, hl314_1, hi314_1, hl314_2, hi314_2⟩ := at_T74 (V_reads' HO_298000.out).2.2 x7_1 p314 q314
           cases e314
           obtain ⟨ce314, hce314, hMe314, hcc314⟩ := V_get HO_298000.out z74 x7_1 p314 (by first | exact q314 | exact Zo | (have e_ := (V_reads' HO_298000.out).1; omega))
           obtain ⟨ua314_1, uc314_1, ua314_2, uc314_2, rfl, ul314_1, ge314_1, ul314_2, ge314_2⟩ := k74_openF hMe314
           have hv314_1 := hcc314 1 _ rfl
           rw [add_field _ _ 1 (by omega)] at hv314_1
           replace hv314_1 := Option.some.inj (hv314_1.symm.trans hx314_1)
           injection hv314_1 with hva_ hvn_ hvc_
           rw [hva_] at ge314_1
           rw [hvc_] at ul314_1
           have HL314_1 := Zh (show Kd.V (Kd.int .u8) 5 _ w.heap.size _ _ ((rd_T74 l0_0 x7_1).f1) from V_mk ul314_1 ge314_1)
           clear hva_ hvn_ hvc_ ge314_1 ul314_1
           have hv314_2 := hcc314 2 _ rfl
           rw [add_field _ _ 2 (by omega)] at hv314_2
           replace hv314_2 := Option.some.inj (hv314_2.symm.trans hx314_2)
           injection hv314_2 with hva_ hvn_ hvc_
           rw [hva_] at ge314_2
           rw [hvc_] at ul314_2
           have HL314_2 := Zh (show Kd.V (Kd.int .u8) 5 _ w.heap.size _ _ ((rd_T74 l0_0 x7_1).f2) from V_mk ul314_2 ge314_2)
           clear hva_ hvn_ hvc_ ge314_2 ul314_2
           clear hcc314 hce314
           have HR314_1 := Zh hi314_1
           have HC314_1 := Zh hl314_1
           clear hi314_1 hl314_1
           have HR314_2 := Zh hi314_2
           have HC314_2 := Zh hl314_2
           clear hi314_2 hl314_2
           replace p314 := eq_true p314
           replace q314 := eq_true q314
           refine start_ (n := 9) (S := fun w' => w'.cell? ⟨gb297, 0, none⟩ = some (.slice (some ad314) l0_0.length c0_0) ∧ w'.cell? ⟨gb298, 0, none⟩ = some (.string a1_0) ∧ w'.cell? ⟨gb298, 1, none⟩ = some (.slice A1_1 l1_1.length c1_1) ∧ w'.cell? ⟨gb298, 2, none⟩ = some (.slice A1_2 l1_2.length c1_2) ∧ w'.cell? (ad314.add ((x7_1).toNat * 3)) = some (.string ((rd_T74 l0_0 x7_1).f0)) ∧ w'.cell? ⟨(ad314.add ((x7_1).toNat * 3)).block, (ad314.add ((x7_1).toNat * 3)).off + 1, none⟩ = some (.slice A314_1 ((rd_T74 l0_0 x7_1).f1).length c314_1) ∧ w'.cell? ⟨(ad314.add ((x7_1).toNat * 3)).block, (ad314.add ((x7_1).toNat * 3)).off + 2, none⟩ = some (.slice A314_2 ((rd_T74 l0_0 x7_1).f2).length c314_2)) (ds := []) #[false, false, false, false, false, false, false, false, false] (by kernel_rfl) rfl rfl ⟨(blk_cell BK297.out 0).trans rfl, (blk_cell BK298.out 0).trans rfl, (blk_cell BK298.out 1).trans rfl, (blk_cell BK298.out 2).trans rfl, hx314_0, hx314_1, hx314_2⟩ (fun hHeld => ?_); refine with_tabW spec_l03Put.tab9 spec_l03Put.bits9 (fun HT_ HW_ => ?_)
           generalize w36.drew = w37 at HO_298000 HO_299001 HO_299002 HO313 BK297 BK298 BK299 BK300 HB HL314_1 HL314_2 HR314_1 HR314_2 hx314_0 hx314_1 hx314_2 hHeld ⊢
           refine SQ.pu 0 35 HT_ ?_
           refine SQ.pu 2 37 HT_ ?_
           refine SQ.pu 6 41 HT_ ?_
           refine SQ.tk 1 36 HT_ HW_ hHeld ?_
           refine SQ.pu 3 38 HT_ ?_
           refine SQ.pu 4 39 HT_ ?_
           refine SQ.tk 5 40 HT_ HW_ hHeld ?_
           refine SQ.tk 7 42 HT_ HW_ hHeld ?_
           refine SQ.pu 8 43 HT_ ?_
           refine done_ (done_of HT_.out (by kernel_rfl)) ?_
           try go_wp2
           go_roundg kj11
           case measure => have := HK1.out; have := HJ11.out; omega
           case rel => exact ⟨(true), (wrap64 (x7_1 + 1)), (y311), (.slice Ao34 y311.length co34), (by first | rfl | (simp; done) | (simp [*]; done)), (by first | rfl | (simp; done) | (simp [*]; done)), H', ⟨by have := HK1.out; have := HJ11.out; omega⟩, ⟨by (with_reducible repeat (first | apply V_alloc | apply V_drewN | apply V_drew)); exact HO_298000.out⟩, ⟨by (with_reducible repeat (first | apply V_alloc | apply V_drewN | apply V_drew)); exact HO_299001.out⟩, ⟨by (with_reducible repeat (first | apply V_alloc | apply V_drewN | apply V_drew)); exact HO_299002.out⟩, ⟨by (with_reducible repeat (first | apply N_alloc | apply N_drewN | apply N_drew)); exact HO313.out⟩, ⟨by (with_reducible repeat (first | refine Za ?_ _ | refine Zb ?_ | refine blk_alloc ?_ _)); exact BK297.out⟩, ⟨by (with_reducible repeat (first | refine Za ?_ _ | refine Zb ?_ | refine blk_alloc ?_ _)); exact BK298.out⟩, ⟨by (with_reducible repeat (first | refine Za ?_ _ | refine Zb ?_ | refine blk_alloc ?_ _)); exact BK299.out⟩, ⟨by (with_reducible repeat (first | refine Za ?_ _ | refine Zb ?_ | refine blk_alloc ?_ _)); exact BK300.out⟩, ⟨by repeat (first | (with_reducible first | exact HB.out | apply Zf | apply Zd | apply Ze | refine Zg ?_ GE297.out | refine Zg ?_ GE298.out | refine Zg ?_ GE299.out | refine Zg ?_ GE300.out) | exact HB.out)⟩⟩
          rw [if_neg c25] at H
          have c25b0 : (((rd_T74 l0_0 x7_1).f0).toList == a1_0.toList) = false := beq_eq_false_iff_ne.mpr c25
          have c25b1 : (((rd_T74 l0_0 x7_1).f0).toList != a1_0.toList) = true := bne_iff_ne.mpr c25
          by_cases c38 : y311.length < 2199023255552
          ·
           rw [if_pos c38] at H
           have LMc38 := Zh c38
           clear c38
           obtain ⟨y316, hy316⟩ : ∃ y_ : List (S74), y_ = (y311 ++ [(⟨(rd_T74 l0_0 x7_1).f0, (rd_T74 l0_0 x7_1).f1, (rd_T74 l0_0 x7_1).f2⟩ : S74)]) := ⟨_, rfl⟩
           replace H : (spec_l03Put.l0 kj11 true (wrap64 (x7_1 + 1)) l0_0 a1_0 l1_1 l1_2 y316) = some r := by first | (rw [hy316]; with_reducible exact H) | (have H2_ := (Option.bind_some _ _).symm.trans H; rw [hy316]; with_reducible exact H2_) | (have H2_ := (Option.bind_some _ _).symm.trans H; with_reducible exact H2_) | with_reducible exact H | (rw [hy316]; exact H) | exact H
           have Ny316 := Zh hy316
           clear hy316
           have H' := Zh H
           clear H
           have hnb39 := NB300_297.out
           have hnc39 := NB297_300.out
           have hnb40 := NB300_298.out
           have hnc40 := NB298_300.out
           have hnb41 := NB300_299.out
           have hnc41 := NB299_300.out
           have hcz42_0 : wc.cell? ⟨gb300, 0, none⟩ = some (u301000) := (blk_cell BK300.out 0).trans rfl
           have hfz42_0 := Zn BK300.out 0
           have hnb43 := NB298_297.out
           have hnc43 := NB297_298.out
           have hnb44 := NB298_299.out
           have hnc44 := NB299_298.out
           have hcz45_0 : wc.cell? ⟨gb298, 0, none⟩ = some (.string a1_0) := (blk_cell BK298.out 0).trans rfl
           have hcz45_1 : wc.cell? ⟨gb298, 1, none⟩ = some (.slice A1_1 l1_1.length c1_1) := (blk_cell BK298.out 1).trans rfl
           have hcz45_2 : wc.cell? ⟨gb298, 2, none⟩ = some (.slice A1_2 l1_2.length c1_2) := (blk_cell BK298.out 2).trans rfl
           have hfz45_0 := Zn BK298.out 0
           have hfz45_1 := Zn BK298.out 1
           have hfz45_2 := Zn BK298.out 2
           try go_wp2_with (first | ((with_reducible refine gate_builtin (b := .append) (xs := #[.tmp 30, .tmp 32]) rfl ?_); at_builtin; refine N_append k74 (w0 := w) w.heap.size rfl (.tmp 30) (.tmp 32) 27 74 (.agg #[(.string ⟨#[]⟩), (.slice none 0 0), (.slice none 0 0)]) 64 rfl Tryd.underlying27 info74 rfl (by decide) (by omega) u301000 x301000_1 (⟨a1_0, l1_1, l1_2⟩ : S74) [.string a1_0, .slice A1_1 l1_1.length c1_1, .slice A1_2 l1_2.length c1_2] (fun k_ => ((P0_0_ k_ ∨ P1_1_ k_ ∨ P1_2_ k_) ∨ w.heap.size ≤ k_) ∧ k_ ≠ gb297 ∧ k_ ≠ gb298 ∧ k_ ≠ gb299 ∧ k_ ≠ gb300) (fun k_ => ((fun k_ => ((P0_0_ k_ ∨ P1_1_ k_ ∨ P1_2_ k_) ∨ w.heap.size ≤ k_) ∧ k_ ≠ gb297 ∧ k_ ≠ gb298 ∧ k_ ≠ gb299 ∧ k_ ≠ gb300)) k_ ∧ some k_ ≠ (u301000 : Value).ownBlock) rfl rfl ?aP (fun _ hk => hk) ?aF ?aO ?aB ?aS ?aL ?_; (case aP => exact (k74_mkF _ _ (⟨a1_0, l1_1, l1_2⟩ : S74) (V_reads' (V_mono (ok' := (fun k_ => ((fun k_ => ((P0_0_ k_ ∨ P1_1_ k_ ∨ P1_2_ k_) ∨ w.heap.size ≤ k_) ∧ k_ ≠ gb297 ∧ k_ ≠ gb298 ∧ k_ ≠ gb299 ∧ k_ ≠ gb300)) k_ ∧ some k_ ≠ (u301000 : Value).ownBlock)) (HO_299001.out) (fun k_ hk => ⟨⟨hk.1, ⟨hk.2.2.1, ⟨hk.2.2.2.1, ⟨hk.2.2.2.2.1, hk.2.2.2.2.2⟩⟩⟩⟩, hk.2.1⟩))).2.1 (V_F (V_mono (ok' := (fun k_ => ((fun k_ => ((P0_0_ k_ ∨ P1_1_ k_ ∨ P1_2_ k_) ∨ w.heap.size ≤ k_) ∧ k_ ≠ gb297 ∧ k_ ≠ gb298 ∧ k_ ≠ gb299 ∧ k_ ≠ gb300)) k_ ∧ some k_ ≠ (u301000 : Value).ownBlock)) (HO_299001.out) (fun k_ hk => ⟨⟨hk.1, ⟨hk.2.2.1, ⟨hk.2.2.2.1, ⟨hk.2.2.2.2.1, hk.2.2.2.2.2⟩⟩⟩⟩, hk.2.1⟩))) (V_reads' (V_mono (ok' := (fun k_ => ((fun k_ => ((P0_0_ k_ ∨ P1_1_ k_ ∨ P1_2_ k_) ∨ w.heap.size ≤ k_) ∧ k_ ≠ gb297 ∧ k_ ≠ gb298 ∧ k_ ≠ gb299 ∧ k_ ≠ gb300)) k_ ∧ some k_ ≠ (u301000 : Value).ownBlock)) (HO_299002.out) (fun k_ hk => ⟨⟨hk.1, ⟨hk.2.2.1, ⟨hk.2.2.2.1, ⟨hk.2.2.2.2.1, hk.2.2.2.2.2⟩⟩⟩⟩, hk.2.1⟩))).2.1 (V_F (V_mono (ok' := (fun k_ => ((fun k_ => ((P0_0_ k_ ∨ P1_1_ k_ ∨ P1_2_ k_) ∨ w.heap.size ≤ k_) ∧ k_ ≠ gb297 ∧ k_ ≠ gb298 ∧ k_ ≠ gb299 ∧ k_ ≠ gb300)) k_ ∧ some k_ ≠ (u301000 : Value).ownBlock)) (HO_299002.out) (fun k_ hk => ⟨⟨hk.1, ⟨hk.2.2.1, ⟨hk.2.2.2.1, ⟨hk.2.2.2.2.1, hk.2.2.2.2.2⟩⟩⟩⟩, hk.2.1⟩))))); (case aB => exact Zs); (case aF => exact (fun k_ hk => ⟨(.inr (Nat.le_trans (below_size Zs) hk)), Kd.freshB (g := gb297) (o := .cells #[.slice A0_0 l0_0.length c0_0] 29 (0, 0)) Zk k_ hk, Kd.freshB (g := gb298) (o := .cells #[.string a1_0, .slice A1_1 l1_1.length c1_1, .slice A1_2 l1_2.length c1_2] 74 (0, 0)) Zk k_ hk, Kd.freshB (g := gb299) (o := .cells #[.slice none 0 0] 29 (0, 0)) Zk k_ hk, Kd.freshB (g := gb300) (o := .cells #[u301000] 29 (0, 0)) Zk k_ hk⟩)); (case aO => exact (by (with_reducible repeat (first | apply N_alloc | apply N_drewN | apply N_drew)); exact HO_301000.out)); (case aS => exact (below_size Zs)); (case aL => have := LMc22.out; omega); intro v312 w46 ho hb hg hat; rw [← Ny311.out] at ho; have n0_ := Zh (V_afterv (ok := (fun k_ => ((P0_0_ k_ ∨ P1_1_ k_ ∨ P1_2_ k_) ∨ w.heap.size ≤ k_) ∧ k_ ≠ gb297 ∧ k_ ≠ gb298 ∧ k_ ≠ gb299 ∧ k_ ≠ gb300)) (by (with_reducible repeat (first | apply V_alloc | apply V_drewN | apply V_drew)); exact V_mono HO_298000.out (fun _ hk => ⟨⟨hk.1, ⟨hk.2.2.1, ⟨hk.2.2.2.1, ⟨hk.2.2.2.2.1, hk.2.2.2.2.2⟩⟩⟩⟩, hk.2.1⟩)) hg hat); have n1_ := Zh (V_afterv (ok := (fun k_ => ((P0_0_ k_ ∨ P1_1_ k_ ∨ P1_2_ k_) ∨ w.heap.size ≤ k_) ∧ k_ ≠ gb297 ∧ k_ ≠ gb298 ∧ k_ ≠ gb299 ∧ k_ ≠ gb300)) (by (with_reducible repeat (first | apply V_alloc | apply V_drewN | apply V_drew)); exact V_mono HO_299001.out (fun _ hk => ⟨⟨hk.1, ⟨hk.2.2.1, ⟨hk.2.2.2.1, ⟨hk.2.2.2.2.1, hk.2.2.2.2.2⟩⟩⟩⟩, hk.2.1⟩)) hg hat); have n2_ := Zh (V_afterv (ok := (fun k_ => ((P0_0_ k_ ∨ P1_1_ k_ ∨ P1_2_ k_) ∨ w.heap.size ≤ k_) ∧ k_ ≠ gb297 ∧ k_ ≠ gb298 ∧ k_ ≠ gb299 ∧ k_ ≠ gb300)) (by (with_reducible repeat (first | apply V_alloc | apply V_drewN | apply V_drew)); exact V_mono HO_299002.out (fun _ hk => ⟨⟨hk.1, ⟨hk.2.2.1, ⟨hk.2.2.2.1, ⟨hk.2.2.2.2.1, hk.2.2.2.2.2⟩⟩⟩⟩, hk.2.1⟩)) hg hat); have n3_ := Zh (blk_grown (g := gb297) (o := .cells #[.slice A0_0 l0_0.length c0_0] 29 (0, 0)) Zk hg (N_ne HO_301000.out BK297.out (by decide))); have n4_ := Zh (blk_grown (g := gb298) (o := .cells #[.string a1_0, .slice A1_1 l1_1.length c1_1, .slice A1_2 l1_2.length c1_2] 74 (0, 0)) Zk hg (N_away HO_301000.out (fun _ hk => hk.2.2.1))); have n5_ := Zh (blk_grown (g := gb299) (o := .cells #[.slice none 0 0] 29 (0, 0)) Zk hg (N_ne HO_301000.out BK299.out (by decide))); have n6_ := Zh (blk_grown (g := gb300) (o := .cells #[u301000] 29 (0, 0)) Zk hg (N_ne HO_301000.out BK300.out (by decide))); have n7_ := Zh (hb); have n8_ := Zh (ho); clear HO_298000; clear HO_299001; clear HO_299002; clear BK297; clear BK298; clear BK299; clear BK300; clear HB; clear HO_301000; have HO_298000 := n0_; have HO_299001 := n1_; have HO_299002 := n2_; have BK297 := n3_; have BK298 := n4_; have BK299 := n5_; have BK300 := n6_; have HB := n7_; have HO313 := n8_; clear n0_ n1_ n2_ n3_ n4_ n5_ n6_ n7_ n8_; clear ho hb hg hat; obtain ⟨Ao47, co47, eo47⟩ := N_slice HO313.out; subst eo47; have hcz48_0 : w46.cell? ⟨gb300, 0, none⟩ = some (u301000) := (blk_cell BK300.out 0).trans rfl; have hfz48_0 := Zn BK300.out 0))
           have n0_ : Aside0 (Kd.V k74 74 (w46.setCell ⟨gb300, 0, none⟩ (.slice Ao47 y311.length co47)) w.heap.size (fun k_ => ((P0_0_ k_ ∨ P1_1_ k_ ∨ P1_2_ k_) ∨ w.heap.size ≤ k_) ∧ some k_ ≠ (.slice Ao47 y311.length co47 : Value).ownBlock ∧ k_ ≠ gb297 ∧ k_ ≠ gb298 ∧ k_ ≠ gb299 ∧ k_ ≠ gb300) (.slice A0_0 l0_0.length c0_0) l0_0) := ⟨by (with_reducible repeat (first | apply V_alloc | apply V_drewN | apply V_drew)); exact V_mono (V_far (p := ⟨gb300, 0, none⟩) (V_mono HO_298000.out (fun k_ hk => (⟨hk, hk.1.2.2.2.2⟩ : _ ∧ k_ ≠ gb300))) (fun _ hk => hk.2) (.slice Ao47 y311.length co47)) (fun _ hk => ⟨hk.1.1.1, ⟨hk.1.2, ⟨hk.1.1.2.1, ⟨hk.1.1.2.2.1, ⟨hk.1.1.2.2.2.1, hk.1.1.2.2.2.2⟩⟩⟩⟩⟩)⟩
           have n1_ : Aside0 (Kd.V (Kd.int .u8) 5 (w46.setCell ⟨gb300, 0, none⟩ (.slice Ao47 y311.length co47)) w.heap.size (fun k_ => ((P0_0_ k_ ∨ P1_1_ k_ ∨ P1_2_ k_) ∨ w.heap.size ≤ k_) ∧ some k_ ≠ (.slice Ao47 y311.length co47 : Value).ownBlock ∧ k_ ≠ gb297 ∧ k_ ≠ gb298 ∧ k_ ≠ gb299 ∧ k_ ≠ gb300) (.slice A1_1 l1_1.length c1_1) l1_1) := ⟨by (with_reducible repeat (first | apply V_alloc | apply V_drewN | apply V_drew)); exact V_mono (V_far (p := ⟨gb300, 0, none⟩) (V_mono HO_299001.out (fun k_ hk => (⟨hk, hk.1.2.2.2.2⟩ : _ ∧ k_ ≠ gb300))) (fun _ hk => hk.2) (.slice Ao47 y311.length co47)) (fun _ hk => ⟨hk.1.1.1, ⟨hk.1.2, ⟨hk.1.1.2.1, ⟨hk.1.1.2.2.1, ⟨hk.1.1.2.2.2.1, hk.1.1.2.2.2.2⟩⟩⟩⟩⟩)⟩
           have n2_ : Aside0 (Kd.V (Kd.int .u8) 5 (w46.setCell ⟨gb300, 0, none⟩ (.slice Ao47 y311.length co47)) w.heap.size (fun k_ => ((P0_0_ k_ ∨ P1_1_ k_ ∨ P1_2_ k_) ∨ w.heap.size ≤ k_) ∧ some k_ ≠ (.slice Ao47 y311.length co47 : Value).ownBlock ∧ k_ ≠ gb297 ∧ k_ ≠ gb298 ∧ k_ ≠ gb299 ∧ k_ ≠ gb300) (.slice A1_2 l1_2.length c1_2) l1_2) := ⟨by (with_reducible repeat (first | apply V_alloc | apply V_drewN | apply V_drew)); exact V_mono (V_far (p := ⟨gb300, 0, none⟩) (V_mono HO_299002.out (fun k_ hk => (⟨hk, hk.1.2.2.2.2⟩ : _ ∧ k_ ≠ gb300))) (fun _ hk => hk.2) (.slice Ao47 y311.length co47)) (fun _ hk => ⟨hk.1.1.1, ⟨hk.1.2, ⟨hk.1.1.2.1, ⟨hk.1.1.2.2.1, ⟨hk.1.1.2.2.2.1, hk.1.1.2.2.2.2⟩⟩⟩⟩⟩)⟩
           have n3_ : Aside0 (Kd.N k74 74 (w46.setCell ⟨gb300, 0, none⟩ (.slice Ao47 y311.length co47)) w.heap.size (fun k_ => ((P0_0_ k_ ∨ P1_1_ k_ ∨ P1_2_ k_) ∨ w.heap.size ≤ k_) ∧ k_ ≠ gb297 ∧ k_ ≠ gb298 ∧ k_ ≠ gb299 ∧ k_ ≠ gb300) (.slice Ao47 y311.length co47) y311) := ⟨by (with_reducible repeat (first | apply N_alloc | apply N_drewN | apply N_drew)); exact N_mono (N_far (p := ⟨gb300, 0, none⟩) (N_mono HO313.out (fun k_ hk => (⟨hk, hk.2.2.2.2⟩ : _ ∧ k_ ≠ gb300))) (fun _ hk => hk.2) (.slice Ao47 y311.length co47)) (fun _ hk => ⟨hk.1.1, ⟨hk.1.2.1, ⟨hk.1.2.2.1, ⟨hk.1.2.2.2.1, hk.1.2.2.2.2⟩⟩⟩⟩)⟩
           have n4_ : Aside0 ((w46.setCell ⟨gb300, 0, none⟩ (.slice Ao47 y311.length co47)).heap[gb297]? = some (.cells #[.slice A0_0 l0_0.length c0_0] 29 (0, 0))) := ⟨by (with_reducible repeat (first | refine Za ?_ _ | refine Zb ?_ | refine blk_alloc ?_ _)); refine Zp ?_ NB297_300.out _; (with_reducible repeat (first | refine Za ?_ _ | refine Zb ?_ | refine blk_alloc ?_ _)); exact BK297.out⟩
           have n5_ : Aside0 ((w46.setCell ⟨gb300, 0, none⟩ (.slice Ao47 y311.length co47)).heap[gb298]? = some (.cells #[.string a1_0, .slice A1_1 l1_1.length c1_1, .slice A1_2 l1_2.length c1_2] 74 (0, 0))) := ⟨by (with_reducible repeat (first | refine Za ?_ _ | refine Zb ?_ | refine blk_alloc ?_ _)); refine Zp ?_ NB298_300.out _; (with_reducible repeat (first | refine Za ?_ _ | refine Zb ?_ | refine blk_alloc ?_ _)); exact BK298.out⟩
           have n6_ : Aside0 ((w46.setCell ⟨gb300, 0, none⟩ (.slice Ao47 y311.length co47)).heap[gb299]? = some (.cells #[.slice none 0 0] 29 (0, 0))) := ⟨by (with_reducible repeat (first | refine Za ?_ _ | refine Zb ?_ | refine blk_alloc ?_ _)); refine Zp ?_ NB299_300.out _; (with_reducible repeat (first | refine Za ?_ _ | refine Zb ?_ | refine blk_alloc ?_ _)); exact BK299.out⟩
           have n7_ : Aside0 ((w46.setCell ⟨gb300, 0, none⟩ (.slice Ao47 y311.length co47)).heap[gb300]? = some (.cells #[.slice Ao47 y311.length co47] 29 (0, 0))) := ⟨by (with_reducible repeat (first | refine Za ?_ _ | refine Zb ?_ | refine blk_alloc ?_ _)); refine blk_put (cs := #[u301000]) ?_ 0 _ rfl; (with_reducible repeat (first | refine Za ?_ _ | refine Zb ?_ | refine blk_alloc ?_ _)); exact BK300.out⟩
           have n8_ : Aside0 (Below w.heap.size w (w46.setCell ⟨gb300, 0, none⟩ (.slice Ao47 y311.length co47))) := ⟨by repeat (first | (with_reducible first | exact HB.out | apply Zf | apply Zd | apply Ze | refine Zg ?_ GE297.out | refine Zg ?_ GE298.out | refine Zg ?_ GE299.out | refine Zg ?_ GE300.out) | exact HB.out)⟩
           (try clear HO_298000)
           (try clear HO_299001)
           (try clear HO_299002)
           (try clear HO313)
           (try clear BK297)
           (try clear BK298)
           (try clear BK299)
           (try clear BK300)
           (try clear HB)
           generalize (w46.setCell ⟨gb300, 0, none⟩ (.slice Ao47 y311.length co47)) = w49 at n0_ n1_ n2_ n3_ n4_ n5_ n6_ n7_ n8_ ⊢
           have HO_298000 := n0_
           have HO_299001 := n1_
           have HO_299002 := n2_
           have HO313 := n3_
           have BK297 := n4_
           have BK298 := n5_
           have BK299 := n6_
           have BK300 := n7_
           have HB := n8_
           clear n0_ n1_ n2_ n3_ n4_ n5_ n6_ n7_ n8_
           have n0_ := Zh (V_drew HO_298000.out)
           have n1_ := Zh (V_drew HO_299001.out)
           have n2_ := Zh (V_drew HO_299002.out)
           have n3_ := Zh (N_drew HO313.out)
           have n4_ := Zh (Zb BK297.out)
           have n5_ := Zh (Zb BK298.out)
           have n6_ := Zh (Zb BK299.out)
           have n7_ := Zh (Zb BK300.out)
           have n8_ := Zh (Ze HB.out)
           clear HO_298000
           clear HO_299001
           clear HO_299002
           clear HO313
           clear BK297
           clear BK298
           clear BK299
           clear BK300
           clear HB
           have HO_298000 := n0_
           have HO_299001 := n1_
           have HO_299002 := n2_
           have HO313 := n3_
           have BK297 := n4_
           have BK298 := n5_
           have BK299 := n6_
           have BK300 := n7_
           have HB := n8_
           clear n0_ n1_ n2_ n3_ n4_ n5_ n6_ n7_ n8_
           have p314 : 0 ≤ (x7_1 : Int) := Zo
           have q314 : x7_1 < (l0_0.length : Int) := Zo
           obtain ⟨ad314, A314_1, c314_1, A314_2, c314_2, e314, hx314_0, hx314_1, hx314_2, hl314_1, hi314_1, hl314_2, hi314_2⟩ := at_T74 (V_reads' HO_298000.out).2.2 x7_1 p314 q314
           cases e314
           obtain ⟨ce314, hce314, hMe314, hcc314⟩ := V_get HO_298000.out z74 x7_1 p314 (by first | exact q314 | exact Zo | (have e_ := (V_reads' HO_298000.out).1; omega))
           obtain ⟨ua314_1, uc314_1, ua314_2, uc314_2, rfl, ul314_1, ge314_1, ul314_2, ge314_2⟩ := k74_openF hMe314
           have hv314_1 := hcc314 1 _ rfl
           rw [add_field _ _ 1 (by omega)] at hv314_1
           replace hv314_1 := Option.some.inj (hv314_1.symm.trans hx314_1)
           injection hv314_1 with hva_ hvn_ hvc_
           rw [hva_] at ge314_1
           rw [hvc_] at ul314_1
           have HL314_1 := Zh (show Kd.V (Kd.int .u8) 5 _ w.heap.size _ _ ((rd_T74 l0_0 x7_1).f1) from V_mk ul314_1 ge314_1)
           clear hva_ hvn_ hvc_ ge314_1 ul314_1
           have hv314_2 := hcc314 2 _ rfl
           rw [add_field _ _ 2 (by omega)] at hv314_2
           replace hv314_2 := Option.some.inj (hv314_2.symm.trans hx314_2)
           injection hv314_2 with hva_ hvn_ hvc_
           rw [hva_] at ge314_2
           rw [hvc_] at ul314_2
           have HL314_2 := Zh (show Kd.V (Kd.int .u8) 5 _ w.heap.size _ _ ((rd_T74 l0_0 x7_1).f2) from V_mk ul314_2 ge314_2)
           clear hva_ hvn_ hvc_ ge314_2 ul314_2
           clear hcc314 hce314
           have HR314_1 := Zh hi314_1
           have HC314_1 := Zh hl314_1
           clear hi314_1 hl314_1
           have HR314_2 := Zh hi314_2
           have HC314_2 := Zh hl314_2
           clear hi314_2 hl314_2
           replace p314 := eq_true p314
           replace q314 := eq_true q314
           refine start_ (n := 9) (S := fun w' => w'.cell? ⟨gb297, 0, none⟩ = some (.slice (some ad314) l0_0.length c0_0) ∧ w'.cell? ⟨gb298, 0, none⟩ = some (.string a1_0) ∧ w'.cell? ⟨gb298, 1, none⟩ = some (.slice A1_1 l1_1.length c1_1) ∧ w'.cell? ⟨gb298, 2, none⟩ = some (.slice A1_2 l1_2.length c1_2) ∧ w'.cell? (ad314.add ((x7_1).toNat * 3)) = some (.string ((rd_T74 l0_0 x7_1).f0)) ∧ w'.cell? ⟨(ad314.add ((x7_1).toNat * 3)).block, (ad314.add ((x7_1).toNat * 3)).off + 1, none⟩ = some (.slice A314_1 ((rd_T74 l0_0 x7_1).f1).length c314_1) ∧ w'.cell? ⟨(ad314.add ((x7_1).toNat * 3)).block, (ad314.add ((x7_1).toNat * 3)).off + 2, none⟩ = some (.slice A314_2 ((rd_T74 l0_0 x7_1).f2).length c314_2)) (ds := []) #[false, false, false, false, false, false, false, false, false] (by kernel_rfl) rfl rfl ⟨(blk_cell BK297.out 0).trans rfl, (blk_cell BK298.out 0).trans rfl, (blk_cell BK298.out 1).trans rfl, (blk_cell BK298.out 2).trans rfl, hx314_0, hx314_1, hx314_2⟩ (fun hHeld => ?_); refine with_tabW spec_l03Put.tab9 spec_l03Put.bits9 (fun HT_ HW_ => ?_)
           generalize w49.drew = w50 at HO_298000 HO_299001 HO_299002 HO313 BK297 BK298 BK299 BK300 HB HL314_1 HL314_2 HR314_1 HR314_2 hx314_0 hx314_1 hx314_2 hHeld ⊢
           refine SQ.pu 0 35 HT_ ?_
           refine SQ.pu 2 37 HT_ ?_
           refine SQ.pu 6 41 HT_ ?_
           refine SQ.tk 1 36 HT_ HW_ hHeld ?_
           refine SQ.pu 3 38 HT_ ?_
           refine SQ.pu 4 39 HT_ ?_
           refine SQ.tk 5 40 HT_ HW_ hHeld ?_
           refine SQ.tk 7 42 HT_ HW_ hHeld ?_
           refine SQ.pu 8 43 HT_ ?_
           refine done_ (done_of HT_.out (by kernel_rfl)) ?_
           try go_wp2
           have n0_ := Zh (V_drew HO_298000.out)
           have n1_ := Zh (V_drew HO_299001.out)
           have n2_ := Zh (V_drew HO_299002.out)
           have n3_ := Zh (N_drew HO313.out)
           have n4_ := Zh (V_drew HL314_1.out)
           have n5_ := Zh (V_drew HL314_2.out)
           have n6_ := Zh (Zb BK297.out)
           have n7_ := Zh (Zb BK298.out)
           have n8_ := Zh (Zb BK299.out)
           have n9_ := Zh (Zb BK300.out)
           have n10_ := Zh (C_drew HR314_1.out)
           have n11_ := Zh (C_drew HR314_2.out)
           have n12_ := Zh (Ze HB.out)
           clear HO_298000
           clear HO_299001
           clear HO_299002
           clear HO313
           clear HL314_1
           clear HL314_2
           clear BK297
           clear BK298
           clear BK299
           clear BK300
           clear HR314_1
           clear HR314_2
           clear HB
           have HO_298000 := n0_
           have HO_299001 := n1_
           have HO_299002 := n2_
           have HO313 := n3_
           have HL314_1 := n4_
           have HL314_2 := n5_
           have BK297 := n6_
           have BK298 := n7_
           have BK299 := n8_
           have BK300 := n9_
           have HR314_1 := n10_
           have HR314_2 := n11_
           have HB := n12_
           clear n0_ n1_ n2_ n3_ n4_ n5_ n6_ n7_ n8_ n9_ n10_ n11_ n12_
           have p315 : 0 ≤ (x7_1 : Int) := Zo
           have q315 : x7_1 < (l0_0.length : Int) := Zo
           obtain ⟨ad315, A315_1, c315_1, A315_2, c315_2, e315, hx315_0, hx315_1, hx315_2, hl315_1, hi315_1, hl315_2, hi315_2⟩ := at_T74 (V_reads' HO_298000.out).2.2 x7_1 p315 q315
           obtain rfl : ad314 = ad315 := (by injection e315)
           obtain ⟨ce315, hce315, hMe315, hcc315⟩ := V_get HO_298000.out z74 x7_1 p315 (by first | exact q315 | exact Zo | (have e_ := (V_reads' HO_298000.out).1; omega))
           obtain ⟨ua315_1, uc315_1, ua315_2, uc315_2, rfl, ul315_1, ge315_1, ul315_2, ge315_2⟩ := k74_openF hMe315
           have hv315_1 := hcc315 1 _ rfl
           rw [add_field _ _ 1 (by omega)] at hv315_1
           replace hv315_1 := Option.some.inj (hv315_1.symm.trans hx315_1)
           injection hv315_1 with hva_ hvn_ hvc_
           rw [hva_] at ge315_1
           rw [hvc_] at ul315_1
           have HL315_1 := Zh (show Kd.V (Kd.int .u8) 5 _ w.heap.size _ _ ((rd_T74 l0_0 x7_1).f1) from V_mk ul315_1 ge315_1)
           clear hva_ hvn_ hvc_ ge315_1 ul315_1
           have hv315_2 := hcc315 2 _ rfl
           rw [add_field _ _ 2 (by omega)] at hv315_2
           replace hv315_2 := Option.some.inj (hv315_2.symm.trans hx315_2)
           injection hv315_2 with hva_ hvn_ hvc_
           rw [hva_] at ge315_2
           rw [hvc_] at ul315_2
           have HL315_2 := Zh (show Kd.V (Kd.int .u8) 5 _ w.heap.size _ _ ((rd_T74 l0_0 x7_1).f2) from V_mk ul315_2 ge315_2)
           clear hva_ hvn_ hvc_ ge315_2 ul315_2
           clear hcc315 hce315
           have HR315_1 := Zh hi315_1
           have HC315_1 := Zh hl315_1
           clear hi315_1 hl315_1
           have HR315_2 := Zh hi315_2
           have HC315_2 := Zh hl315_2
           clear hi315_2 hl315_2
           replace p315 := eq_true p315
           replace q315 := eq_true q315
           refine start_ (n := 11) (S := fun w' => w'.cell? ⟨gb300, 0, none⟩ = some (.slice Ao47 y311.length co47) ∧ w'.cell? ⟨gb297, 0, none⟩ = some (.slice (some ad314) l0_0.length c0_0) ∧ w'.cell? (ad314.add ((x7_1).toNat * 3)) = some (.string ((rd_T74 l0_0 x7_1).f0)) ∧ w'.cell? ⟨(ad314.add ((x7_1).toNat * 3)).block, (ad314.add ((x7_1).toNat * 3)).off + 1, none⟩ = some (.slice A315_1 ((rd_T74 l0_0 x7_1).f1).length c315_1) ∧ w'.cell? ⟨(ad314.add ((x7_1).toNat * 3)).block, (ad314.add ((x7_1).toNat * 3)).off + 2, none⟩ = some (.slice A315_2 ((rd_T74 l0_0 x7_1).f2).length c315_2)) (ds := [8, 10]) #[false, false, false, false, false, false, false, false, false, false, false] (by kernel_rfl) rfl rfl ⟨(blk_cell BK300.out 0).trans rfl, (blk_cell BK297.out 0).trans rfl, hx315_0, hx315_1, hx315_2⟩ (fun hHeld => ?_); refine with_tabW spec_l03Put.tab10 spec_l03Put.bits10 (fun HT_ HW_ => ?_)
           generalize w50.drew = w51 at HO_298000 HO_299001 HO_299002 HO313 HL314_1 HL314_2 BK297 BK298 BK299 BK300 HR314_1 HR314_2 HB HL315_1 HL315_2 HR315_1 HR315_2 hx315_0 hx315_1 hx315_2 hHeld ⊢
           refine SQ.pu 0 44 HT_ ?_
           refine SQ.pu 2 46 HT_ ?_
           refine SQ.pu 4 48 HT_ ?_
           refine SQ.tk 1 45 HT_ HW_ hHeld ?_
           refine SQ.tk 3 47 HT_ HW_ hHeld ?_
           refine SQ.pu 5 49 HT_ ?_
           refine SQ.tk 6 50 HT_ HW_ hHeld ?_
           refine one_ (i := 7) (N := some 51) #[true, true, true, true, true, true, true, true, false, false, false] rfl rfl (one_of HT_.out (by kernel_rfl)) (by decide) (fun K hK => ?_)
           refine value_ (w1 := ?_) (v := ?_) (by rfl) rfl ?_ ?_
           rotate_left 2
           ·
            go_simp
            constructor
            ·
             rfl
            rfl
           refine hK.out _ _ ⟨(blk_cell (blk_alloc BK300.out _) 0).trans rfl, (blk_cell (blk_alloc BK297.out _) 0).trans rfl, (World.cell?_alloc_lt _ _ _ (Zi _ _ (hHeld.2.2.1))).trans (hHeld.2.2.1), (World.cell?_alloc_lt _ _ _ (Zi _ _ (hHeld.2.2.2.1))).trans (hHeld.2.2.2.1), (World.cell?_alloc_lt _ _ _ (Zi _ _ (hHeld.2.2.2.2))).trans (hHeld.2.2.2.2)⟩ (fun hHeld => ?_)
           clear hK K
           refine norm_ (a' := ?_) ?_ ?_
           rotate_left
           ·
            show Act.put _ (some 51) _ = _
            simp only [Act.put, List.setIfInBounds_toArray, List.set_cons_zero, List.set_cons_succ, i64_w, i32_w]
            rfl
           refine last_ (i := 8) (N := some 52) #[true, true, true, true, true, true, true, true, true, false, false] rfl rfl (one_of HT_.out (by kernel_rfl)) (by decide) (fun K hK => ?_)
           refine N_append_step k74 (w0 := w) w.heap.size (by rfl) (.tmp 45) (.tmp 51) 27 74 (.agg #[(.string ⟨#[]⟩), (.slice none 0 0), (.slice none 0 0)]) 64 rfl Tryd.underlying27 info74 rfl (by decide) (by omega) (.slice Ao47 y311.length co47) y311 (⟨(rd_T74 l0_0 x7_1).f0, (rd_T74 l0_0 x7_1).f1, (rd_T74 l0_0 x7_1).f2⟩ : S74) [.string ((rd_T74 l0_0 x7_1).f0), .slice A315_1 ((rd_T74 l0_0 x7_1).f1).length c315_1, .slice A315_2 ((rd_T74 l0_0 x7_1).f2).length c315_2] (fun k_ => ((P0_0_ k_ ∨ P1_1_ k_ ∨ P1_2_ k_) ∨ w.heap.size ≤ k_) ∧ k_ ≠ gb297 ∧ k_ ≠ gb298 ∧ k_ ≠ gb299 ∧ k_ ≠ gb300) (fun k_ => ((fun k_ => ((P0_0_ k_ ∨ P1_1_ k_ ∨ P1_2_ k_) ∨ w.heap.size ≤ k_) ∧ k_ ≠ gb297 ∧ k_ ≠ gb298 ∧ k_ ≠ gb299 ∧ k_ ≠ gb300)) k_ ∧ some k_ ≠ (.slice Ao47 y311.length co47 : Value).ownBlock) rfl rfl ?aP (fun _ hk => hk) ?aF ?aO ?aB ?aS ?aL ?_
           (case aP => exact (k74_mkF _ _ (⟨(rd_T74 l0_0 x7_1).f0, (rd_T74 l0_0 x7_1).f1, (rd_T74 l0_0 x7_1).f2⟩ : S74) (V_reads' (V_mono (ok' := (fun k_ => ((fun k_ => ((P0_0_ k_ ∨ P1_1_ k_ ∨ P1_2_ k_) ∨ w.heap.size ≤ k_) ∧ k_ ≠ gb297 ∧ k_ ≠ gb298 ∧ k_ ≠ gb299 ∧ k_ ≠ gb300)) k_ ∧ some k_ ≠ (.slice Ao47 y311.length co47 : Value).ownBlock)) (HL315_1.out) (fun k_ hk => ⟨⟨hk.1, ⟨hk.2.2.1, ⟨hk.2.2.2.1, ⟨hk.2.2.2.2.1, hk.2.2.2.2.2⟩⟩⟩⟩, hk.2.1⟩))).2.1 (V_F (V_mono (ok' := (fun k_ => ((fun k_ => ((P0_0_ k_ ∨ P1_1_ k_ ∨ P1_2_ k_) ∨ w.heap.size ≤ k_) ∧ k_ ≠ gb297 ∧ k_ ≠ gb298 ∧ k_ ≠ gb299 ∧ k_ ≠ gb300)) k_ ∧ some k_ ≠ (.slice Ao47 y311.length co47 : Value).ownBlock)) (HL315_1.out) (fun k_ hk => ⟨⟨hk.1, ⟨hk.2.2.1, ⟨hk.2.2.2.1, ⟨hk.2.2.2.2.1, hk.2.2.2.2.2⟩⟩⟩⟩, hk.2.1⟩))) (V_reads' (V_mono (ok' := (fun k_ => ((fun k_ => ((P0_0_ k_ ∨ P1_1_ k_ ∨ P1_2_ k_) ∨ w.heap.size ≤ k_) ∧ k_ ≠ gb297 ∧ k_ ≠ gb298 ∧ k_ ≠ gb299 ∧ k_ ≠ gb300)) k_ ∧ some k_ ≠ (.slice Ao47 y311.length co47 : Value).ownBlock)) (HL315_2.out) (fun k_ hk => ⟨⟨hk.1, ⟨hk.2.2.1, ⟨hk.2.2.2.1, ⟨hk.2.2.2.2.1, hk.2.2.2.2.2⟩⟩⟩⟩, hk.2.1⟩))).2.1 (V_F (V_mono (ok' := (fun k_ => ((fun k_ => ((P0_0_ k_ ∨ P1_1_ k_ ∨ P1_2_ k_) ∨ w.heap.size ≤ k_) ∧ k_ ≠ gb297 ∧ k_ ≠ gb298 ∧ k_ ≠ gb299 ∧ k_ ≠ gb300)) k_ ∧ some k_ ≠ (.slice Ao47 y311.length co47 : Value).ownBlock)) (HL315_2.out) (fun k_ hk => ⟨⟨hk.1, ⟨hk.2.2.1, ⟨hk.2.2.2.1, ⟨hk.2.2.2.2.1, hk.2.2.2.2.2⟩⟩⟩⟩, hk.2.1⟩)))))
           (case aB => exact Zs)
           (case aF => exact (fun k_ hk => ⟨(.inr (Nat.le_trans (below_size Zs) hk)), Kd.freshB (g := gb297) (o := .cells #[.slice (some ad314) l0_0.length c0_0] 29 (0, 0)) Zk k_ hk, Kd.freshB (g := gb298) (o := .cells #[.string a1_0, .slice A1_1 l1_1.length c1_1, .slice A1_2 l1_2.length c1_2] 74 (0, 0)) Zk k_ hk, Kd.freshB (g := gb299) (o := .cells #[.slice none 0 0] 29 (0, 0)) Zk k_ hk, Kd.freshB (g := gb300) (o := .cells #[.slice Ao47 y311.length co47] 29 (0, 0)) Zk k_ hk⟩))
           (case aO => exact (by (with_reducible repeat (first | apply N_alloc | apply N_drewN | apply N_drew)); exact HO313.out))
           (case aS => exact (below_size Zs))
           (case aL => have := LMc38.out; omega)
           intro v317 w52 ho hb hg hat
           rw [← Ny316.out] at ho
           have n0_ := Zh (V_afterv (ok := (fun k_ => ((P0_0_ k_ ∨ P1_1_ k_ ∨ P1_2_ k_) ∨ w.heap.size ≤ k_) ∧ k_ ≠ gb297 ∧ k_ ≠ gb298 ∧ k_ ≠ gb299 ∧ k_ ≠ gb300)) (by (with_reducible repeat (first | apply V_alloc | apply V_drewN | apply V_drew)); exact V_mono HO_298000.out (fun _ hk => ⟨⟨hk.1, ⟨hk.2.2.1, ⟨hk.2.2.2.1, ⟨hk.2.2.2.2.1, hk.2.2.2.2.2⟩⟩⟩⟩, hk.2.1⟩)) hg hat)
           have n1_ := Zh (V_afterv (ok := (fun k_ => ((P0_0_ k_ ∨ P1_1_ k_ ∨ P1_2_ k_) ∨ w.heap.size ≤ k_) ∧ k_ ≠ gb297 ∧ k_ ≠ gb298 ∧ k_ ≠ gb299 ∧ k_ ≠ gb300)) (by (with_reducible repeat (first | apply V_alloc | apply V_drewN | apply V_drew)); exact V_mono HO_299001.out (fun _ hk => ⟨⟨hk.1, ⟨hk.2.2.1, ⟨hk.2.2.2.1, ⟨hk.2.2.2.2.1, hk.2.2.2.2.2⟩⟩⟩⟩, hk.2.1⟩)) hg hat)
           have n2_ := Zh (V_afterv (ok := (fun k_ => ((P0_0_ k_ ∨ P1_1_ k_ ∨ P1_2_ k_) ∨ w.heap.size ≤ k_) ∧ k_ ≠ gb297 ∧ k_ ≠ gb298 ∧ k_ ≠ gb299 ∧ k_ ≠ gb300)) (by (with_reducible repeat (first | apply V_alloc | apply V_drewN | apply V_drew)); exact V_mono HO_299002.out (fun _ hk => ⟨⟨hk.1, ⟨hk.2.2.1, ⟨hk.2.2.2.1, ⟨hk.2.2.2.2.1, hk.2.2.2.2.2⟩⟩⟩⟩, hk.2.1⟩)) hg hat)
           have n3_ := Zh (blk_grown (g := gb297) (o := .cells #[.slice (some ad314) l0_0.length c0_0] 29 (0, 0)) Zk hg (N_ne HO313.out BK297.out (by decide)))
           have n4_ := Zh (blk_grown (g := gb298) (o := .cells #[.string a1_0, .slice A1_1 l1_1.length c1_1, .slice A1_2 l1_2.length c1_2] 74 (0, 0)) Zk hg (N_away HO313.out (fun _ hk => hk.2.2.1)))
           have n5_ := Zh (blk_grown (g := gb299) (o := .cells #[.slice none 0 0] 29 (0, 0)) Zk hg (N_ne HO313.out BK299.out (by decide)))
           have n6_ := Zh (blk_grown (g := gb300) (o := .cells #[.slice Ao47 y311.length co47] 29 (0, 0)) Zk hg (N_ne HO313.out BK300.out (by decide)))
           have n7_ := Zh (V_afterv (ok := (fun k_ => ((P0_0_ k_ ∨ P1_1_ k_ ∨ P1_2_ k_) ∨ w.heap.size ≤ k_) ∧ k_ ≠ gb297 ∧ k_ ≠ gb298 ∧ k_ ≠ gb299 ∧ k_ ≠ gb300)) (by (with_reducible repeat (first | apply V_alloc | apply V_drewN | apply V_drew)); exact V_mono HL314_1.out (fun _ hk => ⟨⟨hk.1, ⟨hk.2.2.1, ⟨hk.2.2.2.1, ⟨hk.2.2.2.2.1, hk.2.2.2.2.2⟩⟩⟩⟩, hk.2.1⟩)) hg hat)
           have n8_ := Zh (V_afterv (ok := (fun k_ => ((P0_0_ k_ ∨ P1_1_ k_ ∨ P1_2_ k_) ∨ w.heap.size ≤ k_) ∧ k_ ≠ gb297 ∧ k_ ≠ gb298 ∧ k_ ≠ gb299 ∧ k_ ≠ gb300)) (by (with_reducible repeat (first | apply V_alloc | apply V_drewN | apply V_drew)); exact V_mono HL314_2.out (fun _ hk => ⟨⟨hk.1, ⟨hk.2.2.1, ⟨hk.2.2.2.1, ⟨hk.2.2.2.2.1, hk.2.2.2.2.2⟩⟩⟩⟩, hk.2.1⟩)) hg hat)
           have n9_ := Zh (V_afterv (ok := (fun k_ => ((P0_0_ k_ ∨ P1_1_ k_ ∨ P1_2_ k_) ∨ w.heap.size ≤ k_) ∧ k_ ≠ gb297 ∧ k_ ≠ gb298 ∧ k_ ≠ gb299 ∧ k_ ≠ gb300)) (by (with_reducible repeat (first | apply V_alloc | apply V_drewN | apply V_drew)); exact V_mono HL315_1.out (fun _ hk => ⟨⟨hk.1, ⟨hk.2.2.1, ⟨hk.2.2.2.1, ⟨hk.2.2.2.2.1, hk.2.2.2.2.2⟩⟩⟩⟩, hk.2.1⟩)) hg hat)
           have n10_ := Zh (V_afterv (ok := (fun k_ => ((P0_0_ k_ ∨ P1_1_ k_ ∨ P1_2_ k_) ∨ w.heap.size ≤ k_) ∧ k_ ≠ gb297 ∧ k_ ≠ gb298 ∧ k_ ≠ gb299 ∧ k_ ≠ gb300)) (by (with_reducible repeat (first | apply V_alloc | apply V_drewN | apply V_drew)); exact V_mono HL315_2.out (fun _ hk => ⟨⟨hk.1, ⟨hk.2.2.1, ⟨hk.2.2.2.1, ⟨hk.2.2.2.2.1, hk.2.2.2.2.2⟩⟩⟩⟩, hk.2.1⟩)) hg hat)
           have n11_ := Zh (hb)
           have n12_ := Zh (ho)
           clear HO_298000
           clear HO_299001
           clear HO_299002
           clear BK297
           clear BK298
           clear BK299
           clear BK300
           clear HL314_1
           clear HL314_2
           clear HL315_1
           clear HL315_2
           clear HB
           clear HO313
           have HO_298000 := n0_
           have HO_299001 := n1_
           have HO_299002 := n2_
           have BK297 := n3_
           have BK298 := n4_
           have BK299 := n5_
           have BK300 := n6_
           have HL314_1 := n7_
           have HL314_2 := n8_
           have HL315_1 := n9_
           have HL315_2 := n10_
           have HB := n11_
           have HO318 := n12_
           clear n0_ n1_ n2_ n3_ n4_ n5_ n6_ n7_ n8_ n9_ n10_ n11_ n12_
           clear ho hb hg hat
           obtain ⟨Ao53, co53, eo53⟩ := N_slice HO318.out
           (first | subst eo53 | (injection eo53 with f1_ f2_ f3_; have f4_ := f1_.symm; have f5_ := f3_.symm; clear f1_ f2_ f3_; subst f4_; subst f5_))
           refine hK.out _ _ ?_
           clear hK K
           refine norm_ (a' := ?_) ?_ ?_
           rotate_left
           ·
            show Act.put _ (some 52) _ = _
            simp only [Act.put, List.setIfInBounds_toArray, List.set_cons_zero, List.set_cons_succ, i64_w, i32_w]
            rfl
           refine SQ.pu 9 53 HT_ ?_
           refine last_ (i := 10) (N := none) #[true, true, true, true, true, true, true, true, true, true, true] rfl rfl (one_of HT_.out (by kernel_rfl)) (by decide) (fun K hK => ?_)
           have hs54 : w52.cell? ⟨gb300, 0, none⟩ = some (.slice Ao47 y311.length co47) := (blk_cell BK300.out 0).trans rfl
           have hfs54 := Zn BK300.out 0
           have hns54_0 := NB297_300.out
           have hns54_1 := NB298_300.out
           have hns54_2 := NB299_300.out
           have hms54_0 := NB300_297.out
           have hms54_1 := NB300_298.out
           have hms54_2 := NB300_299.out
           refine skip_ (w1 := ?_) (by rfl) rfl ?_ ?_
           rotate_left
           ·
            go_simp
            rfl
           refine hK.out _ _ ?_
           clear hK K
           refine done_ (done_of HT_.out (by kernel_rfl)) ?_
           try go_wp2
           go_roundg kj11
           case measure => have := HK1.out; have := HJ11.out; omega
           case rel => exact ⟨(true), (wrap64 (x7_1 + 1)), (y316), (.slice Ao53 y316.length co53), (by first | rfl | (simp; done) | (simp [*]; done)), (by first | rfl | (simp; done) | (simp [*]; done)), H', ⟨by have := HK1.out; have := HJ11.out; omega⟩, ⟨by (with_reducible repeat (first | apply V_alloc | apply V_drewN | apply V_drew)); exact V_mono (V_far (p := ⟨gb300, 0, none⟩) (V_mono HO_298000.out (fun k_ hk => (⟨hk, hk.1.2.2.2.2⟩ : _ ∧ k_ ≠ gb300))) (fun _ hk => hk.2) (.slice Ao53 y316.length co53)) (fun _ hk => ⟨hk.1.1.1, ⟨hk.1.2, ⟨hk.1.1.2.1, ⟨hk.1.1.2.2.1, ⟨hk.1.1.2.2.2.1, hk.1.1.2.2.2.2⟩⟩⟩⟩⟩)⟩, ⟨by (with_reducible repeat (first | apply V_alloc | apply V_drewN | apply V_drew)); exact V_mono (V_far (p := ⟨gb300, 0, none⟩) (V_mono HO_299001.out (fun k_ hk => (⟨hk, hk.1.2.2.2.2⟩ : _ ∧ k_ ≠ gb300))) (fun _ hk => hk.2) (.slice Ao53 y316.length co53)) (fun _ hk => ⟨hk.1.1.1, ⟨hk.1.2, ⟨hk.1.1.2.1, ⟨hk.1.1.2.2.1, ⟨hk.1.1.2.2.2.1, hk.1.1.2.2.2.2⟩⟩⟩⟩⟩)⟩, ⟨by (with_reducible repeat (first | apply V_alloc | apply V_drewN | apply V_drew)); exact V_mono (V_far (p := ⟨gb300, 0, none⟩) (V_mono HO_299002.out (fun k_ hk => (⟨hk, hk.1.2.2.2.2⟩ : _ ∧ k_ ≠ gb300))) (fun _ hk => hk.2) (.slice Ao53 y316.length co53)) (fun _ hk => ⟨hk.1.1.1, ⟨hk.1.2, ⟨hk.1.1.2.1, ⟨hk.1.1.2.2.1, ⟨hk.1.1.2.2.2.1, hk.1.1.2.2.2.2⟩⟩⟩⟩⟩)⟩, ⟨by (with_reducible repeat (first | apply N_alloc | apply N_drewN | apply N_drew)); exact N_mono (N_far (p := ⟨gb300, 0, none⟩) (N_mono HO318.out (fun k_ hk => (⟨hk, hk.2.2.2.2⟩ : _ ∧ k_ ≠ gb300))) (fun _ hk => hk.2) (.slice Ao53 y316.length co53)) (fun _ hk => ⟨hk.1.1, ⟨hk.1.2.1, ⟨hk.1.2.2.1, ⟨hk.1.2.2.2.1, hk.1.2.2.2.2⟩⟩⟩⟩)⟩, ⟨by (with_reducible repeat (first | refine Za ?_ _ | refine Zb ?_ | refine blk_alloc ?_ _)); refine Zp ?_ NB297_300.out _; (with_reducible repeat (first | refine Za ?_ _ | refine Zb ?_ | refine blk_alloc ?_ _)); exact BK297.out⟩, ⟨by (with_reducible repeat (first | refine Za ?_ _ | refine Zb ?_ | refine blk_alloc ?_ _)); refine Zp ?_ NB298_300.out _; (with_reducible repeat (first | refine Za ?_ _ | refine Zb ?_ | refine blk_alloc ?_ _)); exact BK298.out⟩, ⟨by (with_reducible repeat (first | refine Za ?_ _ | refine Zb ?_ | refine blk_alloc ?_ _)); refine Zp ?_ NB299_300.out _; (with_reducible repeat (first | refine Za ?_ _ | refine Zb ?_ | refine blk_alloc ?_ _)); exact BK299.out⟩, ⟨by (with_reducible repeat (first | refine Za ?_ _ | refine Zb ?_ | refine blk_alloc ?_ _)); refine blk_put (cs := #[.slice Ao47 y311.length co47]) ?_ 0 _ rfl; (with_reducible repeat (first | refine Za ?_ _ | refine Zb ?_ | refine blk_alloc ?_ _)); exact BK300.out⟩, ⟨by repeat (first | (with_reducible first | exact HB.out | apply Zf | apply Zd | apply Ze | refine Zg ?_ GE297.out | refine Zg ?_ GE298.out | refine Zg ?_ GE299.out | refine Zg ?_ GE300.out) | exact HB.out)⟩⟩
          rw [if_neg c38] at H
          exact absurd H (by simp)
         rw [if_neg c24] at H
         exact absurd H (by simp)
        rw [if_neg c23] at H
        exact absurd H (by simp)
       rw [if_neg c22] at H
       exact absurd H (by simp)
      replace c21 := Bool.eq_false_iff.mpr c21
      subst c21
      have H1 : (if 0 ≤ x7_1 then (if x7_1 < (l0_0.length : Int) then (if ((rd_T74 l0_0 x7_1).f0).toList = a1_0.toList then (spec_l03Put.l0 kj11 x6_1 (wrap64 (x7_1 + 1)) l0_0 a1_0 l1_1 l1_2 x301000_1) else (if x301000_1.length < 2199023255552 then (spec_l03Put.l0 kj11 x6_1 (wrap64 (x7_1 + 1)) l0_0 a1_0 l1_1 l1_2 (x301000_1 ++ [(⟨(rd_T74 l0_0 x7_1).f0, (rd_T74 l0_0 x7_1).f1, (rd_T74 l0_0 x7_1).f2⟩ : S74)])) else (none))) else (none)) else (none)) = some r := by rw [if_neg (show ¬ (false = true) by decide)] at H; exact H
      clear H
      have H := H1
      clear H1
      by_cases c55 : 0 ≤ x7_1
      ·
       rw [if_pos c55] at H
       have c55b0 : decide (0 ≤ x7_1) = true := decide_eq_true c55
       clear c55
       by_cases c56 : x7_1 < (l0_0.length : Int)
       ·
        rw [if_pos c56] at H
        have c56b0 : decide (x7_1 < (l0_0.length : Int)) = true := decide_eq_true c56
        clear c56
        by_cases c57 : ((rd_T74 l0_0 x7_1).f0).toList = a1_0.toList
        ·
         rw [if_pos c57] at H
         have c57b0 : (((rd_T74 l0_0 x7_1).f0).toList == a1_0.toList) = true := beq_iff_eq.mpr c57
         have c57b1 : (((rd_T74 l0_0 x7_1).f0).toList != a1_0.toList) = false := bne_eq_false_iff_eq.mpr c57
         clear c57
         have H' := Zh H
         clear H
         try go_wp2
         have n0_ := Zh (V_drew HO_298000.out)
         have n1_ := Zh (V_drew HO_299001.out)
         have n2_ := Zh (V_drew HO_299002.out)
         have n3_ := Zh (N_drew HO_301000.out)
         have n4_ := Zh (Zb BK297.out)
         have n5_ := Zh (Zb BK298.out)
         have n6_ := Zh (Zb BK299.out)
         have n7_ := Zh (Zb BK300.out)
         have n8_ := Zh (Ze HB.out)
         clear HO_298000
         clear HO_299001
         clear HO_299002
         clear HO_301000
         clear BK297
         clear BK298
         clear BK299
         clear BK300
         clear HB
         have HO_298000 := n0_
         have HO_299001 := n1_
         have HO_299002 := n2_
         have HO_301000 := n3_
         have BK297 := n4_
         have BK298 := n5_
         have BK299 := n6_
         have BK300 := n7_
         have HB := n8_
         clear n0_ n1_ n2_ n3_ n4_ n5_ n6_ n7_ n8_
         have p319 : 0 ≤ (x7_1 : Int) := Zo
         have q319 : x7_1 < (l0_0.length : Int) := Zo
         obtain ⟨ad319, A319_1, c319_1, A319_2, c319_2, e319, hx319_0, hx319_1, hx319_2, hl319_1, hi319_1, hl319_2, hi319_2⟩ := at_T74 (V_reads' HO_298000.out).2.2 x7_1 p319 q319
         cases e319
         obtain ⟨ce319, hce319, hMe319, hcc319⟩ := V_get HO_298000.out z74 x7_1 p319 (by first | exact q319 | exact Zo | (have e_ := (V_reads' HO_298000.out).1; omega))
         obtain ⟨ua319_1, uc319_1, ua319_2, uc319_2, rfl, ul319_1, ge319_1, ul319_2, ge319_2⟩ := k74_openF hMe319
         have hv319_1 := hcc319 1 _ rfl
         rw [add_field _ _ 1 (by omega)] at hv319_1
         replace hv319_1 := Option.some.inj (hv319_1.symm.trans hx319_1)
         injection hv319_1 with hva_ hvn_ hvc_
         rw [hva_] at ge319_1
         rw [hvc_] at ul319_1
         have HL319_1 := Zh (show Kd.V (Kd.int .u8) 5 _ w.heap.size _ _ ((rd_T74 l0_0 x7_1).f1) from V_mk ul319_1 ge319_1)
         clear hva_ hvn_ hvc_ ge319_1 ul319_1
         have hv319_2 := hcc319 2 _ rfl
         rw [add_field _ _ 2 (by omega)] at hv319_2
         replace hv319_2 := Option.some.inj (hv319_2.symm.trans hx319_2)
         injection hv319_2 with hva_ hvn_ hvc_
         rw [hva_] at ge319_2
         rw [hvc_] at ul319_2
         have HL319_2 := Zh (show Kd.V (Kd.int .u8) 5 _ w.heap.size _ _ ((rd_T74 l0_0 x7_1).f2) from V_mk ul319_2 ge319_2)
         clear hva_ hvn_ hvc_ ge319_2 ul319_2
         clear hcc319 hce319
         have HR319_1 := Zh hi319_1
         have HC319_1 := Zh hl319_1
         clear hi319_1 hl319_1
         have HR319_2 := Zh hi319_2
         have HC319_2 := Zh hl319_2
         clear hi319_2 hl319_2
         replace p319 := eq_true p319
         replace q319 := eq_true q319
         refine start_ (n := 9) (S := fun w' => w'.cell? ⟨gb297, 0, none⟩ = some (.slice (some ad319) l0_0.length c0_0) ∧ w'.cell? ⟨gb298, 0, none⟩ = some (.string a1_0) ∧ w'.cell? ⟨gb298, 1, none⟩ = some (.slice A1_1 l1_1.length c1_1) ∧ w'.cell? ⟨gb298, 2, none⟩ = some (.slice A1_2 l1_2.length c1_2) ∧ w'.cell? (ad319.add ((x7_1).toNat * 3)) = some (.string ((rd_T74 l0_0 x7_1).f0)) ∧ w'.cell? ⟨(ad319.add ((x7_1).toNat * 3)).block, (ad319.add ((x7_1).toNat * 3)).off + 1, none⟩ = some (.slice A319_1 ((rd_T74 l0_0 x7_1).f1).length c319_1) ∧ w'.cell? ⟨(ad319.add ((x7_1).toNat * 3)).block, (ad319.add ((x7_1).toNat * 3)).off + 2, none⟩ = some (.slice A319_2 ((rd_T74 l0_0 x7_1).f2).length c319_2)) (ds := []) #[false, false, false, false, false, false, false, false, false] (by kernel_rfl) rfl rfl ⟨(blk_cell BK297.out 0).trans rfl, (blk_cell BK298.out 0).trans rfl, (blk_cell BK298.out 1).trans rfl, (blk_cell BK298.out 2).trans rfl, hx319_0, hx319_1, hx319_2⟩ (fun hHeld => ?_); refine with_tabW spec_l03Put.tab9 spec_l03Put.bits9 (fun HT_ HW_ => ?_)
         generalize wc.drew = w58 at HO_298000 HO_299001 HO_299002 HO_301000 BK297 BK298 BK299 BK300 HB HL319_1 HL319_2 HR319_1 HR319_2 hx319_0 hx319_1 hx319_2 hHeld ⊢
         refine SQ.pu 0 35 HT_ ?_
         refine SQ.pu 2 37 HT_ ?_
         refine SQ.pu 6 41 HT_ ?_
         refine SQ.tk 1 36 HT_ HW_ hHeld ?_
         refine SQ.pu 3 38 HT_ ?_
         refine SQ.pu 4 39 HT_ ?_
         refine SQ.tk 5 40 HT_ HW_ hHeld ?_
         refine SQ.tk 7 42 HT_ HW_ hHeld ?_
         refine SQ.pu 8 43 HT_ ?_
         refine done_ (done_of HT_.out (by kernel_rfl)) ?_
         try go_wp2
         go_roundg kj11
         case measure => have := HK1.out; have := HJ11.out; omega
         case rel => exact ⟨(x6_1), (wrap64 (x7_1 + 1)), (x301000_1), (u301000), (by first | rfl | (simp; done) | (simp [*]; done)), (by first | rfl | (simp; done) | (simp [*]; done)), H', ⟨by have := HK1.out; have := HJ11.out; omega⟩, ⟨by (with_reducible repeat (first | apply V_alloc | apply V_drewN | apply V_drew)); exact HO_298000.out⟩, ⟨by (with_reducible repeat (first | apply V_alloc | apply V_drewN | apply V_drew)); exact HO_299001.out⟩, ⟨by (with_reducible repeat (first | apply V_alloc | apply V_drewN | apply V_drew)); exact HO_299002.out⟩, ⟨by (with_reducible repeat (first | apply N_alloc | apply N_drewN | apply N_drew)); exact HO_301000.out⟩, ⟨by (with_reducible repeat (first | refine Za ?_ _ | refine Zb ?_ | refine blk_alloc ?_ _)); exact BK297.out⟩, ⟨by (with_reducible repeat (first | refine Za ?_ _ | refine Zb ?_ | refine blk_alloc ?_ _)); exact BK298.out⟩, ⟨by (with_reducible repeat (first | refine Za ?_ _ | refine Zb ?_ | refine blk_alloc ?_ _)); exact BK299.out⟩, ⟨by (with_reducible repeat (first | refine Za ?_ _ | refine Zb ?_ | refine blk_alloc ?_ _)); exact BK300.out⟩, ⟨by repeat (first | (with_reducible first | exact HB.out | apply Zf | apply Zd | apply Ze | refine Zg ?_ GE297.out | refine Zg ?_ GE298.out | refine Zg ?_ GE299.out | refine Zg ?_ GE300.out) | exact HB.out)⟩⟩
        rw [if_neg c57] at H
        have c57b0 : (((rd_T74 l0_0 x7_1).f0).toList == a1_0.toList) = false := beq_eq_false_iff_ne.mpr c57
        have c57b1 : (((rd_T74 l0_0 x7_1).f0).toList != a1_0.toList) = true := bne_iff_ne.mpr c57
        by_cases c59 : x301000_1.length < 2199023255552
        ·
         rw [if_pos c59] at H
         have LMc59 := Zh c59
         clear c59
         obtain ⟨y321, hy321⟩ : ∃ y_ : List (S74), y_ = (x301000_1 ++ [(⟨(rd_T74 l0_0 x7_1).f0, (rd_T74 l0_0 x7_1).f1, (rd_T74 l0_0 x7_1).f2⟩ : S74)]) := ⟨_, rfl⟩
         replace H : (spec_l03Put.l0 kj11 x6_1 (wrap64 (x7_1 + 1)) l0_0 a1_0 l1_1 l1_2 y321) = some r := by first | (rw [hy321]; with_reducible exact H) | (have H2_ := (Option.bind_some _ _).symm.trans H; rw [hy321]; with_reducible exact H2_) | (have H2_ := (Option.bind_some _ _).symm.trans H; with_reducible exact H2_) | with_reducible exact H | (rw [hy321]; exact H) | exact H
         have Ny321 := Zh hy321
         clear hy321
         have H' := Zh H
         clear H
         try go_wp2
         have n0_ := Zh (V_drew HO_298000.out)
         have n1_ := Zh (V_drew HO_299001.out)
         have n2_ := Zh (V_drew HO_299002.out)
         have n3_ := Zh (N_drew HO_301000.out)
         have n4_ := Zh (Zb BK297.out)
         have n5_ := Zh (Zb BK298.out)
         have n6_ := Zh (Zb BK299.out)
         have n7_ := Zh (Zb BK300.out)
         have n8_ := Zh (Ze HB.out)
         clear HO_298000
         clear HO_299001
         clear HO_299002
         clear HO_301000
         clear BK297
         clear BK298
         clear BK299
         clear BK300
         clear HB
         have HO_298000 := n0_
         have HO_299001 := n1_
         have HO_299002 := n2_
         have HO_301000 := n3_
         have BK297 := n4_
         have BK298 := n5_
         have BK299 := n6_
         have BK300 := n7_
         have HB := n8_
         clear n0_ n1_ n2_ n3_ n4_ n5_ n6_ n7_ n8_
         have p319 : 0 ≤ (x7_1 : Int) := Zo
         have q319 : x7_1 < (l0_0.length : Int) := Zo
         obtain ⟨ad319, A319_1, c319_1, A319_2, c319_2, e319, hx319_0, hx319_1, hx319_2, hl319_1, hi319_1, hl319_2, hi319_2⟩ := at_T74 (V_reads' HO_298000.out).2.2 x7_1 p319 q319
         cases e319
         obtain ⟨ce319, hce319, hMe319, hcc319⟩ := V_get HO_298000.out z74 x7_1 p319 (by first | exact q319 | exact Zo | (have e_ := (V_reads' HO_298000.out).1; omega))
         obtain ⟨ua319_1, uc319_1, ua319_2, uc319_2, rfl, ul319_1, ge319_1, ul319_2, ge319_2⟩ := k74_openF hMe319
         have hv319_1 := hcc319 1 _ rfl
         rw [add_field _ _ 1 (by omega)] at hv319_1
         replace hv319_1 := Option.some.inj (hv319_1.symm.trans hx319_1)
         injection hv319_1 with hva_ hvn_ hvc_
         rw [hva_] at ge319_1
         rw [hvc_] at ul319_1
         have HL319_1 := Zh (show Kd.V (Kd.int .u8) 5 _ w.heap.size _ _ ((rd_T74 l0_0 x7_1).f1) from V_mk ul319_1 ge319_1)
         clear hva_ hvn_ hvc_ ge319_1 ul319_1
         have hv319_2 := hcc319 2 _ rfl
         rw [add_field _ _ 2 (by omega)] at hv319_2
         replace hv319_2 := Option.some.inj (hv319_2.symm.trans hx319_2)
         injection hv319_2 with hva_ hvn_ hvc_
         rw [hva_] at ge319_2
         rw [hvc_] at ul319_2
         have HL319_2 := Zh (show Kd.V (Kd.int .u8) 5 _ w.heap.size _ _ ((rd_T74 l0_0 x7_1).f2) from V_mk ul319_2 ge319_2)
         clear hva_ hvn_ hvc_ ge319_2 ul319_2
         clear hcc319 hce319
         have HR319_1 := Zh hi319_1
         have HC319_1 := Zh hl319_1
         clear hi319_1 hl319_1
         have HR319_2 := Zh hi319_2
         have HC319_2 := Zh hl319_2
         clear hi319_2 hl319_2
         replace p319 := eq_true p319
         replace q319 := eq_true q319
         refine start_ (n := 9) (S := fun w' => w'.cell? ⟨gb297, 0, none⟩ = some (.slice (some ad319) l0_0.length c0_0) ∧ w'.cell? ⟨gb298, 0, none⟩ = some (.string a1_0) ∧ w'.cell? ⟨gb298, 1, none⟩ = some (.slice A1_1 l1_1.length c1_1) ∧ w'.cell? ⟨gb298, 2, none⟩ = some (.slice A1_2 l1_2.length c1_2) ∧ w'.cell? (ad319.add ((x7_1).toNat * 3)) = some (.string ((rd_T74 l0_0 x7_1).f0)) ∧ w'.cell? ⟨(ad319.add ((x7_1).toNat * 3)).block, (ad319.add ((x7_1).toNat * 3)).off + 1, none⟩ = some (.slice A319_1 ((rd_T74 l0_0 x7_1).f1).length c319_1) ∧ w'.cell? ⟨(ad319.add ((x7_1).toNat * 3)).block, (ad319.add ((x7_1).toNat * 3)).off + 2, none⟩ = some (.slice A319_2 ((rd_T74 l0_0 x7_1).f2).length c319_2)) (ds := []) #[false, false, false, false, false, false, false, false, false] (by kernel_rfl) rfl rfl ⟨(blk_cell BK297.out 0).trans rfl, (blk_cell BK298.out 0).trans rfl, (blk_cell BK298.out 1).trans rfl, (blk_cell BK298.out 2).trans rfl, hx319_0, hx319_1, hx319_2⟩ (fun hHeld => ?_); refine with_tabW spec_l03Put.tab9 spec_l03Put.bits9 (fun HT_ HW_ => ?_)
         generalize wc.drew = w60 at HO_298000 HO_299001 HO_299002 HO_301000 BK297 BK298 BK299 BK300 HB HL319_1 HL319_2 HR319_1 HR319_2 hx319_0 hx319_1 hx319_2 hHeld ⊢
         refine SQ.pu 0 35 HT_ ?_
         refine SQ.pu 2 37 HT_ ?_
         refine SQ.pu 6 41 HT_ ?_
         refine SQ.tk 1 36 HT_ HW_ hHeld ?_
         refine SQ.pu 3 38 HT_ ?_
         refine SQ.pu 4 39 HT_ ?_
         refine SQ.tk 5 40 HT_ HW_ hHeld ?_
         refine SQ.tk 7 42 HT_ HW_ hHeld ?_
         refine SQ.pu 8 43 HT_ ?_
         refine done_ (done_of HT_.out (by kernel_rfl)) ?_
         try go_wp2
         have n0_ := Zh (V_drew HO_298000.out)
         have n1_ := Zh (V_drew HO_299001.out)
         have n2_ := Zh (V_drew HO_299002.out)
         have n3_ := Zh (N_drew HO_301000.out)
         have n4_ := Zh (V_drew HL319_1.out)
         have n5_ := Zh (V_drew HL319_2.out)
         have n6_ := Zh (Zb BK297.out)
         have n7_ := Zh (Zb BK298.out)
         have n8_ := Zh (Zb BK299.out)
         have n9_ := Zh (Zb BK300.out)
         have n10_ := Zh (C_drew HR319_1.out)
         have n11_ := Zh (C_drew HR319_2.out)
         have n12_ := Zh (Ze HB.out)
         clear HO_298000
         clear HO_299001
         clear HO_299002
         clear HO_301000
         clear HL319_1
         clear HL319_2
         clear BK297
         clear BK298
         clear BK299
         clear BK300
         clear HR319_1
         clear HR319_2
         clear HB
         have HO_298000 := n0_
         have HO_299001 := n1_
         have HO_299002 := n2_
         have HO_301000 := n3_
         have HL319_1 := n4_
         have HL319_2 := n5_
         have BK297 := n6_
         have BK298 := n7_
         have BK299 := n8_
         have BK300 := n9_
         have HR319_1 := n10_
         have HR319_2 := n11_
         have HB := n12_
         clear n0_ n1_ n2_ n3_ n4_ n5_ n6_ n7_ n8_ n9_ n10_ n11_ n12_
         have p320 : 0 ≤ (x7_1 : Int) := Zo
         have q320 : x7_1 < (l0_0.length : Int) := Zo
         obtain ⟨ad320, A320_1, c320_1, A320_2, c320_2, e320, hx320_0, hx320_1, hx320_2, hl320_1, hi320_1, hl320_2, hi320_2⟩ := at_T74 (V_reads' HO_298000.out).2.2 x7_1 p320 q320
         obtain rfl : ad319 = ad320 := (by injection e320)
         obtain ⟨ce320, hce320, hMe320, hcc320⟩ := V_get HO_298000.out z74 x7_1 p320 (by first | exact q320 | exact Zo | (have e_ := (V_reads' HO_298000.out).1; omega))
         obtain ⟨ua320_1, uc320_1, ua320_2, uc320_2, rfl, ul320_1, ge320_1, ul320_2, ge320_2⟩ := k74_openF hMe320
         have hv320_1 := hcc320 1 _ rfl
         rw [add_field _ _ 1 (by omega)] at hv320_1
         replace hv320_1 := Option.some.inj (hv320_1.symm.trans hx320_1)
         injection hv320_1 with hva_ hvn_ hvc_
         rw [hva_] at ge320_1
         rw [hvc_] at ul320_1
         have HL320_1 := Zh (show Kd.V (Kd.int .u8) 5 _ w.heap.size _ _ ((rd_T74 l0_0 x7_1).f1) from V_mk ul320_1 ge320_1)
         clear hva_ hvn_ hvc_ ge320_1 ul320_1
         have hv320_2 := hcc320 2 _ rfl
         rw [add_field _ _ 2 (by omega)] at hv320_2
         replace hv320_2 := Option.some.inj (hv320_2.symm.trans hx320_2)
         injection hv320_2 with hva_ hvn_ hvc_
         rw [hva_] at ge320_2
         rw [hvc_] at ul320_2
         have HL320_2 := Zh (show Kd.V (Kd.int .u8) 5 _ w.heap.size _ _ ((rd_T74 l0_0 x7_1).f2) from V_mk ul320_2 ge320_2)
         clear hva_ hvn_ hvc_ ge320_2 ul320_2
         clear hcc320 hce320
         have HR320_1 := Zh hi320_1
         have HC320_1 := Zh hl320_1
         clear hi320_1 hl320_1
         have HR320_2 := Zh hi320_2
         have HC320_2 := Zh hl320_2
         clear hi320_2 hl320_2
         replace p320 := eq_true p320
         replace q320 := eq_true q320
         refine start_ (n := 11) (S := fun w' => w'.cell? ⟨gb300, 0, none⟩ = some (u301000) ∧ w'.cell? ⟨gb297, 0, none⟩ = some (.slice (some ad319) l0_0.length c0_0) ∧ w'.cell? (ad319.add ((x7_1).toNat * 3)) = some (.string ((rd_T74 l0_0 x7_1).f0)) ∧ w'.cell? ⟨(ad319.add ((x7_1).toNat * 3)).block, (ad319.add ((x7_1).toNat * 3)).off + 1, none⟩ = some (.slice A320_1 ((rd_T74 l0_0 x7_1).f1).length c320_1) ∧ w'.cell? ⟨(ad319.add ((x7_1).toNat * 3)).block, (ad319.add ((x7_1).toNat * 3)).off + 2, none⟩ = some (.slice A320_2 ((rd_T74 l0_0 x7_1).f2).length c320_2)) (ds := [8, 10]) #[false, false, false, false, false, false, false, false, false, false, false] (by kernel_rfl) rfl rfl ⟨(blk_cell BK300.out 0).trans rfl, (blk_cell BK297.out 0).trans rfl, hx320_0, hx320_1, hx320_2⟩ (fun hHeld => ?_); refine with_tabW spec_l03Put.tab10 spec_l03Put.bits10 (fun HT_ HW_ => ?_)
         generalize w60.drew = w61 at HO_298000 HO_299001 HO_299002 HO_301000 HL319_1 HL319_2 BK297 BK298 BK299 BK300 HR319_1 HR319_2 HB HL320_1 HL320_2 HR320_1 HR320_2 hx320_0 hx320_1 hx320_2 hHeld ⊢
         refine SQ.pu 0 44 HT_ ?_
         refine SQ.pu 2 46 HT_ ?_
         refine SQ.pu 4 48 HT_ ?_
         refine SQ.tk 1 45 HT_ HW_ hHeld ?_
         refine SQ.tk 3 47 HT_ HW_ hHeld ?_
         refine SQ.pu 5 49 HT_ ?_
         refine SQ.tk 6 50 HT_ HW_ hHeld ?_
         refine one_ (i := 7) (N := some 51) #[true, true, true, true, true, true, true, true, false, false, false] rfl rfl (one_of HT_.out (by kernel_rfl)) (by decide) (fun K hK => ?_)
         refine value_ (w1 := ?_) (v := ?_) (by rfl) rfl ?_ ?_
         rotate_left 2
         ·
          go_simp
          constructor
          ·
           rfl
          rfl
         refine hK.out _ _ ⟨(blk_cell (blk_alloc BK300.out _) 0).trans rfl, (blk_cell (blk_alloc BK297.out _) 0).trans rfl, (World.cell?_alloc_lt _ _ _ (Zi _ _ (hHeld.2.2.1))).trans (hHeld.2.2.1), (World.cell?_alloc_lt _ _ _ (Zi _ _ (hHeld.2.2.2.1))).trans (hHeld.2.2.2.1), (World.cell?_alloc_lt _ _ _ (Zi _ _ (hHeld.2.2.2.2))).trans (hHeld.2.2.2.2)⟩ (fun hHeld => ?_)
         clear hK K
         refine norm_ (a' := ?_) ?_ ?_
         rotate_left
         ·
          show Act.put _ (some 51) _ = _
          simp only [Act.put, List.setIfInBounds_toArray, List.set_cons_zero, List.set_cons_succ, i64_w, i32_w]
          rfl
         refine last_ (i := 8) (N := some 52) #[true, true, true, true, true, true, true, true, true, false, false] rfl rfl (one_of HT_.out (by kernel_rfl)) (by decide) (fun K hK => ?_)
         refine N_append_step k74 (w0 := w) w.heap.size (by rfl) (.tmp 45) (.tmp 51) 27 74 (.agg #[(.string ⟨#[]⟩), (.slice none 0 0), (.slice none 0 0)]) 64 rfl Tryd.underlying27 info74 rfl (by decide) (by omega) u301000 x301000_1 (⟨(rd_T74 l0_0 x7_1).f0, (rd_T74 l0_0 x7_1).f1, (rd_T74 l0_0 x7_1).f2⟩ : S74) [.string ((rd_T74 l0_0 x7_1).f0), .slice A320_1 ((rd_T74 l0_0 x7_1).f1).length c320_1, .slice A320_2 ((rd_T74 l0_0 x7_1).f2).length c320_2] (fun k_ => ((P0_0_ k_ ∨ P1_1_ k_ ∨ P1_2_ k_) ∨ w.heap.size ≤ k_) ∧ k_ ≠ gb297 ∧ k_ ≠ gb298 ∧ k_ ≠ gb299 ∧ k_ ≠ gb300) (fun k_ => ((fun k_ => ((P0_0_ k_ ∨ P1_1_ k_ ∨ P1_2_ k_) ∨ w.heap.size ≤ k_) ∧ k_ ≠ gb297 ∧ k_ ≠ gb298 ∧ k_ ≠ gb299 ∧ k_ ≠ gb300)) k_ ∧ some k_ ≠ (u301000 : Value).ownBlock) rfl rfl ?aP (fun _ hk => hk) ?aF ?aO ?aB ?aS ?aL ?_
         (case aP => exact (k74_mkF _ _ (⟨(rd_T74 l0_0 x7_1).f0, (rd_T74 l0_0 x7_1).f1, (rd_T74 l0_0 x7_1).f2⟩ : S74) (V_reads' (V_mono (ok' := (fun k_ => ((fun k_ => ((P0_0_ k_ ∨ P1_1_ k_ ∨ P1_2_ k_) ∨ w.heap.size ≤ k_) ∧ k_ ≠ gb297 ∧ k_ ≠ gb298 ∧ k_ ≠ gb299 ∧ k_ ≠ gb300)) k_ ∧ some k_ ≠ (u301000 : Value).ownBlock)) (HL320_1.out) (fun k_ hk => ⟨⟨hk.1, ⟨hk.2.2.1, ⟨hk.2.2.2.1, ⟨hk.2.2.2.2.1, hk.2.2.2.2.2⟩⟩⟩⟩, hk.2.1⟩))).2.1 (V_F (V_mono (ok' := (fun k_ => ((fun k_ => ((P0_0_ k_ ∨ P1_1_ k_ ∨ P1_2_ k_) ∨ w.heap.size ≤ k_) ∧ k_ ≠ gb297 ∧ k_ ≠ gb298 ∧ k_ ≠ gb299 ∧ k_ ≠ gb300)) k_ ∧ some k_ ≠ (u301000 : Value).ownBlock)) (HL320_1.out) (fun k_ hk => ⟨⟨hk.1, ⟨hk.2.2.1, ⟨hk.2.2.2.1, ⟨hk.2.2.2.2.1, hk.2.2.2.2.2⟩⟩⟩⟩, hk.2.1⟩))) (V_reads' (V_mono (ok' := (fun k_ => ((fun k_ => ((P0_0_ k_ ∨ P1_1_ k_ ∨ P1_2_ k_) ∨ w.heap.size ≤ k_) ∧ k_ ≠ gb297 ∧ k_ ≠ gb298 ∧ k_ ≠ gb299 ∧ k_ ≠ gb300)) k_ ∧ some k_ ≠ (u301000 : Value).ownBlock)) (HL320_2.out) (fun k_ hk => ⟨⟨hk.1, ⟨hk.2.2.1, ⟨hk.2.2.2.1, ⟨hk.2.2.2.2.1, hk.2.2.2.2.2⟩⟩⟩⟩, hk.2.1⟩))).2.1 (V_F (V_mono (ok' := (fun k_ => ((fun k_ => ((P0_0_ k_ ∨ P1_1_ k_ ∨ P1_2_ k_) ∨ w.heap.size ≤ k_) ∧ k_ ≠ gb297 ∧ k_ ≠ gb298 ∧ k_ ≠ gb299 ∧ k_ ≠ gb300)) k_ ∧ some k_ ≠ (u301000 : Value).ownBlock)) (HL320_2.out) (fun k_ hk => ⟨⟨hk.1, ⟨hk.2.2.1, ⟨hk.2.2.2.1, ⟨hk.2.2.2.2.1, hk.2.2.2.2.2⟩⟩⟩⟩, hk.2.1⟩)))))
         (case aB => exact Zs)
         (case aF => exact (fun k_ hk => ⟨(.inr (Nat.le_trans (below_size Zs) hk)), Kd.freshB (g := gb297) (o := .cells #[.slice (some ad319) l0_0.length c0_0] 29 (0, 0)) Zk k_ hk, Kd.freshB (g := gb298) (o := .cells #[.string a1_0, .slice A1_1 l1_1.length c1_1, .slice A1_2 l1_2.length c1_2] 74 (0, 0)) Zk k_ hk, Kd.freshB (g := gb299) (o := .cells #[.slice none 0 0] 29 (0, 0)) Zk k_ hk, Kd.freshB (g := gb300) (o := .cells #[u301000] 29 (0, 0)) Zk k_ hk⟩))
         (case aO => exact (by (with_reducible repeat (first | apply N_alloc | apply N_drewN | apply N_drew)); exact HO_301000.out))
         (case aS => exact (below_size Zs))
         (case aL => have := LMc59.out; omega)
         intro v322 w62 ho hb hg hat
         rw [← Ny321.out] at ho
         have n0_ := Zh (V_afterv (ok := (fun k_ => ((P0_0_ k_ ∨ P1_1_ k_ ∨ P1_2_ k_) ∨ w.heap.size ≤ k_) ∧ k_ ≠ gb297 ∧ k_ ≠ gb298 ∧ k_ ≠ gb299 ∧ k_ ≠ gb300)) (by (with_reducible repeat (first | apply V_alloc | apply V_drewN | apply V_drew)); exact V_mono HO_298000.out (fun _ hk => ⟨⟨hk.1, ⟨hk.2.2.1, ⟨hk.2.2.2.1, ⟨hk.2.2.2.2.1, hk.2.2.2.2.2⟩⟩⟩⟩, hk.2.1⟩)) hg hat)
         have n1_ := Zh (V_afterv (ok := (fun k_ => ((P0_0_ k_ ∨ P1_1_ k_ ∨ P1_2_ k_) ∨ w.heap.size ≤ k_) ∧ k_ ≠ gb297 ∧ k_ ≠ gb298 ∧ k_ ≠ gb299 ∧ k_ ≠ gb300)) (by (with_reducible repeat (first | apply V_alloc | apply V_drewN | apply V_drew)); exact V_mono HO_299001.out (fun _ hk => ⟨⟨hk.1, ⟨hk.2.2.1, ⟨hk.2.2.2.1, ⟨hk.2.2.2.2.1, hk.2.2.2.2.2⟩⟩⟩⟩, hk.2.1⟩)) hg hat)
         have n2_ := Zh (V_afterv (ok := (fun k_ => ((P0_0_ k_ ∨ P1_1_ k_ ∨ P1_2_ k_) ∨ w.heap.size ≤ k_) ∧ k_ ≠ gb297 ∧ k_ ≠ gb298 ∧ k_ ≠ gb299 ∧ k_ ≠ gb300)) (by (with_reducible repeat (first | apply V_alloc | apply V_drewN | apply V_drew)); exact V_mono HO_299002.out (fun _ hk => ⟨⟨hk.1, ⟨hk.2.2.1, ⟨hk.2.2.2.1, ⟨hk.2.2.2.2.1, hk.2.2.2.2.2⟩⟩⟩⟩, hk.2.1⟩)) hg hat)
         have n3_ := Zh (blk_grown (g := gb297) (o := .cells #[.slice (some ad319) l0_0.length c0_0] 29 (0, 0)) Zk hg (N_ne HO_301000.out BK297.out (by decide)))
         have n4_ := Zh (blk_grown (g := gb298) (o := .cells #[.string a1_0, .slice A1_1 l1_1.length c1_1, .slice A1_2 l1_2.length c1_2] 74 (0, 0)) Zk hg (N_away HO_301000.out (fun _ hk => hk.2.2.1)))
         have n5_ := Zh (blk_grown (g := gb299) (o := .cells #[.slice none 0 0] 29 (0, 0)) Zk hg (N_ne HO_301000.out BK299.out (by decide)))
         have n6_ := Zh (blk_grown (g := gb300) (o := .cells #[u301000] 29 (0, 0)) Zk hg (N_ne HO_301000.out BK300.out (by decide)))
         have n7_ := Zh (V_afterv (ok := (fun k_ => ((P0_0_ k_ ∨ P1_1_ k_ ∨ P1_2_ k_) ∨ w.heap.size ≤ k_) ∧ k_ ≠ gb297 ∧ k_ ≠ gb298 ∧ k_ ≠ gb299 ∧ k_ ≠ gb300)) (by (with_reducible repeat (first | apply V_alloc | apply V_drewN | apply V_drew)); exact V_mono HL319_1.out (fun _ hk => ⟨⟨hk.1, ⟨hk.2.2.1, ⟨hk.2.2.2.1, ⟨hk.2.2.2.2.1, hk.2.2.2.2.2⟩⟩⟩⟩, hk.2.1⟩)) hg hat)
         have n8_ := Zh (V_afterv (ok := (fun k_ => ((P0_0_ k_ ∨ P1_1_ k_ ∨ P1_2_ k_) ∨ w.heap.size ≤ k_) ∧ k_ ≠ gb297 ∧ k_ ≠ gb298 ∧ k_ ≠ gb299 ∧ k_ ≠ gb300)) (by (with_reducible repeat (first | apply V_alloc | apply V_drewN | apply V_drew)); exact V_mono HL319_2.out (fun _ hk => ⟨⟨hk.1, ⟨hk.2.2.1, ⟨hk.2.2.2.1, ⟨hk.2.2.2.2.1, hk.2.2.2.2.2⟩⟩⟩⟩, hk.2.1⟩)) hg hat)
         have n9_ := Zh (V_afterv (ok := (fun k_ => ((P0_0_ k_ ∨ P1_1_ k_ ∨ P1_2_ k_) ∨ w.heap.size ≤ k_) ∧ k_ ≠ gb297 ∧ k_ ≠ gb298 ∧ k_ ≠ gb299 ∧ k_ ≠ gb300)) (by (with_reducible repeat (first | apply V_alloc | apply V_drewN | apply V_drew)); exact V_mono HL320_1.out (fun _ hk => ⟨⟨hk.1, ⟨hk.2.2.1, ⟨hk.2.2.2.1, ⟨hk.2.2.2.2.1, hk.2.2.2.2.2⟩⟩⟩⟩, hk.2.1⟩)) hg hat)
         have n10_ := Zh (V_afterv (ok := (fun k_ => ((P0_0_ k_ ∨ P1_1_ k_ ∨ P1_2_ k_) ∨ w.heap.size ≤ k_) ∧ k_ ≠ gb297 ∧ k_ ≠ gb298 ∧ k_ ≠ gb299 ∧ k_ ≠ gb300)) (by (with_reducible repeat (first | apply V_alloc | apply V_drewN | apply V_drew)); exact V_mono HL320_2.out (fun _ hk => ⟨⟨hk.1, ⟨hk.2.2.1, ⟨hk.2.2.2.1, ⟨hk.2.2.2.2.1, hk.2.2.2.2.2⟩⟩⟩⟩, hk.2.1⟩)) hg hat)
         have n11_ := Zh (hb)
         have n12_ := Zh (ho)
         clear HO_298000
         clear HO_299001
         clear HO_299002
         clear BK297
         clear BK298
         clear BK299
         clear BK300
         clear HL319_1
         clear HL319_2
         clear HL320_1
         clear HL320_2
         clear HB
         clear HO_301000
         have HO_298000 := n0_
         have HO_299001 := n1_
         have HO_299002 := n2_
         have BK297 := n3_
         have BK298 := n4_
         have BK299 := n5_
         have BK300 := n6_
         have HL319_1 := n7_
         have HL319_2 := n8_
         have HL320_1 := n9_
         have HL320_2 := n10_
         have HB := n11_
         have HO323 := n12_
         clear n0_ n1_ n2_ n3_ n4_ n5_ n6_ n7_ n8_ n9_ n10_ n11_ n12_
         clear ho hb hg hat
         obtain ⟨Ao63, co63, eo63⟩ := N_slice HO323.out
         (first | subst eo63 | (injection eo63 with f1_ f2_ f3_; have f4_ := f1_.symm; have f5_ := f3_.symm; clear f1_ f2_ f3_; subst f4_; subst f5_))
         refine hK.out _ _ ?_
         clear hK K
         refine norm_ (a' := ?_) ?_ ?_
         rotate_left
         ·
          show Act.put _ (some 52) _ = _
          simp only [Act.put, List.setIfInBounds_toArray, List.set_cons_zero, List.set_cons_succ, i64_w, i32_w]
          rfl
         refine SQ.pu 9 53 HT_ ?_
         refine last_ (i := 10) (N := none) #[true, true, true, true, true, true, true, true, true, true, true] rfl rfl (one_of HT_.out (by kernel_rfl)) (by decide) (fun K hK => ?_)
         have hs64 : w62.cell? ⟨gb300, 0, none⟩ = some (u301000) := (blk_cell BK300.out 0).trans rfl
         have hfs64 := Zn BK300.out 0
         have hns64_0 := NB297_300.out
         have hns64_1 := NB298_300.out
         have hns64_2 := NB299_300.out
         have hms64_0 := NB300_297.out
         have hms64_1 := NB300_298.out
         have hms64_2 := NB300_299.out
         refine skip_ (w1 := ?_) (by rfl) rfl ?_ ?_
         rotate_left
         ·
          go_simp
          rfl
         refine hK.out _ _ ?_
         clear hK K
         refine done_ (done_of HT_.out (by kernel_rfl)) ?_
         try go_wp2
         go_roundg kj11
         case measure => have := HK1.out; have := HJ11.out; omega
         case rel => exact ⟨(x6_1), (wrap64 (x7_1 + 1)), (y321), (.slice Ao63 y321.length co63), (by first | rfl | (simp; done) | (simp [*]; done)), (by first | rfl | (simp; done) | (simp [*]; done)), H', ⟨by have := HK1.out; have := HJ11.out; omega⟩, ⟨by (with_reducible repeat (first | apply V_alloc | apply V_drewN | apply V_drew)); exact V_mono (V_far (p := ⟨gb300, 0, none⟩) (V_mono HO_298000.out (fun k_ hk => (⟨hk, hk.1.2.2.2.2⟩ : _ ∧ k_ ≠ gb300))) (fun _ hk => hk.2) (.slice Ao63 y321.length co63)) (fun _ hk => ⟨hk.1.1.1, ⟨hk.1.2, ⟨hk.1.1.2.1, ⟨hk.1.1.2.2.1, ⟨hk.1.1.2.2.2.1, hk.1.1.2.2.2.2⟩⟩⟩⟩⟩)⟩, ⟨by (with_reducible repeat (first | apply V_alloc | apply V_drewN | apply V_drew)); exact V_mono (V_far (p := ⟨gb300, 0, none⟩) (V_mono HO_299001.out (fun k_ hk => (⟨hk, hk.1.2.2.2.2⟩ : _ ∧ k_ ≠ gb300))) (fun _ hk => hk.2) (.slice Ao63 y321.length co63)) (fun _ hk => ⟨hk.1.1.1, ⟨hk.1.2, ⟨hk.1.1.2.1, ⟨hk.1.1.2.2.1, ⟨hk.1.1.2.2.2.1, hk.1.1.2.2.2.2⟩⟩⟩⟩⟩)⟩, ⟨by (with_reducible repeat (first | apply V_alloc | apply V_drewN | apply V_drew)); exact V_mono (V_far (p := ⟨gb300, 0, none⟩) (V_mono HO_299002.out (fun k_ hk => (⟨hk, hk.1.2.2.2.2⟩ : _ ∧ k_ ≠ gb300))) (fun _ hk => hk.2) (.slice Ao63 y321.length co63)) (fun _ hk => ⟨hk.1.1.1, ⟨hk.1.2, ⟨hk.1.1.2.1, ⟨hk.1.1.2.2.1, ⟨hk.1.1.2.2.2.1, hk.1.1.2.2.2.2⟩⟩⟩⟩⟩)⟩, ⟨by (with_reducible repeat (first | apply N_alloc | apply N_drewN | apply N_drew)); exact N_mono (N_far (p := ⟨gb300, 0, none⟩) (N_mono HO323.out (fun k_ hk => (⟨hk, hk.2.2.2.2⟩ : _ ∧ k_ ≠ gb300))) (fun _ hk => hk.2) (.slice Ao63 y321.length co63)) (fun _ hk => ⟨hk.1.1, ⟨hk.1.2.1, ⟨hk.1.2.2.1, ⟨hk.1.2.2.2.1, hk.1.2.2.2.2⟩⟩⟩⟩)⟩, ⟨by (with_reducible repeat (first | refine Za ?_ _ | refine Zb ?_ | refine blk_alloc ?_ _)); refine Zp ?_ NB297_300.out _; (with_reducible repeat (first | refine Za ?_ _ | refine Zb ?_ | refine blk_alloc ?_ _)); exact BK297.out⟩, ⟨by (with_reducible repeat (first | refine Za ?_ _ | refine Zb ?_ | refine blk_alloc ?_ _)); refine Zp ?_ NB298_300.out _; (with_reducible repeat (first | refine Za ?_ _ | refine Zb ?_ | refine blk_alloc ?_ _)); exact BK298.out⟩, ⟨by (with_reducible repeat (first | refine Za ?_ _ | refine Zb ?_ | refine blk_alloc ?_ _)); refine Zp ?_ NB299_300.out _; (with_reducible repeat (first | refine Za ?_ _ | refine Zb ?_ | refine blk_alloc ?_ _)); exact BK299.out⟩, ⟨by (with_reducible repeat (first | refine Za ?_ _ | refine Zb ?_ | refine blk_alloc ?_ _)); refine blk_put (cs := #[u301000]) ?_ 0 _ rfl; (with_reducible repeat (first | refine Za ?_ _ | refine Zb ?_ | refine blk_alloc ?_ _)); exact BK300.out⟩, ⟨by repeat (first | (with_reducible first | exact HB.out | apply Zf | apply Zd | apply Ze | refine Zg ?_ GE297.out | refine Zg ?_ GE298.out | refine Zg ?_ GE299.out | refine Zg ?_ GE300.out) | exact HB.out)⟩⟩
        rw [if_neg c59] at H
        exact absurd H (by simp)
       rw [if_neg c56] at H
       exact absurd H (by simp)
      rw [if_neg c55] at H
      exact absurd H (by simp)
   rw [if_neg c11] at H
   have c11b0 : decide (x7_1 < (l0_0.length : Int)) = false := decide_eq_false c11
   clear c11
   by_cases c65 : x6_1 = true
   ·
    subst c65
    have H1 : ((spec_l03Copy.f k1 x301000_1).bind fun t301 => (some t301)) = some r := by rw [if_pos rfl] at H; exact H
    clear H
    have H := H1
    clear H1
    replace H := Option.bind_eq_some_iff.mp H
    obtain ⟨t301, A660, H⟩ := H
    replace H : (some t301) = some r := H
    have A66 := Zh A660
    clear A660
    obtain rfl := Option.some.inj H
    have hnb67 := NB297_298.out
    have hnc67 := NB298_297.out
    have hnb68 := NB297_299.out
    have hnc68 := NB299_297.out
    have hnb69 := NB297_300.out
    have hnc69 := NB300_297.out
    have hcz70_0 : wr.cell? ⟨gb297, 0, none⟩ = some (.slice A0_0 l0_0.length c0_0) := (blk_cell BK297.out 0).trans rfl
    have hfz70_0 := Zn BK297.out 0
    have hnb71 := NB300_298.out
    have hnc71 := NB298_300.out
    have hnb72 := NB300_299.out
    have hnc72 := NB299_300.out
    have hcz73_0 : wr.cell? ⟨gb300, 0, none⟩ = some (u301000) := (blk_cell BK300.out 0).trans rfl
    have hfz73_0 := Zn BK300.out 0
    obtain ⟨Ao74, co74, eo74⟩ := N_slice HO_301000.out
    subst eo74
    go_wp2_with (first | ((with_reducible refine gate_callee (f := 66) rfl ?_); refine goesL_ (some 63) rfl rfl Tryd.func66 (by kernel_rfl) rfl #[.agg #[.slice Ao74 x301000_1.length co74]] rfl (by (try simp only [List.map_toArray, List.map_cons, List.map_nil]); first | done | rfl | (simp only [List.length_drop, List.length_take]; rfl)) ?_; (with_reducible refine (spec_l03Copy.calls k1 _ _ x301000_1 t301 _ ?side1 ?side2 A66.out).mono ?_); (case side1 => repeat (first | exact (N_reads' HO_301000.out).2.2 | (with_reducible refine C_alloc ?_ _) | (with_reducible refine C_drewN ?_ _) | (with_reducible refine C_drew ?_))); (case side2 => exact (N_reads' HO_301000.out).2.1); rintro e w75 ⟨v302, rfl, ho0, hb⟩; refine ⟨_, rfl, ?_⟩; have n0_ := Zh (V_elder' (by (with_reducible repeat (first | apply V_alloc | apply V_drewN | apply V_drew)); exact HO_298000.out) (S_base ho0) hb); have n1_ := Zh (V_elder' (by (with_reducible repeat (first | apply V_alloc | apply V_drewN | apply V_drew)); exact HO_299001.out) (S_base ho0) hb); have n2_ := Zh (V_elder' (by (with_reducible repeat (first | apply V_alloc | apply V_drewN | apply V_drew)); exact HO_299002.out) (S_base ho0) hb); have n3_ := Zh (N_elder' (by (with_reducible repeat (first | apply N_alloc | apply N_drewN | apply N_drew)); exact HO_301000.out) (S_base ho0) hb); have n4_ := Zh (N_lower (N_mono (ok' := fun k_ => ((P0_0_ k_ ∨ P1_1_ k_ ∨ P1_2_ k_) ∨ w.heap.size ≤ k_) ∧ some k_ ≠ (.slice Ao74 x301000_1.length co74 : Value).ownBlock ∧ k_ ≠ gb297 ∧ k_ ≠ gb298 ∧ k_ ≠ gb299 ∧ k_ ≠ gb300) (S_N (S_bound ho0)) (fun k_ hk_ => ⟨(.inr (Nat.le_trans (below_size Zs) hk_.2.1)), (Kd.fresh' (N_lt (by (with_reducible repeat (first | apply N_alloc | apply N_drewN | apply N_drew)); exact HO_301000.out)) k_ hk_.2.1), (Kd.freshB (g := gb297) (o := .cells #[.slice A0_0 l0_0.length c0_0] 29 (0, 0)) Zk k_ hk_.2.1), (Kd.freshB (g := gb298) (o := .cells #[.string a1_0, .slice A1_1 l1_1.length c1_1, .slice A1_2 l1_2.length c1_2] 74 (0, 0)) Zk k_ hk_.2.1), (Kd.freshB (g := gb299) (o := .cells #[.slice none 0 0] 29 (0, 0)) Zk k_ hk_.2.1), (Kd.freshB (g := gb300) (o := .cells #[.slice Ao74 x301000_1.length co74] 29 (0, 0)) Zk k_ hk_.2.1)⟩)) (below_size Zs)); have n5_ := Zh (Zm (g := gb297) (o := .cells #[.slice A0_0 l0_0.length c0_0] 29 (0, 0)) Zk hb); have n6_ := Zh (Zm (g := gb298) (o := .cells #[.string a1_0, .slice A1_1 l1_1.length c1_1, .slice A1_2 l1_2.length c1_2] 74 (0, 0)) Zk hb); have n7_ := Zh (Zm (g := gb299) (o := .cells #[.slice none 0 0] 29 (0, 0)) Zk hb); have n8_ := Zh (Zm (g := gb300) (o := .cells #[.slice Ao74 x301000_1.length co74] 29 (0, 0)) Zk hb); have n9_ := Zh (Zl Zs hb); clear HO_298000; clear HO_299001; clear HO_299002; clear HO_301000; clear BK297; clear BK298; clear BK299; clear BK300; clear HB; have HO_298000 := n0_; have HO_299001 := n1_; have HO_299002 := n2_; have HO_301000 := n3_; have HO303 := n4_; have BK297 := n5_; have BK298 := n6_; have BK299 := n7_; have BK300 := n8_; have HB := n9_; clear n0_ n1_ n2_ n3_ n4_ n5_ n6_ n7_ n8_ n9_; (try clear hb); (try clear hb2); (try clear hk); (try clear hi); (try clear ho0); obtain ⟨Ao76, co76, eo76⟩ := N_slice HO303.out; subst eo76; have hnb77 := NB299_298.out; have hnc77 := NB298_299.out; have hcz78_0 : w75.cell? ⟨gb299, 0, none⟩ = some (.slice none 0 0) := (blk_cell BK299.out 0).trans rfl; have hfz78_0 := Zn BK299.out 0))
    refine bodyPost_ret (results_cell_row rfl _ _ gb299 29 #[.slice Ao76 t301.length co76] (0, 0) _ rfl (by (with_reducible repeat (first | refine Za ?_ _ | refine Zb ?_ | refine blk_alloc ?_ _)); refine blk_put (cs := #[.slice none 0 0]) ?_ 0 _ rfl; (with_reducible repeat (first | refine Za ?_ _ | refine Zb ?_ | refine blk_alloc ?_ _)); exact BK299.out) Tryd.underlying29 rfl (by kernel_rfl)) rfl ?_
    exact ⟨_, by first | rfl | (simp [errW_none, errW_some] <;> rfl) | (simp [*, errW_none, errW_some] <;> rfl), by (with_reducible repeat (first | apply N_alloc | apply N_drewN | apply N_drew)); exact N_mono (N_far (p := ⟨gb299, 0, none⟩) (N_mono HO303.out (fun k_ hk => (⟨hk, hk.2.2.2.2.1⟩ : _ ∧ k_ ≠ gb299))) (fun _ hk => hk.2) (.slice Ao76 t301.length co76)) (fun _ hk => hk.1.1), by repeat (first | (with_reducible first | exact HB.out | apply Zf | apply Zd | apply Ze | refine Zg ?_ GE297.out | refine Zg ?_ GE298.out | refine Zg ?_ GE299.out | refine Zg ?_ GE300.out) | exact HB.out)⟩
   replace c65 := Bool.eq_false_iff.mpr c65
   subst c65
   have H1 : (if x301000_1.length < 2199023255552 then ((spec_l03Copy.f k1 (x301000_1 ++ [(⟨a1_0, l1_1, l1_2⟩ : S74)])).bind fun t307 => (some t307)) else (none)) = some r := by rw [if_neg (show ¬ (false = true) by decide)] at H; exact H
   clear H
   have H := H1
   clear H1
   by_cases c79 : x301000_1.length < 2199023255552
   ·
    rw [if_pos c79] at H
    have LMc79 := Zh c79
    clear c79
    obtain ⟨y304, hy304⟩ : ∃ y_ : List (S74), y_ = (x301000_1 ++ [(⟨a1_0, l1_1, l1_2⟩ : S74)]) := ⟨_, rfl⟩
    replace H : ((spec_l03Copy.f k1 y304).bind fun t307 => (some t307)) = some r := by first | (rw [hy304]; with_reducible exact H) | (have H2_ := (Option.bind_some _ _).symm.trans H; rw [hy304]; with_reducible exact H2_) | (have H2_ := (Option.bind_some _ _).symm.trans H; with_reducible exact H2_) | with_reducible exact H | (rw [hy304]; exact H) | exact H
    have Ny304 := Zh hy304
    clear hy304
    replace H := Option.bind_eq_some_iff.mp H
    obtain ⟨t307, A800, H⟩ := H
    replace H : (some t307) = some r := H
    have A80 := Zh A800
    clear A800
    obtain rfl := Option.some.inj H
    have hnb81 := NB297_298.out
    have hnc81 := NB298_297.out
    have hnb82 := NB297_299.out
    have hnc82 := NB299_297.out
    have hnb83 := NB297_300.out
    have hnc83 := NB300_297.out
    have hcz84_0 : wr.cell? ⟨gb297, 0, none⟩ = some (.slice A0_0 l0_0.length c0_0) := (blk_cell BK297.out 0).trans rfl
    have hfz84_0 := Zn BK297.out 0
    have hnb85 := NB300_298.out
    have hnc85 := NB298_300.out
    have hnb86 := NB300_299.out
    have hnc86 := NB299_300.out
    have hcz87_0 : wr.cell? ⟨gb300, 0, none⟩ = some (u301000) := (blk_cell BK300.out 0).trans rfl
    have hfz87_0 := Zn BK300.out 0
    have hnb88 := NB298_299.out
    have hnc88 := NB299_298.out
    have hcz89_0 : wr.cell? ⟨gb298, 0, none⟩ = some (.string a1_0) := (blk_cell BK298.out 0).trans rfl
    have hcz89_1 : wr.cell? ⟨gb298, 1, none⟩ = some (.slice A1_1 l1_1.length c1_1) := (blk_cell BK298.out 1).trans rfl
    have hcz89_2 : wr.cell? ⟨gb298, 2, none⟩ = some (.slice A1_2 l1_2.length c1_2) := (blk_cell BK298.out 2).trans rfl
    have hfz89_0 := Zn BK298.out 0
    have hfz89_1 := Zn BK298.out 1
    have hfz89_2 := Zn BK298.out 2
    go_wp2_with (first | ((with_reducible refine gate_builtin (b := .append) (xs := #[.tmp 57, .tmp 59]) rfl ?_); at_builtin; refine N_append k74 (w0 := w) w.heap.size rfl (.tmp 57) (.tmp 59) 27 74 (.agg #[(.string ⟨#[]⟩), (.slice none 0 0), (.slice none 0 0)]) 64 rfl Tryd.underlying27 info74 rfl (by decide) (by omega) u301000 x301000_1 (⟨a1_0, l1_1, l1_2⟩ : S74) [.string a1_0, .slice A1_1 l1_1.length c1_1, .slice A1_2 l1_2.length c1_2] (fun k_ => ((P0_0_ k_ ∨ P1_1_ k_ ∨ P1_2_ k_) ∨ w.heap.size ≤ k_) ∧ k_ ≠ gb297 ∧ k_ ≠ gb298 ∧ k_ ≠ gb299 ∧ k_ ≠ gb300) (fun k_ => ((fun k_ => ((P0_0_ k_ ∨ P1_1_ k_ ∨ P1_2_ k_) ∨ w.heap.size ≤ k_) ∧ k_ ≠ gb297 ∧ k_ ≠ gb298 ∧ k_ ≠ gb299 ∧ k_ ≠ gb300)) k_ ∧ some k_ ≠ (u301000 : Value).ownBlock) rfl rfl ?aP (fun _ hk => hk) ?aF ?aO ?aB ?aS ?aL ?_; (case aP => exact (k74_mkF _ _ (⟨a1_0, l1_1, l1_2⟩ : S74) (V_reads' (V_mono (ok' := (fun k_ => ((fun k_ => ((P0_0_ k_ ∨ P1_1_ k_ ∨ P1_2_ k_) ∨ w.heap.size ≤ k_) ∧ k_ ≠ gb297 ∧ k_ ≠ gb298 ∧ k_ ≠ gb299 ∧ k_ ≠ gb300)) k_ ∧ some k_ ≠ (u301000 : Value).ownBlock)) (HO_299001.out) (fun k_ hk => ⟨⟨hk.1, ⟨hk.2.2.1, ⟨hk.2.2.2.1, ⟨hk.2.2.2.2.1, hk.2.2.2.2.2⟩⟩⟩⟩, hk.2.1⟩))).2.1 (V_F (V_mono (ok' := (fun k_ => ((fun k_ => ((P0_0_ k_ ∨ P1_1_ k_ ∨ P1_2_ k_) ∨ w.heap.size ≤ k_) ∧ k_ ≠ gb297 ∧ k_ ≠ gb298 ∧ k_ ≠ gb299 ∧ k_ ≠ gb300)) k_ ∧ some k_ ≠ (u301000 : Value).ownBlock)) (HO_299001.out) (fun k_ hk => ⟨⟨hk.1, ⟨hk.2.2.1, ⟨hk.2.2.2.1, ⟨hk.2.2.2.2.1, hk.2.2.2.2.2⟩⟩⟩⟩, hk.2.1⟩))) (V_reads' (V_mono (ok' := (fun k_ => ((fun k_ => ((P0_0_ k_ ∨ P1_1_ k_ ∨ P1_2_ k_) ∨ w.heap.size ≤ k_) ∧ k_ ≠ gb297 ∧ k_ ≠ gb298 ∧ k_ ≠ gb299 ∧ k_ ≠ gb300)) k_ ∧ some k_ ≠ (u301000 : Value).ownBlock)) (HO_299002.out) (fun k_ hk => ⟨⟨hk.1, ⟨hk.2.2.1, ⟨hk.2.2.2.1, ⟨hk.2.2.2.2.1, hk.2.2.2.2.2⟩⟩⟩⟩, hk.2.1⟩))).2.1 (V_F (V_mono (ok' := (fun k_ => ((fun k_ => ((P0_0_ k_ ∨ P1_1_ k_ ∨ P1_2_ k_) ∨ w.heap.size ≤ k_) ∧ k_ ≠ gb297 ∧ k_ ≠ gb298 ∧ k_ ≠ gb299 ∧ k_ ≠ gb300)) k_ ∧ some k_ ≠ (u301000 : Value).ownBlock)) (HO_299002.out) (fun k_ hk => ⟨⟨hk.1, ⟨hk.2.2.1, ⟨hk.2.2.2.1, ⟨hk.2.2.2.2.1, hk.2.2.2.2.2⟩⟩⟩⟩, hk.2.1⟩))))); (case aB => exact Zs); (case aF => exact (fun k_ hk => ⟨(.inr (Nat.le_trans (below_size Zs) hk)), Kd.freshB (g := gb297) (o := .cells #[.slice A0_0 l0_0.length c0_0] 29 (0, 0)) Zk k_ hk, Kd.freshB (g := gb298) (o := .cells #[.string a1_0, .slice A1_1 l1_1.length c1_1, .slice A1_2 l1_2.length c1_2] 74 (0, 0)) Zk k_ hk, Kd.freshB (g := gb299) (o := .cells #[.slice none 0 0] 29 (0, 0)) Zk k_ hk, Kd.freshB (g := gb300) (o := .cells #[u301000] 29 (0, 0)) Zk k_ hk⟩)); (case aO => exact (by (with_reducible repeat (first | apply N_alloc | apply N_drewN | apply N_drew)); exact HO_301000.out)); (case aS => exact (below_size Zs)); (case aL => have := LMc79.out; omega); intro v305 w90 ho hb hg hat; rw [← Ny304.out] at ho; have n0_ := Zh (V_afterv (ok := (fun k_ => ((P0_0_ k_ ∨ P1_1_ k_ ∨ P1_2_ k_) ∨ w.heap.size ≤ k_) ∧ k_ ≠ gb297 ∧ k_ ≠ gb298 ∧ k_ ≠ gb299 ∧ k_ ≠ gb300)) (by (with_reducible repeat (first | apply V_alloc | apply V_drewN | apply V_drew)); exact V_mono HO_298000.out (fun _ hk => ⟨⟨hk.1, ⟨hk.2.2.1, ⟨hk.2.2.2.1, ⟨hk.2.2.2.2.1, hk.2.2.2.2.2⟩⟩⟩⟩, hk.2.1⟩)) hg hat); have n1_ := Zh (V_afterv (ok := (fun k_ => ((P0_0_ k_ ∨ P1_1_ k_ ∨ P1_2_ k_) ∨ w.heap.size ≤ k_) ∧ k_ ≠ gb297 ∧ k_ ≠ gb298 ∧ k_ ≠ gb299 ∧ k_ ≠ gb300)) (by (with_reducible repeat (first | apply V_alloc | apply V_drewN | apply V_drew)); exact V_mono HO_299001.out (fun _ hk => ⟨⟨hk.1, ⟨hk.2.2.1, ⟨hk.2.2.2.1, ⟨hk.2.2.2.2.1, hk.2.2.2.2.2⟩⟩⟩⟩, hk.2.1⟩)) hg hat); have n2_ := Zh (V_afterv (ok := (fun k_ => ((P0_0_ k_ ∨ P1_1_ k_ ∨ P1_2_ k_) ∨ w.heap.size ≤ k_) ∧ k_ ≠ gb297 ∧ k_ ≠ gb298 ∧ k_ ≠ gb299 ∧ k_ ≠ gb300)) (by (with_reducible repeat (first | apply V_alloc | apply V_drewN | apply V_drew)); exact V_mono HO_299002.out (fun _ hk => ⟨⟨hk.1, ⟨hk.2.2.1, ⟨hk.2.2.2.1, ⟨hk.2.2.2.2.1, hk.2.2.2.2.2⟩⟩⟩⟩, hk.2.1⟩)) hg hat); have n3_ := Zh (blk_grown (g := gb297) (o := .cells #[.slice A0_0 l0_0.length c0_0] 29 (0, 0)) Zk hg (N_ne HO_301000.out BK297.out (by decide))); have n4_ := Zh (blk_grown (g := gb298) (o := .cells #[.string a1_0, .slice A1_1 l1_1.length c1_1, .slice A1_2 l1_2.length c1_2] 74 (0, 0)) Zk hg (N_away HO_301000.out (fun _ hk => hk.2.2.1))); have n5_ := Zh (blk_grown (g := gb299) (o := .cells #[.slice none 0 0] 29 (0, 0)) Zk hg (N_ne HO_301000.out BK299.out (by decide))); have n6_ := Zh (blk_grown (g := gb300) (o := .cells #[u301000] 29 (0, 0)) Zk hg (N_ne HO_301000.out BK300.out (by decide))); have n7_ := Zh (hb); have n8_ := Zh (ho); clear HO_298000; clear HO_299001; clear HO_299002; clear BK297; clear BK298; clear BK299; clear BK300; clear HB; clear HO_301000; have HO_298000 := n0_; have HO_299001 := n1_; have HO_299002 := n2_; have BK297 := n3_; have BK298 := n4_; have BK299 := n5_; have BK300 := n6_; have HB := n7_; have HO306 := n8_; clear n0_ n1_ n2_ n3_ n4_ n5_ n6_ n7_ n8_; clear ho hb hg hat; obtain ⟨Ao91, co91, eo91⟩ := N_slice HO306.out; subst eo91; have hcz92_0 : w90.cell? ⟨gb300, 0, none⟩ = some (u301000) := (blk_cell BK300.out 0).trans rfl; have hfz92_0 := Zn BK300.out 0) | ((with_reducible refine gate_callee (f := 66) rfl ?_); refine goesL_ (some 63) rfl rfl Tryd.func66 (by kernel_rfl) rfl #[.agg #[.slice Ao91 y304.length co91]] rfl (by (try simp only [List.map_toArray, List.map_cons, List.map_nil]); first | done | rfl | (simp only [List.length_drop, List.length_take]; rfl)) ?_; (with_reducible refine (spec_l03Copy.calls k1 _ _ y304 t307 _ ?side1 ?side2 A80.out).mono ?_); (case side1 => refine (N_reads' (e := 74) (base := w.heap.size) (ok := fun k_ => (((P0_0_ k_ ∨ P1_1_ k_ ∨ P1_2_ k_) ∨ w.heap.size ≤ k_) ∧ (k_ ≠ gb297 ∧ (k_ ≠ gb298 ∧ (k_ ≠ gb299 ∧ k_ ≠ gb300))))) (n := y304.length) (c := co91) ?_).2.2; exact (by (with_reducible repeat (first | apply N_alloc | apply N_drewN | apply N_drew)); exact (N_mono (N_far (p := ⟨gb300, 0, none⟩) (N_mono HO306.out (fun k_ hk => (⟨hk, hk.2.2.2.2⟩ : _ ∧ k_ ≠ gb300))) (fun _ hk => hk.2) (.slice Ao91 y304.length co91)) (fun _ h_ => h_.1)))); (case side2 => exact (N_reads' HO306.out).2.1); rintro e w93 ⟨v308, rfl, ho0, hb⟩; refine ⟨_, rfl, ?_⟩; have n0_ := Zh (V_elder' (by (with_reducible repeat (first | apply V_alloc | apply V_drewN | apply V_drew)); exact (V_mono (V_far (p := ⟨gb300, 0, none⟩) (V_mono HO_298000.out (fun k_ hk => (⟨hk, hk.1.2.2.2.2⟩ : _ ∧ k_ ≠ gb300))) (fun _ hk => hk.2) (.slice Ao91 y304.length co91)) (fun _ h_ => h_.1))) (S_base ho0) hb); have n1_ := Zh (V_elder' (by (with_reducible repeat (first | apply V_alloc | apply V_drewN | apply V_drew)); exact (V_mono (V_far (p := ⟨gb300, 0, none⟩) (V_mono HO_299001.out (fun k_ hk => (⟨hk, hk.1.2.2.2.2⟩ : _ ∧ k_ ≠ gb300))) (fun _ hk => hk.2) (.slice Ao91 y304.length co91)) (fun _ h_ => h_.1))) (S_base ho0) hb); have n2_ := Zh (V_elder' (by (with_reducible repeat (first | apply V_alloc | apply V_drewN | apply V_drew)); exact (V_mono (V_far (p := ⟨gb300, 0, none⟩) (V_mono HO_299002.out (fun k_ hk => (⟨hk, hk.1.2.2.2.2⟩ : _ ∧ k_ ≠ gb300))) (fun _ hk => hk.2) (.slice Ao91 y304.length co91)) (fun _ h_ => h_.1))) (S_base ho0) hb); have n3_ := Zh (N_elder' (by (with_reducible repeat (first | apply N_alloc | apply N_drewN | apply N_drew)); exact (N_mono (N_far (p := ⟨gb300, 0, none⟩) (N_mono HO306.out (fun k_ hk => (⟨hk, hk.2.2.2.2⟩ : _ ∧ k_ ≠ gb300))) (fun _ hk => hk.2) (.slice Ao91 y304.length co91)) (fun _ h_ => h_.1))) (S_base ho0) hb); have n4_ := Zh (N_lower (N_mono (ok' := fun k_ => ((P0_0_ k_ ∨ P1_1_ k_ ∨ P1_2_ k_) ∨ w.heap.size ≤ k_) ∧ some k_ ≠ (.slice Ao91 y304.length co91 : Value).ownBlock ∧ k_ ≠ gb297 ∧ k_ ≠ gb298 ∧ k_ ≠ gb299 ∧ k_ ≠ gb300) (S_N (S_bound ho0)) (fun k_ hk_ => ⟨(.inr (Nat.le_trans (below_size Zs) hk_.2.1)), (Kd.fresh' (N_lt (by (with_reducible repeat (first | apply N_alloc | apply N_drewN | apply N_drew)); exact (N_mono (N_far (p := ⟨gb300, 0, none⟩) (N_mono HO306.out (fun k_ hk => (⟨hk, hk.2.2.2.2⟩ : _ ∧ k_ ≠ gb300))) (fun _ hk => hk.2) (.slice Ao91 y304.length co91)) (fun _ h_ => h_.1)))) k_ hk_.2.1), (Kd.freshB (g := gb297) (o := .cells #[.slice A0_0 l0_0.length c0_0] 29 (0, 0)) (by (with_reducible repeat (first | refine Za ?_ _ | refine Zb ?_ | refine blk_alloc ?_ _)); refine Zp ?_ NB297_300.out _; (with_reducible repeat (first | refine Za ?_ _ | refine Zb ?_ | refine blk_alloc ?_ _)); exact BK297.out) k_ hk_.2.1), (Kd.freshB (g := gb298) (o := .cells #[.string a1_0, .slice A1_1 l1_1.length c1_1, .slice A1_2 l1_2.length c1_2] 74 (0, 0)) (by (with_reducible repeat (first | refine Za ?_ _ | refine Zb ?_ | refine blk_alloc ?_ _)); refine Zp ?_ NB298_300.out _; (with_reducible repeat (first | refine Za ?_ _ | refine Zb ?_ | refine blk_alloc ?_ _)); exact BK298.out) k_ hk_.2.1), (Kd.freshB (g := gb299) (o := .cells #[.slice none 0 0] 29 (0, 0)) (by (with_reducible repeat (first | refine Za ?_ _ | refine Zb ?_ | refine blk_alloc ?_ _)); refine Zp ?_ NB299_300.out _; (with_reducible repeat (first | refine Za ?_ _ | refine Zb ?_ | refine blk_alloc ?_ _)); exact BK299.out) k_ hk_.2.1), (Kd.freshB (g := gb300) (o := .cells #[.slice Ao91 y304.length co91] 29 (0, 0)) (by (with_reducible repeat (first | refine Za ?_ _ | refine Zb ?_ | refine blk_alloc ?_ _)); refine blk_put (cs := #[u301000]) ?_ 0 _ rfl; (with_reducible repeat (first | refine Za ?_ _ | refine Zb ?_ | refine blk_alloc ?_ _)); exact BK300.out) k_ hk_.2.1)⟩)) (below_size Zs)); have n5_ := Zh (Zm (g := gb297) (o := .cells #[.slice A0_0 l0_0.length c0_0] 29 (0, 0)) (by (with_reducible repeat (first | refine Za ?_ _ | refine Zb ?_ | refine blk_alloc ?_ _)); refine Zp ?_ NB297_300.out _; (with_reducible repeat (first | refine Za ?_ _ | refine Zb ?_ | refine blk_alloc ?_ _)); exact BK297.out) hb); have n6_ := Zh (Zm (g := gb298) (o := .cells #[.string a1_0, .slice A1_1 l1_1.length c1_1, .slice A1_2 l1_2.length c1_2] 74 (0, 0)) (by (with_reducible repeat (first | refine Za ?_ _ | refine Zb ?_ | refine blk_alloc ?_ _)); refine Zp ?_ NB298_300.out _; (with_reducible repeat (first | refine Za ?_ _ | refine Zb ?_ | refine blk_alloc ?_ _)); exact BK298.out) hb); have n7_ := Zh (Zm (g := gb299) (o := .cells #[.slice none 0 0] 29 (0, 0)) (by (with_reducible repeat (first | refine Za ?_ _ | refine Zb ?_ | refine blk_alloc ?_ _)); refine Zp ?_ NB299_300.out _; (with_reducible repeat (first | refine Za ?_ _ | refine Zb ?_ | refine blk_alloc ?_ _)); exact BK299.out) hb); have n8_ := Zh (Zm (g := gb300) (o := .cells #[.slice Ao91 y304.length co91] 29 (0, 0)) (by (with_reducible repeat (first | refine Za ?_ _ | refine Zb ?_ | refine blk_alloc ?_ _)); refine blk_put (cs := #[u301000]) ?_ 0 _ rfl; (with_reducible repeat (first | refine Za ?_ _ | refine Zb ?_ | refine blk_alloc ?_ _)); exact BK300.out) hb); have n9_ := Zh (Zl Zs hb); clear HO_298000; clear HO_299001; clear HO_299002; clear HO306; clear BK297; clear BK298; clear BK299; clear BK300; clear HB; have HO_298000 := n0_; have HO_299001 := n1_; have HO_299002 := n2_; have HO306 := n3_; have HO309 := n4_; have BK297 := n5_; have BK298 := n6_; have BK299 := n7_; have BK300 := n8_; have HB := n9_; clear n0_ n1_ n2_ n3_ n4_ n5_ n6_ n7_ n8_ n9_; (try clear hb); (try clear hb2); (try clear hk); (try clear hi); (try clear ho0); obtain ⟨Ao94, co94, eo94⟩ := N_slice HO309.out; subst eo94; have hcz95_0 : w93.cell? ⟨gb299, 0, none⟩ = some (.slice none 0 0) := (blk_cell BK299.out 0).trans rfl; have hfz95_0 := Zn BK299.out 0))
    refine bodyPost_ret (results_cell_row rfl _ _ gb299 29 #[.slice Ao94 t307.length co94] (0, 0) _ rfl (by (with_reducible repeat (first | refine Za ?_ _ | refine Zb ?_ | refine blk_alloc ?_ _)); refine blk_put (cs := #[.slice none 0 0]) ?_ 0 _ rfl; (with_reducible repeat (first | refine Za ?_ _ | refine Zb ?_ | refine blk_alloc ?_ _)); exact BK299.out) Tryd.underlying29 rfl (by kernel_rfl)) rfl ?_
    exact ⟨_, by first | rfl | (simp [errW_none, errW_some] <;> rfl) | (simp [*, errW_none, errW_some] <;> rfl), by (with_reducible repeat (first | apply N_alloc | apply N_drewN | apply N_drew)); exact N_mono (N_far (p := ⟨gb299, 0, none⟩) (N_mono HO309.out (fun k_ hk => (⟨hk, hk.2.2.2.2.1⟩ : _ ∧ k_ ≠ gb299))) (fun _ hk => hk.2) (.slice Ao94 t307.length co94)) (fun _ hk => hk.1.1), by repeat (first | (with_reducible first | exact HB.out | apply Zf | apply Zd | apply Ze | refine Zg ?_ GE297.out | refine Zg ?_ GE298.out | refine Zg ?_ GE299.out | refine Zg ?_ GE300.out) | exact HB.out)⟩
   rw [if_neg c79] at H
   exact absurd H (by simp)
end Go.Proofs.YtmgeffgcihfpcaaDoor.F
